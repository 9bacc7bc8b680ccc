/-
strings.ContainsRune at the marks. No conditions.
-/
import Derived.Test.YtadjekpfehjibaaDoorWord
import Derived.Deep.QuietTactic
import Derived.BigQuiet
namespace Go.Proofs.YtadjekpfehjibaaDoor
open Go.RowKit

theorem indexByteString_run (s : ByteArray) (c : Int) (W : World) : (callFunc 43 #[.string s, .int .u8 c]).run Tryd.prog W = .ok (.value (.int .i64 (firstIdx s c.toNat.toUInt8))) W := by
  rw [@run_callFunc_extern Tryd.prog 43 _ Extern.BytealgIndexByte.indexByte Tryd.func43 (by kernel_rfl) (by kernel_rfl) (by kernel_rfl) (by kernel_rfl), run_indexByte_string]
  rfl

set_option maxHeartbeats 400000 in
theorem indexByte_any (s : ByteArray) (c : Int) (w : World) :
    Calls Tryd.prog 38 #[.string s, .int .u8 c] w fun e w' => e = .returned (.int .i64 (firstIdx s c.toNat.toUInt8)) ∧ w = w' := by
  have hx := indexByteString_run
  go_enter Tryd.func38, Tryd.ntmps38
  go_wp2
  go_ret
  exact ⟨rfl, rfl⟩
set_option maxHeartbeats 400000 in
theorem validRune_low (r : Int) (w : World) (h0 : 0 ≤ r) (h1 : r < 256) :
    Calls Tryd.prog 39 #[.int .i32 r] w fun e w' => e = .returned (.bool true) ∧ w = w' := by
  have h2 : r < 55296 := by omega
  go_enter Tryd.func39, Tryd.ntmps39
  go_wp2
  go_ret
  exact ⟨rfl, rfl⟩
theorem encode_two (r : Int) (h0 : 128 ≤ r) (h1 : r < 256) : ∃ d c : UInt8, Utf8.encode r = ⟨#[d, c]⟩ ∧ 128 ≤ c.toNat := by
  refine ⟨UInt8.ofNat (0xC0 + r.toNat / 64), UInt8.ofNat (0x80 + r.toNat % 64), ?_, ?_⟩
  · have hv : Utf8.valid r = true := by simp [Utf8.valid]; omega
    unfold Utf8.encode
    simp only [hv, if_true]
    rw [if_neg (by omega), if_pos (by omega)]
  · simp; omega

theorem marks_ascii (a e : Nat) (c : UInt8) (hc : 128 ≤ c.toNat) : firstIdx ((⟨#[40, 41, 123, 125, 91, 93, 44, 59, 58, 46, 38, 42, 61, 43, 45, 47, 60]⟩ : ByteArray).extract a e) c = -1 :=
  firstIdx_ascii _ _ _ _ (by decide) hc
theorem indexByte_none (a e : Nat) (c : UInt8) (hc : 128 ≤ c.toNat) (w : World) :
    Calls Tryd.prog 38 #[.string ((⟨#[40, 41, 123, 125, 91, 93, 44, 59, 58, 46, 38, 42, 61, 43, 45, 47, 60]⟩ : ByteArray).extract a e), .int .u8 (c.toNat : Int)] w fun e w' => e = .returned (.int .i64 (-1)) ∧ w' = w :=
  (indexByte_any _ _ w).mono fun _ _ ⟨he, hw⟩ => ⟨by rw [he, show ((c.toNat : Int)).toNat.toUInt8 = c by simp, marks_ascii a e c hc], hw.symm⟩

set_option maxRecDepth 100000 in
set_option maxHeartbeats 800000 in
theorem indexRune_low (r : Int) (w : World) (h0 : 0 ≤ r) (h1 : r < 128) :
    Calls Tryd.prog 34 #[.string ⟨#[40, 41, 123, 125, 91, 93, 44, 59, 58, 46, 38, 42, 61, 43, 45, 47, 60]⟩, .int .i32 r] w fun e w' => e = .returned (.int .i64 (firstIdx ⟨#[40, 41, 123, 125, 91, 93, 44, 59, 58, 46, 38, 42, 61, 43, 45, 47, 60]⟩ r.toNat.toUInt8)) ∧ w = w' := by
  go_enter Tryd.func34, Tryd.ntmps34
  go_wp2_with (go_at_call 38; refine (indexByte_any _ _ _).mono ?_; rintro e w' ⟨rfl, rfl⟩)
  go_ret
  exact ⟨rfl, rfl⟩
set_option maxRecDepth 100000 in
set_option maxHeartbeats 800000 in
theorem indexRune_high (r : Int) (w : World) (h0 : 128 ≤ r) (h1 : r < 256) :
    Calls Tryd.prog 34 #[.string ⟨#[40, 41, 123, 125, 91, 93, 44, 59, 58, 46, 38, 42, 61, 43, 45, 47, 60]⟩, .int .i32 r] w fun e w' => e = .returned (.int .i64 (-1)) ∧ ∃ n, w' = w.drewN n := by
  obtain ⟨d, c, hdc, hc⟩ := encode_two r h0 h1
  have hne : (r == 65533) = false := by rw [beq_eq_false_iff_ne]; omega
  have hnc : ((41 : Int) == (c.toNat : Int)) = false := by rw [beq_eq_false_iff_ne]; omega
  have hnc2 : ((41 : Int) != (c.toNat : Int)) = true := by rw [bne_iff_ne]; omega
  have g1 : ∀ h, ((⟨#[40, 41, 123, 125, 91, 93, 44, 59, 58, 46, 38, 42, 61, 43, 45, 47, 60]⟩ : ByteArray)[1]'h) = 41 := fun _ => rfl
  have g2 : ∀ h, ((⟨#[d, c]⟩ : ByteArray)[1]'h) = c := fun _ => rfl
  go_enter Tryd.func34, Tryd.ntmps34
  go_wp2_with (go_at_call 39; refine (validRune_low _ _ (by omega) h1).mono ?_; rintro e w' ⟨rfl, rfl⟩)
  go_step3
  go_wp2
  refine wp_loop_rounds 1 ?_
  rw [rounds_succ]
  go_wp2
  go_step3
  go_wp2
  go_quiet (fail)
  go_wp2
  obtain ⟨wq, hwq⟩ : ∃ wq, w.drewN nq = wq := ⟨_, rfl⟩
  rw [hwq]
  have HQ := Lib.hid hwq
  clear hwq
  go_quiet ((go_at_call 38; exact Calls.quiet_of_same (indexByte_none _ _ _ hc _)))
  go_wp2
  rw [Exit.noGoto_ret]
  simp only [Exit.inBlock, Exit.then]
  rw [Exit.noGoto_ret]
  go_ret
  exact ⟨rfl, _, by rw [← HQ.out, World.drewN_drewN]⟩

theorem marks_low : ∀ b ∈ (⟨#[40, 41, 123, 125, 91, 93, 44, 59, 58, 46, 38, 42, 61, 43, 45, 47, 60]⟩ : ByteArray).data.toList, b.toNat < 128 := by decide
theorem firstIdx_marks (c : UInt8) : decide (0 ≤ firstIdx ⟨#[40, 41, 123, 125, 91, 93, 44, 59, 58, 46, 38, 42, 61, 43, 45, 47, 60]⟩ c) = marks.contains c := by
  rw [firstIdx_nonneg]
  show marks.any (· == c) = marks.contains c
  generalize marks = l
  rw [Bool.eq_iff_iff]
  simp
set_option maxHeartbeats 800000 in
theorem containsRune_any (c : UInt8) (r : Int) (hr : r = (c.toNat : Int)) (w : World) :
    Calls Tryd.prog 23 #[.string ⟨#[40, 41, 123, 125, 91, 93, 44, 59, 58, 46, 38, 42, 61, 43, 45, 47, 60]⟩, .int .i32 r] w fun e w' => e = .returned (.bool (marks.contains c)) ∧ ∃ n, w' = w.drewN n := by
  have hc := c.toNat_lt
  have HC := Lib.hid (firstIdx_marks c)
  have e1 : r.toNat.toUInt8 = c := by rw [hr]; simp
  by_cases h : r < 128
  · have h0 : 0 ≤ r := by omega
    have E1 := Lib.hid e1
    clear e1 hr
    go_enter Tryd.func23, Tryd.ntmps23
    go_wp2_with fail
    refine (indexRune_low r w h0 h).mono ?_
    rintro e w' ⟨rfl, rfl⟩
    rw [E1.out]
    go_wp2_with fail
    go_ret
    exact ⟨congrArg (fun b => Ending.returned (.bool b)) HC.out, 0, rfl⟩
  · have h0 : 128 ≤ r := by omega
    have h1 : r < 256 := by omega
    have hm : marks.contains c = false := by
      rw [← firstIdx_marks, firstIdx_none _ _ (fun b hb he => by
        subst he
        have := marks_low b hb
        omega)]
      rfl
    have HM := Lib.hid hm
    clear e1 hr hm
    go_enter Tryd.func23, Tryd.ntmps23
    go_wp2_with fail
    refine (indexRune_high r w h0 h1).mono ?_
    rintro e w' ⟨rfl, n, rfl⟩
    go_wp2_with fail
    go_ret
    exact ⟨by rw [HM.out]; rfl, n, rfl⟩
end Go.Proofs.YtadjekpfehjibaaDoor
