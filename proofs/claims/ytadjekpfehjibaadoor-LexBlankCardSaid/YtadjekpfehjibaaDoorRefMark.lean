/-
The reference's mark: how many bytes the mark has that stands at a place. Condition: the place lies in the text.
-/
import Derived.Test.YtadjekpfehjibaaDoorRefWord
namespace Go.Proofs.YtadjekpfehjibaaDoor
open Go.RowKit

def markN (l : List UInt8) : Nat :=
  if [45, 62].isPrefixOf l = true ∨ [61, 61].isPrefixOf l = true then 2
  else if marks.contains (l.headD 0) = true then 1
  else 0
theorem markN_two (l : List UInt8) (h : [45, 62].isPrefixOf l = true ∨ [61, 61].isPrefixOf l = true) : markN l = 2 := by
  unfold markN; rw [if_pos h]
theorem markN_rest (l : List UInt8) (h : [45, 62].isPrefixOf l = false) (h' : [61, 61].isPrefixOf l = false) : markN l = if marks.contains (l.headD 0) = true then 1 else 0 := by
  unfold markN; rw [if_neg (by rw [h, h']; simp)]
theorem take2_prefix (s : ByteArray) (k : Nat) (a b : UInt8) (h : k + 1 < s.size) : ((s.extract k (k + 2)).toList == [a, b]) = [a, b].isPrefixOf (s.data.toList.drop k) := by
  rw [Lib.extract_toList, show k + 2 - k = 2 by omega, prefix2_long]
  rw [List.length_drop]; simp; omega
theorem take2_no (s : ByteArray) (k : Nat) (a b : UInt8) (h : ¬ k + 1 < s.size) : [a, b].isPrefixOf (s.data.toList.drop k) = false := by
  refine prefix2_short _ _ _ ?_
  rw [List.length_drop]; simp; omega
theorem drewN_zero (w : World) : w.drewN 0 = w := rfl

def MarkRel (c : UInt8) (w : World) (t : Value) (wr : World) : Prop :=
  ∃ j n : Nat, j ≤ 17 ∧ t = .int .i64 j ∧ (∀ i, i < j → marks[i]? ≠ some c) ∧ wr = w.drewN n
theorem marks_in (c : UInt8) (j : Nat) (h : marks[j]? = some c) : marks.contains c = true := by
  have := List.mem_of_getElem? h
  rw [List.contains_iff_mem]
  exact this
theorem marks_out (c : UInt8) (h : ∀ i, i < 17 → marks[i]? ≠ some c) : marks.contains c = false := by
  rw [Bool.eq_false_iff]
  intro hc
  rw [List.contains_iff_mem] at hc
  obtain ⟨i, hi⟩ := List.getElem?_of_mem hc
  have hl := (List.getElem?_eq_some_iff.1 hi).1
  have : marks.length = 17 := rfl
  exact h i (by omega) hi
theorem marks_at (j : Nat) : ∀ h, some ((⟨#[40, 41, 123, 125, 91, 93, 44, 59, 58, 46, 38, 42, 61, 43, 45, 47, 60]⟩ : ByteArray)[j]'h) = marks[j]? := by
  intro h
  rw [← getElem_list]
  rfl

set_option maxHeartbeats 800000 in
theorem refMark_loop (s : ByteArray) (k : Nat) (w : World) (hlt : k < s.size) (hs : s.size ≤ 4611686018427387904)
    (h4 : [45, 62].isPrefixOf (s.data.toList.drop k) = false) (h5 : [61, 61].isPrefixOf (s.data.toList.drop k) = false) :
    Calls Tryd.prog 27 #[.string s, .int .i64 (k : Int)] w fun e w' => e = .returned (.int .i64 ((markN (s.data.toList.drop k) : Nat) : Int)) ∧ ∃ n, w' = w.drewN n := by
  obtain ⟨c, hc⟩ : ∃ c, s[k]'hlt = c := ⟨_, rfl⟩
  have HM := Lib.hid (markN_rest _ h4 h5)
  have HC : Hid ((s.data.toList.drop k).headD 0 = c) := by
    have : (s.data.toList.drop k).headD 0 = c := by rw [headD_drop _ _ _ (getElem_list s k hlt), hc]
    exact this
  have t4 : k + 1 < s.size → ((s.extract k (k + 2)).toList == [45, 62]) = false := fun h => by rw [take2_prefix s k _ _ h]; exact h4
  have t5 : k + 1 < s.size → ((s.extract k (k + 2)).toList == [61, 61]) = false := fun h => by rw [take2_prefix s k _ _ h]; exact h5
  clear h4 h5
  by_cases h2 : k + 1 < s.size
  all_goals
    first
      | (have t4' := t4 h2; have t5' := t5 h2; clear t4 t5)
      | clear t4 t5
    go_enter Tryd.func27, Tryd.ntmps27
    go_wp2_with fail
    go_loopw [6] (fun t wr => MarkRel c w t wr) (fun t _ => 17 - (intOf t).toNat)
    case atStart => exact ⟨0, 0, by omega, rfl, fun i hi => by omega, rfl⟩
    case round =>
      obtain ⟨j, n, hj, rfl, hall, rfl⟩ := hrel
      by_cases hj2 : j < 17
      · obtain ⟨m, hm⟩ : ∃ m, marks[j]? = some m := ⟨_, List.getElem?_eq_getElem (show j < marks.length from hj2)⟩
        have hmj : ∀ h, ((⟨#[40, 41, 123, 125, 91, 93, 44, 59, 58, 46, 38, 42, 61, 43, 45, 47, 60]⟩ : ByteArray)[j]'h) = m := fun h => Option.some.inj ((marks_at j h).trans hm)
        have HA := Lib.hid hall
        have HMJ := Lib.hid hm
        clear hall hm
        by_cases hcm : m = c
        · have hb : ((m.toNat : Int) == (c.toNat : Int)) = true := by rw [hcm]; simp
          have HR := Lib.hid (marks_in c j (by rw [HMJ.out, hcm]))
          clear hcm
          go_wp2
          go_quiet (fail)
          go_wp2
          go_ret
          exact ⟨ret_int (by rw [HM.out, HC.out, HR.out]; rfl), _, by rw [World.drewN_drewN]⟩
        · have hb : ((m.toNat : Int) == (c.toNat : Int)) = false := by
            rw [beq_eq_false_iff_ne]
            intro he
            exact hcm (UInt8.toNat_inj.1 (by omega))
          have HCM := Lib.hid hcm
          clear hcm
          go_wp2
          go_quiet (fail)
          go_wp2
          exact ⟨⟨j + 1, _, by omega, by go_num, fun i hi => by
            by_cases he : i < j
            · exact HA.out i he
            · obtain rfl : i = j := by omega
              rw [HMJ.out]
              intro h
              exact HCM.out (Option.some.inj h), rfl⟩, by simp [intOf]; omega⟩
      · have HR := Lib.hid (marks_out c (fun i hi => hall i (by omega)))
        clear hall
        go_wp2
        go_ret
        exact ⟨ret_int (by rw [HM.out, HC.out, HR.out]; rfl), _, rfl⟩

set_option maxHeartbeats 800000 in
theorem refMark_two (s : ByteArray) (k : Nat) (w : World) (hs : s.size ≤ 4611686018427387904)
    (h : [45, 62].isPrefixOf (s.data.toList.drop k) = true ∨ [61, 61].isPrefixOf (s.data.toList.drop k) = true) :
    Calls Tryd.prog 27 #[.string s, .int .i64 (k : Int)] w fun e w' => e = .returned (.int .i64 ((markN (s.data.toList.drop k) : Nat) : Int)) ∧ ∃ n, w' = w.drewN n := by
  have HM := Lib.hid (markN_two _ h)
  have h2 : k + 1 < s.size := by
    by_cases h2 : k + 1 < s.size
    · exact h2
    · rw [take2_no s k _ _ h2, take2_no s k _ _ h2] at h
      simp at h
  rw [← take2_prefix s k _ _ h2, ← take2_prefix s k _ _ h2] at h
  cases h4 : ((s.extract k (k + 2)).toList == [45, 62]) with
  | true =>
    clear h
    go_enter Tryd.func27, Tryd.ntmps27
    go_wp2_with fail
    go_ret
    exact ⟨ret_int (by rw [HM.out]; rfl), 0, rfl⟩
  | false =>
    have h5 := h.resolve_left (by rw [h4]; simp)
    clear h
    go_enter Tryd.func27, Tryd.ntmps27
    go_wp2_with fail
    go_ret
    exact ⟨ret_int (by rw [HM.out]; rfl), 0, rfl⟩
theorem refMark_any (s : ByteArray) (k : Nat) (w : World) (hlt : k < s.size) (hs : s.size ≤ 4611686018427387904) :
    Calls Tryd.prog 27 #[.string s, .int .i64 (k : Int)] w fun e w' => e = .returned (.int .i64 ((markN (s.data.toList.drop k) : Nat) : Int)) ∧ ∃ n, w' = w.drewN n := by
  cases h4 : [45, 62].isPrefixOf (s.data.toList.drop k) with
  | true => exact refMark_two s k w hs (.inl h4)
  | false =>
    cases h5 : [61, 61].isPrefixOf (s.data.toList.drop k) with
    | true => exact refMark_two s k w hs (.inr h5)
    | false => exact refMark_loop s k w hlt hs h4 h5
end Go.Proofs.YtadjekpfehjibaaDoor
