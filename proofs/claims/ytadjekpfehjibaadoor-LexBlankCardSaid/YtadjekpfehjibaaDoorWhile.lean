/-
lex.while at the four predicates that lex hands it: how many bytes of a text's beginning are so. No conditions but the size that every row has.
-/
import Derived.Test.YtadjekpfehjibaaDoorLeaf
import Derived.Lib.Hide
namespace Go.Proofs.YtadjekpfehjibaaDoor
open Go.RowKit

/-- The bytes of a rune of many bytes are all above ASCII. -/
theorem decode_span (s : ByteArray) (pos : Nat) (h : pos < s.size) (ha : 128 ≤ (s[pos]'h).toNat) :
    ∀ i, i < (Utf8.decode s pos).2 → ∃ hi : pos + i < s.size, 128 ≤ (s[pos + i]'hi).toNat := by
  have key : ∀ i, (decide (pos + i < s.size) && ((s.get! (pos + i)).toNat / 64 == 2)) = true → ∃ hi : pos + i < s.size, 128 ≤ (s[pos + i]'hi).toNat := by
    intro i hc
    simp only [Bool.and_eq_true, decide_eq_true_eq, beq_iff_eq] at hc
    obtain ⟨hi, hc⟩ := hc
    have e : s.get! (pos + i) = s[pos + i]'hi := by
      simp [ByteArray.get!, getElem!_pos, hi]
      rfl
    rw [e] at hc
    exact ⟨hi, by omega⟩
  have h0 : ∃ hi : pos + 0 < s.size, 128 ≤ (s[pos + 0]'hi).toNat := ⟨h, ha⟩
  have hn : ¬ (s[pos]'h).toNat < 128 := by omega
  simp only [Utf8.decode, get_at s pos h, hn, if_false]
  intro i hi
  rcases Nat.eq_zero_or_pos i with rfl | hpos
  · exact h0
  repeat' split at hi
  all_goals simp only at hi
  all_goals first
    | omega
    | (rename_i hcond _
       simp only [Bool.and_eq_true] at hcond
       match i, hi, hpos with
       | 1, _, _ => exact key 1 (by simp [hcond])
       | 2, hi, _ => first | omega | exact key 2 (by simp [hcond])
       | 3, hi, _ => first | omega | exact key 3 (by simp [hcond])
       | i + 4, hi, _ => omega)

theorem getElem_list (s : ByteArray) (i : Nat) (h : i < s.size) : s.data.toList[i]? = some (s[i]'h) := by
  rw [List.getElem?_eq_getElem (by simpa using h)]
  rfl

/-- THE STEP OF THE LOOP, on the text alone: a rune that is so is passed by. -/
theorem span_step (p : Int → Bool) (b : Bool) (hhigh : ∀ r : Int, 128 ≤ r → p r = b) (s : ByteArray) (k : Nat) (hlt : k < s.size)
    (hall : ∀ (i : Nat) (c : UInt8), i < k → s.data.toList[i]? = some c → onByte p c = true) (hp : p ((Utf8.decode s k).1 : Int) = true) :
    k + (Utf8.decode s k).2 ≤ s.size ∧ 1 ≤ (Utf8.decode s k).2 ∧ ∀ (i : Nat) (c : UInt8), i < k + (Utf8.decode s k).2 → s.data.toList[i]? = some c → onByte p c = true := by
  by_cases ha : (s[k]'hlt).toNat < 128
  · rw [decode_ascii s k hlt ha] at hp ⊢
    refine ⟨by dsimp only; omega, Nat.le_refl _, fun i c hi hc => ?_⟩
    dsimp only at hi
    by_cases he : i < k
    · exact hall i c he hc
    · obtain rfl : i = k := by omega
      rw [getElem_list s i hlt] at hc
      injection hc with hc
      subst hc
      exact hp
  · have hd := decode_high s k hlt (by omega)
    have hsp := decode_span s k hlt (by omega)
    have hb : b = true := (hhigh ((Utf8.decode s k).1 : Int) (by omega)).symm.trans hp
    subst hb
    refine ⟨?_, hd.2, fun i c hi hc => ?_⟩
    · obtain ⟨h1, _⟩ := hsp ((Utf8.decode s k).2 - 1) (by omega)
      omega
    · by_cases he : i < k
      · exact hall i c he hc
      · obtain ⟨hi2, h128⟩ := hsp (i - k) (by omega)
        have e : k + (i - k) = i := by omega
        rw [← e, getElem_list s _ hi2] at hc
        injection hc with hc
        subst hc
        exact hhigh _ (by omega)
/-- A rune that is not so ends it. -/
theorem span_stop (p : Int → Bool) (b : Bool) (hhigh : ∀ r : Int, 128 ≤ r → p r = b) (s : ByteArray) (k : Nat) (hlt : k < s.size)
    (hall : ∀ (i : Nat) (c : UInt8), i < k → s.data.toList[i]? = some c → onByte p c = true) (hp : p ((Utf8.decode s k).1 : Int) = false) :
    spanN (onByte p) s.data.toList = k := by
  refine spanN_at _ _ _ hall (s[k]'hlt) (getElem_list s k hlt) ?_
  by_cases ha : (s[k]'hlt).toNat < 128
  · rw [decode_ascii s k hlt ha] at hp
    exact hp
  · have hd := decode_high s k hlt (by omega)
    have h1 := hhigh (((s[k]'hlt).toNat : Nat) : Int) (by omega)
    have h2 := hhigh ((Utf8.decode s k).1 : Int) (by omega)
    exact h1.trans (h2.symm.trans hp)
theorem ret_int {a b : Int} (h : a = b) : Ending.returned (.int .i64 a) = .returned (.int .i64 b) := by rw [h]
theorem high_digit (r : Int) (h : 128 ≤ r) : digitB r = false := by simp [digitB]; omega
theorem high_blank (r : Int) (h : 128 ≤ r) : blankB r = false := by simp [blankB]; omega
theorem high_notLf (r : Int) (h : 128 ≤ r) : notLfB r = true := by simp [notLfB]; omega
theorem high_word (r : Int) (h : 128 ≤ r) : wordB r = false := by simp [wordB, letterB, digitB]; omega

set_option maxHeartbeats 400000 in
theorem while_digit (s : ByteArray) (w : World) :
    Calls Tryd.prog 16 #[.string s, .func (.func 22) #[] #[]] w fun e w' => e = .returned (.int .i64 (spanN (onByte digitB) s.data.toList)) ∧ Below w.heap.size w w' := by
  go_enter Tryd.func16, Tryd.ntmps16
  go_wp2
  go_loopw [5, 6] (fun _ _ wr => ∃ k : Nat, k ≤ s.size ∧ (∀ (i : Nat) (c : UInt8), i < k → s.data.toList[i]? = some c → onByte digitB c = true) ∧ wr = w.iter s k) (fun _ _ wr => s.size - wr.iterPos w.heap.size)
  case atStart => exact ⟨0, Nat.zero_le _, fun i c h => absurd h (Nat.not_lt_zero _), rfl⟩
  case round =>
    obtain ⟨k, hk, hall, rfl⟩ := hrel
    by_cases hlt : k < s.size
    · have hnx := run_next_any (P := Tryd.prog) w s k
      have hstep := span_step digitB false high_digit s k hlt hall
      have hstop := span_stop digitB false high_digit s k hlt hall
      generalize hpr : digitB ((Utf8.decode s k).1 : Int) = pr at hstep hstop
      have HP := Lib.hid hpr
      clear hpr
      cases pr with
      | true =>
        have HS := Lib.hid (hstep rfl)
        clear hstep hstop hall
        have HT : Hid (digitB ((Utf8.decode s k).1 : Int) = true) := HP
        go_wp2_with (go_at_call 22; refine (digit_any _ _).mono ?_; rintro e w' ⟨rfl, rfl⟩; rw [HT.out])
        obtain ⟨h1, h2, h3⟩ := HS.out
        exact ⟨⟨_, h1, h3, rfl⟩, by simp only [World.iterPos_iter]; omega⟩
      | false =>
        have HS := Lib.hid (hstop rfl)
        clear hstep hstop hall
        go_wp2_with (go_at_call 22; refine (digit_any _ _).mono ?_; rintro e w' ⟨rfl, rfl⟩; rw [HP.out])
        go_ret
        exact ⟨ret_int (by rw [HS.out]), (Below.refl _ _).alloc (Nat.le_refl _) _⟩
    · have hnx := run_next_end (P := Tryd.prog) w s k
      have HS := Lib.hid (spanN_all (onByte digitB) s.data.toList (fun i c hc => hall i c (by
        have := (List.getElem?_eq_some_iff.1 hc).1
        simp at this
        omega) hc))
      clear hall
      go_wp2
      go_ret
      exact ⟨ret_int (by rw [HS.out]; simp), (Below.refl _ _).alloc (Nat.le_refl _) _⟩

set_option maxHeartbeats 400000 in
theorem while_blank1 (s : ByteArray) (w : World) :
    Calls Tryd.prog 16 #[.string s, .func (.func 17) #[] #[]] w fun e w' => e = .returned (.int .i64 (spanN (onByte blankB) s.data.toList)) ∧ Below w.heap.size w w' := by
  go_enter Tryd.func16, Tryd.ntmps16
  go_wp2
  go_loopw [5, 6] (fun _ _ wr => ∃ k : Nat, k ≤ s.size ∧ (∀ (i : Nat) (c : UInt8), i < k → s.data.toList[i]? = some c → onByte blankB c = true) ∧ wr = w.iter s k) (fun _ _ wr => s.size - wr.iterPos w.heap.size)
  case atStart => exact ⟨0, Nat.zero_le _, fun i c h => absurd h (Nat.not_lt_zero _), rfl⟩
  case round =>
    obtain ⟨k, hk, hall, rfl⟩ := hrel
    by_cases hlt : k < s.size
    · have hnx := run_next_any (P := Tryd.prog) w s k
      have hstep := span_step blankB false high_blank s k hlt hall
      have hstop := span_stop blankB false high_blank s k hlt hall
      generalize hpr : blankB ((Utf8.decode s k).1 : Int) = pr at hstep hstop
      have HP := Lib.hid hpr
      clear hpr
      cases pr with
      | true =>
        have HS := Lib.hid (hstep rfl)
        clear hstep hstop hall
        have HT : Hid (blankB ((Utf8.decode s k).1 : Int) = true) := HP
        go_wp2_with (go_at_call 17; refine (blank1_any _ _).mono ?_; rintro e w' ⟨rfl, rfl⟩; rw [HT.out])
        obtain ⟨h1, h2, h3⟩ := HS.out
        exact ⟨⟨_, h1, h3, rfl⟩, by simp only [World.iterPos_iter]; omega⟩
      | false =>
        have HS := Lib.hid (hstop rfl)
        clear hstep hstop hall
        go_wp2_with (go_at_call 17; refine (blank1_any _ _).mono ?_; rintro e w' ⟨rfl, rfl⟩; rw [HP.out])
        go_ret
        exact ⟨ret_int (by rw [HS.out]), (Below.refl _ _).alloc (Nat.le_refl _) _⟩
    · have hnx := run_next_end (P := Tryd.prog) w s k
      have HS := Lib.hid (spanN_all (onByte blankB) s.data.toList (fun i c hc => hall i c (by
        have := (List.getElem?_eq_some_iff.1 hc).1
        simp at this
        omega) hc))
      clear hall
      go_wp2
      go_ret
      exact ⟨ret_int (by rw [HS.out]; simp), (Below.refl _ _).alloc (Nat.le_refl _) _⟩

set_option maxHeartbeats 400000 in
theorem while_blank2 (s : ByteArray) (w : World) :
    Calls Tryd.prog 16 #[.string s, .func (.func 19) #[] #[]] w fun e w' => e = .returned (.int .i64 (spanN (onByte notLfB) s.data.toList)) ∧ Below w.heap.size w w' := by
  go_enter Tryd.func16, Tryd.ntmps16
  go_wp2
  go_loopw [5, 6] (fun _ _ wr => ∃ k : Nat, k ≤ s.size ∧ (∀ (i : Nat) (c : UInt8), i < k → s.data.toList[i]? = some c → onByte notLfB c = true) ∧ wr = w.iter s k) (fun _ _ wr => s.size - wr.iterPos w.heap.size)
  case atStart => exact ⟨0, Nat.zero_le _, fun i c h => absurd h (Nat.not_lt_zero _), rfl⟩
  case round =>
    obtain ⟨k, hk, hall, rfl⟩ := hrel
    by_cases hlt : k < s.size
    · have hnx := run_next_any (P := Tryd.prog) w s k
      have hstep := span_step notLfB true high_notLf s k hlt hall
      have hstop := span_stop notLfB true high_notLf s k hlt hall
      generalize hpr : notLfB ((Utf8.decode s k).1 : Int) = pr at hstep hstop
      have HP := Lib.hid hpr
      clear hpr
      cases pr with
      | true =>
        have HS := Lib.hid (hstep rfl)
        clear hstep hstop hall
        have HT : Hid (notLfB ((Utf8.decode s k).1 : Int) = true) := HP
        go_wp2_with (go_at_call 19; refine (blank2_any _ _).mono ?_; rintro e w' ⟨rfl, rfl⟩; rw [HT.out])
        obtain ⟨h1, h2, h3⟩ := HS.out
        exact ⟨⟨_, h1, h3, rfl⟩, by simp only [World.iterPos_iter]; omega⟩
      | false =>
        have HS := Lib.hid (hstop rfl)
        clear hstep hstop hall
        go_wp2_with (go_at_call 19; refine (blank2_any _ _).mono ?_; rintro e w' ⟨rfl, rfl⟩; rw [HP.out])
        go_ret
        exact ⟨ret_int (by rw [HS.out]), (Below.refl _ _).alloc (Nat.le_refl _) _⟩
    · have hnx := run_next_end (P := Tryd.prog) w s k
      have HS := Lib.hid (spanN_all (onByte notLfB) s.data.toList (fun i c hc => hall i c (by
        have := (List.getElem?_eq_some_iff.1 hc).1
        simp at this
        omega) hc))
      clear hall
      go_wp2
      go_ret
      exact ⟨ret_int (by rw [HS.out]; simp), (Below.refl _ _).alloc (Nat.le_refl _) _⟩

set_option maxHeartbeats 400000 in
theorem while_word (s : ByteArray) (w : World) :
    Calls Tryd.prog 16 #[.string s, .func (.func 33) #[] #[]] w fun e w' => e = .returned (.int .i64 (spanN (onByte wordB) s.data.toList)) ∧ Below w.heap.size w w' := by
  go_enter Tryd.func16, Tryd.ntmps16
  go_wp2
  go_loopw [5, 6] (fun _ _ wr => ∃ k : Nat, k ≤ s.size ∧ (∀ (i : Nat) (c : UInt8), i < k → s.data.toList[i]? = some c → onByte wordB c = true) ∧ wr = w.iter s k) (fun _ _ wr => s.size - wr.iterPos w.heap.size)
  case atStart => exact ⟨0, Nat.zero_le _, fun i c h => absurd h (Nat.not_lt_zero _), rfl⟩
  case round =>
    obtain ⟨k, hk, hall, rfl⟩ := hrel
    by_cases hlt : k < s.size
    · have hnx := run_next_any (P := Tryd.prog) w s k
      have hstep := span_step wordB false high_word s k hlt hall
      have hstop := span_stop wordB false high_word s k hlt hall
      generalize hpr : wordB ((Utf8.decode s k).1 : Int) = pr at hstep hstop
      have HP := Lib.hid hpr
      clear hpr
      cases pr with
      | true =>
        have HS := Lib.hid (hstep rfl)
        clear hstep hstop hall
        have HT : Hid (wordB ((Utf8.decode s k).1 : Int) = true) := HP
        go_wp2_with (go_at_call 33; refine (word1_any _ _).mono ?_; rintro e w' ⟨rfl, rfl⟩; rw [HT.out])
        obtain ⟨h1, h2, h3⟩ := HS.out
        exact ⟨⟨_, h1, h3, rfl⟩, by simp only [World.iterPos_iter]; omega⟩
      | false =>
        have HS := Lib.hid (hstop rfl)
        clear hstep hstop hall
        go_wp2_with (go_at_call 33; refine (word1_any _ _).mono ?_; rintro e w' ⟨rfl, rfl⟩; rw [HP.out])
        go_ret
        exact ⟨ret_int (by rw [HS.out]), (Below.refl _ _).alloc (Nat.le_refl _) _⟩
    · have hnx := run_next_end (P := Tryd.prog) w s k
      have HS := Lib.hid (spanN_all (onByte wordB) s.data.toList (fun i c hc => hall i c (by
        have := (List.getElem?_eq_some_iff.1 hc).1
        simp at this
        omega) hc))
      clear hall
      go_wp2
      go_ret
      exact ⟨ret_int (by rw [HS.out]; simp), (Below.refl _ _).alloc (Nat.le_refl _) _⟩
end Go.Proofs.YtadjekpfehjibaaDoor
