/-
The reference's word, mark and token: what each call hands back. Condition: the place lies in the text (or at its end).
-/
import Derived.Test.YtadjekpfehjibaaDoorToken
namespace Go.Proofs.YtadjekpfehjibaaDoor
open Go.RowKit

/-- From k on, p bytes have been found to be of a word. -/
def WordTo (s : ByteArray) (k p : Nat) : Prop :=
  k ≤ p ∧ p ≤ s.size ∧ (∀ (i : Nat) (c : UInt8), k ≤ i → i < p → s.data.toList[i]? = some c → onByte wordB c = true) ∧ (k < p → ∀ c : UInt8, s.data.toList[k]? = some c → onByte letterB c = true)

theorem wordTo_start (s : ByteArray) (k : Nat) (hk : k ≤ s.size) : WordTo s k k :=
  ⟨Nat.le_refl _, hk, fun i c h1 h2 => by omega, fun h => by omega⟩
theorem wordTo_letter {s : ByteArray} {k p : Nat} (h : WordTo s k p) (hlt : p < s.size) (hc : letterB ((s[p]'hlt).toNat : Int) = true) : WordTo s k (p + 1) := by
  obtain ⟨h1, h2, h3, h4⟩ := h
  refine ⟨by omega, by omega, fun i c hi1 hi2 hc' => ?_, fun _ c hc' => ?_⟩
  · by_cases he : i < p
    · exact h3 i c hi1 he hc'
    · obtain rfl : i = p := by omega
      rw [getElem_list s i hlt] at hc'
      injection hc' with hc'
      subst hc'
      simp [onByte, wordB, hc]
  · by_cases he : k < p
    · exact h4 he c hc'
    · obtain rfl : k = p := by omega
      rw [getElem_list s k hlt] at hc'
      injection hc' with hc'
      subst hc'
      exact hc
theorem wordTo_digit {s : ByteArray} {k p : Nat} (h : WordTo s k p) (hkp : k < p) (hlt : p < s.size) (hc : digitB ((s[p]'hlt).toNat : Int) = true) : WordTo s k (p + 1) := by
  obtain ⟨h1, h2, h3, h4⟩ := h
  refine ⟨by omega, by omega, fun i c hi1 hi2 hc' => ?_, fun _ c hc' => h4 hkp c hc'⟩
  by_cases he : i < p
  · exact h3 i c hi1 he hc'
  · obtain rfl : i = p := by omega
    rw [getElem_list s i hlt] at hc'
    injection hc' with hc'
    subst hc'
    simp [onByte, wordB, hc]
theorem headD_drop (l : List UInt8) (k : Nat) (c : UInt8) (h : l[k]? = some c) : (l.drop k).headD 0 = c := by
  rw [List.headD_eq_head?_getD, List.head?_drop, h]
  rfl
theorem letter_not_digit (c : UInt8) (h : onByte letterB c = true) : onByte digitB c = false := by
  revert h
  simp only [onByte, letterB, digitB]
  intro h
  simp at h ⊢
  omega
/-- Where it ends, the reference's word has as many bytes as the code's. -/
theorem wordTo_end {s : ByteArray} {k p : Nat} (h : WordTo s k p)
    (hstop : p < s.size → ∀ hlt : p < s.size, letterB ((s[p]'hlt).toNat : Int) = false ∧ (k < p → digitB ((s[p]'hlt).toNat : Int) = false)) :
    (if 30 < p - k then k else p) = k + wordN (s.data.toList.drop k) := by
  obtain ⟨h1, h2, h3, h4⟩ := h
  by_cases hkp : k < p
  · have hks : k < s.size := by omega
    have hsp : spanN (onByte wordB) (s.data.toList.drop k) = p - k := by
      have hall : ∀ (i : Nat) (c : UInt8), i < p - k → (s.data.toList.drop k)[i]? = some c → onByte wordB c = true := by
        intro i c hi hc
        rw [List.getElem?_drop] at hc
        exact h3 (k + i) c (by omega) (by omega) hc
      by_cases hlt : p < s.size
      · have hs := hstop hlt hlt
        refine spanN_at _ _ _ hall (s[p]'hlt) ?_ ?_
        · rw [List.getElem?_drop, show k + (p - k) = p by omega]
          exact getElem_list s p hlt
        · simp [onByte, wordB, hs.1, hs.2 hkp]
      · rw [spanN_all]
        · rw [List.length_drop]; simp; omega
        · intro i c hc
          refine hall i c ?_ hc
          have := (List.getElem?_eq_some_iff.1 hc).1
          rw [List.length_drop] at this
          simp at this
          omega
    have hl := h4 hkp (s[k]'hks) (getElem_list s k hks)
    have hd : onByte digitB ((s.data.toList.drop k).headD 0) = false := by
      rw [headD_drop _ _ _ (getElem_list s k hks)]
      exact letter_not_digit _ hl
    by_cases h30 : 30 < p - k
    · rw [if_pos h30, wordN_long _ (by rw [hsp]; exact h30)]
      omega
    · rw [if_neg h30, wordN_yes _ (p - k) hsp (by omega) hd h30]
      omega
  · obtain rfl : k = p := by omega
    rw [if_neg (by omega)]
    by_cases hlt : k < s.size
    · have hs := hstop hlt hlt
      cases hdg : digitB ((s[k]'hlt).toNat : Int) with
      | true => rw [wordN_digit _ (by rw [headD_drop _ _ _ (getElem_list s k hlt)]; exact hdg)]; rfl
      | false =>
        rw [wordN_none]
        · rfl
        · refine spanN_at _ _ 0 (fun i c hi => by omega) (s[k]'hlt) ?_ ?_
          · rw [List.getElem?_drop]; exact getElem_list s k hlt
          · simp [onByte, wordB, hs.1, hdg]
    · rw [List.drop_of_length_le (by simp; omega)]
      rfl

set_option maxHeartbeats 800000 in
theorem refWord_any (s : ByteArray) (k : Nat) (w : World) (hk : k ≤ s.size) (hs : s.size ≤ 4611686018427387904) :
    Calls Tryd.prog 25 #[.string s, .int .i64 (k : Int)] w fun e w' => e = .returned (.int .i64 ((k + wordN (s.data.toList.drop k) : Nat) : Int)) ∧ w = w' := by
  go_enter Tryd.func25, Tryd.ntmps25
  go_wp2_with fail
  go_loop [5] (fun t => ∃ p : Nat, WordTo s k p ∧ t = .int .i64 p) (fun t => s.size - (intOf t).toNat)
  case atStart => exact ⟨k, wordTo_start s k hk, rfl⟩
  case round =>
    obtain ⟨p, hw, rfl⟩ := hrel
    have hkp := hw.1
    have hps := hw.2.1
    have HW := Lib.hid hw
    clear hw
    by_cases hlt : p < s.size
    · cases hl : letterB ((s[p]'hlt).toNat : Int) with
      | true =>
        have HL := Lib.hid hl
        clear hl
        go_wp2_with (go_at_call 24; refine (refLetter_any _ _).mono ?_; rintro e w' ⟨rfl, rfl⟩; rw [HL.out])
        go_round
        case rel => exact ⟨p + 1, wordTo_letter HW.out hlt HL.out, by go_num⟩
        case measure => simp [intOf]; omega
      | false =>
        have HL := Lib.hid hl
        clear hl
        by_cases hk2 : k < p
        · cases hd : digitB ((s[p]'hlt).toNat : Int) with
          | true =>
            have HD := Lib.hid hd
            clear hd
            go_wp2_with (first | (go_at_call 24; refine (refLetter_any _ _).mono ?_; rintro e w' ⟨rfl, rfl⟩; rw [HL.out]) | (go_at_call 26; refine (refDigit_any _ _).mono ?_; rintro e w' ⟨rfl, rfl⟩; rw [HD.out]))
            go_round
            case rel => exact ⟨p + 1, wordTo_digit HW.out hk2 hlt HD.out, by go_num⟩
            case measure => simp [intOf]; omega
          | false =>
            have HD := Lib.hid hd
            clear hd
            have HE := Lib.hid (wordTo_end HW.out (fun _ _ => ⟨HL.out, fun _ => HD.out⟩))
            by_cases h30 : 30 < p - k
            all_goals
              go_wp2_with (first | (go_at_call 24; refine (refLetter_any _ _).mono ?_; rintro e w' ⟨rfl, rfl⟩; rw [HL.out]) | (go_at_call 26; refine (refDigit_any _ _).mono ?_; rintro e w' ⟨rfl, rfl⟩; rw [HD.out]))
              go_ret
              exact ⟨ret_int (by have := HE.out; simp only [h30, if_true, if_false] at this; omega), rfl⟩
        · have HE := Lib.hid (wordTo_end HW.out (fun _ _ => ⟨HL.out, fun h => absurd h hk2⟩))
          go_wp2_with (go_at_call 24; refine (refLetter_any _ _).mono ?_; rintro e w' ⟨rfl, rfl⟩; rw [HL.out])
          go_ret
          exact ⟨ret_int (by have := HE.out; rw [if_neg (by omega)] at this; omega), rfl⟩
    · have HE := Lib.hid (wordTo_end HW.out (fun h => absurd h hlt))
      by_cases h30 : 30 < p - k
      all_goals
        go_wp2_with fail
        go_ret
        exact ⟨ret_int (by have := HE.out; simp only [h30, if_true, if_false] at this; omega), rfl⟩
end Go.Proofs.YtadjekpfehjibaaDoor
