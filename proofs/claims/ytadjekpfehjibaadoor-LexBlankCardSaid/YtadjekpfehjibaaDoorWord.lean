/-
lex.word, strings.ContainsRune at the marks. No conditions but the size that every row has.
-/
import Derived.Test.YtadjekpfehjibaaDoorPre
namespace Go.Proofs.YtadjekpfehjibaaDoor
open Go.RowKit

theorem wordN_none (l : List UInt8) (h : spanN (onByte wordB) l = 0) : wordN l = 0 := by
  unfold wordN
  rw [if_pos (.inl h)]
theorem wordN_digit (l : List UInt8) (h : onByte digitB (l.headD 0) = true) : wordN l = 0 := by
  unfold wordN
  rw [if_pos (.inr (.inl h))]
theorem wordN_long (l : List UInt8) (h : 30 < spanN (onByte wordB) l) : wordN l = 0 := by
  unfold wordN
  rw [if_pos (.inr (.inr h))]
theorem wordN_yes (l : List UInt8) (n : Nat) (hn : spanN (onByte wordB) l = n) (h0 : n ≠ 0) (h : onByte digitB (l.headD 0) = false) (h1 : ¬ 30 < n) : wordN l = n := by
  unfold wordN
  rw [hn, if_neg (by rintro (h' | h' | h') <;> simp_all)]
theorem head_data (s : ByteArray) (h : 0 < s.size) : s.data.toList.headD 0 = s[0]'h := by
  have := getElem_list s 0 h
  cases hl : s.data.toList with
  | nil => rw [hl] at this; simp at this
  | cons c l => rw [hl] at this; simpa using this

set_option maxHeartbeats 800000 in
theorem word_any (s : ByteArray) (w : World) (hs : s.size ≤ 9223372036854775807) :
    Calls Tryd.prog 21 #[.string s] w fun e w' => e = .returned (.int .i64 (wordN s.data.toList)) ∧ Below w.heap.size w w' := by
  have hl : s.data.toList.length = s.size := by simp
  obtain ⟨n, hn⟩ : ∃ n, spanN (onByte wordB) s.data.toList = n := ⟨_, rfl⟩
  have hle : n ≤ s.size := by have := spanN_le (onByte wordB) s.data.toList; omega
  have Hn := Lib.hid hn
  by_cases h0 : n = 0
  · subst h0
    have HW := Lib.hid (wordN_none _ hn)
    clear hn hl
    go_enter Tryd.func21, Tryd.ntmps21
    go_wp2_with fail
    refine (while_word s _).mono ?_
    rintro e w1 ⟨rfl, hb1⟩
    rw [Hn.out]
    go_wp2_with fail
    go_ret
    exact ⟨ret_int (by rw [HW.out]; rfl), hb1⟩
  · have hpos : 0 < n := by omega
    have hp : 0 < s.size := by omega
    have h0b : ((n : Int) == 0) = false := by rw [beq_eq_false_iff_ne]; omega
    have hd := head_data s hp
    have hbb : ((s[0]'hp).toNat : Int) ≤ 255 := by have := (s[0]'hp).toNat_lt; omega
    cases hdig : digitB ((s[0]'hp).toNat : Int) with
    | true =>
      have HW := Lib.hid (wordN_digit s.data.toList (by rw [hd]; exact hdig))
      have HD := Lib.hid hdig
      clear hn hl hd hdig h0
      go_enter Tryd.func21, Tryd.ntmps21
      go_wp2_with fail
      refine (while_word s _).mono ?_
      rintro e w1 ⟨rfl, hb1⟩
      rw [Hn.out]
      go_wp2_with fail
      refine (digit_any _ _).mono ?_
      rintro e w' ⟨rfl, rfl⟩
      rw [HD.out]
      go_wp2_with fail
      go_ret
      exact ⟨ret_int (by rw [HW.out]; rfl), hb1⟩
    | false =>
      have HD := Lib.hid hdig
      by_cases h30 : 30 < n
      · have HW := Lib.hid (wordN_long s.data.toList (by rw [hn]; exact h30))
        clear hn hl hd hdig h0
        go_enter Tryd.func21, Tryd.ntmps21
        go_wp2_with fail
        refine (while_word s _).mono ?_
        rintro e w1 ⟨rfl, hb1⟩
        rw [Hn.out]
        go_wp2_with fail
        refine (digit_any _ _).mono ?_
        rintro e w' ⟨rfl, rfl⟩
        rw [HD.out]
        go_wp2_with fail
        go_ret
        exact ⟨ret_int (by rw [HW.out]; rfl), hb1⟩
      · have HW := Lib.hid (wordN_yes s.data.toList n hn h0 (by rw [hd]; exact hdig) h30)
        clear hn hl hd hdig h0
        go_enter Tryd.func21, Tryd.ntmps21
        go_wp2_with fail
        refine (while_word s _).mono ?_
        rintro e w1 ⟨rfl, hb1⟩
        rw [Hn.out]
        go_wp2_with fail
        refine (digit_any _ _).mono ?_
        rintro e w' ⟨rfl, rfl⟩
        rw [HD.out]
        go_wp2_with fail
        go_ret
        exact ⟨ret_int (by rw [HW.out]), hb1⟩

end Go.Proofs.YtadjekpfehjibaaDoor
