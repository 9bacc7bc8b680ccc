/-
lex.token: what begins a text. Condition: the text is not empty.
-/
import Derived.Test.YtadjekpfehjibaaDoorMarks
namespace Go.Proofs.YtadjekpfehjibaaDoor
open Go.RowKit

theorem tokenN_letter (l : List UInt8) (h : onByte letterB (l.headD 0) = true) : tokenN l = (1, wordN l) := by
  unfold tokenN; rw [if_pos h]
theorem tokenN_digit (l : List UInt8) (h1 : onByte letterB (l.headD 0) = false) (h : onByte digitB (l.headD 0) = true) : tokenN l = (2, numN l) := by
  unfold tokenN; rw [if_neg (by rw [h1]; exact Bool.false_ne_true), if_pos h]
theorem tokenN_life (l : List UInt8) (h1 : onByte letterB (l.headD 0) = false) (h2 : onByte digitB (l.headD 0) = false) (h : l.headD 0 = 39) : tokenN l = (3, if 0 < wordN (l.drop 1) then wordN (l.drop 1) + 1 else 0) := by
  unfold tokenN; rw [if_neg (by rw [h1]; exact Bool.false_ne_true), if_neg (by rw [h2]; exact Bool.false_ne_true), if_pos h]
theorem tokenN_two (l : List UInt8) (h1 : onByte letterB (l.headD 0) = false) (h2 : onByte digitB (l.headD 0) = false) (h3 : ¬ l.headD 0 = 39) (h : [45, 62].isPrefixOf l = true ∨ [61, 61].isPrefixOf l = true) : tokenN l = (4, 2) := by
  unfold tokenN; rw [if_neg (by rw [h1]; exact Bool.false_ne_true), if_neg (by rw [h2]; exact Bool.false_ne_true), if_neg h3, if_pos h]
theorem tokenN_one (l : List UInt8) (h1 : onByte letterB (l.headD 0) = false) (h2 : onByte digitB (l.headD 0) = false) (h3 : ¬ l.headD 0 = 39) (h4 : [45, 62].isPrefixOf l = false) (h5 : [61, 61].isPrefixOf l = false) (h : marks.contains (l.headD 0) = true) : tokenN l = (4, 1) := by
  unfold tokenN; rw [if_neg (by rw [h1]; exact Bool.false_ne_true), if_neg (by rw [h2]; exact Bool.false_ne_true), if_neg h3, if_neg (by rw [h4, h5]; simp), if_pos h]
theorem tokenN_none (l : List UInt8) (h1 : onByte letterB (l.headD 0) = false) (h2 : onByte digitB (l.headD 0) = false) (h3 : ¬ l.headD 0 = 39) (h4 : [45, 62].isPrefixOf l = false) (h5 : [61, 61].isPrefixOf l = false) (h : marks.contains (l.headD 0) = false) : tokenN l = (0, 0) := by
  unfold tokenN; rw [if_neg (by rw [h1]; exact Bool.false_ne_true), if_neg (by rw [h2]; exact Bool.false_ne_true), if_neg h3, if_neg (by rw [h4, h5]; simp), if_neg (by rw [h]; exact Bool.false_ne_true)]
theorem ret_two {a b c d : Int} (h : a = c) (h' : b = d) : Ending.returned (.tuple #[.int .i64 a, .int .i64 b]) = .returned (.tuple #[.int .i64 c, .int .i64 d]) := by rw [h, h']


set_option maxHeartbeats 800000 in
theorem token_letter (s : ByteArray) (w : World) (hp : 0 < s.size) (hs : s.size ≤ 9223372036854775807) (h1 : letterB ((s[0]'hp).toNat : Int) = true) :
    Calls Tryd.prog 13 #[.string s] w fun e w' => e = .returned (.tuple #[.int .i64 ((tokenN s.data.toList).1 : Int), .int .i64 ((tokenN s.data.toList).2 : Int)]) ∧ Below w.heap.size w w' := by
  have HT := Lib.hid (tokenN_letter s.data.toList (by rw [head_data s hp]; exact h1))
  have hbb : ((s[0]'hp).toNat : Int) ≤ 255 := by have := (s[0]'hp).toNat_lt; omega
  have H1 := Lib.hid h1
  clear h1
  go_enter Tryd.func13, Tryd.ntmps13
  go_wp2_with fail
  refine (letter_any _ _).mono ?_
  rintro e w' ⟨rfl, rfl⟩
  rw [H1.out]
  go_wp2_with fail
  refine (word_any s _ hs).mono ?_
  rintro e w1 ⟨rfl, hb1⟩
  go_wp2_with fail
  go_ret2
  exact ⟨ret_two (by rw [HT.out]; rfl) (by rw [HT.out]), hb1⟩

set_option maxHeartbeats 800000 in
theorem token_digit (s : ByteArray) (w : World) (hp : 0 < s.size) (h1 : letterB ((s[0]'hp).toNat : Int) = false) (h2 : digitB ((s[0]'hp).toNat : Int) = true) :
    Calls Tryd.prog 13 #[.string s] w fun e w' => e = .returned (.tuple #[.int .i64 ((tokenN s.data.toList).1 : Int), .int .i64 ((tokenN s.data.toList).2 : Int)]) ∧ Below w.heap.size w w' := by
  have HT := Lib.hid (tokenN_digit s.data.toList (by rw [head_data s hp]; exact h1) (by rw [head_data s hp]; exact h2))
  have hbb : ((s[0]'hp).toNat : Int) ≤ 255 := by have := (s[0]'hp).toNat_lt; omega
  have hl : s.data.toList.length = s.size := by simp
  obtain ⟨n, hn⟩ : ∃ n, spanN (onByte digitB) s.data.toList = n := ⟨_, rfl⟩
  have hle : n ≤ s.size := by have := spanN_le (onByte digitB) s.data.toList; omega
  have Hn := Lib.hid hn
  have HN : Hid (numN s.data.toList = if 18 < n then 0 else n) := by
    have : numN s.data.toList = if 18 < n then 0 else n := by unfold numN; rw [hn]
    exact this
  have H1 := Lib.hid h1
  have H2 := Lib.hid h2
  clear h1 h2 hl hn
  by_cases h18 : 18 < n
  all_goals
    go_enter Tryd.func13, Tryd.ntmps13
    go_wp2_with fail
    refine (letter_any _ _).mono ?_
    rintro e w' ⟨rfl, rfl⟩
    rw [H1.out]
    go_wp2_with fail
    refine (digit_any _ _).mono ?_
    rintro e w' ⟨rfl, rfl⟩
    rw [H2.out]
    go_wp2_with fail
    refine (while_digit s _).mono ?_
    rintro e w1 ⟨rfl, hb1⟩
    rw [Hn.out]
    go_wp2_with fail
    go_ret2
    refine ⟨ret_two (by rw [HT.out]; rfl) ?_, hb1⟩
    rw [HT.out]
    have := HN.out
    simp only [this, h18, if_true, if_false]
    first | done | rfl

set_option maxHeartbeats 800000 in
theorem token_life (s : ByteArray) (w : World) (hp : 0 < s.size) (hs : s.size ≤ 9223372036854775807) (h1 : letterB ((s[0]'hp).toNat : Int) = false) (h2 : digitB ((s[0]'hp).toNat : Int) = false) (h3 : s[0]'hp = 39) :
    Calls Tryd.prog 13 #[.string s] w fun e w' => e = .returned (.tuple #[.int .i64 ((tokenN s.data.toList).1 : Int), .int .i64 ((tokenN s.data.toList).2 : Int)]) ∧ Below w.heap.size w w' := by
  have HT := Lib.hid (tokenN_life s.data.toList (by rw [head_data s hp]; exact h1) (by rw [head_data s hp]; exact h2) (by rw [head_data s hp]; exact h3))
  have hsz : (s.extract 1 s.size).size ≤ 9223372036854775807 := by simp [ByteArray.size_extract]; omega
  have hl : s.data.toList.length = s.size := by simp
  obtain ⟨n, hn⟩ : ∃ n, wordN (s.data.toList.drop 1) = n := ⟨_, rfl⟩
  have hle : n + 1 ≤ s.size := by have := wordN_le (s.data.toList.drop 1); rw [List.length_drop] at this; omega
  have Hn := Lib.hid hn
  have hz : ((s[0]'hp).toNat : Int) = 39 := by rw [h3]; rfl
  rw [hz] at h1 h2
  have H1 := Lib.hid h1
  have H2 := Lib.hid h2
  clear h1 h2 hl hn h3
  by_cases h0 : 0 < n
  all_goals
    go_enter Tryd.func13, Tryd.ntmps13
    go_wp2_with fail
    refine (letter_any _ _).mono ?_
    rintro e w' ⟨rfl, rfl⟩
    rw [H1.out]
    go_wp2_with fail
    refine (digit_any _ _).mono ?_
    rintro e w' ⟨rfl, rfl⟩
    rw [H2.out]
    go_wp2_with fail
    refine (word_any _ _ hsz).mono ?_
    rintro e w1 ⟨rfl, hb1⟩
    rw [drop_data, Hn.out]
    go_wp2_with fail
    go_ret2
    refine ⟨ret_two (by rw [HT.out]; rfl) ?_, hb1⟩
    rw [HT.out, Hn.out]
    simp only [h0, if_true, if_false]
    omega

theorem below_same {w : World} (n : Nat) : Below w.heap.size w (w.drewN n) := by
  have h := Below.refl w.heap.size w
  exact ⟨h.os, h.tape, h.output, h.size, h.block⟩

set_option maxHeartbeats 800000 in
theorem token_two (s : ByteArray) (w : World) (hp : 0 < s.size) (hs : s.size ≤ 9223372036854775807) (h1 : letterB ((s[0]'hp).toNat : Int) = false) (h2 : digitB ((s[0]'hp).toNat : Int) = false) (h3 : ¬ s[0]'hp = 39) (h4 : [45, 62].isPrefixOf s.data.toList = true ∨ [61, 61].isPrefixOf s.data.toList = true) :
    Calls Tryd.prog 13 #[.string s] w fun e w' => e = .returned (.tuple #[.int .i64 ((tokenN s.data.toList).1 : Int), .int .i64 ((tokenN s.data.toList).2 : Int)]) ∧ Below w.heap.size w w' := by
  have HT := Lib.hid (tokenN_two s.data.toList (by rw [head_data s hp]; exact h1) (by rw [head_data s hp]; exact h2) (by rw [head_data s hp]; exact h3) h4)
  have hbb : ((s[0]'hp).toNat : Int) ≤ 255 := by have := (s[0]'hp).toNat_lt; omega
  have hz : (((s[0]'hp).toNat : Int) == 39) = false := by
    rw [beq_eq_false_iff_ne]
    intro he
    exact h3 (UInt8.toNat_inj.1 (by have : (s[0]'hp).toNat = 39 := by omega
                                    exact this))
  have H1 := Lib.hid h1
  have H2 := Lib.hid h2
  cases h5 : [45, 62].isPrefixOf s.data.toList with
  | true =>
    have H5 := Lib.hid h5
    clear h1 h2 h3 h4 h5
    go_enter Tryd.func13, Tryd.ntmps13
    go_wp2_with fail
    refine (letter_any _ _).mono ?_
    rintro e w' ⟨rfl, rfl⟩
    rw [H1.out]
    go_wp2_with fail
    refine (digit_any _ _).mono ?_
    rintro e w' ⟨rfl, rfl⟩
    rw [H2.out]
    go_wp2_with fail
    refine (hasPrefix_any s _ _ _ hs).mono ?_
    rintro e w' ⟨rfl, rfl⟩
    rw [H5.out]
    go_wp2_with fail
    go_ret2
    exact ⟨ret_two (by rw [HT.out]; rfl) (by rw [HT.out]; rfl), Below.refl _ _⟩
  | false =>
    have H5 := Lib.hid h5
    have H6 := Lib.hid (h4.resolve_left (by rw [h5]; simp))
    clear h1 h2 h3 h4 h5
    go_enter Tryd.func13, Tryd.ntmps13
    go_wp2_with fail
    refine (letter_any _ _).mono ?_
    rintro e w' ⟨rfl, rfl⟩
    rw [H1.out]
    go_wp2_with fail
    refine (digit_any _ _).mono ?_
    rintro e w' ⟨rfl, rfl⟩
    rw [H2.out]
    go_wp2_with fail
    refine (hasPrefix_any s _ _ _ hs).mono ?_
    rintro e w' ⟨rfl, rfl⟩
    rw [H5.out]
    go_wp2_with fail
    refine (hasPrefix_any s _ _ _ hs).mono ?_
    rintro e w' ⟨rfl, rfl⟩
    rw [H6.out]
    go_wp2_with fail
    go_ret2
    exact ⟨ret_two (by rw [HT.out]; rfl) (by rw [HT.out]; rfl), Below.refl _ _⟩

set_option maxHeartbeats 800000 in
theorem token_rest (s : ByteArray) (w : World) (hp : 0 < s.size) (hs : s.size ≤ 9223372036854775807) (h1 : letterB ((s[0]'hp).toNat : Int) = false) (h2 : digitB ((s[0]'hp).toNat : Int) = false) (h3 : ¬ s[0]'hp = 39) (h4 : [45, 62].isPrefixOf s.data.toList = false) (h5 : [61, 61].isPrefixOf s.data.toList = false) :
    Calls Tryd.prog 13 #[.string s] w fun e w' => e = .returned (.tuple #[.int .i64 ((tokenN s.data.toList).1 : Int), .int .i64 ((tokenN s.data.toList).2 : Int)]) ∧ Below w.heap.size w w' := by
  have hbb : ((s[0]'hp).toNat : Int) ≤ 255 := by have := (s[0]'hp).toNat_lt; omega
  have hz : (((s[0]'hp).toNat : Int) == 39) = false := by
    rw [beq_eq_false_iff_ne]
    intro he
    exact h3 (UInt8.toNat_inj.1 (by have : (s[0]'hp).toNat = 39 := by omega
                                    exact this))
  have H1 := Lib.hid h1
  have H2 := Lib.hid h2
  have H4 := Lib.hid h4
  have H5 := Lib.hid h5
  have hC := fun w => containsRune_any (s[0]'hp) ((s[0]'hp).toNat : Int) rfl w
  cases h6 : marks.contains (s[0]'hp) with
  | true =>
    have HT := Lib.hid (tokenN_one s.data.toList (by rw [head_data s hp]; exact h1) (by rw [head_data s hp]; exact h2) (by rw [head_data s hp]; exact h3) h4 h5 (by rw [head_data s hp]; exact h6))
    rw [h6] at hC
    have HC := Lib.hid hC
    clear h1 h2 h3 h4 h5 h6 hC
    go_enter Tryd.func13, Tryd.ntmps13
    go_wp2_with fail
    refine (letter_any _ _).mono ?_
    rintro e w' ⟨rfl, rfl⟩
    rw [H1.out]
    go_wp2_with fail
    refine (digit_any _ _).mono ?_
    rintro e w' ⟨rfl, rfl⟩
    rw [H2.out]
    go_wp2_with fail
    refine (hasPrefix_any s _ _ _ hs).mono ?_
    rintro e w' ⟨rfl, rfl⟩
    rw [H4.out]
    go_wp2_with fail
    refine (hasPrefix_any s _ _ _ hs).mono ?_
    rintro e w' ⟨rfl, rfl⟩
    rw [H5.out]
    go_wp2_with fail
    refine (HC.out _).mono ?_
    rintro e w' ⟨rfl, n, rfl⟩
    go_wp2_with fail
    go_ret2
    exact ⟨ret_two (by rw [HT.out]; rfl) (by rw [HT.out]; rfl), below_same n⟩
  | false =>
    have HT := Lib.hid (tokenN_none s.data.toList (by rw [head_data s hp]; exact h1) (by rw [head_data s hp]; exact h2) (by rw [head_data s hp]; exact h3) h4 h5 (by rw [head_data s hp]; exact h6))
    rw [h6] at hC
    have HC := Lib.hid hC
    clear h1 h2 h3 h4 h5 h6 hC
    go_enter Tryd.func13, Tryd.ntmps13
    go_wp2_with fail
    refine (letter_any _ _).mono ?_
    rintro e w' ⟨rfl, rfl⟩
    rw [H1.out]
    go_wp2_with fail
    refine (digit_any _ _).mono ?_
    rintro e w' ⟨rfl, rfl⟩
    rw [H2.out]
    go_wp2_with fail
    refine (hasPrefix_any s _ _ _ hs).mono ?_
    rintro e w' ⟨rfl, rfl⟩
    rw [H4.out]
    go_wp2_with fail
    refine (hasPrefix_any s _ _ _ hs).mono ?_
    rintro e w' ⟨rfl, rfl⟩
    rw [H5.out]
    go_wp2_with fail
    refine (HC.out _).mono ?_
    rintro e w' ⟨rfl, n, rfl⟩
    go_wp2_with fail
    go_ret2
    exact ⟨ret_two (by rw [HT.out]; rfl) (by rw [HT.out]; rfl), below_same n⟩

theorem token_any (s : ByteArray) (w : World) (hp : 0 < s.size) (hs : s.size ≤ 9223372036854775807) :
    Calls Tryd.prog 13 #[.string s] w fun e w' => e = .returned (.tuple #[.int .i64 ((tokenN s.data.toList).1 : Int), .int .i64 ((tokenN s.data.toList).2 : Int)]) ∧ Below w.heap.size w w' := by
  cases h1 : letterB ((s[0]'hp).toNat : Int) with
  | true => exact token_letter s w hp hs h1
  | false =>
    cases h2 : digitB ((s[0]'hp).toNat : Int) with
    | true => exact token_digit s w hp h1 h2
    | false =>
      by_cases h3 : s[0]'hp = 39
      · exact token_life s w hp hs h1 h2 h3
      · cases h4 : [45, 62].isPrefixOf s.data.toList with
        | true => exact token_two s w hp hs h1 h2 h3 (.inl h4)
        | false =>
          cases h5 : [61, 61].isPrefixOf s.data.toList with
          | true => exact token_two s w hp hs h1 h2 h3 (.inr h5)
          | false => exact token_rest s w hp hs h1 h2 h3 h4 h5
end Go.Proofs.YtadjekpfehjibaaDoor
