/-
The reference's Lex: the tokens of a text, as lex.Lex tells them. Condition: at most 20000 bytes (beyond: code 3).
-/
import Derived.Test.YtadjekpfehjibaaDoorRefToken
import Derived.Test.YtadjekpfehjibaaDoorLex
namespace Go.Proofs.YtadjekpfehjibaaDoor
open Go.RowKit

/-! ### the plain steps -/
theorem spanN_cons_yes (q : UInt8 → Bool) (c : UInt8) (l : List UInt8) (h : q c = true) : spanN q (c :: l) = spanN q l + 1 := by
  unfold spanN
  rw [List.takeWhile_cons, if_pos h]
  rfl
theorem spanN_cons_no (q : UInt8 → Bool) (c : UInt8) (l : List UInt8) (h : q c = false) : spanN q (c :: l) = 0 := by
  unfold spanN
  rw [List.takeWhile_cons, if_neg (by simp [h])]
  rfl
theorem blankN_blank (c : UInt8) (l : List UInt8) (h : onByte blankB c = true) : blankN (c :: l) = blankN l + 1 := by
  unfold blankN
  rw [spanN_cons_yes _ _ _ h]
  simp only [List.drop_succ_cons]
  split <;> omega
theorem blankN_slash (l : List UInt8) (h : [47, 47].isPrefixOf l = true) : blankN l = spanN (onByte notLfB) l ∧ 2 ≤ blankN l := by
  match l, h with
  | x :: y :: l, h =>
    have hx : x = 47 ∧ y = 47 := by
      simp [List.isPrefixOf] at h
      exact ⟨h.1.symm, h.2.symm⟩
    obtain ⟨rfl, rfl⟩ := hx
    have h0 : spanN (onByte blankB) (47 :: 47 :: l) = 0 := spanN_cons_no _ _ _ (by decide)
    have hs : spanN (onByte notLfB) (47 :: 47 :: l) = spanN (onByte notLfB) l + 1 + 1 := by
      rw [spanN_cons_yes _ _ _ (by decide), spanN_cons_yes _ _ _ (by decide)]
    unfold blankN
    rw [h0, List.drop_zero, if_pos h]
    exact ⟨by omega, by omega⟩
  | [_], h => simp [List.isPrefixOf] at h
  | [], h => simp [List.isPrefixOf] at h
theorem blankN_none (c : UInt8) (l : List UInt8) (h : onByte blankB c = false) (h2 : [47, 47].isPrefixOf (c :: l) = false) : blankN (c :: l) = 0 := by
  unfold blankN
  rw [spanN_cons_no _ _ _ h, List.drop_zero, if_neg (by rw [h2]; simp)]
theorem lexL_one (k : Nat) (c : UInt8) (l : List UInt8) (h : onByte blankB c = true) : lexL k (c :: l) = lexL (k + 1) l := by
  have hb := blankN_blank c l h
  rw [lexL_blank k (c :: l) (by simp) (by omega), hb, List.drop_succ_cons]
  by_cases h0 : 0 < blankN l
  · by_cases hn : l = []
    · subst hn
      simp [lexL_nil]
    · rw [lexL_blank (k + 1) l hn h0]
      congr 1
      omega
  · have e : blankN l = 0 := by omega
    rw [e, List.drop_zero]
theorem drop_cons {s : ByteArray} {k : Nat} (hlt : k < s.size) : s.data.toList.drop k = s[k]'hlt :: s.data.toList.drop (k + 1) := by
  rw [List.drop_eq_getElem_cons (by simpa using hlt)]
  rfl

theorem rel_one {s : ByteArray} {w wr : World} {v : Value} {k : Nat} {ts : List Tok} (hlt : k < s.size) (hts : ts.length ≤ k)
    (hown : wr.ownsRow w.heap.size 35 3 v ts.length (tvals ts)) (hnil : v = .slice none 0 0 ↔ ts = []) (hb : Below w.heap.size w wr)
    (hlex : lexL 0 s.data.toList = Res.app ts (lexL k (s.data.toList.drop k))) (hc : onByte blankB (s[k]'hlt) = true) : LexRel s w v (.int .i64 ((k : Int) + 1)) wr := by
  refine ⟨k + 1, ts, by omega, by omega, by rw [Int.natCast_add]; rfl, hown, hnil, hb, ?_⟩
  rw [hlex, drop_cons hlt, lexL_one _ _ _ hc]

/-- A remark is passed by: from k on, p bytes have been found to be none of line feeds. -/
def RemTo (s : ByteArray) (k p : Nat) : Prop :=
  k ≤ p ∧ p ≤ s.size ∧ (∀ (i : Nat) (c : UInt8), k ≤ i → i < p → s.data.toList[i]? = some c → onByte notLfB c = true)
theorem remTo_step {s : ByteArray} {k p : Nat} (h : RemTo s k p) (hlt : p < s.size) (hc : onByte notLfB (s[p]'hlt) = true) : RemTo s k (p + 1) := by
  obtain ⟨h1, h2, h3⟩ := h
  refine ⟨by omega, by omega, fun i c hi1 hi2 hc' => ?_⟩
  by_cases he : i < p
  · exact h3 i c hi1 he hc'
  · obtain rfl : i = p := by omega
    rw [getElem_list s i hlt] at hc'
    injection hc' with hc'
    subst hc'
    exact hc
theorem remTo_end {s : ByteArray} {k p : Nat} (h : RemTo s k p) (hstop : ∀ hlt : p < s.size, onByte notLfB (s[p]'hlt) = false) :
    spanN (onByte notLfB) (s.data.toList.drop k) = p - k := by
  obtain ⟨h1, h2, h3⟩ := h
  have hall : ∀ (i : Nat) (c : UInt8), i < p - k → (s.data.toList.drop k)[i]? = some c → onByte notLfB c = true := by
    intro i c hi hc
    rw [List.getElem?_drop] at hc
    exact h3 (k + i) c (by omega) (by omega) hc
  by_cases hlt : p < s.size
  · refine spanN_at _ _ _ hall (s[p]'hlt) ?_ (hstop hlt)
    rw [List.getElem?_drop, show k + (p - k) = p by omega]
    exact getElem_list s p hlt
  · rw [spanN_all]
    · rw [List.length_drop]; simp; omega
    · intro i c hc
      refine hall i c ?_ hc
      have := (List.getElem?_eq_some_iff.1 hc).1
      rw [List.length_drop] at this
      simp at this
      omega
theorem rel_remark {s : ByteArray} {w wr : World} {v : Value} {k p : Nat} {ts : List Tok} (hlt : k < s.size) (hts : ts.length ≤ k)
    (hown : wr.ownsRow w.heap.size 35 3 v ts.length (tvals ts)) (hnil : v = .slice none 0 0 ↔ ts = []) (hb : Below w.heap.size w wr)
    (hlex : lexL 0 s.data.toList = Res.app ts (lexL k (s.data.toList.drop k))) (hr : RemTo s k p) (h2 : [47, 47].isPrefixOf (s.data.toList.drop k) = true)
    (hstop : ∀ hlt : p < s.size, onByte notLfB (s[p]'hlt) = false) : LexRel s w v (.int .i64 (p : Int)) wr ∧ k < p := by
  have hsp := remTo_end hr hstop
  have hbn := blankN_slash _ h2
  rw [hsp] at hbn
  have hkp := hr.1
  have e : k + (p - k) = p := by omega
  refine ⟨⟨p, ts, hr.2.1, by omega, rfl, hown, hnil, hb, ?_⟩, by omega⟩
  rw [hlex, lexL_blank k _ (drop_ne hlt) (by omega), hbn.1, List.drop_drop, e]

def RefPost (w : World) (r : Res) (e : Ending) (w' : World) : Prop :=
  match r with
  | .ok ts => ∃ v, e = .returned (.tuple #[v, .int .i64 0, .int .i64 0]) ∧ w'.ownsRow w.heap.size 35 3 v ts.length (tvals ts) ∧ Below w.heap.size w w'
  | .bad a => e = .returned (.tuple #[.slice none 0 0, .int .i64 1, .int .i64 (a : Int)]) ∧ Below w.heap.size w w'
theorem ref_end {s : ByteArray} {w wr : World} {v : Value} {k : Nat} {ts : List Tok} (hlt : ¬ k < s.size)
    (hown : wr.ownsRow w.heap.size 35 3 v ts.length (tvals ts)) (hb : Below w.heap.size w wr)
    (hlex : lexL 0 s.data.toList = Res.app ts (lexL k (s.data.toList.drop k))) : RefPost w (lexL 0 s.data.toList) (.returned (.tuple #[v, .int .i64 0, .int .i64 0])) wr := by
  rw [hlex, List.drop_of_length_le (by simp; omega), lexL_nil]
  unfold Res.app RefPost
  simp only [List.append_nil]
  exact ⟨v, rfl, hown, hb⟩
theorem ref_bad {s : ByteArray} {w wr w1 : World} {k : Nat} {ts : List Tok} (hlt : k < s.size) (hb : Below w.heap.size w wr)
    (hlex : lexL 0 s.data.toList = Res.app ts (lexL k (s.data.toList.drop k))) (hn : blankN (s.data.toList.drop k) = 0) (htok : (tokenN (s.data.toList.drop k)).2 = 0)
    (hb1 : Below wr.heap.size wr w1) :
    RefPost w (lexL 0 s.data.toList) (.returned (.tuple #[.slice none 0 0, .int .i64 1, .int .i64 (k : Int)])) w1 := by
  rw [hlex, lexL_bad k _ (drop_ne hlt) (by omega) htok]
  unfold Res.app RefPost
  exact ⟨rfl, hb.trans (hb1.mono hb.size)⟩

theorem refToken_no (s : ByteArray) (k : Nat) (w : World) (hlt : k < s.size) (hs : s.size ≤ 4611686018427387904) (h : (tokenN (s.data.toList.drop k)).2 = 0) :
    Calls Tryd.prog 14 #[.string s, .int .i64 (k : Int)] w fun e w' => e = .returned (.tuple #[.int .i64 0, .int .i64 0]) ∧ ∃ n, w' = w.drewN n :=
  (refToken_any s k w hlt hs).mono fun _ _ ⟨he, hw⟩ => ⟨by rw [he, refTok_no _ _ h]; rfl, hw⟩
theorem refToken_yes (s : ByteArray) (k kd m : Nat) (w : World) (hlt : k < s.size) (hs : s.size ≤ 4611686018427387904) (h : tokenN (s.data.toList.drop k) = (kd, m)) (hm : 0 < m) :
    Calls Tryd.prog 14 #[.string s, .int .i64 (k : Int)] w fun e w' => e = .returned (.tuple #[.int .i64 (kd : Int), .int .i64 ((k : Int) + (m : Int))]) ∧ ∃ n, w' = w.drewN n :=
  (refToken_any s k w hlt hs).mono fun _ _ ⟨he, hw⟩ => ⟨by rw [he, h, refTok_yes _ _ (by dsimp only; omega)]; simp, hw⟩
theorem tokenN_kind (l : List UInt8) (h : (tokenN l).2 ≠ 0) : (tokenN l).1 ≠ 0 := by
  revert h
  unfold tokenN
  repeat' split
  all_goals simp

set_option maxHeartbeats 400000 in
theorem ref_much (s : ByteArray) (w : World) (hs : 20000 < s.size) (hs2 : s.size ≤ 9223372036854775807) :
    Calls Tryd.prog 8 #[.string s] w fun e w' => e = .returned (.tuple #[.slice none 0 0, .int .i64 3, .int .i64 0]) ∧ w = w' := by
  go_enter Tryd.func8, Tryd.ntmps8
  go_wp2
  go_ret3
  exact ⟨rfl, rfl⟩
end Go.Proofs.YtadjekpfehjibaaDoor
