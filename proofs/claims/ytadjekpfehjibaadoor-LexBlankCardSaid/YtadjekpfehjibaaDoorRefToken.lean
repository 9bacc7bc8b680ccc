/-
The reference's token: what begins at a place. Condition: the place lies in the text.
-/
import Derived.Test.YtadjekpfehjibaaDoorRefMark
namespace Go.Proofs.YtadjekpfehjibaaDoor
open Go.RowKit

/-- The reference's answer, out of the code's. -/
def refTok (k : Nat) (t : Nat × Nat) : Nat × Nat := if t.2 = 0 then (0, 0) else (t.1, k + t.2)
theorem refTok_no (k : Nat) (t : Nat × Nat) (h : t.2 = 0) : refTok k t = (0, 0) := by unfold refTok; rw [if_pos h]
theorem refTok_yes (k : Nat) (t : Nat × Nat) (h : ¬ t.2 = 0) : refTok k t = (t.1, k + t.2) := by unfold refTok; rw [if_neg h]
def TokPost (s : ByteArray) (k : Nat) (w : World) (e : Ending) (w' : World) : Prop :=
  e = .returned (.tuple #[.int .i64 ((refTok k (tokenN (s.data.toList.drop k))).1 : Int), .int .i64 ((refTok k (tokenN (s.data.toList.drop k))).2 : Int)]) ∧ ∃ n, w' = w.drewN n
theorem tokPost_mk {s : ByteArray} {k : Nat} {w : World} {a b : Int} {n : Nat} {x y : Nat} (h : refTok k (tokenN (s.data.toList.drop k)) = (x, y)) (ha : a = (x : Int)) (hb : b = (y : Int)) :
    TokPost s k w (.returned (.tuple #[.int .i64 a, .int .i64 b])) (w.drewN n) := by
  subst ha hb
  unfold TokPost
  rw [h]
  exact ⟨rfl, n, rfl⟩
theorem tokPost_mk0 {s : ByteArray} {k : Nat} {w : World} {a b : Int} {x y : Nat} (h : refTok k (tokenN (s.data.toList.drop k)) = (x, y)) (ha : a = (x : Int)) (hb : b = (y : Int)) :
    TokPost s k w (.returned (.tuple #[.int .i64 a, .int .i64 b])) w := tokPost_mk (n := 0) h ha hb

set_option maxHeartbeats 800000 in
theorem refToken_letter (s : ByteArray) (k : Nat) (w : World) (hlt : k < s.size) (hs : s.size ≤ 4611686018427387904) (h1 : letterB ((s[k]'hlt).toNat : Int) = true) :
    Calls Tryd.prog 14 #[.string s, .int .i64 (k : Int)] w fun e w' => TokPost s k w e w' := by
  have hT := tokenN_letter (s.data.toList.drop k) (by rw [headD_drop _ _ _ (getElem_list s k hlt)]; exact h1)
  obtain ⟨n, hn⟩ : ∃ n, wordN (s.data.toList.drop k) = n := ⟨_, rfl⟩
  have hle : k + n ≤ s.size := by have := wordN_le (s.data.toList.drop k); rw [List.length_drop] at this; simp at this; omega
  rw [hn] at hT
  have Hn := Lib.hid hn
  have HT := Lib.hid hT
  have H1 := Lib.hid h1
  clear h1 hT hn
  have hbb : ((s[k]'hlt).toNat : Int) ≤ 255 := by have := (s[k]'hlt).toNat_lt; omega
  by_cases h0 : 0 < n
  · have HR := Lib.hid (refTok_yes k (1, n) (by dsimp only; omega))
    go_enter Tryd.func14, Tryd.ntmps14
    go_wp2_with fail
    refine (refLetter_any _ _).mono ?_
    rintro e w' ⟨rfl, rfl⟩
    rw [H1.out]
    go_wp2_with fail
    refine (refWord_any s k _ (by omega) hs).mono ?_
    rintro e w' ⟨rfl, rfl⟩
    rw [Hn.out]
    go_wp2_with fail
    go_ret2
    exact tokPost_mk0 (by rw [HT.out, HR.out]) (by simp) (by simp)
  · obtain rfl : n = 0 := by omega
    have HR := Lib.hid (refTok_no k (1, 0) rfl)
    go_enter Tryd.func14, Tryd.ntmps14
    go_wp2_with fail
    refine (refLetter_any _ _).mono ?_
    rintro e w' ⟨rfl, rfl⟩
    rw [H1.out]
    go_wp2_with fail
    refine (refWord_any s k _ (by omega) hs).mono ?_
    rintro e w' ⟨rfl, rfl⟩
    rw [Hn.out]
    go_wp2_with fail
    go_ret2
    exact tokPost_mk0 (by rw [HT.out, HR.out]) (by simp) (by simp)

/-- From k on, p bytes have been found to be digits. -/
def NumTo (s : ByteArray) (k p : Nat) : Prop :=
  k ≤ p ∧ p ≤ s.size ∧ (∀ (i : Nat) (c : UInt8), k ≤ i → i < p → s.data.toList[i]? = some c → onByte digitB c = true)
theorem numTo_step {s : ByteArray} {k p : Nat} (h : NumTo s k p) (hlt : p < s.size) (hc : digitB ((s[p]'hlt).toNat : Int) = true) : NumTo s k (p + 1) := by
  obtain ⟨h1, h2, h3⟩ := h
  refine ⟨by omega, by omega, fun i c hi1 hi2 hc' => ?_⟩
  by_cases he : i < p
  · exact h3 i c hi1 he hc'
  · obtain rfl : i = p := by omega
    rw [getElem_list s i hlt] at hc'
    injection hc' with hc'
    subst hc'
    exact hc
theorem numTo_end {s : ByteArray} {k p : Nat} (h : NumTo s k p) (hstop : ∀ hlt : p < s.size, digitB ((s[p]'hlt).toNat : Int) = false) :
    spanN (onByte digitB) (s.data.toList.drop k) = p - k := by
  obtain ⟨h1, h2, h3⟩ := h
  have hall : ∀ (i : Nat) (c : UInt8), i < p - k → (s.data.toList.drop k)[i]? = some c → onByte digitB c = true := by
    intro i c hi hc
    rw [List.getElem?_drop] at hc
    exact h3 (k + i) c (by omega) (by omega) hc
  by_cases hlt : p < s.size
  · refine spanN_at _ _ _ hall (s[p]'hlt) ?_ (hstop hlt)
    rw [List.getElem?_drop, show k + (p - k) = p by omega]
    exact getElem_list s p hlt
  · rw [spanN_all]
    · rw [List.length_drop]; simp; omega
    · intro i c hc
      refine hall i c ?_ hc
      have := (List.getElem?_eq_some_iff.1 hc).1
      rw [List.length_drop] at this
      simp at this
      omega
/-- At least one digit stands there: the reference tells of the end what the code tells of the length. -/
theorem numTo_tok {s : ByteArray} {k p : Nat} (hlt : k < s.size) (h1 : letterB ((s[k]'hlt).toNat : Int) = false) (h2 : digitB ((s[k]'hlt).toNat : Int) = true)
    (hsp : spanN (onByte digitB) (s.data.toList.drop k) = p - k) (hkp : k ≤ p) :
    refTok k (tokenN (s.data.toList.drop k)) = if 18 < p - k then (0, 0) else (2, p) := by
  rw [tokenN_digit (s.data.toList.drop k) (by rw [headD_drop _ _ _ (getElem_list s k hlt)]; exact h1) (by rw [headD_drop _ _ _ (getElem_list s k hlt)]; exact h2)]
  have h0 : spanN (onByte digitB) (s.data.toList.drop k) ≠ 0 := by
    have hd : s.data.toList.drop k = s[k]'hlt :: s.data.toList.drop (k + 1) := by
      rw [List.drop_eq_getElem_cons (by simpa using hlt)]
      rfl
    unfold spanN
    rw [hd, List.takeWhile_cons, if_pos (show onByte digitB (s[k]'hlt) = true from h2)]
    simp
  unfold numN
  rw [hsp] at h0 ⊢
  by_cases h18 : 18 < p - k
  · rw [if_pos h18, if_pos h18, refTok_no _ _ rfl]
  · rw [if_neg h18, if_neg h18, refTok_yes _ _ (by dsimp only; exact h0)]
    simp only [Prod.mk.injEq, true_and]
    omega

set_option maxHeartbeats 800000 in
theorem refToken_digit (s : ByteArray) (k : Nat) (w : World) (hlt : k < s.size) (hs : s.size ≤ 4611686018427387904) (h1 : letterB ((s[k]'hlt).toNat : Int) = false) (h2 : digitB ((s[k]'hlt).toNat : Int) = true) :
    Calls Tryd.prog 14 #[.string s, .int .i64 (k : Int)] w fun e w' => TokPost s k w e w' := by
  have hbb : ((s[k]'hlt).toNat : Int) ≤ 255 := by have := (s[k]'hlt).toNat_lt; omega
  have HT := Lib.hid (fun (p : Nat) => numTo_tok (p := p) hlt h1 h2)
  have H1 := Lib.hid h1
  have H2 := Lib.hid h2
  clear h1 h2
  go_enter Tryd.func14, Tryd.ntmps14
  go_wp2_with fail
  refine (refLetter_any _ _).mono ?_
  rintro e w' ⟨rfl, rfl⟩
  rw [H1.out]
  go_wp2_with fail
  refine (refDigit_any _ _).mono ?_
  rintro e w' ⟨rfl, rfl⟩
  rw [H2.out]
  go_wp2_with fail
  go_loop [8] (fun t => ∃ p : Nat, NumTo s k p ∧ t = .int .i64 p) (fun t => s.size - (intOf t).toNat)
  case atStart => exact ⟨k, ⟨Nat.le_refl _, by omega, fun i c h1 h2 => by omega⟩, rfl⟩
  case round =>
    obtain ⟨p, hw, rfl⟩ := hrel
    have hkp := hw.1
    have hps := hw.2.1
    have HW := Lib.hid hw
    clear hw
    by_cases hpl : p < s.size
    · cases hd : digitB ((s[p]'hpl).toNat : Int) with
      | true =>
        have HD := Lib.hid hd
        clear hd
        go_wp2_with (go_at_call 26; refine (refDigit_any _ _).mono ?_; rintro e w' ⟨rfl, rfl⟩; rw [HD.out])
        go_round
        case rel => exact ⟨p + 1, numTo_step HW.out hpl HD.out, by go_num⟩
        case measure => simp [intOf]; omega
      | false =>
        have HE := Lib.hid (HT.out p (numTo_end HW.out (fun _ => hd)) hkp)
        have HD := Lib.hid hd
        clear hd
        by_cases h18 : 18 < p - k
        · go_wp2_with (go_at_call 26; refine (refDigit_any _ _).mono ?_; rintro e w' ⟨rfl, rfl⟩; rw [HD.out])
          go_ret2
          exact tokPost_mk0 (by rw [HE.out, if_pos h18]) rfl rfl
        · go_wp2_with (go_at_call 26; refine (refDigit_any _ _).mono ?_; rintro e w' ⟨rfl, rfl⟩; rw [HD.out])
          go_ret2
          exact tokPost_mk0 (by rw [HE.out, if_neg h18]) rfl rfl
    · have HE := Lib.hid (HT.out p (numTo_end HW.out (fun h => absurd h hpl)) hkp)
      by_cases h18 : 18 < p - k
      · go_wp2_with fail
        go_ret2
        exact tokPost_mk0 (by rw [HE.out, if_pos h18]) rfl rfl
      · go_wp2_with fail
        go_ret2
        exact tokPost_mk0 (by rw [HE.out, if_neg h18]) rfl rfl

set_option maxHeartbeats 800000 in
theorem refToken_life (s : ByteArray) (k : Nat) (w : World) (hlt : k < s.size) (hs : s.size ≤ 4611686018427387904) (h1 : letterB ((s[k]'hlt).toNat : Int) = false) (h2 : digitB ((s[k]'hlt).toNat : Int) = false) (h3 : s[k]'hlt = 39) :
    Calls Tryd.prog 14 #[.string s, .int .i64 (k : Int)] w fun e w' => TokPost s k w e w' := by
  have hT := tokenN_life (s.data.toList.drop k) (by rw [headD_drop _ _ _ (getElem_list s k hlt)]; exact h1) (by rw [headD_drop _ _ _ (getElem_list s k hlt)]; exact h2) (by rw [headD_drop _ _ _ (getElem_list s k hlt)]; exact h3)
  rw [List.drop_drop] at hT
  obtain ⟨n, hn⟩ : ∃ n, wordN (s.data.toList.drop (k + 1)) = n := ⟨_, rfl⟩
  have hle : k + 1 + n ≤ s.size := by have := wordN_le (s.data.toList.drop (k + 1)); rw [List.length_drop] at this; simp at this; omega
  rw [hn] at hT
  have hz : ((s[k]'hlt).toNat : Int) = 39 := by rw [h3]; rfl
  rw [hz] at h1 h2
  have Hn := Lib.hid hn
  have HT := Lib.hid hT
  have H1 := Lib.hid h1
  have H2 := Lib.hid h2
  have hW := fun w => refWord_any s (k + 1) w (by omega) hs
  rw [hn] at hW
  have e1 : ((k + 1 : Nat) : Int) = (k : Int) + 1 := by omega
  rw [e1] at hW
  have HW := Lib.hid hW
  clear h1 h2 hT hn h3 hW e1
  by_cases h0 : 0 < n
  · have HR := Lib.hid (refTok_yes k (3, n + 1) (by dsimp only; omega))
    go_enter Tryd.func14, Tryd.ntmps14
    go_wp2_with fail
    refine (refLetter_any _ _).mono ?_
    rintro e w' ⟨rfl, rfl⟩
    rw [H1.out]
    go_wp2_with fail
    refine (refDigit_any _ _).mono ?_
    rintro e w' ⟨rfl, rfl⟩
    rw [H2.out]
    go_wp2_with fail
    refine (HW.out _).mono ?_
    rintro e w' ⟨rfl, rfl⟩
    go_wp2_with fail
    go_ret2
    exact tokPost_mk0 (by rw [HT.out, if_pos h0, HR.out]) (by simp) (by simp; omega)
  · obtain rfl : n = 0 := by omega
    have HR := Lib.hid (refTok_no k (3, 0) rfl)
    go_enter Tryd.func14, Tryd.ntmps14
    go_wp2_with fail
    refine (refLetter_any _ _).mono ?_
    rintro e w' ⟨rfl, rfl⟩
    rw [H1.out]
    go_wp2_with fail
    refine (refDigit_any _ _).mono ?_
    rintro e w' ⟨rfl, rfl⟩
    rw [H2.out]
    go_wp2_with fail
    refine (HW.out _).mono ?_
    rintro e w' ⟨rfl, rfl⟩
    go_wp2_with fail
    go_ret2
    exact tokPost_mk0 (by rw [HT.out, if_neg h0, HR.out]) (by simp) (by simp)

/-- The mark's length is the token's. -/
theorem tokenN_mark (l : List UInt8) (h1 : onByte letterB (l.headD 0) = false) (h2 : onByte digitB (l.headD 0) = false) (h3 : ¬ l.headD 0 = 39) : (tokenN l).2 = markN l ∧ (0 < markN l → (tokenN l).1 = 4) := by
  cases h4 : [45, 62].isPrefixOf l with
  | true => rw [tokenN_two l h1 h2 h3 (.inl h4), markN_two l (.inl h4)]; exact ⟨rfl, fun _ => rfl⟩
  | false =>
    cases h5 : [61, 61].isPrefixOf l with
    | true => rw [tokenN_two l h1 h2 h3 (.inr h5), markN_two l (.inr h5)]; exact ⟨rfl, fun _ => rfl⟩
    | false =>
      cases h6 : marks.contains (l.headD 0) with
      | true => rw [tokenN_one l h1 h2 h3 h4 h5 h6, markN_rest l h4 h5, h6]; exact ⟨rfl, fun _ => rfl⟩
      | false => rw [tokenN_none l h1 h2 h3 h4 h5 h6, markN_rest l h4 h5, h6]; exact ⟨rfl, fun h => absurd h (by decide)⟩
theorem markN_le (l : List UInt8) : markN l ≤ 2 := by
  unfold markN
  split
  · omega
  · split <;> omega

set_option maxHeartbeats 800000 in
theorem refToken_mark (s : ByteArray) (k : Nat) (w : World) (hlt : k < s.size) (hs : s.size ≤ 4611686018427387904) (h1 : letterB ((s[k]'hlt).toNat : Int) = false) (h2 : digitB ((s[k]'hlt).toNat : Int) = false) (h3 : ¬ s[k]'hlt = 39) :
    Calls Tryd.prog 14 #[.string s, .int .i64 (k : Int)] w fun e w' => TokPost s k w e w' := by
  have hT := tokenN_mark (s.data.toList.drop k) (by rw [headD_drop _ _ _ (getElem_list s k hlt)]; exact h1) (by rw [headD_drop _ _ _ (getElem_list s k hlt)]; exact h2) (by rw [headD_drop _ _ _ (getElem_list s k hlt)]; exact h3)
  have hbb : ((s[k]'hlt).toNat : Int) ≤ 255 := by have := (s[k]'hlt).toNat_lt; omega
  have hz : (((s[k]'hlt).toNat : Int) == 39) = false := by
    rw [beq_eq_false_iff_ne]
    intro he
    exact h3 (UInt8.toNat_inj.1 (by have : (s[k]'hlt).toNat = 39 := by omega
                                    exact this))
  obtain ⟨n, hn⟩ : ∃ n, markN (s.data.toList.drop k) = n := ⟨_, rfl⟩
  have hle : n ≤ 2 := by rw [← hn]; exact markN_le _
  rw [hn] at hT
  have Hn := Lib.hid hn
  have HT := Lib.hid hT
  have H1 := Lib.hid h1
  have H2 := Lib.hid h2
  clear h1 h2 hT hn h3
  by_cases h0 : 0 < n
  · have HR : Hid (refTok k (tokenN (s.data.toList.drop k)) = (4, k + n)) := by
      have : refTok k (tokenN (s.data.toList.drop k)) = (4, k + n) := by
        rw [refTok_yes _ _ (by rw [HT.out.1]; omega), HT.out.1, HT.out.2 h0]
      exact this
    go_enter Tryd.func14, Tryd.ntmps14
    go_wp2_with fail
    refine (refLetter_any _ _).mono ?_
    rintro e w' ⟨rfl, rfl⟩
    rw [H1.out]
    go_wp2_with fail
    refine (refDigit_any _ _).mono ?_
    rintro e w' ⟨rfl, rfl⟩
    rw [H2.out]
    go_wp2_with fail
    refine (refMark_any s k _ hlt hs).mono ?_
    rintro e w' ⟨rfl, q, rfl⟩
    rw [Hn.out]
    go_wp2_with fail
    go_ret2
    exact tokPost_mk HR.out rfl (by simp)
  · obtain rfl : n = 0 := by omega
    have HR : Hid (refTok k (tokenN (s.data.toList.drop k)) = (0, 0)) := by
      have : refTok k (tokenN (s.data.toList.drop k)) = (0, 0) := by
        rw [refTok_no _ _ HT.out.1]
      exact this
    go_enter Tryd.func14, Tryd.ntmps14
    go_wp2_with fail
    refine (refLetter_any _ _).mono ?_
    rintro e w' ⟨rfl, rfl⟩
    rw [H1.out]
    go_wp2_with fail
    refine (refDigit_any _ _).mono ?_
    rintro e w' ⟨rfl, rfl⟩
    rw [H2.out]
    go_wp2_with fail
    refine (refMark_any s k _ hlt hs).mono ?_
    rintro e w' ⟨rfl, q, rfl⟩
    rw [Hn.out]
    go_wp2_with fail
    go_ret2
    exact tokPost_mk HR.out rfl rfl

theorem refToken_any (s : ByteArray) (k : Nat) (w : World) (hlt : k < s.size) (hs : s.size ≤ 4611686018427387904) :
    Calls Tryd.prog 14 #[.string s, .int .i64 (k : Int)] w fun e w' => TokPost s k w e w' := by
  cases h1 : letterB ((s[k]'hlt).toNat : Int) with
  | true => exact refToken_letter s k w hlt hs h1
  | false =>
    cases h2 : digitB ((s[k]'hlt).toNat : Int) with
    | true => exact refToken_digit s k w hlt hs h1 h2
    | false =>
      by_cases h3 : s[k]'hlt = 39
      · exact refToken_life s k w hlt hs h1 h2 h3
      · exact refToken_mark s k w hlt hs h1 h2 h3
end Go.Proofs.YtadjekpfehjibaaDoor
