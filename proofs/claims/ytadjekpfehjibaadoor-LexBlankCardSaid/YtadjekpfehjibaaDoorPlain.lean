/-
Plain laws of the lexer: a token is the same before whatever begins as what followed it, or blank; two texts with a line feed between; blank put ahead of tokens. No program, no memory, no conditions.
-/
import Derived.Test.YtadjekpfehjibaaDoorRefLex
namespace Go.Proofs.YtadjekpfehjibaaDoor

theorem spanN_of (q : UInt8 → Bool) (T Y : List UInt8) (h1 : ∀ c ∈ T, q c = true) (h2 : ∀ c, Y.head? = some c → q c = false) : spanN q (T ++ Y) = T.length := by
  induction T with
  | nil =>
    cases Y with
    | nil => rfl
    | cons y Y => exact spanN_cons_no _ _ _ (h2 y rfl)
  | cons t T ih =>
    rw [List.cons_append, spanN_cons_yes _ _ _ (h1 t (by simp)), ih fun c hc => h1 c (by simp [hc])]
    rfl
theorem spanN_inv (q : UInt8 → Bool) (T Y : List UInt8) (h : spanN q (T ++ Y) = T.length) : (∀ c ∈ T, q c = true) ∧ ∀ c, Y.head? = some c → q c = false := by
  induction T with
  | nil =>
    refine ⟨fun c hc => by simp at hc, fun c hc => ?_⟩
    cases Y with
    | nil => simp at hc
    | cons y Y =>
      simp only [List.head?_cons, Option.some.injEq] at hc
      subst hc
      cases hq : q y with
      | false => rfl
      | true =>
        rw [List.nil_append, spanN_cons_yes _ _ _ hq] at h
        simp at h
  | cons t T ih =>
    cases hq : q t with
    | false =>
      rw [List.cons_append, spanN_cons_no _ _ _ hq] at h
      simp at h
    | true =>
      rw [List.cons_append, spanN_cons_yes _ _ _ hq] at h
      have := ih (by simpa using h)
      refine ⟨fun c hc => ?_, this.2⟩
      rcases List.mem_cons.1 hc with rfl | hc
      · exact hq
      · exact this.1 c hc

/-- What X begins with is what Y begins with, or blank; or X is empty. -/
def Foll (X Y : List UInt8) : Prop := ∀ c, X.head? = some c → Y.head? = some c ∨ onByte blankB c = true
theorem blank_cases (c : UInt8) (h : onByte blankB c = true) : c = 32 ∨ c = 9 ∨ c = 10 := by
  simp [onByte, blankB] at h
  rcases h with (h | h) | h
  · exact .inl (UInt8.toNat_inj.1 (by have : c.toNat = 32 := by omega
                                      exact this))
  · exact .inr (.inl (UInt8.toNat_inj.1 (by have : c.toNat = 9 := by omega
                                            exact this)))
  · exact .inr (.inr (UInt8.toNat_inj.1 (by have : c.toNat = 10 := by omega
                                            exact this)))
theorem spanN_foll (q : UInt8 → Bool) (T X Y : List UInt8) (hf : Foll X Y) (hq : ∀ c, onByte blankB c = true → q c = false) (h : spanN q (T ++ Y) = T.length) : spanN q (T ++ X) = T.length := by
  obtain ⟨h1, h2⟩ := spanN_inv q T Y h
  refine spanN_of q T X h1 fun c hc => ?_
  rcases hf c hc with hy | hb
  · exact h2 c hy
  · exact hq c hb
theorem word_blank (c : UInt8) (h : onByte blankB c = true) : onByte wordB c = false := by
  rcases blank_cases c h with rfl | rfl | rfl <;> decide
theorem digit_blank (c : UInt8) (h : onByte blankB c = true) : onByte digitB c = false := by
  rcases blank_cases c h with rfl | rfl | rfl <;> decide
theorem headD_app (T Y : List UInt8) (h : T ≠ []) : (T ++ Y).headD 0 = T.headD 0 := by
  cases T with
  | nil => exact absurd rfl h
  | cons t T => rfl
theorem wordN_inv (l : List UInt8) (h : 0 < wordN l) : spanN (onByte wordB) l = wordN l ∧ onByte digitB (l.headD 0) = false ∧ ¬ 30 < wordN l := by
  unfold wordN at h ⊢
  split at h
  · omega
  · rename_i hn
    rw [if_neg hn]
    refine ⟨rfl, ?_, fun h => hn (.inr (.inr h))⟩
    cases hd : onByte digitB (l.headD 0) with
    | false => rfl
    | true => exact absurd (.inr (.inl hd)) hn
theorem wordN_foll (T X Y : List UInt8) (hT : T ≠ []) (hf : Foll X Y) (h : wordN (T ++ Y) = T.length) : wordN (T ++ X) = T.length := by
  have hp : 0 < T.length := List.length_pos_iff.2 hT
  obtain ⟨h1, h2, h3⟩ := wordN_inv (T ++ Y) (by omega)
  rw [h] at h1 h3
  rw [headD_app _ _ hT] at h2
  exact wordN_yes _ _ (spanN_foll _ T X Y hf word_blank h1) (by omega) (by rw [headD_app _ _ hT]; exact h2) h3
theorem numN_foll (T X Y : List UInt8) (hT : T ≠ []) (hf : Foll X Y) (h : numN (T ++ Y) = T.length) : numN (T ++ X) = T.length := by
  have hp : 0 < T.length := List.length_pos_iff.2 hT
  unfold numN at h ⊢
  split at h
  · omega
  · rename_i h18
    rw [spanN_foll _ T X Y hf digit_blank h, if_neg (by rw [h] at h18; exact h18)]
theorem pre2_foll (a b c : UInt8) (X Y : List UInt8) (hf : Foll X Y) (hb : onByte blankB b = false) (h : [a, b].isPrefixOf (c :: Y) = false) : [a, b].isPrefixOf (c :: X) = false := by
  cases X with
  | nil => simp [List.isPrefixOf]
  | cons x X =>
    by_cases hx : x = b
    · subst hx
      rcases hf x rfl with hy | hbb
      · cases Y with
        | nil => simp at hy
        | cons y Y =>
          simp only [List.head?_cons, Option.some.injEq] at hy
          subst hy
          simpa [List.isPrefixOf] using h
      · rw [hb] at hbb
        cases hbb
    · simp [List.isPrefixOf, Ne.symm hx]
/-- Maximal munch: a token is the same before whatever begins as what followed it, or blank. -/
theorem tokenN_foll (T X Y : List UInt8) (kd : Nat) (hT : T ≠ []) (hf : Foll X Y) (h : tokenN (T ++ Y) = (kd, T.length)) : tokenN (T ++ X) = (kd, T.length) := by
  have hp : 0 < T.length := List.length_pos_iff.2 hT
  have eY := headD_app T Y hT
  have eX := headD_app T X hT
  cases h1 : onByte letterB (T.headD 0) with
  | true =>
    rw [tokenN_letter _ (by rw [eY]; exact h1)] at h
    rw [tokenN_letter _ (by rw [eX]; exact h1)]
    simp only [Prod.mk.injEq] at h ⊢
    exact ⟨h.1, wordN_foll T X Y hT hf h.2⟩
  | false =>
  cases h2 : onByte digitB (T.headD 0) with
  | true =>
    rw [tokenN_digit _ (by rw [eY]; exact h1) (by rw [eY]; exact h2)] at h
    rw [tokenN_digit _ (by rw [eX]; exact h1) (by rw [eX]; exact h2)]
    simp only [Prod.mk.injEq] at h ⊢
    exact ⟨h.1, numN_foll T X Y hT hf h.2⟩
  | false =>
  by_cases h3 : T.headD 0 = 39
  · rw [tokenN_life _ (by rw [eY]; exact h1) (by rw [eY]; exact h2) (by rw [eY]; exact h3)] at h
    rw [tokenN_life _ (by rw [eX]; exact h1) (by rw [eX]; exact h2) (by rw [eX]; exact h3)]
    simp only [Prod.mk.injEq] at h ⊢
    refine ⟨h.1, ?_⟩
    obtain ⟨t, T', rfl⟩ : ∃ t T', T = t :: T' := by
      cases T with
      | nil => exact absurd rfl hT
      | cons t T' => exact ⟨t, T', rfl⟩
    have h' := h.2
    simp only [List.cons_append, List.drop_succ_cons, List.drop_zero, List.length_cons] at h' ⊢
    by_cases h0 : 0 < wordN (T' ++ Y)
    · rw [if_pos h0] at h'
      have hl : wordN (T' ++ Y) = T'.length := by omega
      have hT' : T' ≠ [] := by rintro rfl; simp at hl; simp at h0; omega
      have := wordN_foll T' X Y hT' hf hl
      rw [this, if_pos (by omega)]
    · rw [if_neg h0] at h'
      omega
  cases h4 : [45, 62].isPrefixOf (T ++ Y) with
  | true =>
    rw [tokenN_two _ (by rw [eY]; exact h1) (by rw [eY]; exact h2) (by rw [eY]; exact h3) (.inl h4)] at h
    simp only [Prod.mk.injEq] at h
    match T, h.2, h4 with
    | [a, b], _, h4 =>
      rw [tokenN_two _ (by rw [eX]; exact h1) (by rw [eX]; exact h2) (by rw [eX]; exact h3) (.inl (by simpa [List.isPrefixOf] using h4))]
      simp only [Prod.mk.injEq]
      exact h
  | false =>
  cases h5 : [61, 61].isPrefixOf (T ++ Y) with
  | true =>
    rw [tokenN_two _ (by rw [eY]; exact h1) (by rw [eY]; exact h2) (by rw [eY]; exact h3) (.inr h5)] at h
    simp only [Prod.mk.injEq] at h
    match T, h.2, h5 with
    | [a, b], _, h5 =>
      rw [tokenN_two _ (by rw [eX]; exact h1) (by rw [eX]; exact h2) (by rw [eX]; exact h3) (.inr (by simpa [List.isPrefixOf] using h5))]
      simp only [Prod.mk.injEq]
      exact h
  | false =>
  cases h6 : marks.contains (T.headD 0) with
  | true =>
    rw [tokenN_one _ (by rw [eY]; exact h1) (by rw [eY]; exact h2) (by rw [eY]; exact h3) h4 h5 (by rw [eY]; exact h6)] at h
    simp only [Prod.mk.injEq] at h
    match T, h.2, h4, h5 with
    | [a], _, h4, h5 =>
      rw [tokenN_one ([a] ++ X) (by rw [eX]; exact h1) (by rw [eX]; exact h2) (by rw [eX]; exact h3) (pre2_foll _ _ _ X Y hf (by decide) h4) (pre2_foll _ _ _ X Y hf (by decide) h5) (by rw [eX]; exact h6)]
      simp only [Prod.mk.injEq]
      exact h
  | false =>
    rw [tokenN_none _ (by rw [eY]; exact h1) (by rw [eY]; exact h2) (by rw [eY]; exact h3) h4 h5 (by rw [eY]; exact h6)] at h
    simp only [Prod.mk.injEq] at h
    omega
/-- .. and it is not taken for a remark. -/
theorem slash_foll (T X Y : List UInt8) (hT : T ≠ []) (hf : Foll X Y) (h : [47, 47].isPrefixOf (T ++ Y) = false) : [47, 47].isPrefixOf (T ++ X) = false := by
  match T, hT with
  | [a], _ => exact pre2_foll _ _ _ X Y hf (by decide) h
  | a :: b :: T, _ => simpa [List.isPrefixOf] using h
/-- One token of a text, whatever follows. -/
theorem lexL_token_foll (T X Y : List UInt8) (kd off : Nat) (hT : T ≠ []) (hf : Foll X Y) (hb : blankN (T ++ Y) = 0) (h : tokenN (T ++ Y) = (kd, T.length)) :
    lexL off (T ++ X) = Res.cons ⟨kd, off, T⟩ (lexL (off + T.length) X) := by
  have hp : 0 < T.length := List.length_pos_iff.2 hT
  obtain ⟨t, T', rfl⟩ : ∃ t T', T = t :: T' := by
    cases T with
    | nil => exact absurd rfl hT
    | cons t T' => exact ⟨t, T', rfl⟩
  have hbt : onByte blankB t = false := by
    cases hbt : onByte blankB t with
    | false => rfl
    | true => rw [List.cons_append, blankN_blank _ _ hbt] at hb; omega
  have hsl : [47, 47].isPrefixOf (t :: T' ++ Y) = false := by
    cases hsl : [47, 47].isPrefixOf (t :: T' ++ Y) with
    | false => rfl
    | true => have := (blankN_slash _ hsl).2; omega
  have hbX : blankN (t :: T' ++ X) = 0 := blankN_none _ _ hbt (slash_foll _ X Y hT hf hsl)
  have hX := tokenN_foll _ X Y kd hT hf h
  rw [lexL_tok off _ (by simp) (by omega) (by rw [hX]; simp), hX]
  simp

/-! ### Places moved -/
def Tok.move (n : Nat) (t : Tok) : Tok := { t with pos := t.pos + n }
def Res.move (n : Nat) : Res → Res
  | .ok ts => .ok (ts.map (Tok.move n))
  | .bad a => .bad (a + n)
theorem lexF_move (n fuel off : Nat) (l : List UInt8) : lexF fuel (off + n) l = Res.move n (lexF fuel off l) := by
  induction fuel generalizing off l with
  | zero => rfl
  | succ fuel ih =>
    unfold lexF
    by_cases h0 : l = []
    · rw [if_pos h0, if_pos h0]; rfl
    rw [if_neg h0, if_neg h0]
    by_cases h1 : 0 < blankN l
    · rw [if_pos h1, if_pos h1, show off + n + blankN l = off + blankN l + n by omega]
      exact ih _ _
    rw [if_neg h1, if_neg h1]
    by_cases h2 : (tokenN l).2 = 0
    · rw [if_pos h2, if_pos h2]; rfl
    rw [if_neg h2, if_neg h2, show off + n + (tokenN l).2 = off + (tokenN l).2 + n by omega, ih]
    cases lexF fuel (off + (tokenN l).2) (l.drop (tokenN l).2) <;> rfl
theorem lexL_move (n off : Nat) (l : List UInt8) : lexL (off + n) l = Res.move n (lexL off l) := lexF_move n _ off l

/-- One remark of a text, up to a line feed, whatever follows. -/
theorem lexL_remark (off n : Nat) (C X : List UInt8) (hC : [47, 47].isPrefixOf C = true) (hall : ∀ c ∈ C, onByte notLfB c = true) (hn : C.length = n) (hX : ∀ c, X.head? = some c → c = 10) :
    lexL off (C ++ X) = lexL (off + n) X := by
  have hp : [47, 47].isPrefixOf (C ++ X) = true := by
    match C, hC with
    | a :: b :: C, hC => simpa [List.isPrefixOf] using hC
    | [_], hC => simp [List.isPrefixOf] at hC
    | [], hC => simp [List.isPrefixOf] at hC
  have hs : spanN (onByte notLfB) (C ++ X) = C.length := spanN_of _ _ _ hall fun c hc => by rw [hX c hc]; decide
  obtain ⟨h1, h2⟩ := blankN_slash _ hp
  rw [hs] at h1
  rw [lexL_blank off (C ++ X) (by intro h; rw [h] at hp; simp [List.isPrefixOf] at hp) (by omega), h1, hn]
  congr 1
  rw [← hn]
  simp
theorem take_all (q : UInt8 → Bool) (l : List UInt8) (n : Nat) (h : spanN q l = n) : (∀ c ∈ l.take n, q c = true) ∧ ∀ c, (l.drop n).head? = some c → q c = false := by
  have hn := spanN_le q l
  exact spanN_inv q (l.take n) (l.drop n) (by rw [List.take_append_drop, h, List.length_take]; omega)
theorem notLf_ten (c : UInt8) (h : onByte notLfB c = false) : c = 10 := by
  simp [onByte, notLfB] at h
  exact UInt8.toNat_inj.1 (by have : c.toNat = 10 := by omega
                              exact this)
theorem slash_take (l : List UInt8) (n : Nat) (hn : 2 ≤ n) (h : [47, 47].isPrefixOf l = true) : [47, 47].isPrefixOf (l.take n) = true := by
  match l, n, h with
  | a :: b :: l, n + 2, h => simpa [List.isPrefixOf] using h
  | [_], _, h => simp [List.isPrefixOf] at h
  | [], _, h => simp [List.isPrefixOf] at h

/-! ### Two texts, a line feed between -/
theorem lexL_two (n : Nat) : ∀ (off : Nat) (a b : List UInt8) (xs : List Tok), a.length ≤ n → lexL off a = .ok xs → lexL off (a ++ 10 :: b) = Res.app xs (lexL (off + a.length + 1) b) := by
  induction n with
  | zero =>
    intro off a b xs hl h
    obtain rfl : a = [] := List.eq_nil_of_length_eq_zero (by omega)
    rw [lexL_nil] at h
    injection h with h
    subst h
    rw [Res.app_nil, List.nil_append, lexL_one off 10 b (by decide)]
    rfl
  | succ n ih =>
    intro off a b xs hl h
    cases a with
    | nil =>
      rw [lexL_nil] at h
      injection h with h
      subst h
      rw [Res.app_nil, List.nil_append, lexL_one off 10 b (by decide)]
      rfl
    | cons c a =>
      simp only [List.length_cons] at hl
      cases hbl : onByte blankB c with
      | true =>
        rw [lexL_one _ _ _ hbl] at h
        rw [List.cons_append, lexL_one _ _ _ hbl, ih (off + 1) a b xs (by omega) h]
        simp only [List.length_cons]
        rw [show off + 1 + a.length + 1 = off + (a.length + 1) + 1 by omega]
      | false =>
      cases hsl : [47, 47].isPrefixOf (c :: a) with
      | true =>
        obtain ⟨m, hm⟩ : ∃ m, spanN (onByte notLfB) (c :: a) = m := ⟨_, rfl⟩
        have hbn := blankN_slash _ hsl
        rw [hm] at hbn
        have hml : m ≤ (c :: a).length := by rw [← hm]; exact spanN_le _ _
        obtain ⟨ht1, ht2⟩ := take_all _ _ _ hm
        rw [lexL_blank off _ (by simp) (by omega), hbn.1] at h
        have hlen : ((c :: a).take m).length = m := by rw [List.length_take]; omega
        have hr := lexL_remark off m ((c :: a).take m) ((c :: a).drop m ++ 10 :: b) (slash_take _ _ (by omega) hsl) ht1 hlen (by
          intro x hx
          cases hd : (c :: a).drop m with
          | nil => rw [hd] at hx; simp at hx; exact hx.symm
          | cons y ys =>
            rw [hd] at hx
            simp only [List.cons_append, List.head?_cons, Option.some.injEq] at hx
            subst hx
            exact notLf_ten _ (ht2 y (by rw [hd]; rfl)))
        rw [← List.append_assoc, List.take_append_drop] at hr
        rw [hr, ih (off + m) _ b xs (by rw [List.length_drop]; simp only [List.length_cons] at hml ⊢; omega) h, List.length_drop]
        rw [show off + m + ((c :: a).length - m) + 1 = off + (c :: a).length + 1 by omega]
      | false =>
        have hb0 : blankN (c :: a) = 0 := blankN_none _ _ hbl hsl
        by_cases h2 : (tokenN (c :: a)).2 = 0
        · rw [lexL_bad _ _ (by simp) (by omega) h2] at h
          cases h
        obtain ⟨kd, m, htk⟩ : ∃ kd m, tokenN (c :: a) = (kd, m) := ⟨_, _, rfl⟩
        have hml : m ≤ (c :: a).length := by have := tokenN_le (c :: a) (by simp); rw [htk] at this; exact this
        rw [htk] at h2
        dsimp only at h2
        rw [lexL_tok _ _ (by simp) (by omega) (by rw [htk]; exact h2), htk] at h
        dsimp only at h
        obtain ⟨T, hT⟩ : ∃ T, (c :: a).take m = T := ⟨_, rfl⟩
        obtain ⟨Y, hY⟩ : ∃ Y, (c :: a).drop m = Y := ⟨_, rfl⟩
        have hTY : T ++ Y = c :: a := by rw [← hT, ← hY, List.take_append_drop]
        have hTl : T.length = m := by rw [← hT, List.length_take]; omega
        rw [hT, hY] at h
        cases hr : lexL (off + m) Y with
        | bad p => rw [hr] at h; cases h
        | ok us =>
          rw [hr] at h
          injection h with h
          subst h
          have hYl : Y.length + m = a.length + 1 := by rw [← hY, List.length_drop]; simp only [List.length_cons] at hml ⊢; omega
          have hf : Foll (Y ++ 10 :: b) Y := by
            intro x hx
            cases Y with
            | nil =>
              simp at hx
              subst hx
              exact .inr (by decide)
            | cons y ys => exact .inl (by simpa using hx)
          rw [← hTY, List.append_assoc, lexL_token_foll T (Y ++ 10 :: b) Y kd off (by rintro rfl; simp at hTl; omega) hf (by rw [hTY]; exact hb0) (by rw [hTY, hTl]; exact htk)]
          rw [hTl, ih (off + m) Y b us (by omega) hr, Res.cons_eq, Res.app_app]
          congr 2
          rw [hTY]
          simp only [List.length_cons]
          omega
end Go.Proofs.YtadjekpfehjibaaDoor
