/-
Plain law of the lexer: blank, or a remark, put ahead of each token, and behind, leaves each token's kind and text, and no place is less. No program, no memory, no conditions.
-/
import Derived.Test.YtadjekpfehjibaaDoorPlain
namespace Go.Proofs.YtadjekpfehjibaaDoor

/-- What is put ahead of token i. -/
def blankOf (i : Nat) : List UInt8 :=
  if i % 4 = 0 then [32] else if i % 4 = 1 then [10] else if i % 4 = 2 then [9] else [32, 47, 47, 120, 10]
theorem blankOf_cases (i : Nat) : blankOf i = [32] ∨ blankOf i = [10] ∨ blankOf i = [9] ∨ blankOf i = [32, 47, 47, 120, 10] := by
  unfold blankOf
  split
  · exact .inl rfl
  split
  · exact .inr (.inl rfl)
  split
  · exact .inr (.inr (.inl rfl))
  · exact .inr (.inr (.inr rfl))
theorem blankOf_le (i : Nat) : (blankOf i).length ≤ 5 := by
  rcases blankOf_cases i with h | h | h | h <;> rw [h] <;> decide
theorem blankOf_lex (i off : Nat) (Y : List UInt8) : lexL off (blankOf i ++ Y) = lexL (off + (blankOf i).length) Y := by
  rcases blankOf_cases i with h | h | h | h <;> rw [h]
  · exact lexL_one off 32 Y (by decide)
  · exact lexL_one off 10 Y (by decide)
  · exact lexL_one off 9 Y (by decide)
  · have h1 := lexL_one off 32 ([47, 47, 120] ++ 10 :: Y) (by decide)
    have h2 := lexL_remark (off + 1) 3 [47, 47, 120] (10 :: Y) (by decide) (by decide) rfl (fun c hc => by simpa using hc.symm)
    have h3 := lexL_one (off + 1 + 3) 10 Y (by decide)
    exact h1.trans (h2.trans h3)
theorem blankOf_head (i : Nat) (Z : List UInt8) (c : UInt8) (h : (blankOf i ++ Z).head? = some c) : onByte blankB c = true := by
  rcases blankOf_cases i with hb | hb | hb | hb <;> rw [hb] at h <;> simp at h <;> subst h <;> decide

/-- The text with blank ahead of each token from token i on, read from place p on. -/
def build (s : List UInt8) (p i : Nat) : List Tok → List UInt8
  | [] => s.drop p ++ [10, 47, 47]
  | t :: ts => (s.drop p).take (t.pos - p) ++ blankOf i ++ build s t.pos (i + 1) ts
/-- The places rise, from p on, up to n. -/
def Ris (p n : Nat) : List Tok → Prop
  | [] => p ≤ n
  | t :: ts => p ≤ t.pos ∧ Ris t.pos n ts
theorem Ris.less {p q n : Nat} {ts : List Tok} (h : Ris q n ts) (hpq : p ≤ q) : Ris p n ts := by
  cases ts with
  | nil => exact Nat.le_trans hpq h
  | cons t ts => exact ⟨Nat.le_trans hpq h.1, h.2⟩
theorem Ris.le {p n : Nat} {ts : List Tok} (h : Ris p n ts) : p ≤ n := by
  induction ts generalizing p with
  | nil => exact h
  | cons t ts ih => exact Nat.le_trans h.1 (ih h.2)
theorem lexF_ris (k off : Nat) (l : List UInt8) (ts : List Tok) (h : lexF k off l = .ok ts) : Ris off (off + l.length) ts := by
  induction k generalizing off l ts with
  | zero => simp [lexF] at h
  | succ k ih =>
    unfold lexF at h
    by_cases h0 : l = []
    · rw [if_pos h0] at h
      injection h with h
      subst h
      exact Nat.le_add_right _ _
    rw [if_neg h0] at h
    by_cases h1 : 0 < blankN l
    · rw [if_pos h1] at h
      have hb := blankN_le l
      have := ih _ _ _ h
      rw [List.length_drop, show off + blankN l + (l.length - blankN l) = off + l.length by omega] at this
      exact this.less (by omega)
    rw [if_neg h1] at h
    by_cases h2 : (tokenN l).2 = 0
    · rw [if_pos h2] at h
      cases h
    rw [if_neg h2] at h
    have hle := tokenN_le l h0
    cases hr : lexF k (off + (tokenN l).2) (l.drop (tokenN l).2) with
    | bad a => rw [hr] at h; cases h
    | ok us =>
      rw [hr] at h
      injection h with h
      subst h
      have := ih _ _ _ hr
      rw [List.length_drop, show off + (tokenN l).2 + (l.length - (tokenN l).2) = off + l.length by omega] at this
      exact ⟨Nat.le_refl _, this.less (by dsimp only; omega)⟩

theorem take_split (l : List UInt8) (p q r : Nat) (h1 : p ≤ q) (h2 : q ≤ r) : (l.drop p).take (r - p) = (l.drop p).take (q - p) ++ (l.drop q).take (r - q) := by
  have e : l.drop q = (l.drop p).drop (q - p) := by rw [List.drop_drop]; congr 1; omega
  rw [e, show r - p = (q - p) + (r - q) by omega, List.take_add]
theorem build_split (s : List UInt8) (p q i n : Nat) (ts : List Tok) (hpq : p ≤ q) (h : Ris q n ts) : build s p i ts = (s.drop p).take (q - p) ++ build s q i ts := by
  cases ts with
  | nil =>
    unfold build
    have e : s.drop q = (s.drop p).drop (q - p) := by rw [List.drop_drop]; congr 1; omega
    rw [e, ← List.append_assoc, List.take_append_drop]
  | cons t ts =>
    unfold build
    rw [take_split s p q t.pos hpq h.1, List.append_assoc, List.append_assoc, List.append_assoc]
theorem build_length (s : List UInt8) (p i : Nat) (ts : List Tok) (h : Ris p s.length ts) : (build s p i ts).length ≤ s.length - p + 5 * ts.length + 3 := by
  induction ts generalizing p i with
  | nil =>
    unfold build
    rw [List.length_append, List.length_drop]
    simp
  | cons t ts ih =>
    unfold build
    have h1 := ih t.pos (i + 1) h.2
    have h2 := blankOf_le i
    have h3 := h.1
    have h4 := h.2.le
    rw [List.length_append, List.length_append, List.length_take, List.length_drop, List.length_cons]
    omega

/-- The same tokens, but for places, which are not less. -/
def SimL : List Tok → List Tok → Prop
  | [], [] => True
  | t :: ts, u :: us => (t.kind = u.kind ∧ t.text = u.text ∧ t.pos ≤ u.pos) ∧ SimL ts us
  | _, _ => False
theorem SimL.length {ts us : List Tok} (h : SimL ts us) : ts.length = us.length := by
  induction ts generalizing us with
  | nil =>
    cases us with
    | nil => rfl
    | cons u us => exact h.elim
  | cons t ts ih =>
    cases us with
    | nil => exact h.elim
    | cons u us => simp [ih h.2]
theorem SimL.at_ {ts us : List Tok} (h : SimL ts us) (i : Nat) (t u : Tok) (ht : ts[i]? = some t) (hu : us[i]? = some u) : t.kind = u.kind ∧ t.text = u.text ∧ t.pos ≤ u.pos := by
  induction ts generalizing us i with
  | nil => simp at ht
  | cons a ts ih =>
    cases us with
    | nil => exact h.elim
    | cons b us =>
      cases i with
      | zero =>
        simp only [List.getElem?_cons_zero, Option.some.injEq] at ht hu
        subst ht hu
        exact h.1
      | succ i => exact ih h.2 i (by simpa using ht) (by simpa using hu)

theorem lexL_ris {p : Nat} {s : List UInt8} {ts : List Tok} (hp : p ≤ s.length) (h : lexL p (s.drop p) = .ok ts) : Ris p s.length ts := by
  have := lexF_ris _ _ _ _ h
  rwa [List.length_drop, show p + (s.length - p) = s.length by omega] at this

/-- The blank law. -/
theorem blank_lex (s : List UInt8) (m : Nat) : ∀ (p i off : Nat) (ts : List Tok), s.length - p ≤ m → p ≤ s.length → lexL p (s.drop p) = .ok ts → p ≤ off →
    ∃ us, lexL off (build s p i ts) = .ok us ∧ SimL ts us := by
  have hend : ∀ (p i off : Nat) (ts : List Tok), s.drop p = [] → lexL p (s.drop p) = .ok ts → ∃ us, lexL off (build s p i ts) = .ok us ∧ SimL ts us := by
    intro p i off ts hd h
    rw [hd, lexL_nil] at h
    injection h with h
    subst h
    unfold build
    rw [hd]
    have h1 := lexL_one off 10 [47, 47] (by decide)
    have h2 := lexL_remark (off + 1) 2 [47, 47] [] (by decide) (by decide) rfl (fun c hc => by simp at hc)
    rw [List.append_nil, lexL_nil] at h2
    exact ⟨[], h1.trans h2, trivial⟩
  induction m with
  | zero =>
    intro p i off ts hl hp h _
    exact hend p i off ts (List.drop_of_length_le (by omega)) h
  | succ m ih =>
    intro p i off ts hl hp h hoff
    by_cases hlt : p < s.length
    · obtain ⟨c, hc⟩ : ∃ c, s[p] = c := ⟨_, rfl⟩
      have hd : s.drop p = c :: s.drop (p + 1) := by rw [List.drop_eq_getElem_cons hlt, hc]
      cases hbl : onByte blankB c with
      | true =>
        have h' := h
        rw [hd, lexL_one _ _ _ hbl] at h'
        obtain ⟨us, hu, hs⟩ := ih (p + 1) i (off + 1) ts (by omega) (by omega) h' (by omega)
        refine ⟨us, ?_, hs⟩
        rw [build_split s p (p + 1) i s.length ts (by omega) (lexL_ris (by omega) h'), hd, show p + 1 - p = 1 by omega]
        simp only [List.take_succ_cons, List.take_zero, List.cons_append, List.nil_append]
        rw [lexL_one _ _ _ hbl, hu]
      | false =>
      cases hsl : [47, 47].isPrefixOf (s.drop p) with
      | true =>
        obtain ⟨n, hn⟩ : ∃ n, spanN (onByte notLfB) (s.drop p) = n := ⟨_, rfl⟩
        have hbn := blankN_slash _ hsl
        rw [hn] at hbn
        have hnl : n ≤ s.length - p := by have := spanN_le (onByte notLfB) (s.drop p); rw [hn, List.length_drop] at this; exact this
        obtain ⟨ht1, ht2⟩ := take_all _ _ _ hn
        have h' := h
        rw [lexL_blank p _ (by rw [hd]; simp) (by omega), hbn.1, List.drop_drop] at h'
        obtain ⟨us, hu, hs⟩ := ih (p + n) i (off + n) ts (by omega) (by omega) h' (by omega)
        refine ⟨us, ?_, hs⟩
        have hris := lexL_ris (by omega) h'
        rw [build_split s p (p + n) i s.length ts (by omega) hris, show p + n - p = n by omega]
        rw [lexL_remark off n _ _ (slash_take _ _ (by omega) hsl) ht1 (by rw [List.length_take, List.length_drop]; omega) ?_, hu]
        intro x hx
        rw [List.drop_drop] at ht2
        by_cases he : p + n < s.length
        · obtain ⟨y, hy⟩ : ∃ y, s[p + n] = y := ⟨_, rfl⟩
          have hd2 : s.drop (p + n) = y :: s.drop (p + n + 1) := by rw [List.drop_eq_getElem_cons he, hy]
          have hy10 := notLf_ten y (ht2 y (by rw [hd2]; rfl))
          subst hy10
          have h'' := h'
          rw [hd2, lexL_one _ _ _ (by decide)] at h''
          rw [build_split s (p + n) (p + n + 1) i s.length ts (by omega) (lexL_ris (by omega) h''), hd2, show p + n + 1 - (p + n) = 1 by omega] at hx
          simp at hx
          exact hx.symm
        · have hd2 : s.drop (p + n) = [] := List.drop_of_length_le (by omega)
          rw [hd2, lexL_nil] at h'
          injection h' with h'
          subst h'
          unfold build at hx
          rw [hd2] at hx
          simp at hx
          exact hx.symm
      | false =>
        have hb0 : blankN (s.drop p) = 0 := by
          rw [hd] at hsl ⊢
          exact blankN_none _ _ hbl hsl
        have hne : s.drop p ≠ [] := by rw [hd]; simp
        by_cases h2 : (tokenN (s.drop p)).2 = 0
        · rw [lexL_bad _ _ hne (by omega) h2] at h
          cases h
        obtain ⟨kd, n, htk⟩ : ∃ kd n, tokenN (s.drop p) = (kd, n) := ⟨_, _, rfl⟩
        have hnl : n ≤ s.length - p := by have := tokenN_le (s.drop p) hne; rw [htk, List.length_drop] at this; exact this
        rw [htk] at h2
        dsimp only at h2
        rw [lexL_tok _ _ hne (by omega) (by rw [htk]; exact h2), htk, List.drop_drop] at h
        dsimp only at h
        obtain ⟨T, hT⟩ : ∃ T, (s.drop p).take n = T := ⟨_, rfl⟩
        have hTl : T.length = n := by rw [← hT, List.length_take, List.length_drop]; omega
        have hTY : T ++ s.drop (p + n) = s.drop p := by rw [← hT, ← List.drop_drop, List.take_append_drop]
        rw [hT] at h
        cases hr : lexL (p + n) (s.drop (p + n)) with
        | bad a => rw [hr] at h; cases h
        | ok ts2 =>
          rw [hr] at h
          injection h with h
          subst h
          have hris := lexL_ris (by omega) hr
          obtain ⟨us, hu, hs⟩ := ih (p + n) (i + 1) (off + (blankOf i).length + n) ts2 (by omega) (by omega) hr (by omega)
          have hf : Foll (build s (p + n) (i + 1) ts2) (s.drop (p + n)) := by
            intro x hx
            cases hts : ts2 with
            | nil =>
              rw [hts] at hx
              unfold build at hx
              cases hY : s.drop (p + n) with
              | nil => rw [hY] at hx; simp at hx; subst hx; exact .inr (by decide)
              | cons y Y => rw [hY] at hx; exact .inl (by simpa using hx)
            | cons t2 ts3 =>
              rw [hts] at hx
              unfold build at hx
              cases hY : (s.drop (p + n)).take (t2.pos - (p + n)) with
              | nil =>
                rw [hY, List.nil_append] at hx
                exact .inr (blankOf_head _ _ _ hx)
              | cons y Y =>
                rw [hY] at hx
                simp only [List.cons_append, List.head?_cons, Option.some.injEq] at hx
                subst hx
                refine .inl ?_
                cases hZ : s.drop (p + n) with
                | nil => rw [hZ] at hY; simp at hY
                | cons z Z =>
                  rw [hZ] at hY
                  cases hk : t2.pos - (p + n) with
                  | zero => rw [hk] at hY; simp at hY
                  | succ k =>
                    rw [hk, List.take_succ_cons] at hY
                    injection hY with h1 h2
                    rw [h1]
                    rfl
          refine ⟨⟨kd, off + (blankOf i).length, T⟩ :: us, ?_, ⟨⟨rfl, rfl, by dsimp only; omega⟩, hs⟩⟩
          have hb : build s p i (⟨kd, p, T⟩ :: ts2) = blankOf i ++ (T ++ build s (p + n) (i + 1) ts2) := by
            have e1 : build s p i (⟨kd, p, T⟩ :: ts2) = (s.drop p).take (p - p) ++ blankOf i ++ build s p (i + 1) ts2 := rfl
            rw [e1, build_split s p (p + n) (i + 1) s.length ts2 (by omega) hris, show p - p = 0 by omega, show p + n - p = n by omega, hT]
            simp
          rw [hb, blankOf_lex, lexL_token_foll T _ (s.drop (p + n)) kd _ (by rintro rfl; simp at hTl; omega) hf (by rw [hTY]; exact hb0) (by rw [hTY, hTl]; exact htk), hTl, hu]
          rfl
    · exact hend p i off ts (List.drop_of_length_le (by omega)) h
end Go.Proofs.YtadjekpfehjibaaDoor
