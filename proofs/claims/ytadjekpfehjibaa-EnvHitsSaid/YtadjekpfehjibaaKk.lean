/- env.Less, at every two environments whose lists are not too long. -/
import Derived.Test.YtadjekpfehjibaaKj
import Derived.Test.YtadjekpfehjibaaKi
import Derived.Test.YtadjekpfehjibaaWTab

namespace Go.Proofs.Ytadjekpfehjibaa.PEnv
open Go.RowKit Go.Shelf Go.Lib Go.Proofs.YtadjekpfehjibaaW.PrintWords Go.Proofs.YtadjekpfehjibaaW.PrintLast Go.Proofs.YtadjekpfehjibaaW.PrintMore Go.Proofs.Ytadjekpfehjibaa.PEnvHits
set_option linter.unusedVariables false
set_option linter.unusedSimpArgs false

/-- No list of loans in a type is so long that two of them have no room. -/
def SmT (t : S37) : Prop := ∀ u ∈ partsT t, u.f3.length ≤ 549755813888
theorem mem_partsL' (u : S37) : ∀ ts : List S37, u ∈ partsL ts ↔ ∃ k ∈ ts, u ∈ partsT k
  | [] => by simp [partsL]
  | t :: ts => by simp [partsL, mem_partsL' u ts]
theorem SmT.kid {t k : S37} (h : SmT t) (hk : k ∈ t.f4) : SmT k := fun u hu => h u (by rw [partsT_eq]; exact List.mem_cons_of_mem _ ((mem_partsL' u _).mpr ⟨k, hk, hu⟩))
theorem SmT.self {t : S37} (h : SmT t) : t.f3.length ≤ 549755813888 := h t (by rw [partsT_eq]; exact List.mem_cons_self)

theorem ba_ext {a b : ByteArray} (h : a.toList = b.toList) : a = b := by
  rw [ByteArray.toList_eq, ByteArray.toList_eq] at h
  cases a
  cases b
  congr 1
  exact Array.toList_inj.mp h
theorem cmpLoan_zero {a b : S27} (h : cmpLoan a b = 0) : a = b := by
  rw [cmpLoan_eq] at h
  by_cases h1 : cmpS a.f0 b.f0 = 0
  · rw [if_pos h1] at h
    by_cases h2 : cmpS a.f1.f0 b.f1.f0 = 0
    · rw [if_pos h2] at h
      by_cases h3 : cmpIs a.f1.f1 b.f1.f1 = 0
      · rw [if_pos h3] at h
        have e1 := ba_ext (cmpS_zero h1)
        have e2 := ba_ext (cmpS_zero h2)
        have e3 := cmpIs_zero h3
        have e4 : a.f2 = b.f2 := by
          cases ha : a.f2 <;> cases hb : b.f2 <;> rw [ha, hb] at h <;> first | rfl | exact absurd h (by decide)
        obtain ⟨a0, ⟨a1, a2⟩, a3⟩ := a
        obtain ⟨b0, ⟨b1, b2⟩, b3⟩ := b
        simp only at e1 e2 e3 e4
        subst e1 e2 e3 e4
        rfl
      · rw [if_neg h3] at h; exact absurd h h3
    · rw [if_neg h2] at h; exact absurd h h2
  · rw [if_neg h1] at h; exact absurd h h1

/-- Two sorted lists of the same loans are one. -/
theorem sorted_one : ∀ {xs ys : List S27}, xs.Perm ys → xs.Pairwise (fun x y => ¬ cmpLoan y x < 0) → ys.Pairwise (fun x y => ¬ cmpLoan y x < 0) → xs = ys
  | [], ys, hp, _, _ => (List.nil_perm.mp hp).symm
  | x :: xs, [], hp, _, _ => absurd hp (by simp)
  | x :: xs, y :: ys, hp, h1, h2 => by
    have hx : x ∈ y :: ys := hp.subset List.mem_cons_self
    have hy : y ∈ x :: xs := hp.symm.subset List.mem_cons_self
    rw [List.pairwise_cons] at h1 h2
    have e : x = y := by
      rcases List.mem_cons.mp hx with e | hx
      · exact e
      · rcases List.mem_cons.mp hy with e | hy
        · exact e.symm
        · have a := h1.1 y hy
          have b := h2.1 x hx
          have f1 := cm_Loan.flip x y
          have f2 := cm_Loan.flip y x
          exact cmpLoan_zero (by omega)
    subst e
    rw [sorted_one (List.perm_cons _ |>.mp hp) h1.2 h2.2]

/-- What two lists of loans hold, sorted, each once. -/
def mergedL (ls ms : List S27) : List S27 := compactL ((ls ++ ms).mergeSort (fun x y => decide (cmpLoan x y ≤ 0)))
theorem mergedOf_eq {ls ms rs : List S27} (h : MergedOf ls ms rs) : rs = mergedL ls ms := by
  obtain ⟨zs, hp, ha, rfl⟩ := h
  have h1 := List.pairwise_mergeSort (le := fun x y : S27 => decide (cmpLoan x y ≤ 0)) (fun a b c h1 h2 => decide_eq_true (cm_Loan.le a b c (of_decide_eq_true h1) (of_decide_eq_true h2)))
    (fun a b => by
      have f1 := cm_Loan.flip a b
      have f2 := cm_Loan.flip b a
      simp only [Bool.or_eq_true, decide_eq_true_eq]
      omega) (ls ++ ms)
  unfold mergedL
  congr 1
  refine sorted_one (hp.trans (List.mergeSort_perm _ _).symm) ha (h1.imp (fun {x y} hxy => ?_))
  have f1 := cm_Loan.flip x y
  have f2 := cm_Loan.flip y x
  have := of_decide_eq_true hxy
  omega

mutual
/-- Is a type at most another one? -/
def lessT : S37 → S37 → Bool
  | ⟨_, _, c, d, e⟩, u => !((c && !u.f2) || decide (u.f3.length < (mergedL d u.f3).length)) && lessL e u.f4
def lessL : List S37 → List S37 → Bool
  | [], [] => true
  | t :: ts, u :: us => lessT t u && lessL ts us
  | [], _ :: _ => false
  | _ :: _, [] => false
end
theorem lessL_all2 : ∀ ts us, lessL ts us = all2 lessT ts us
  | [], [] => rfl
  | [], _ :: _ => rfl
  | _ :: _, [] => rfl
  | t :: ts, u :: us => by
    show (lessT t u && lessL ts us) = (lessT t u && all2 lessT ts us)
    rw [lessL_all2 ts us]
theorem lessT_eq (t u : S37) : lessT t u = (!((t.f2 && !u.f2) || decide (u.f3.length < (mergedL t.f3 u.f3).length)) && all2 lessT t.f4 u.f4) := by
  cases t
  show (_ && lessL _ _) = _
  rw [lessL_all2]

/-- A callee's word on two types. -/
def Ty2WordS (f : Nat) (ans : S37 → S37 → Bool) (t : S37) : Prop :=
  SmT t → ∀ (u : S37), SmT u → ∀ (A3 : Option Addr) (c3 : Nat) (A4 : Option Addr) (c4 : Nat) (B3 : Option Addr) (d3 : Nat) (B4 : Option Addr) (d4 : Nat) (w : World),
    t.f3.length ≤ c3 → Kd.C k27 w A3 t.f3.length t.f3 → t.f4.length ≤ c4 → Kd.C k37 w A4 t.f4.length t.f4 →
    u.f3.length ≤ d3 → Kd.C k27 w B3 u.f3.length u.f3 → u.f4.length ≤ d4 → Kd.C k37 w B4 u.f4.length u.f4 →
    Calls Try.prog f #[.agg #[.int .i64 t.f0, .bool t.f1, .bool t.f2, .slice A3 t.f3.length c3, .slice A4 t.f4.length c4], .agg #[.int .i64 u.f0, .bool u.f1, .bool u.f2, .slice B3 u.f3.length d3, .slice B4 u.f4.length d4]] w fun e w' =>
      e = .returned (.bool (ans t u)) ∧ Below w.heap.size w w'

/-- slices.EqualFunc of kids, at a function whose word is known. -/
theorem eqKidsS (f : Nat) (eg : ∀ args w, (callFunc f args).run Try.prog w = .ok (.enter f args) w) (ans : S37 → S37 → Bool) (ts us : List S37) (h : ∀ k ∈ ts, Ty2WordS f ans k) (hs : ∀ k ∈ ts, SmT k) (hu : ∀ k ∈ us, SmT k) (A : Option Addr) (c : Nat) (B : Option Addr) (d : Nat) (W : World)
    (hC : Kd.C k37 W A ts.length ts) (hD : Kd.C k37 W B us.length us) :
    Calls Try.prog 48 #[.slice A ts.length c, .slice B us.length d, .func (.func f) #[] #[]] W fun e W' => e = .returned (.bool (all2 ans ts us)) ∧ Below W.heap.size W W' := by
  obtain ⟨vs, hv, hvK⟩ := els_of_C hC
  obtain ⟨xs, hx, hxK⟩ := els_of_C hD
  have form : ∀ {n : Nat} {ys : List (List Value)} {B : Option Addr} {zs : List S37}, Els 5 W B n ys → zs.length = n → (∀ (i : Nat) x, zs[i]? = some x → ∃ cs, ys[i]? = some cs ∧ k37.K W x cs) → ∀ (j : Nat) cs, ys[j]? = some cs → TyCells cs := by
    intro n ys B zs he hz hK j cs hj
    have hl : j < zs.length := by have := idx_lt hj; have := he.1; omega
    obtain ⟨cs', e, hk⟩ := hK j _ (List.getElem?_eq_getElem hl)
    rw [hj] at e
    cases e
    obtain ⟨A3, c3, A4, c4, rfl, _⟩ := k37_open hk
    exact ⟨_, _, _, _, _, _, _, _, _, rfl⟩
  refine (eqTy f #[] eg A B ts.length c us.length d vs xs W W (fun i W' => Below W.heap.size W W' ∧ ∀ (j : Nat) a b, j < i → ts[j]? = some a → us[j]? = some b → ans a b = true) (fun i W' => Below W.heap.size W W' ∧ ∃ a b, ts[i]? = some a ∧ us[i]? = some b ∧ ans a b = false)
    hv hx (form hv rfl hvK) (form hx rfl hxK) (fun i W' h => h.1) (fun i W1 W2 h hb => ⟨h.1.trans (hb.mono h.1.size), h.2⟩) ?_ ⟨Below.refl _ _, fun j a b hj => absurd hj (Nat.not_lt_zero _)⟩).mono ?_
  · rintro i cs ds W1 hi hj ⟨hb, hn⟩
    have hl : i < ts.length := by have := idx_lt hi; have := hv.1; omega
    have hm : i < us.length := by have := idx_lt hj; have := hx.1; omega
    obtain ⟨cs', e, hK⟩ := hvK i _ (List.getElem?_eq_getElem hl)
    rw [hi] at e
    cases e
    obtain ⟨ds', e, hL⟩ := hxK i _ (List.getElem?_eq_getElem hm)
    rw [hj] at e
    cases e
    obtain ⟨A3, c3, A4, c4, rfl, l3, g3, l4, g4⟩ := k37_open hK
    obtain ⟨B3, d3, B4, d4, rfl, m3, q3, m4, q4⟩ := k37_open hL
    refine (h ts[i] (List.getElem_mem hl) (hs _ (List.getElem_mem hl)) us[i] (hu _ (List.getElem_mem hm)) A3 c3 A4 c4 B3 d3 B4 d4 W1 l3 (Kd.C_below g3 hb) l4 (Kd.C_below g4 hb) m3 (Kd.C_below q3 hb) m4 (Kd.C_below q4 hb)).mono ?_
    rintro e W2 ⟨rfl, hb2⟩
    cases hh : ans ts[i] us[i] with
    | false => exact .inr ⟨rfl, hb.trans (hb2.mono hb.size), _, _, List.getElem?_eq_getElem hl, List.getElem?_eq_getElem hm, hh⟩
    | true =>
      refine .inl ⟨rfl, hb.trans (hb2.mono hb.size), fun j a b hj2 ha hb3 => ?_⟩
      by_cases hji : j = i
      · subst hji
        rw [List.getElem?_eq_getElem hl] at ha
        rw [List.getElem?_eq_getElem hm] at hb3
        cases ha
        cases hb3
        exact hh
      · exact hn j a b (by omega) ha hb3
  · rintro e W1 (⟨rfl, hnm, hb, hn⟩ | ⟨rfl, (⟨hnm, hb, _⟩ | ⟨k, hk, hnm, hb, a, b, ha, hb2, hh⟩)⟩)
    · exact ⟨by rw [all2_true hnm (fun j a b ha hb => hn j a b (idx_lt ha) ha hb)], hb⟩
    · exact ⟨by rw [all2_len hnm], hb⟩
    · exact ⟨by rw [all2_false ha hb2 hh], hb⟩


def Bind2WordS (f : Nat) (ans : S39 → S39 → Bool) : Prop :=
  ∀ (a b : S39), SmT a.f1 → SmT b.f1 → ∀ (A4 : Option Addr) (c4 : Nat) (A5 : Option Addr) (c5 : Nat) (B4 : Option Addr) (d4 : Nat) (B5 : Option Addr) (d5 : Nat) (w : World),
    a.f1.f3.length ≤ c4 → Kd.C k27 w A4 a.f1.f3.length a.f1.f3 → a.f1.f4.length ≤ c5 → Kd.C k37 w A5 a.f1.f4.length a.f1.f4 →
    b.f1.f3.length ≤ d4 → Kd.C k27 w B4 b.f1.f3.length b.f1.f3 → b.f1.f4.length ≤ d5 → Kd.C k37 w B5 b.f1.f4.length b.f1.f4 →
    Calls Try.prog f #[.agg #[.string a.f0, .int .i64 a.f1.f0, .bool a.f1.f1, .bool a.f1.f2, .slice A4 a.f1.f3.length c4, .slice A5 a.f1.f4.length c5], .agg #[.string b.f0, .int .i64 b.f1.f0, .bool b.f1.f1, .bool b.f1.f2, .slice B4 b.f1.f3.length d4, .slice B5 b.f1.f4.length d5]] w fun e w' => e = .returned (.bool (ans a b)) ∧ Below w.heap.size w w'

/-- slices.EqualFunc of binds, at a function whose word is known. -/
theorem eqBindsS (f : Nat) (eg : ∀ args w, (callFunc f args).run Try.prog w = .ok (.enter f args) w) (ans : S39 → S39 → Bool) (ts us : List S39) (h : Bind2WordS f ans) (hs : ∀ k ∈ ts, SmT k.f1) (hu : ∀ k ∈ us, SmT k.f1) (A : Option Addr) (c : Nat) (B : Option Addr) (d : Nat) (W : World)
    (hC : Kd.C k39 W A ts.length ts) (hD : Kd.C k39 W B us.length us) :
    Calls Try.prog 30 #[.slice A ts.length c, .slice B us.length d, .func (.func f) #[] #[]] W fun e W' => e = .returned (.bool (all2 ans ts us)) ∧ Below W.heap.size W W' := by
  obtain ⟨vs, hv, hvK⟩ := els_of_C hC
  obtain ⟨xs, hx, hxK⟩ := els_of_C hD
  have form : ∀ {n : Nat} {ys : List (List Value)} {B : Option Addr} {zs : List S39}, Els 6 W B n ys → zs.length = n → (∀ (i : Nat) x, zs[i]? = some x → ∃ cs, ys[i]? = some cs ∧ k39.K W x cs) → ∀ (j : Nat) cs, ys[j]? = some cs → BindCells cs := by
    intro n ys B zs he hz hK j cs hj
    have hl : j < zs.length := by have := idx_lt hj; have := he.1; omega
    obtain ⟨cs', e, hk⟩ := hK j _ (List.getElem?_eq_getElem hl)
    rw [hj] at e
    cases e
    obtain ⟨A3, c3, A4, c4, rfl, _⟩ := k39_open hk
    exact ⟨_, _, _, _, _, _, _, _, _, _, rfl⟩
  refine (eqBind f #[] eg A B ts.length c us.length d vs xs W W (fun i W' => Below W.heap.size W W' ∧ ∀ (j : Nat) a b, j < i → ts[j]? = some a → us[j]? = some b → ans a b = true) (fun i W' => Below W.heap.size W W' ∧ ∃ a b, ts[i]? = some a ∧ us[i]? = some b ∧ ans a b = false)
    hv hx (form hv rfl hvK) (form hx rfl hxK) (fun i W' h => h.1) (fun i W1 W2 h hb => ⟨h.1.trans (hb.mono h.1.size), h.2⟩) ?_ ⟨Below.refl _ _, fun j a b hj => absurd hj (Nat.not_lt_zero _)⟩).mono ?_
  · rintro i cs ds W1 hi hj ⟨hb, hn⟩
    have hl : i < ts.length := by have := idx_lt hi; have := hv.1; omega
    have hm : i < us.length := by have := idx_lt hj; have := hx.1; omega
    obtain ⟨cs', e, hK⟩ := hvK i _ (List.getElem?_eq_getElem hl)
    rw [hi] at e
    cases e
    obtain ⟨ds', e, hL⟩ := hxK i _ (List.getElem?_eq_getElem hm)
    rw [hj] at e
    cases e
    obtain ⟨A3, c3, A4, c4, rfl, l3, g3, l4, g4⟩ := k39_open hK
    obtain ⟨B3, d3, B4, d4, rfl, m3, q3, m4, q4⟩ := k39_open hL
    refine (h ts[i] us[i] (hs _ (List.getElem_mem hl)) (hu _ (List.getElem_mem hm)) A3 c3 A4 c4 B3 d3 B4 d4 W1 l3 (Kd.C_below g3 hb) l4 (Kd.C_below g4 hb) m3 (Kd.C_below q3 hb) m4 (Kd.C_below q4 hb)).mono ?_
    rintro e W2 ⟨rfl, hb2⟩
    cases hh : ans ts[i] us[i] with
    | false => exact .inr ⟨rfl, hb.trans (hb2.mono hb.size), _, _, List.getElem?_eq_getElem hl, List.getElem?_eq_getElem hm, hh⟩
    | true =>
      refine .inl ⟨rfl, hb.trans (hb2.mono hb.size), fun j a b hj2 ha hb3 => ?_⟩
      by_cases hji : j = i
      · subst hji
        rw [List.getElem?_eq_getElem hl] at ha
        rw [List.getElem?_eq_getElem hm] at hb3
        cases ha
        cases hb3
        exact hh
      · exact hn j a b (by omega) ha hb3
  · rintro e W1 (⟨rfl, hnm, hb, hn⟩ | ⟨rfl, (⟨hnm, hb, _⟩ | ⟨k, hk, hnm, hb, a, b, ha, hb2, hh⟩)⟩)
    · exact ⟨by rw [all2_true hnm (fun j a b ha hb => hn j a b (idx_lt ha) ha hb)], hb⟩
    · exact ⟨by rw [all2_len hnm], hb⟩
    · exact ⟨by rw [all2_false ha hb2 hh], hb⟩

end Go.Proofs.Ytadjekpfehjibaa.PEnv

namespace Go.Proofs.Ytadjekpfehjibaa.PEnv
open Go.RowKit Go.Shelf Go.Lib Go.Proofs.YtadjekpfehjibaaW.PrintWords Go.Proofs.YtadjekpfehjibaaW.PrintLast Go.Proofs.YtadjekpfehjibaaW.PrintMore Go.Proofs.Ytadjekpfehjibaa.PEnvHits
set_option linter.unusedVariables false
set_option linter.unusedSimpArgs false

def less_T : Bool × List (List Nat × List Nat) := (true, [([], []), ([0], [0]), ([1], [1]), ([2], [2]), ([3, 2], [2, 3]), ([4, 2], [2, 4]), ([2, 5], [2, 5]), ([6, 2], [6]), ([7], [7]), ([8, 7], [7, 8]), ([7], [7]), ([10, 7], [7, 10]), ([9, 11, 7, 7], [7, 9, 11]), ([12, 7], [7, 12]), ([7], [7]), ([14, 7], [7, 14]), ([15, 7], [7, 15]), ([13, 16, 7], [7, 13, 16]), ([7, 17], [7, 17])])
def less_B : List Nat := [0, 1, 3, 7, 15, 31, 63, 127, 255, 511, 255, 1279, 4095, 8191, 255, 16639, 49407, 131071, 262143]
theorem less_tab : rtab .any (opsOf Try.f32 1) = less_T := by kernel_rfl
theorem less_bits : waitsOk less_T.2 less_B = true := by kernel_rfl

set_option maxHeartbeats 8000000 in
set_option maxRecDepth 100000 in
theorem less_tf (w : World) (A3 : Option Addr) (c3 : Nat) (A4 : Option Addr) (c4 : Nat) (B3 : Option Addr) (d3 : Nat) (B4 : Option Addr) (d4 : Nat) (t0 u0 : Int) (t1 u1 : Bool) (n3 n4 m3 m4 L : Nat) :
    Calls Try.prog 32 #[.agg #[.int .i64 t0, .bool t1, .bool true, .slice A3 n3 c3, .slice A4 n4 c4], .agg #[.int .i64 u0, .bool u1, .bool false, .slice B3 m3 d3, .slice B4 m4 d4]] w fun e w' => e = .returned (.bool false) ∧ Below w.heap.size w w' := by
  have hb2 : Below w.heap.size w ((w.alloc (.cells #[.int .i64 t0, .bool t1, .bool true, .slice A3 n3 c3, .slice A4 n4 c4] 37)).alloc (.cells #[.int .i64 u0, .bool u1, .bool false, .slice B3 m3 d3, .slice B4 m4 d4] 37)) := ((Below.refl _ w).alloc (Nat.le_refl _) _).alloc (by simp) _
  have e1 := World.alloc_heap_new (w.alloc (.cells #[.int .i64 t0, .bool t1, .bool true, .slice A3 n3 c3, .slice A4 n4 c4] 37)) (.cells #[.int .i64 u0, .bool u1, .bool false, .slice B3 m3 d3, .slice B4 m4 d4] 37)
  have hsz : (w.alloc (.cells #[.int .i64 t0, .bool t1, .bool true, .slice A3 n3 c3, .slice A4 n4 c4] 37)).heap.size = w.heap.size + 1 := by simp
  have e0 : ((w.alloc (.cells #[.int .i64 t0, .bool t1, .bool true, .slice A3 n3 c3, .slice A4 n4 c4] 37)).alloc (.cells #[.int .i64 u0, .bool u1, .bool false, .slice B3 m3 d3, .slice B4 m4 d4] 37)).heap[w.heap.size]? = some (.cells #[.int .i64 t0, .bool t1, .bool true, .slice A3 n3 c3, .slice A4 n4 c4] 37) := by
    rw [heap_alloc_old _ _ (by simp)]
    exact World.alloc_heap_new w _
  rw [hsz] at e1
  obtain ⟨W2, hW2⟩ : ∃ W2, ((w.alloc (.cells #[.int .i64 t0, .bool t1, .bool true, .slice A3 n3 c3, .slice A4 n4 c4] 37)).alloc (.cells #[.int .i64 u0, .bool u1, .bool false, .slice B3 m3 d3, .slice B4 m4 d4] 37)) = W2 := ⟨_, rfl⟩
  rw [hW2] at hb2 e1 e0
  have q2 : W2.cell? ⟨w.heap.size, 2, none⟩ = some (.bool true) := by unfold World.cell?; rw [e0]; rfl
  have q3 : W2.cell? ⟨w.heap.size, 3, none⟩ = some (.slice A3 n3 c3) := by unfold World.cell?; rw [e0]; rfl
  have q4 : W2.cell? ⟨w.heap.size, 4, none⟩ = some (.slice A4 n4 c4) := by unfold World.cell?; rw [e0]; rfl
  have r2 : W2.cell? ⟨w.heap.size + 1, 2, none⟩ = some (.bool false) := by unfold World.cell?; rw [e1]; rfl
  have r3 : W2.cell? ⟨w.heap.size + 1, 3, none⟩ = some (.slice B3 m3 d3) := by unfold World.cell?; rw [e1]; rfl
  have r4 : W2.cell? ⟨w.heap.size + 1, 4, none⟩ = some (.slice B4 m4 d4) := by unfold World.cell?; rw [e1]; rfl
  clear e0 e1 hsz
  go_enter Try.func32, Try.ntmps32
  go_upto_region 1 with fail
  clear hW2
  generalize w.heap.size + 1 = b1 at *
  obtain ⟨b0, hb0⟩ : ∃ b0, w.heap.size = b0 := ⟨_, rfl⟩
  rw [hb0] at q2 q3 q4
  simp only [hb0]
  refine start_ (n := 19) (S := fun w' => w'.cell? ⟨b0, 2, none⟩ = some (.bool true) ∧ w'.cell? ⟨b1, 2, none⟩ = some (.bool false) ∧ w'.cell? ⟨b0, 3, none⟩ = some (.slice A3 n3 c3) ∧ w'.cell? ⟨b1, 3, none⟩ = some (.slice B3 m3 d3)) (ds := []) #[false, false, false, false, false, false, false, false, false, false, false, false, false, false, false, false, false, false, false] (by kernel_rfl) rfl rfl ⟨q2, r2, q3, r3⟩ (fun hHeld => ?_); refine with_tabW less_tab less_bits (fun HT_ HW_ => ?_)
  have hb3 := Aside0.mk (below_drew1 hb2)
  have q4' := Aside0.mk (show W2.drew.cell? ⟨b0, 4, none⟩ = some (.slice A4 n4 c4) from q4)
  have r4' := Aside0.mk (show W2.drew.cell? ⟨b1, 4, none⟩ = some (.slice B4 m4 d4) from r4)
  clear hb2 q2 r2 q3 r3 q4 r4
  generalize W2.drew = W3 at hb3 q4' r4' hHeld ⊢
  refine pure_ (i := 0) (N := some 5) (v := ?_) (a' := ?_) #[true, false, false, false, false, false, false, false, false, false, false, false, false, false, false, false, false, false, false] rfl rfl (any_of HT_.out (by kernel_rfl)) (fun _ _ _ h => h) (Or.inl ⟨by rfl, ?_⟩) ?_ ?_
  rotate_left
  · intro w'
    go_simp
    with_reducible rfl
  rotate_left
  · simp only [Act.put, List.setIfInBounds_toArray, List.set_cons_zero, List.set_cons_succ, i64_w, i32_w]
    rfl
  refine take_ (i := 1) (N := some 6) (v := ?_) (a' := ?_) #[true, true, false, false, false, false, false, false, false, false, false, false, false, false, false, false, false, false, false] rfl rfl (take_ofW HT_.out HW_.out (by kernel_rfl)) (fun _ _ _ h => h) (Or.inl ⟨by rfl, ?_⟩) hHeld ?_ ?_
  rotate_left
  · rintro w' ⟨s0, s1, s2, s3⟩
    go_simp
    with_reducible rfl
  rotate_left
  · simp only [Act.put, List.setIfInBounds_toArray, List.set_cons_zero, List.set_cons_succ, i64_w, i32_w]
    rfl
  refine pure_ (i := 2) (N := some 7) (v := ?_) (a' := ?_) #[true, true, true, false, false, false, false, false, false, false, false, false, false, false, false, false, false, false, false] rfl rfl (any_of HT_.out (by kernel_rfl)) (fun _ _ _ h => h) (Or.inl ⟨by rfl, ?_⟩) ?_ ?_
  rotate_left
  · intro w'
    go_simp
    with_reducible rfl
  rotate_left
  · simp only [Act.put, List.setIfInBounds_toArray, List.set_cons_zero, List.set_cons_succ, i64_w, i32_w]
    rfl
  refine pure_ (i := 3) (N := some 8) (v := ?_) (a' := ?_) #[true, true, true, true, false, false, false, false, false, false, false, false, false, false, false, false, false, false, false] rfl rfl (any_of HT_.out (by kernel_rfl)) (fun _ _ _ h => h) (Or.inl ⟨by rfl, ?_⟩) ?_ ?_
  rotate_left
  · intro w'
    go_simp
    with_reducible rfl
  rotate_left
  · simp only [Act.put, List.setIfInBounds_toArray, List.set_cons_zero, List.set_cons_succ, i64_w, i32_w]
    rfl
  refine take_ (i := 4) (N := some 9) (v := ?_) (a' := ?_) #[true, true, true, true, true, false, false, false, false, false, false, false, false, false, false, false, false, false, false] rfl rfl (take_ofW HT_.out HW_.out (by kernel_rfl)) (fun _ _ _ h => h) (Or.inl ⟨by rfl, ?_⟩) hHeld ?_ ?_
  rotate_left
  · rintro w' ⟨s0, s1, s2, s3⟩
    go_simp
    with_reducible rfl
  rotate_left
  · simp only [Act.put, List.setIfInBounds_toArray, List.set_cons_zero, List.set_cons_succ, i64_w, i32_w]
    rfl
  refine pure_ (i := 5) (N := some 10) (v := ?_) (a' := ?_) #[true, true, true, true, true, true, false, false, false, false, false, false, false, false, false, false, false, false, false] rfl rfl (any_of HT_.out (by kernel_rfl)) (fun _ _ _ h => h) (Or.inl ⟨by rfl, ?_⟩) ?_ ?_
  rotate_left
  · intro w'
    go_simp
    with_reducible rfl
  rotate_left
  · simp only [Act.put, List.setIfInBounds_toArray, List.set_cons_zero, List.set_cons_succ, i64_w, i32_w]
    rfl
  refine pure_ (i := 6) (N := some 11) (v := ?_) (a' := ?_) #[true, true, true, true, true, true, true, false, false, false, false, false, false, false, false, false, false, false, false] rfl rfl (any_of HT_.out (by kernel_rfl)) (fun _ _ _ h => h) (Or.inl ⟨by rfl, ?_⟩) ?_ ?_
  rotate_left
  · intro w'
    go_simp
    with_reducible rfl
  rotate_left
  · simp only [Act.put, List.setIfInBounds_toArray, List.set_cons_zero, List.set_cons_succ, i64_w, i32_w]
    rfl
  refine pure_ (i := 7) (N := some 12) (v := ?_) (a' := ?_) #[true, true, true, true, true, true, true, true, false, false, false, false, false, false, false, false, false, false, false] rfl rfl (any_of HT_.out (by kernel_rfl)) (fun _ _ _ h => h) (Or.inl ⟨by rfl, ?_⟩) ?_ ?_
  rotate_left
  · intro w'
    go_simp
    with_reducible rfl
  rotate_left
  · simp only [Act.put, List.setIfInBounds_toArray, List.set_cons_zero, List.set_cons_succ, i64_w, i32_w]
    rfl
  refine pure_ (i := 8) (N := some 13) (v := undef) (a' := ?_) #[true, true, true, true, true, true, true, true, true, false, false, false, false, false, false, false, false, false, false] rfl rfl (any_of HT_.out (by kernel_rfl)) (fun _ _ _ h => h) (Or.inr ⟨by rfl, rfl⟩) ?_ ?_
  rotate_left
  · simp only [Act.put, List.setIfInBounds_toArray, List.set_cons_zero, List.set_cons_succ, i64_w, i32_w]
    rfl
  refine pure_ (i := 9) (N := some 14) (v := undef) (a' := ?_) #[true, true, true, true, true, true, true, true, true, true, false, false, false, false, false, false, false, false, false] rfl rfl (any_of HT_.out (by kernel_rfl)) (fun _ _ _ h => h) (Or.inr ⟨by rfl, rfl⟩) ?_ ?_
  rotate_left
  · simp only [Act.put, List.setIfInBounds_toArray, List.set_cons_zero, List.set_cons_succ, i64_w, i32_w]
    rfl
  refine pure_ (i := 10) (N := some 15) (v := undef) (a' := ?_) #[true, true, true, true, true, true, true, true, true, true, true, false, false, false, false, false, false, false, false] rfl rfl (any_of HT_.out (by kernel_rfl)) (fun _ _ _ h => h) (Or.inr ⟨by rfl, rfl⟩) ?_ ?_
  rotate_left
  · simp only [Act.put, List.setIfInBounds_toArray, List.set_cons_zero, List.set_cons_succ, i64_w, i32_w]
    rfl
  refine pure_ (i := 11) (N := some 16) (v := undef) (a' := ?_) #[true, true, true, true, true, true, true, true, true, true, true, true, false, false, false, false, false, false, false] rfl rfl (any_of HT_.out (by kernel_rfl)) (fun _ _ _ h => h) (Or.inr ⟨by rfl, rfl⟩) ?_ ?_
  rotate_left
  · simp only [Act.put, List.setIfInBounds_toArray, List.set_cons_zero, List.set_cons_succ, i64_w, i32_w]
    rfl
  refine pure_ (i := 12) (N := some 17) (v := undef) (a' := ?_) #[true, true, true, true, true, true, true, true, true, true, true, true, true, false, false, false, false, false, false] rfl rfl (any_of HT_.out (by kernel_rfl)) (fun _ _ _ h => h) (Or.inr ⟨by rfl, rfl⟩) ?_ ?_
  rotate_left
  · simp only [Act.put, List.setIfInBounds_toArray, List.set_cons_zero, List.set_cons_succ, i64_w, i32_w]
    rfl
  refine pure_ (i := 13) (N := some 18) (v := undef) (a' := ?_) #[true, true, true, true, true, true, true, true, true, true, true, true, true, true, false, false, false, false, false] rfl rfl (any_of HT_.out (by kernel_rfl)) (fun _ _ _ h => h) (Or.inr ⟨by rfl, rfl⟩) ?_ ?_
  rotate_left
  · simp only [Act.put, List.setIfInBounds_toArray, List.set_cons_zero, List.set_cons_succ, i64_w, i32_w]
    rfl
  refine pure_ (i := 14) (N := some 19) (v := undef) (a' := ?_) #[true, true, true, true, true, true, true, true, true, true, true, true, true, true, true, false, false, false, false] rfl rfl (any_of HT_.out (by kernel_rfl)) (fun _ _ _ h => h) (Or.inr ⟨by rfl, rfl⟩) ?_ ?_
  rotate_left
  · simp only [Act.put, List.setIfInBounds_toArray, List.set_cons_zero, List.set_cons_succ, i64_w, i32_w]
    rfl
  refine pure_ (i := 15) (N := some 20) (v := undef) (a' := ?_) #[true, true, true, true, true, true, true, true, true, true, true, true, true, true, true, true, false, false, false] rfl rfl (any_of HT_.out (by kernel_rfl)) (fun _ _ _ h => h) (Or.inr ⟨by rfl, rfl⟩) ?_ ?_
  rotate_left
  · simp only [Act.put, List.setIfInBounds_toArray, List.set_cons_zero, List.set_cons_succ, i64_w, i32_w]
    rfl
  refine pure_ (i := 16) (N := some 21) (v := undef) (a' := ?_) #[true, true, true, true, true, true, true, true, true, true, true, true, true, true, true, true, true, false, false] rfl rfl (any_of HT_.out (by kernel_rfl)) (fun _ _ _ h => h) (Or.inr ⟨by rfl, rfl⟩) ?_ ?_
  rotate_left
  · simp only [Act.put, List.setIfInBounds_toArray, List.set_cons_zero, List.set_cons_succ, i64_w, i32_w]
    rfl
  refine pure_ (i := 17) (N := some 22) (v := undef) (a' := ?_) #[true, true, true, true, true, true, true, true, true, true, true, true, true, true, true, true, true, true, false] rfl rfl (any_of HT_.out (by kernel_rfl)) (fun _ _ _ h => h) (Or.inr ⟨by rfl, rfl⟩) ?_ ?_
  rotate_left
  · simp only [Act.put, List.setIfInBounds_toArray, List.set_cons_zero, List.set_cons_succ, i64_w, i32_w]
    rfl
  refine pure_ (i := 18) (N := some 23) (v := ?_) (a' := ?_) #[true, true, true, true, true, true, true, true, true, true, true, true, true, true, true, true, true, true, true] rfl rfl (any_of HT_.out (by kernel_rfl)) (fun _ _ _ h => h) (Or.inl ⟨by rfl, ?_⟩) ?_ ?_
  rotate_left
  · intro w'
    go_simp
    with_reducible rfl
  rotate_left
  · simp only [Act.put, List.setIfInBounds_toArray, List.set_cons_zero, List.set_cons_succ, i64_w, i32_w]
    rfl
  refine done_ (done_of HT_.out (by kernel_rfl)) ?_
  go_wp2
  go_ret
  exact ⟨rfl, hb3.out⟩

set_option maxHeartbeats 8000000 in
set_option maxRecDepth 100000 in
theorem less_ff (w : World) (A3 : Option Addr) (c3 : Nat) (A4 : Option Addr) (c4 : Nat) (B3 : Option Addr) (d3 : Nat) (B4 : Option Addr) (d4 : Nat) (t0 u0 : Int) (t1 u1 : Bool) (n3 n4 m3 m4 L : Nat) (hmerge : ∀ W, Below w.heap.size w W → Calls Try.prog 47 #[.slice A3 n3 c3, .slice B3 m3 d3, .func (.func 8) #[] #[]] W fun e w' => ∃ X cap, e = .returned (.slice X L cap) ∧ Below W.heap.size W w')
    (R : Bool) (hkids : ∀ W, Below w.heap.size w W → Calls Try.prog 48 #[.slice A4 n4 c4, .slice B4 m4 d4, .func (.func 32) #[] #[]] W fun e w' => e = .returned (.bool R) ∧ Below W.heap.size W w') :
    Calls Try.prog 32 #[.agg #[.int .i64 t0, .bool t1, .bool false, .slice A3 n3 c3, .slice A4 n4 c4], .agg #[.int .i64 u0, .bool u1, .bool false, .slice B3 m3 d3, .slice B4 m4 d4]] w fun e w' => e = .returned (.bool (!decide (m3 < L) && R)) ∧ Below w.heap.size w w' := by
  have hb2 : Below w.heap.size w ((w.alloc (.cells #[.int .i64 t0, .bool t1, .bool false, .slice A3 n3 c3, .slice A4 n4 c4] 37)).alloc (.cells #[.int .i64 u0, .bool u1, .bool false, .slice B3 m3 d3, .slice B4 m4 d4] 37)) := ((Below.refl _ w).alloc (Nat.le_refl _) _).alloc (by simp) _
  have e1 := World.alloc_heap_new (w.alloc (.cells #[.int .i64 t0, .bool t1, .bool false, .slice A3 n3 c3, .slice A4 n4 c4] 37)) (.cells #[.int .i64 u0, .bool u1, .bool false, .slice B3 m3 d3, .slice B4 m4 d4] 37)
  have hsz : (w.alloc (.cells #[.int .i64 t0, .bool t1, .bool false, .slice A3 n3 c3, .slice A4 n4 c4] 37)).heap.size = w.heap.size + 1 := by simp
  have e0 : ((w.alloc (.cells #[.int .i64 t0, .bool t1, .bool false, .slice A3 n3 c3, .slice A4 n4 c4] 37)).alloc (.cells #[.int .i64 u0, .bool u1, .bool false, .slice B3 m3 d3, .slice B4 m4 d4] 37)).heap[w.heap.size]? = some (.cells #[.int .i64 t0, .bool t1, .bool false, .slice A3 n3 c3, .slice A4 n4 c4] 37) := by
    rw [heap_alloc_old _ _ (by simp)]
    exact World.alloc_heap_new w _
  rw [hsz] at e1
  obtain ⟨W2, hW2⟩ : ∃ W2, ((w.alloc (.cells #[.int .i64 t0, .bool t1, .bool false, .slice A3 n3 c3, .slice A4 n4 c4] 37)).alloc (.cells #[.int .i64 u0, .bool u1, .bool false, .slice B3 m3 d3, .slice B4 m4 d4] 37)) = W2 := ⟨_, rfl⟩
  rw [hW2] at hb2 e1 e0
  have q2 : W2.cell? ⟨w.heap.size, 2, none⟩ = some (.bool false) := by unfold World.cell?; rw [e0]; rfl
  have q3 : W2.cell? ⟨w.heap.size, 3, none⟩ = some (.slice A3 n3 c3) := by unfold World.cell?; rw [e0]; rfl
  have q4 : W2.cell? ⟨w.heap.size, 4, none⟩ = some (.slice A4 n4 c4) := by unfold World.cell?; rw [e0]; rfl
  have r2 : W2.cell? ⟨w.heap.size + 1, 2, none⟩ = some (.bool false) := by unfold World.cell?; rw [e1]; rfl
  have r3 : W2.cell? ⟨w.heap.size + 1, 3, none⟩ = some (.slice B3 m3 d3) := by unfold World.cell?; rw [e1]; rfl
  have r4 : W2.cell? ⟨w.heap.size + 1, 4, none⟩ = some (.slice B4 m4 d4) := by unfold World.cell?; rw [e1]; rfl
  obtain ⟨bb, hbb⟩ : ∃ bb, decide (m3 < L) = bb := ⟨_, rfl⟩
  rw [hbb]
  have hbi : decide ((L : Int) > (m3 : Int)) = bb := by rw [← hbb]; exact decide_eq_decide.mpr (by omega)
  have hbj : decide ((m3 : Int) < (L : Int)) = bb := by rw [← hbb]; exact decide_eq_decide.mpr (by omega)
  clear e0 e1 hsz
  go_enter Try.func32, Try.ntmps32
  go_upto_region 1 with fail
  clear hW2
  generalize w.heap.size + 1 = b1 at *
  obtain ⟨b0, hb0⟩ : ∃ b0, w.heap.size = b0 := ⟨_, rfl⟩
  rw [hb0] at q2 q3 q4
  simp only [hb0]
  refine start_ (n := 19) (S := fun w' => w'.cell? ⟨b0, 2, none⟩ = some (.bool false) ∧ w'.cell? ⟨b1, 2, none⟩ = some (.bool false) ∧ w'.cell? ⟨b0, 3, none⟩ = some (.slice A3 n3 c3) ∧ w'.cell? ⟨b1, 3, none⟩ = some (.slice B3 m3 d3)) (ds := []) #[false, false, false, false, false, false, false, false, false, false, false, false, false, false, false, false, false, false, false] (by kernel_rfl) rfl rfl ⟨q2, r2, q3, r3⟩ (fun hHeld => ?_); refine with_tabW less_tab less_bits (fun HT_ HW_ => ?_)
  have hb3 := Aside0.mk (below_drew1 hb2)
  have q4' := Aside0.mk (show W2.drew.cell? ⟨b0, 4, none⟩ = some (.slice A4 n4 c4) from q4)
  have r4' := Aside0.mk (show W2.drew.cell? ⟨b1, 4, none⟩ = some (.slice B4 m4 d4) from r4)
  clear hb2 q2 r2 q3 r3 q4 r4
  generalize W2.drew = W3 at hb3 q4' r4' hHeld ⊢
  refine pure_ (i := 0) (N := some 5) (v := ?_) (a' := ?_) #[true, false, false, false, false, false, false, false, false, false, false, false, false, false, false, false, false, false, false] rfl rfl (any_of HT_.out (by kernel_rfl)) (fun _ _ _ h => h) (Or.inl ⟨by rfl, ?_⟩) ?_ ?_
  rotate_left
  · intro w'
    go_simp
    with_reducible rfl
  rotate_left
  · simp only [Act.put, List.setIfInBounds_toArray, List.set_cons_zero, List.set_cons_succ, i64_w, i32_w]
    rfl
  refine take_ (i := 1) (N := some 6) (v := ?_) (a' := ?_) #[true, true, false, false, false, false, false, false, false, false, false, false, false, false, false, false, false, false, false] rfl rfl (take_ofW HT_.out HW_.out (by kernel_rfl)) (fun _ _ _ h => h) (Or.inl ⟨by rfl, ?_⟩) hHeld ?_ ?_
  rotate_left
  · rintro w' ⟨s0, s1, s2, s3⟩
    go_simp
    with_reducible rfl
  rotate_left
  · simp only [Act.put, List.setIfInBounds_toArray, List.set_cons_zero, List.set_cons_succ, i64_w, i32_w]
    rfl
  refine pure_ (i := 2) (N := some 7) (v := ?_) (a' := ?_) #[true, true, true, false, false, false, false, false, false, false, false, false, false, false, false, false, false, false, false] rfl rfl (any_of HT_.out (by kernel_rfl)) (fun _ _ _ h => h) (Or.inl ⟨by rfl, ?_⟩) ?_ ?_
  rotate_left
  · intro w'
    go_simp
    with_reducible rfl
  rotate_left
  · simp only [Act.put, List.setIfInBounds_toArray, List.set_cons_zero, List.set_cons_succ, i64_w, i32_w]
    rfl
  refine pure_ (i := 3) (N := some 8) (v := undef) (a' := ?_) #[true, true, true, true, false, false, false, false, false, false, false, false, false, false, false, false, false, false, false] rfl rfl (any_of HT_.out (by kernel_rfl)) (fun _ _ _ h => h) (Or.inr ⟨by rfl, rfl⟩) ?_ ?_
  rotate_left
  · simp only [Act.put, List.setIfInBounds_toArray, List.set_cons_zero, List.set_cons_succ, i64_w, i32_w]
    rfl
  refine pure_ (i := 4) (N := some 9) (v := undef) (a' := ?_) #[true, true, true, true, true, false, false, false, false, false, false, false, false, false, false, false, false, false, false] rfl rfl (any_of HT_.out (by kernel_rfl)) (fun _ _ _ h => h) (Or.inr ⟨by rfl, rfl⟩) ?_ ?_
  rotate_left
  · simp only [Act.put, List.setIfInBounds_toArray, List.set_cons_zero, List.set_cons_succ, i64_w, i32_w]
    rfl
  refine pure_ (i := 5) (N := some 10) (v := undef) (a' := ?_) #[true, true, true, true, true, true, false, false, false, false, false, false, false, false, false, false, false, false, false] rfl rfl (any_of HT_.out (by kernel_rfl)) (fun _ _ _ h => h) (Or.inr ⟨by rfl, rfl⟩) ?_ ?_
  rotate_left
  · simp only [Act.put, List.setIfInBounds_toArray, List.set_cons_zero, List.set_cons_succ, i64_w, i32_w]
    rfl
  refine pure_ (i := 6) (N := some 11) (v := ?_) (a' := ?_) #[true, true, true, true, true, true, true, false, false, false, false, false, false, false, false, false, false, false, false] rfl rfl (any_of HT_.out (by kernel_rfl)) (fun _ _ _ h => h) (Or.inl ⟨by rfl, ?_⟩) ?_ ?_
  rotate_left
  · intro w'
    go_simp
    with_reducible rfl
  rotate_left
  · simp only [Act.put, List.setIfInBounds_toArray, List.set_cons_zero, List.set_cons_succ, i64_w, i32_w]
    rfl
  refine pure_ (i := 7) (N := some 12) (v := ?_) (a' := ?_) #[true, true, true, true, true, true, true, true, false, false, false, false, false, false, false, false, false, false, false] rfl rfl (any_of HT_.out (by kernel_rfl)) (fun _ _ _ h => h) (Or.inl ⟨by rfl, ?_⟩) ?_ ?_
  rotate_left
  · intro w'
    go_simp
    with_reducible rfl
  rotate_left
  · simp only [Act.put, List.setIfInBounds_toArray, List.set_cons_zero, List.set_cons_succ, i64_w, i32_w]
    rfl
  refine pure_ (i := 8) (N := some 13) (v := ?_) (a' := ?_) #[true, true, true, true, true, true, true, true, true, false, false, false, false, false, false, false, false, false, false] rfl rfl (any_of HT_.out (by kernel_rfl)) (fun _ _ _ h => h) (Or.inl ⟨by rfl, ?_⟩) ?_ ?_
  rotate_left
  · intro w'
    go_simp
    with_reducible rfl
  rotate_left
  · simp only [Act.put, List.setIfInBounds_toArray, List.set_cons_zero, List.set_cons_succ, i64_w, i32_w]
    rfl
  refine take_ (i := 9) (N := some 14) (v := ?_) (a' := ?_) #[true, true, true, true, true, true, true, true, true, true, false, false, false, false, false, false, false, false, false] rfl rfl (take_ofW HT_.out HW_.out (by kernel_rfl)) (fun _ _ _ h => h) (Or.inl ⟨by rfl, ?_⟩) hHeld ?_ ?_
  rotate_left
  · rintro w' ⟨s0, s1, s2, s3⟩
    go_simp
    with_reducible rfl
  rotate_left
  · simp only [Act.put, List.setIfInBounds_toArray, List.set_cons_zero, List.set_cons_succ, i64_w, i32_w]
    rfl
  refine pure_ (i := 10) (N := some 15) (v := ?_) (a' := ?_) #[true, true, true, true, true, true, true, true, true, true, true, false, false, false, false, false, false, false, false] rfl rfl (any_of HT_.out (by kernel_rfl)) (fun _ _ _ h => h) (Or.inl ⟨by rfl, ?_⟩) ?_ ?_
  rotate_left
  · intro w'
    go_simp
    with_reducible rfl
  rotate_left
  · simp only [Act.put, List.setIfInBounds_toArray, List.set_cons_zero, List.set_cons_succ, i64_w, i32_w]
    rfl
  refine take_ (i := 11) (N := some 16) (v := ?_) (a' := ?_) #[true, true, true, true, true, true, true, true, true, true, true, true, false, false, false, false, false, false, false] rfl rfl (take_ofW HT_.out HW_.out (by kernel_rfl)) (fun _ _ _ h => h) (Or.inl ⟨by rfl, ?_⟩) hHeld ?_ ?_
  rotate_left
  · rintro w' ⟨s0, s1, s2, s3⟩
    go_simp
    with_reducible rfl
  rotate_left
  · simp only [Act.put, List.setIfInBounds_toArray, List.set_cons_zero, List.set_cons_succ, i64_w, i32_w]
    rfl
  refine pure_ (i := 14) (N := some 19) (v := ?_) (a' := ?_) #[true, true, true, true, true, true, true, true, true, true, true, true, false, false, true, false, false, false, false] rfl rfl (any_of HT_.out (by kernel_rfl)) (fun _ _ _ h => h) (Or.inl ⟨by rfl, ?_⟩) ?_ ?_
  rotate_left
  · intro w'
    go_simp
    with_reducible rfl
  rotate_left
  · simp only [Act.put, List.setIfInBounds_toArray, List.set_cons_zero, List.set_cons_succ, i64_w, i32_w]
    rfl
  refine take_ (i := 15) (N := some 20) (v := ?_) (a' := ?_) #[true, true, true, true, true, true, true, true, true, true, true, true, false, false, true, true, false, false, false] rfl rfl (take_ofW HT_.out HW_.out (by kernel_rfl)) (fun _ _ _ h => h) (Or.inl ⟨by rfl, ?_⟩) hHeld ?_ ?_
  rotate_left
  · rintro w' ⟨s0, s1, s2, s3⟩
    go_simp
    with_reducible rfl
  rotate_left
  · simp only [Act.put, List.setIfInBounds_toArray, List.set_cons_zero, List.set_cons_succ, i64_w, i32_w]
    rfl
  refine pure_ (i := 16) (N := some 21) (v := ?_) (a' := ?_) #[true, true, true, true, true, true, true, true, true, true, true, true, false, false, true, true, true, false, false] rfl rfl (any_of HT_.out (by kernel_rfl)) (fun _ _ _ h => h) (Or.inl ⟨by rfl, ?_⟩) ?_ ?_
  rotate_left
  · intro w'
    go_simp
    with_reducible rfl
  rotate_left
  · simp only [Act.put, List.setIfInBounds_toArray, List.set_cons_zero, List.set_cons_succ, i64_w, i32_w]
    rfl
  refine one_ (i := 12) (N := some 17) #[true, true, true, true, true, true, true, true, true, true, true, true, true, false, true, true, true, false, false] rfl rfl (one_of HT_.out (by kernel_rfl)) (by decide) (fun K hK => ?_)
  refine goes_ Try.func47 (by kernel_rfl) rfl #[.slice A3 n3 c3, .slice B3 m3 d3, .func (.func 8) #[] #[]] (by rfl) rfl rfl (by (try simp only [List.map_toArray, List.map_cons, List.map_nil]); first | done | rfl) ?_
  refine (hmerge W3 hb3.out).mono ?_
  rintro e W4 ⟨X, cap, rfl, hb4⟩
  refine ⟨_, rfl, ?_⟩
  refine hK.out _ _ ⟨below_cell hb4 hHeld.1, below_cell hb4 hHeld.2.1, below_cell hb4 hHeld.2.2.1, below_cell hb4 hHeld.2.2.2⟩ (fun hHeld => ?_)
  clear hK K
  have hb5 := Aside0.mk (hb3.out.trans (hb4.mono hb3.out.size))
  have q5 := below_cell hb4 q4'.out
  have r5 := below_cell hb4 r4'.out
  clear hb3 hb4 q4' r4'
  refine norm_ (a' := ?_) ?_ ?_
  rotate_left
  · show Act.put _ (some 17) _ = _
    simp only [Act.put, List.setIfInBounds_toArray, List.set_cons_zero, List.set_cons_succ, i64_w, i32_w]
    rfl
  refine pure_ (i := 13) (N := some 18) (v := ?_) (a' := ?_) #[true, true, true, true, true, true, true, true, true, true, true, true, true, true, true, true, true, false, false] rfl rfl (any_of HT_.out (by kernel_rfl)) (fun _ _ _ h => h) (Or.inl ⟨by rfl, ?_⟩) ?_ ?_
  rotate_left
  · intro w'
    go_simp
    with_reducible rfl
  rotate_left
  · simp only [Act.put, List.setIfInBounds_toArray, List.set_cons_zero, List.set_cons_succ, i64_w, i32_w]
    rfl
  refine pure_ (i := 17) (N := some 22) (v := ?_) (a' := ?_) #[true, true, true, true, true, true, true, true, true, true, true, true, true, true, true, true, true, true, false] rfl rfl (any_of HT_.out (by kernel_rfl)) (fun _ _ _ h => h) (Or.inl ⟨by rfl, ?_⟩) ?_ ?_
  rotate_left
  · intro w'
    go_simp
    with_reducible rfl
  rotate_left
  · simp only [Act.put, List.setIfInBounds_toArray, List.set_cons_zero, List.set_cons_succ, i64_w, i32_w]
    rfl
  refine pure_ (i := 18) (N := some 23) (v := ?_) (a' := ?_) #[true, true, true, true, true, true, true, true, true, true, true, true, true, true, true, true, true, true, true] rfl rfl (any_of HT_.out (by kernel_rfl)) (fun _ _ _ h => h) (Or.inl ⟨by rfl, ?_⟩) ?_ ?_
  rotate_left
  · intro w'
    go_simp
    with_reducible rfl
  rotate_left
  · simp only [Act.put, List.setIfInBounds_toArray, List.set_cons_zero, List.set_cons_succ, i64_w, i32_w]
    rfl
  refine done_ (done_of HT_.out (by kernel_rfl)) ?_
  cases bb with
  | true =>
    go_wp2
    go_ret
    exact ⟨rfl, hb5.out⟩
  | false =>
    have hk := hkids W4 hb5.out
    go_wp2_with (go_at_call 48; refine hk.mono ?_; rintro e W6 ⟨rfl, hb6⟩)
    go_ret
    exact ⟨by first | rfl | simp, hb5.out.trans (hb6.mono hb5.out.size)⟩

set_option maxHeartbeats 8000000 in
set_option maxRecDepth 100000 in
theorem less_ft (w : World) (A3 : Option Addr) (c3 : Nat) (A4 : Option Addr) (c4 : Nat) (B3 : Option Addr) (d3 : Nat) (B4 : Option Addr) (d4 : Nat) (t0 u0 : Int) (t1 u1 : Bool) (n3 n4 m3 m4 L : Nat) (hmerge : ∀ W, Below w.heap.size w W → Calls Try.prog 47 #[.slice A3 n3 c3, .slice B3 m3 d3, .func (.func 8) #[] #[]] W fun e w' => ∃ X cap, e = .returned (.slice X L cap) ∧ Below W.heap.size W w')
    (R : Bool) (hkids : ∀ W, Below w.heap.size w W → Calls Try.prog 48 #[.slice A4 n4 c4, .slice B4 m4 d4, .func (.func 32) #[] #[]] W fun e w' => e = .returned (.bool R) ∧ Below W.heap.size W w') :
    Calls Try.prog 32 #[.agg #[.int .i64 t0, .bool t1, .bool false, .slice A3 n3 c3, .slice A4 n4 c4], .agg #[.int .i64 u0, .bool u1, .bool true, .slice B3 m3 d3, .slice B4 m4 d4]] w fun e w' => e = .returned (.bool (!decide (m3 < L) && R)) ∧ Below w.heap.size w w' := by
  have hb2 : Below w.heap.size w ((w.alloc (.cells #[.int .i64 t0, .bool t1, .bool false, .slice A3 n3 c3, .slice A4 n4 c4] 37)).alloc (.cells #[.int .i64 u0, .bool u1, .bool true, .slice B3 m3 d3, .slice B4 m4 d4] 37)) := ((Below.refl _ w).alloc (Nat.le_refl _) _).alloc (by simp) _
  have e1 := World.alloc_heap_new (w.alloc (.cells #[.int .i64 t0, .bool t1, .bool false, .slice A3 n3 c3, .slice A4 n4 c4] 37)) (.cells #[.int .i64 u0, .bool u1, .bool true, .slice B3 m3 d3, .slice B4 m4 d4] 37)
  have hsz : (w.alloc (.cells #[.int .i64 t0, .bool t1, .bool false, .slice A3 n3 c3, .slice A4 n4 c4] 37)).heap.size = w.heap.size + 1 := by simp
  have e0 : ((w.alloc (.cells #[.int .i64 t0, .bool t1, .bool false, .slice A3 n3 c3, .slice A4 n4 c4] 37)).alloc (.cells #[.int .i64 u0, .bool u1, .bool true, .slice B3 m3 d3, .slice B4 m4 d4] 37)).heap[w.heap.size]? = some (.cells #[.int .i64 t0, .bool t1, .bool false, .slice A3 n3 c3, .slice A4 n4 c4] 37) := by
    rw [heap_alloc_old _ _ (by simp)]
    exact World.alloc_heap_new w _
  rw [hsz] at e1
  obtain ⟨W2, hW2⟩ : ∃ W2, ((w.alloc (.cells #[.int .i64 t0, .bool t1, .bool false, .slice A3 n3 c3, .slice A4 n4 c4] 37)).alloc (.cells #[.int .i64 u0, .bool u1, .bool true, .slice B3 m3 d3, .slice B4 m4 d4] 37)) = W2 := ⟨_, rfl⟩
  rw [hW2] at hb2 e1 e0
  have q2 : W2.cell? ⟨w.heap.size, 2, none⟩ = some (.bool false) := by unfold World.cell?; rw [e0]; rfl
  have q3 : W2.cell? ⟨w.heap.size, 3, none⟩ = some (.slice A3 n3 c3) := by unfold World.cell?; rw [e0]; rfl
  have q4 : W2.cell? ⟨w.heap.size, 4, none⟩ = some (.slice A4 n4 c4) := by unfold World.cell?; rw [e0]; rfl
  have r2 : W2.cell? ⟨w.heap.size + 1, 2, none⟩ = some (.bool true) := by unfold World.cell?; rw [e1]; rfl
  have r3 : W2.cell? ⟨w.heap.size + 1, 3, none⟩ = some (.slice B3 m3 d3) := by unfold World.cell?; rw [e1]; rfl
  have r4 : W2.cell? ⟨w.heap.size + 1, 4, none⟩ = some (.slice B4 m4 d4) := by unfold World.cell?; rw [e1]; rfl
  obtain ⟨bb, hbb⟩ : ∃ bb, decide (m3 < L) = bb := ⟨_, rfl⟩
  rw [hbb]
  have hbi : decide ((L : Int) > (m3 : Int)) = bb := by rw [← hbb]; exact decide_eq_decide.mpr (by omega)
  have hbj : decide ((m3 : Int) < (L : Int)) = bb := by rw [← hbb]; exact decide_eq_decide.mpr (by omega)
  clear e0 e1 hsz
  go_enter Try.func32, Try.ntmps32
  go_upto_region 1 with fail
  clear hW2
  generalize w.heap.size + 1 = b1 at *
  obtain ⟨b0, hb0⟩ : ∃ b0, w.heap.size = b0 := ⟨_, rfl⟩
  rw [hb0] at q2 q3 q4
  simp only [hb0]
  refine start_ (n := 19) (S := fun w' => w'.cell? ⟨b0, 2, none⟩ = some (.bool false) ∧ w'.cell? ⟨b1, 2, none⟩ = some (.bool true) ∧ w'.cell? ⟨b0, 3, none⟩ = some (.slice A3 n3 c3) ∧ w'.cell? ⟨b1, 3, none⟩ = some (.slice B3 m3 d3)) (ds := []) #[false, false, false, false, false, false, false, false, false, false, false, false, false, false, false, false, false, false, false] (by kernel_rfl) rfl rfl ⟨q2, r2, q3, r3⟩ (fun hHeld => ?_); refine with_tabW less_tab less_bits (fun HT_ HW_ => ?_)
  have hb3 := Aside0.mk (below_drew1 hb2)
  have q4' := Aside0.mk (show W2.drew.cell? ⟨b0, 4, none⟩ = some (.slice A4 n4 c4) from q4)
  have r4' := Aside0.mk (show W2.drew.cell? ⟨b1, 4, none⟩ = some (.slice B4 m4 d4) from r4)
  clear hb2 q2 r2 q3 r3 q4 r4
  generalize W2.drew = W3 at hb3 q4' r4' hHeld ⊢
  refine pure_ (i := 0) (N := some 5) (v := ?_) (a' := ?_) #[true, false, false, false, false, false, false, false, false, false, false, false, false, false, false, false, false, false, false] rfl rfl (any_of HT_.out (by kernel_rfl)) (fun _ _ _ h => h) (Or.inl ⟨by rfl, ?_⟩) ?_ ?_
  rotate_left
  · intro w'
    go_simp
    with_reducible rfl
  rotate_left
  · simp only [Act.put, List.setIfInBounds_toArray, List.set_cons_zero, List.set_cons_succ, i64_w, i32_w]
    rfl
  refine take_ (i := 1) (N := some 6) (v := ?_) (a' := ?_) #[true, true, false, false, false, false, false, false, false, false, false, false, false, false, false, false, false, false, false] rfl rfl (take_ofW HT_.out HW_.out (by kernel_rfl)) (fun _ _ _ h => h) (Or.inl ⟨by rfl, ?_⟩) hHeld ?_ ?_
  rotate_left
  · rintro w' ⟨s0, s1, s2, s3⟩
    go_simp
    with_reducible rfl
  rotate_left
  · simp only [Act.put, List.setIfInBounds_toArray, List.set_cons_zero, List.set_cons_succ, i64_w, i32_w]
    rfl
  refine pure_ (i := 2) (N := some 7) (v := ?_) (a' := ?_) #[true, true, true, false, false, false, false, false, false, false, false, false, false, false, false, false, false, false, false] rfl rfl (any_of HT_.out (by kernel_rfl)) (fun _ _ _ h => h) (Or.inl ⟨by rfl, ?_⟩) ?_ ?_
  rotate_left
  · intro w'
    go_simp
    with_reducible rfl
  rotate_left
  · simp only [Act.put, List.setIfInBounds_toArray, List.set_cons_zero, List.set_cons_succ, i64_w, i32_w]
    rfl
  refine pure_ (i := 3) (N := some 8) (v := undef) (a' := ?_) #[true, true, true, true, false, false, false, false, false, false, false, false, false, false, false, false, false, false, false] rfl rfl (any_of HT_.out (by kernel_rfl)) (fun _ _ _ h => h) (Or.inr ⟨by rfl, rfl⟩) ?_ ?_
  rotate_left
  · simp only [Act.put, List.setIfInBounds_toArray, List.set_cons_zero, List.set_cons_succ, i64_w, i32_w]
    rfl
  refine pure_ (i := 4) (N := some 9) (v := undef) (a' := ?_) #[true, true, true, true, true, false, false, false, false, false, false, false, false, false, false, false, false, false, false] rfl rfl (any_of HT_.out (by kernel_rfl)) (fun _ _ _ h => h) (Or.inr ⟨by rfl, rfl⟩) ?_ ?_
  rotate_left
  · simp only [Act.put, List.setIfInBounds_toArray, List.set_cons_zero, List.set_cons_succ, i64_w, i32_w]
    rfl
  refine pure_ (i := 5) (N := some 10) (v := undef) (a' := ?_) #[true, true, true, true, true, true, false, false, false, false, false, false, false, false, false, false, false, false, false] rfl rfl (any_of HT_.out (by kernel_rfl)) (fun _ _ _ h => h) (Or.inr ⟨by rfl, rfl⟩) ?_ ?_
  rotate_left
  · simp only [Act.put, List.setIfInBounds_toArray, List.set_cons_zero, List.set_cons_succ, i64_w, i32_w]
    rfl
  refine pure_ (i := 6) (N := some 11) (v := ?_) (a' := ?_) #[true, true, true, true, true, true, true, false, false, false, false, false, false, false, false, false, false, false, false] rfl rfl (any_of HT_.out (by kernel_rfl)) (fun _ _ _ h => h) (Or.inl ⟨by rfl, ?_⟩) ?_ ?_
  rotate_left
  · intro w'
    go_simp
    with_reducible rfl
  rotate_left
  · simp only [Act.put, List.setIfInBounds_toArray, List.set_cons_zero, List.set_cons_succ, i64_w, i32_w]
    rfl
  refine pure_ (i := 7) (N := some 12) (v := ?_) (a' := ?_) #[true, true, true, true, true, true, true, true, false, false, false, false, false, false, false, false, false, false, false] rfl rfl (any_of HT_.out (by kernel_rfl)) (fun _ _ _ h => h) (Or.inl ⟨by rfl, ?_⟩) ?_ ?_
  rotate_left
  · intro w'
    go_simp
    with_reducible rfl
  rotate_left
  · simp only [Act.put, List.setIfInBounds_toArray, List.set_cons_zero, List.set_cons_succ, i64_w, i32_w]
    rfl
  refine pure_ (i := 8) (N := some 13) (v := ?_) (a' := ?_) #[true, true, true, true, true, true, true, true, true, false, false, false, false, false, false, false, false, false, false] rfl rfl (any_of HT_.out (by kernel_rfl)) (fun _ _ _ h => h) (Or.inl ⟨by rfl, ?_⟩) ?_ ?_
  rotate_left
  · intro w'
    go_simp
    with_reducible rfl
  rotate_left
  · simp only [Act.put, List.setIfInBounds_toArray, List.set_cons_zero, List.set_cons_succ, i64_w, i32_w]
    rfl
  refine take_ (i := 9) (N := some 14) (v := ?_) (a' := ?_) #[true, true, true, true, true, true, true, true, true, true, false, false, false, false, false, false, false, false, false] rfl rfl (take_ofW HT_.out HW_.out (by kernel_rfl)) (fun _ _ _ h => h) (Or.inl ⟨by rfl, ?_⟩) hHeld ?_ ?_
  rotate_left
  · rintro w' ⟨s0, s1, s2, s3⟩
    go_simp
    with_reducible rfl
  rotate_left
  · simp only [Act.put, List.setIfInBounds_toArray, List.set_cons_zero, List.set_cons_succ, i64_w, i32_w]
    rfl
  refine pure_ (i := 10) (N := some 15) (v := ?_) (a' := ?_) #[true, true, true, true, true, true, true, true, true, true, true, false, false, false, false, false, false, false, false] rfl rfl (any_of HT_.out (by kernel_rfl)) (fun _ _ _ h => h) (Or.inl ⟨by rfl, ?_⟩) ?_ ?_
  rotate_left
  · intro w'
    go_simp
    with_reducible rfl
  rotate_left
  · simp only [Act.put, List.setIfInBounds_toArray, List.set_cons_zero, List.set_cons_succ, i64_w, i32_w]
    rfl
  refine take_ (i := 11) (N := some 16) (v := ?_) (a' := ?_) #[true, true, true, true, true, true, true, true, true, true, true, true, false, false, false, false, false, false, false] rfl rfl (take_ofW HT_.out HW_.out (by kernel_rfl)) (fun _ _ _ h => h) (Or.inl ⟨by rfl, ?_⟩) hHeld ?_ ?_
  rotate_left
  · rintro w' ⟨s0, s1, s2, s3⟩
    go_simp
    with_reducible rfl
  rotate_left
  · simp only [Act.put, List.setIfInBounds_toArray, List.set_cons_zero, List.set_cons_succ, i64_w, i32_w]
    rfl
  refine pure_ (i := 14) (N := some 19) (v := ?_) (a' := ?_) #[true, true, true, true, true, true, true, true, true, true, true, true, false, false, true, false, false, false, false] rfl rfl (any_of HT_.out (by kernel_rfl)) (fun _ _ _ h => h) (Or.inl ⟨by rfl, ?_⟩) ?_ ?_
  rotate_left
  · intro w'
    go_simp
    with_reducible rfl
  rotate_left
  · simp only [Act.put, List.setIfInBounds_toArray, List.set_cons_zero, List.set_cons_succ, i64_w, i32_w]
    rfl
  refine take_ (i := 15) (N := some 20) (v := ?_) (a' := ?_) #[true, true, true, true, true, true, true, true, true, true, true, true, false, false, true, true, false, false, false] rfl rfl (take_ofW HT_.out HW_.out (by kernel_rfl)) (fun _ _ _ h => h) (Or.inl ⟨by rfl, ?_⟩) hHeld ?_ ?_
  rotate_left
  · rintro w' ⟨s0, s1, s2, s3⟩
    go_simp
    with_reducible rfl
  rotate_left
  · simp only [Act.put, List.setIfInBounds_toArray, List.set_cons_zero, List.set_cons_succ, i64_w, i32_w]
    rfl
  refine pure_ (i := 16) (N := some 21) (v := ?_) (a' := ?_) #[true, true, true, true, true, true, true, true, true, true, true, true, false, false, true, true, true, false, false] rfl rfl (any_of HT_.out (by kernel_rfl)) (fun _ _ _ h => h) (Or.inl ⟨by rfl, ?_⟩) ?_ ?_
  rotate_left
  · intro w'
    go_simp
    with_reducible rfl
  rotate_left
  · simp only [Act.put, List.setIfInBounds_toArray, List.set_cons_zero, List.set_cons_succ, i64_w, i32_w]
    rfl
  refine one_ (i := 12) (N := some 17) #[true, true, true, true, true, true, true, true, true, true, true, true, true, false, true, true, true, false, false] rfl rfl (one_of HT_.out (by kernel_rfl)) (by decide) (fun K hK => ?_)
  refine goes_ Try.func47 (by kernel_rfl) rfl #[.slice A3 n3 c3, .slice B3 m3 d3, .func (.func 8) #[] #[]] (by rfl) rfl rfl (by (try simp only [List.map_toArray, List.map_cons, List.map_nil]); first | done | rfl) ?_
  refine (hmerge W3 hb3.out).mono ?_
  rintro e W4 ⟨X, cap, rfl, hb4⟩
  refine ⟨_, rfl, ?_⟩
  refine hK.out _ _ ⟨below_cell hb4 hHeld.1, below_cell hb4 hHeld.2.1, below_cell hb4 hHeld.2.2.1, below_cell hb4 hHeld.2.2.2⟩ (fun hHeld => ?_)
  clear hK K
  have hb5 := Aside0.mk (hb3.out.trans (hb4.mono hb3.out.size))
  have q5 := below_cell hb4 q4'.out
  have r5 := below_cell hb4 r4'.out
  clear hb3 hb4 q4' r4'
  refine norm_ (a' := ?_) ?_ ?_
  rotate_left
  · show Act.put _ (some 17) _ = _
    simp only [Act.put, List.setIfInBounds_toArray, List.set_cons_zero, List.set_cons_succ, i64_w, i32_w]
    rfl
  refine pure_ (i := 13) (N := some 18) (v := ?_) (a' := ?_) #[true, true, true, true, true, true, true, true, true, true, true, true, true, true, true, true, true, false, false] rfl rfl (any_of HT_.out (by kernel_rfl)) (fun _ _ _ h => h) (Or.inl ⟨by rfl, ?_⟩) ?_ ?_
  rotate_left
  · intro w'
    go_simp
    with_reducible rfl
  rotate_left
  · simp only [Act.put, List.setIfInBounds_toArray, List.set_cons_zero, List.set_cons_succ, i64_w, i32_w]
    rfl
  refine pure_ (i := 17) (N := some 22) (v := ?_) (a' := ?_) #[true, true, true, true, true, true, true, true, true, true, true, true, true, true, true, true, true, true, false] rfl rfl (any_of HT_.out (by kernel_rfl)) (fun _ _ _ h => h) (Or.inl ⟨by rfl, ?_⟩) ?_ ?_
  rotate_left
  · intro w'
    go_simp
    with_reducible rfl
  rotate_left
  · simp only [Act.put, List.setIfInBounds_toArray, List.set_cons_zero, List.set_cons_succ, i64_w, i32_w]
    rfl
  refine pure_ (i := 18) (N := some 23) (v := ?_) (a' := ?_) #[true, true, true, true, true, true, true, true, true, true, true, true, true, true, true, true, true, true, true] rfl rfl (any_of HT_.out (by kernel_rfl)) (fun _ _ _ h => h) (Or.inl ⟨by rfl, ?_⟩) ?_ ?_
  rotate_left
  · intro w'
    go_simp
    with_reducible rfl
  rotate_left
  · simp only [Act.put, List.setIfInBounds_toArray, List.set_cons_zero, List.set_cons_succ, i64_w, i32_w]
    rfl
  refine done_ (done_of HT_.out (by kernel_rfl)) ?_
  cases bb with
  | true =>
    go_wp2
    go_ret
    exact ⟨rfl, hb5.out⟩
  | false =>
    have hk := hkids W4 hb5.out
    go_wp2_with (go_at_call 48; refine hk.mono ?_; rintro e W6 ⟨rfl, hb6⟩)
    go_ret
    exact ⟨by first | rfl | simp, hb5.out.trans (hb6.mono hb5.out.size)⟩

set_option maxHeartbeats 8000000 in
set_option maxRecDepth 100000 in
theorem less_tt (w : World) (A3 : Option Addr) (c3 : Nat) (A4 : Option Addr) (c4 : Nat) (B3 : Option Addr) (d3 : Nat) (B4 : Option Addr) (d4 : Nat) (t0 u0 : Int) (t1 u1 : Bool) (n3 n4 m3 m4 L : Nat) (hmerge : ∀ W, Below w.heap.size w W → Calls Try.prog 47 #[.slice A3 n3 c3, .slice B3 m3 d3, .func (.func 8) #[] #[]] W fun e w' => ∃ X cap, e = .returned (.slice X L cap) ∧ Below W.heap.size W w')
    (R : Bool) (hkids : ∀ W, Below w.heap.size w W → Calls Try.prog 48 #[.slice A4 n4 c4, .slice B4 m4 d4, .func (.func 32) #[] #[]] W fun e w' => e = .returned (.bool R) ∧ Below W.heap.size W w') :
    Calls Try.prog 32 #[.agg #[.int .i64 t0, .bool t1, .bool true, .slice A3 n3 c3, .slice A4 n4 c4], .agg #[.int .i64 u0, .bool u1, .bool true, .slice B3 m3 d3, .slice B4 m4 d4]] w fun e w' => e = .returned (.bool (!decide (m3 < L) && R)) ∧ Below w.heap.size w w' := by
  have hb2 : Below w.heap.size w ((w.alloc (.cells #[.int .i64 t0, .bool t1, .bool true, .slice A3 n3 c3, .slice A4 n4 c4] 37)).alloc (.cells #[.int .i64 u0, .bool u1, .bool true, .slice B3 m3 d3, .slice B4 m4 d4] 37)) := ((Below.refl _ w).alloc (Nat.le_refl _) _).alloc (by simp) _
  have e1 := World.alloc_heap_new (w.alloc (.cells #[.int .i64 t0, .bool t1, .bool true, .slice A3 n3 c3, .slice A4 n4 c4] 37)) (.cells #[.int .i64 u0, .bool u1, .bool true, .slice B3 m3 d3, .slice B4 m4 d4] 37)
  have hsz : (w.alloc (.cells #[.int .i64 t0, .bool t1, .bool true, .slice A3 n3 c3, .slice A4 n4 c4] 37)).heap.size = w.heap.size + 1 := by simp
  have e0 : ((w.alloc (.cells #[.int .i64 t0, .bool t1, .bool true, .slice A3 n3 c3, .slice A4 n4 c4] 37)).alloc (.cells #[.int .i64 u0, .bool u1, .bool true, .slice B3 m3 d3, .slice B4 m4 d4] 37)).heap[w.heap.size]? = some (.cells #[.int .i64 t0, .bool t1, .bool true, .slice A3 n3 c3, .slice A4 n4 c4] 37) := by
    rw [heap_alloc_old _ _ (by simp)]
    exact World.alloc_heap_new w _
  rw [hsz] at e1
  obtain ⟨W2, hW2⟩ : ∃ W2, ((w.alloc (.cells #[.int .i64 t0, .bool t1, .bool true, .slice A3 n3 c3, .slice A4 n4 c4] 37)).alloc (.cells #[.int .i64 u0, .bool u1, .bool true, .slice B3 m3 d3, .slice B4 m4 d4] 37)) = W2 := ⟨_, rfl⟩
  rw [hW2] at hb2 e1 e0
  have q2 : W2.cell? ⟨w.heap.size, 2, none⟩ = some (.bool true) := by unfold World.cell?; rw [e0]; rfl
  have q3 : W2.cell? ⟨w.heap.size, 3, none⟩ = some (.slice A3 n3 c3) := by unfold World.cell?; rw [e0]; rfl
  have q4 : W2.cell? ⟨w.heap.size, 4, none⟩ = some (.slice A4 n4 c4) := by unfold World.cell?; rw [e0]; rfl
  have r2 : W2.cell? ⟨w.heap.size + 1, 2, none⟩ = some (.bool true) := by unfold World.cell?; rw [e1]; rfl
  have r3 : W2.cell? ⟨w.heap.size + 1, 3, none⟩ = some (.slice B3 m3 d3) := by unfold World.cell?; rw [e1]; rfl
  have r4 : W2.cell? ⟨w.heap.size + 1, 4, none⟩ = some (.slice B4 m4 d4) := by unfold World.cell?; rw [e1]; rfl
  obtain ⟨bb, hbb⟩ : ∃ bb, decide (m3 < L) = bb := ⟨_, rfl⟩
  rw [hbb]
  have hbi : decide ((L : Int) > (m3 : Int)) = bb := by rw [← hbb]; exact decide_eq_decide.mpr (by omega)
  have hbj : decide ((m3 : Int) < (L : Int)) = bb := by rw [← hbb]; exact decide_eq_decide.mpr (by omega)
  clear e0 e1 hsz
  go_enter Try.func32, Try.ntmps32
  go_upto_region 1 with fail
  clear hW2
  generalize w.heap.size + 1 = b1 at *
  obtain ⟨b0, hb0⟩ : ∃ b0, w.heap.size = b0 := ⟨_, rfl⟩
  rw [hb0] at q2 q3 q4
  simp only [hb0]
  refine start_ (n := 19) (S := fun w' => w'.cell? ⟨b0, 2, none⟩ = some (.bool true) ∧ w'.cell? ⟨b1, 2, none⟩ = some (.bool true) ∧ w'.cell? ⟨b0, 3, none⟩ = some (.slice A3 n3 c3) ∧ w'.cell? ⟨b1, 3, none⟩ = some (.slice B3 m3 d3)) (ds := []) #[false, false, false, false, false, false, false, false, false, false, false, false, false, false, false, false, false, false, false] (by kernel_rfl) rfl rfl ⟨q2, r2, q3, r3⟩ (fun hHeld => ?_); refine with_tabW less_tab less_bits (fun HT_ HW_ => ?_)
  have hb3 := Aside0.mk (below_drew1 hb2)
  have q4' := Aside0.mk (show W2.drew.cell? ⟨b0, 4, none⟩ = some (.slice A4 n4 c4) from q4)
  have r4' := Aside0.mk (show W2.drew.cell? ⟨b1, 4, none⟩ = some (.slice B4 m4 d4) from r4)
  clear hb2 q2 r2 q3 r3 q4 r4
  generalize W2.drew = W3 at hb3 q4' r4' hHeld ⊢
  refine pure_ (i := 0) (N := some 5) (v := ?_) (a' := ?_) #[true, false, false, false, false, false, false, false, false, false, false, false, false, false, false, false, false, false, false] rfl rfl (any_of HT_.out (by kernel_rfl)) (fun _ _ _ h => h) (Or.inl ⟨by rfl, ?_⟩) ?_ ?_
  rotate_left
  · intro w'
    go_simp
    with_reducible rfl
  rotate_left
  · simp only [Act.put, List.setIfInBounds_toArray, List.set_cons_zero, List.set_cons_succ, i64_w, i32_w]
    rfl
  refine take_ (i := 1) (N := some 6) (v := ?_) (a' := ?_) #[true, true, false, false, false, false, false, false, false, false, false, false, false, false, false, false, false, false, false] rfl rfl (take_ofW HT_.out HW_.out (by kernel_rfl)) (fun _ _ _ h => h) (Or.inl ⟨by rfl, ?_⟩) hHeld ?_ ?_
  rotate_left
  · rintro w' ⟨s0, s1, s2, s3⟩
    go_simp
    with_reducible rfl
  rotate_left
  · simp only [Act.put, List.setIfInBounds_toArray, List.set_cons_zero, List.set_cons_succ, i64_w, i32_w]
    rfl
  refine pure_ (i := 2) (N := some 7) (v := ?_) (a' := ?_) #[true, true, true, false, false, false, false, false, false, false, false, false, false, false, false, false, false, false, false] rfl rfl (any_of HT_.out (by kernel_rfl)) (fun _ _ _ h => h) (Or.inl ⟨by rfl, ?_⟩) ?_ ?_
  rotate_left
  · intro w'
    go_simp
    with_reducible rfl
  rotate_left
  · simp only [Act.put, List.setIfInBounds_toArray, List.set_cons_zero, List.set_cons_succ, i64_w, i32_w]
    rfl
  refine pure_ (i := 3) (N := some 8) (v := ?_) (a' := ?_) #[true, true, true, true, false, false, false, false, false, false, false, false, false, false, false, false, false, false, false] rfl rfl (any_of HT_.out (by kernel_rfl)) (fun _ _ _ h => h) (Or.inl ⟨by rfl, ?_⟩) ?_ ?_
  rotate_left
  · intro w'
    go_simp
    with_reducible rfl
  rotate_left
  · simp only [Act.put, List.setIfInBounds_toArray, List.set_cons_zero, List.set_cons_succ, i64_w, i32_w]
    rfl
  refine take_ (i := 4) (N := some 9) (v := ?_) (a' := ?_) #[true, true, true, true, true, false, false, false, false, false, false, false, false, false, false, false, false, false, false] rfl rfl (take_ofW HT_.out HW_.out (by kernel_rfl)) (fun _ _ _ h => h) (Or.inl ⟨by rfl, ?_⟩) hHeld ?_ ?_
  rotate_left
  · rintro w' ⟨s0, s1, s2, s3⟩
    go_simp
    with_reducible rfl
  rotate_left
  · simp only [Act.put, List.setIfInBounds_toArray, List.set_cons_zero, List.set_cons_succ, i64_w, i32_w]
    rfl
  refine pure_ (i := 5) (N := some 10) (v := ?_) (a' := ?_) #[true, true, true, true, true, true, false, false, false, false, false, false, false, false, false, false, false, false, false] rfl rfl (any_of HT_.out (by kernel_rfl)) (fun _ _ _ h => h) (Or.inl ⟨by rfl, ?_⟩) ?_ ?_
  rotate_left
  · intro w'
    go_simp
    with_reducible rfl
  rotate_left
  · simp only [Act.put, List.setIfInBounds_toArray, List.set_cons_zero, List.set_cons_succ, i64_w, i32_w]
    rfl
  refine pure_ (i := 6) (N := some 11) (v := ?_) (a' := ?_) #[true, true, true, true, true, true, true, false, false, false, false, false, false, false, false, false, false, false, false] rfl rfl (any_of HT_.out (by kernel_rfl)) (fun _ _ _ h => h) (Or.inl ⟨by rfl, ?_⟩) ?_ ?_
  rotate_left
  · intro w'
    go_simp
    with_reducible rfl
  rotate_left
  · simp only [Act.put, List.setIfInBounds_toArray, List.set_cons_zero, List.set_cons_succ, i64_w, i32_w]
    rfl
  refine pure_ (i := 7) (N := some 12) (v := ?_) (a' := ?_) #[true, true, true, true, true, true, true, true, false, false, false, false, false, false, false, false, false, false, false] rfl rfl (any_of HT_.out (by kernel_rfl)) (fun _ _ _ h => h) (Or.inl ⟨by rfl, ?_⟩) ?_ ?_
  rotate_left
  · intro w'
    go_simp
    with_reducible rfl
  rotate_left
  · simp only [Act.put, List.setIfInBounds_toArray, List.set_cons_zero, List.set_cons_succ, i64_w, i32_w]
    rfl
  refine pure_ (i := 8) (N := some 13) (v := ?_) (a' := ?_) #[true, true, true, true, true, true, true, true, true, false, false, false, false, false, false, false, false, false, false] rfl rfl (any_of HT_.out (by kernel_rfl)) (fun _ _ _ h => h) (Or.inl ⟨by rfl, ?_⟩) ?_ ?_
  rotate_left
  · intro w'
    go_simp
    with_reducible rfl
  rotate_left
  · simp only [Act.put, List.setIfInBounds_toArray, List.set_cons_zero, List.set_cons_succ, i64_w, i32_w]
    rfl
  refine take_ (i := 9) (N := some 14) (v := ?_) (a' := ?_) #[true, true, true, true, true, true, true, true, true, true, false, false, false, false, false, false, false, false, false] rfl rfl (take_ofW HT_.out HW_.out (by kernel_rfl)) (fun _ _ _ h => h) (Or.inl ⟨by rfl, ?_⟩) hHeld ?_ ?_
  rotate_left
  · rintro w' ⟨s0, s1, s2, s3⟩
    go_simp
    with_reducible rfl
  rotate_left
  · simp only [Act.put, List.setIfInBounds_toArray, List.set_cons_zero, List.set_cons_succ, i64_w, i32_w]
    rfl
  refine pure_ (i := 10) (N := some 15) (v := ?_) (a' := ?_) #[true, true, true, true, true, true, true, true, true, true, true, false, false, false, false, false, false, false, false] rfl rfl (any_of HT_.out (by kernel_rfl)) (fun _ _ _ h => h) (Or.inl ⟨by rfl, ?_⟩) ?_ ?_
  rotate_left
  · intro w'
    go_simp
    with_reducible rfl
  rotate_left
  · simp only [Act.put, List.setIfInBounds_toArray, List.set_cons_zero, List.set_cons_succ, i64_w, i32_w]
    rfl
  refine take_ (i := 11) (N := some 16) (v := ?_) (a' := ?_) #[true, true, true, true, true, true, true, true, true, true, true, true, false, false, false, false, false, false, false] rfl rfl (take_ofW HT_.out HW_.out (by kernel_rfl)) (fun _ _ _ h => h) (Or.inl ⟨by rfl, ?_⟩) hHeld ?_ ?_
  rotate_left
  · rintro w' ⟨s0, s1, s2, s3⟩
    go_simp
    with_reducible rfl
  rotate_left
  · simp only [Act.put, List.setIfInBounds_toArray, List.set_cons_zero, List.set_cons_succ, i64_w, i32_w]
    rfl
  refine pure_ (i := 14) (N := some 19) (v := ?_) (a' := ?_) #[true, true, true, true, true, true, true, true, true, true, true, true, false, false, true, false, false, false, false] rfl rfl (any_of HT_.out (by kernel_rfl)) (fun _ _ _ h => h) (Or.inl ⟨by rfl, ?_⟩) ?_ ?_
  rotate_left
  · intro w'
    go_simp
    with_reducible rfl
  rotate_left
  · simp only [Act.put, List.setIfInBounds_toArray, List.set_cons_zero, List.set_cons_succ, i64_w, i32_w]
    rfl
  refine take_ (i := 15) (N := some 20) (v := ?_) (a' := ?_) #[true, true, true, true, true, true, true, true, true, true, true, true, false, false, true, true, false, false, false] rfl rfl (take_ofW HT_.out HW_.out (by kernel_rfl)) (fun _ _ _ h => h) (Or.inl ⟨by rfl, ?_⟩) hHeld ?_ ?_
  rotate_left
  · rintro w' ⟨s0, s1, s2, s3⟩
    go_simp
    with_reducible rfl
  rotate_left
  · simp only [Act.put, List.setIfInBounds_toArray, List.set_cons_zero, List.set_cons_succ, i64_w, i32_w]
    rfl
  refine pure_ (i := 16) (N := some 21) (v := ?_) (a' := ?_) #[true, true, true, true, true, true, true, true, true, true, true, true, false, false, true, true, true, false, false] rfl rfl (any_of HT_.out (by kernel_rfl)) (fun _ _ _ h => h) (Or.inl ⟨by rfl, ?_⟩) ?_ ?_
  rotate_left
  · intro w'
    go_simp
    with_reducible rfl
  rotate_left
  · simp only [Act.put, List.setIfInBounds_toArray, List.set_cons_zero, List.set_cons_succ, i64_w, i32_w]
    rfl
  refine one_ (i := 12) (N := some 17) #[true, true, true, true, true, true, true, true, true, true, true, true, true, false, true, true, true, false, false] rfl rfl (one_of HT_.out (by kernel_rfl)) (by decide) (fun K hK => ?_)
  refine goes_ Try.func47 (by kernel_rfl) rfl #[.slice A3 n3 c3, .slice B3 m3 d3, .func (.func 8) #[] #[]] (by rfl) rfl rfl (by (try simp only [List.map_toArray, List.map_cons, List.map_nil]); first | done | rfl) ?_
  refine (hmerge W3 hb3.out).mono ?_
  rintro e W4 ⟨X, cap, rfl, hb4⟩
  refine ⟨_, rfl, ?_⟩
  refine hK.out _ _ ⟨below_cell hb4 hHeld.1, below_cell hb4 hHeld.2.1, below_cell hb4 hHeld.2.2.1, below_cell hb4 hHeld.2.2.2⟩ (fun hHeld => ?_)
  clear hK K
  have hb5 := Aside0.mk (hb3.out.trans (hb4.mono hb3.out.size))
  have q5 := below_cell hb4 q4'.out
  have r5 := below_cell hb4 r4'.out
  clear hb3 hb4 q4' r4'
  refine norm_ (a' := ?_) ?_ ?_
  rotate_left
  · show Act.put _ (some 17) _ = _
    simp only [Act.put, List.setIfInBounds_toArray, List.set_cons_zero, List.set_cons_succ, i64_w, i32_w]
    rfl
  refine pure_ (i := 13) (N := some 18) (v := ?_) (a' := ?_) #[true, true, true, true, true, true, true, true, true, true, true, true, true, true, true, true, true, false, false] rfl rfl (any_of HT_.out (by kernel_rfl)) (fun _ _ _ h => h) (Or.inl ⟨by rfl, ?_⟩) ?_ ?_
  rotate_left
  · intro w'
    go_simp
    with_reducible rfl
  rotate_left
  · simp only [Act.put, List.setIfInBounds_toArray, List.set_cons_zero, List.set_cons_succ, i64_w, i32_w]
    rfl
  refine pure_ (i := 17) (N := some 22) (v := ?_) (a' := ?_) #[true, true, true, true, true, true, true, true, true, true, true, true, true, true, true, true, true, true, false] rfl rfl (any_of HT_.out (by kernel_rfl)) (fun _ _ _ h => h) (Or.inl ⟨by rfl, ?_⟩) ?_ ?_
  rotate_left
  · intro w'
    go_simp
    with_reducible rfl
  rotate_left
  · simp only [Act.put, List.setIfInBounds_toArray, List.set_cons_zero, List.set_cons_succ, i64_w, i32_w]
    rfl
  refine pure_ (i := 18) (N := some 23) (v := ?_) (a' := ?_) #[true, true, true, true, true, true, true, true, true, true, true, true, true, true, true, true, true, true, true] rfl rfl (any_of HT_.out (by kernel_rfl)) (fun _ _ _ h => h) (Or.inl ⟨by rfl, ?_⟩) ?_ ?_
  rotate_left
  · intro w'
    go_simp
    with_reducible rfl
  rotate_left
  · simp only [Act.put, List.setIfInBounds_toArray, List.set_cons_zero, List.set_cons_succ, i64_w, i32_w]
    rfl
  refine done_ (done_of HT_.out (by kernel_rfl)) ?_
  cases bb with
  | true =>
    go_wp2
    go_ret
    exact ⟨rfl, hb5.out⟩
  | false =>
    have hk := hkids W4 hb5.out
    go_wp2_with (go_at_call 48; refine hk.mono ?_; rintro e W6 ⟨rfl, hb6⟩)
    go_ret
    exact ⟨by first | rfl | simp, hb5.out.trans (hb6.mono hb5.out.size)⟩

/-- env.less, at every two types whose lists are short. -/
theorem envLess (t : S37) : Ty2WordS 32 lessT t := by
  revert t
  refine tyInd fun t ih ht u hu A3 c3 A4 c4 B3 d3 B4 d4 w l3 g3 l4 g4 m3 q3 m4 q4 => ?_
  have eg : ∀ args w, (callFunc 32 args).run Try.prog w = .ok (.enter 32 args) w := enters_of Try.func32 (by kernel_rfl) rfl
  have hmerge : ∀ W, Below w.heap.size w W → Calls Try.prog 47 #[.slice A3 t.f3.length c3, .slice B3 u.f3.length d3, .func (.func 8) #[] #[]] W fun e w' => ∃ X cap, e = .returned (.slice X (mergedL t.f3 u.f3).length cap) ∧ Below W.heap.size W w' := fun W hW => by
    refine (mergedC t.f3 u.f3 A3 c3 B3 d3 W (Kd.C_below g3 hW) (Kd.C_below q3 hW) (by have := ht.self; have := hu.self; omega)).mono ?_
    rintro e w' ⟨X, cap, rs, rfl, _, hb, hM, _⟩
    exact ⟨X, cap, by rw [← mergedOf_eq hM, List.length_map], hb⟩
  have hkids : ∀ W, Below w.heap.size w W → Calls Try.prog 48 #[.slice A4 t.f4.length c4, .slice B4 u.f4.length d4, .func (.func 32) #[] #[]] W fun e w' => e = .returned (.bool (all2 lessT t.f4 u.f4)) ∧ Below W.heap.size W w' := fun W hW =>
    eqKidsS 32 eg lessT t.f4 u.f4 ih (fun k hk => ht.kid hk) (fun k hk => hu.kid hk) A4 c4 B4 d4 W (Kd.C_below g4 hW) (Kd.C_below q4 hW)
  rw [lessT_eq]
  generalize (mergedL t.f3 u.f3).length = L at *
  generalize all2 lessT t.f4 u.f4 = R at *
  cases ht2 : t.f2 <;> cases hu2 : u.f2
  · refine (less_ff w A3 c3 A4 c4 B3 d3 B4 d4 _ _ _ _ _ _ _ _ L hmerge R hkids).mono ?_
    rintro e w' ⟨rfl, hb⟩
    exact ⟨by simp, hb⟩
  · refine (less_ft w A3 c3 A4 c4 B3 d3 B4 d4 _ _ _ _ _ _ _ _ L hmerge R hkids).mono ?_
    rintro e w' ⟨rfl, hb⟩
    exact ⟨by simp, hb⟩
  · refine (less_tf w A3 c3 A4 c4 B3 d3 B4 d4 _ _ _ _ _ _ _ _ L).mono ?_
    rintro e w' ⟨rfl, hb⟩
    exact ⟨by simp, hb⟩
  · refine (less_tt w A3 c3 A4 c4 B3 d3 B4 d4 _ _ _ _ _ _ _ _ L hmerge R hkids).mono ?_
    rintro e w' ⟨rfl, hb⟩
    exact ⟨by simp, hb⟩


end Go.Proofs.Ytadjekpfehjibaa.PEnv

namespace Go.Proofs.Ytadjekpfehjibaa.PEnv
open Go.RowKit Go.Shelf Go.Lib Go.Proofs.YtadjekpfehjibaaW.PrintWords Go.Proofs.YtadjekpfehjibaaW.PrintLast Go.Proofs.YtadjekpfehjibaaW.PrintMore Go.Proofs.Ytadjekpfehjibaa.PEnvHits
set_option linter.unusedVariables false
set_option linter.unusedSimpArgs false

def lessB (a b : S39) : Bool := lessT a.f1 b.f1

set_option maxHeartbeats 4000000 in
/-- env.Less$1. -/
theorem less1 : Bind2WordS 31 lessB := by
  intro a b sa sb A4 c4 A5 c5 B4 d4 B5 d5 w l4 g4 l5 g5 m4 q4 m5 q5
  have eF := enters_of Try.func32 (by kernel_rfl) rfl
  have hb1 : Below w.heap.size w (w.alloc (.cells #[.string a.f0, .int .i64 a.f1.f0, .bool a.f1.f1, .bool a.f1.f2, .slice A4 a.f1.f3.length c4, .slice A5 a.f1.f4.length c5] 39)) := (Below.refl _ w).alloc (Nat.le_refl _) _
  have hb2 : Below w.heap.size w ((w.alloc (.cells #[.string a.f0, .int .i64 a.f1.f0, .bool a.f1.f1, .bool a.f1.f2, .slice A4 a.f1.f3.length c4, .slice A5 a.f1.f4.length c5] 39)).alloc (.cells #[.string b.f0, .int .i64 b.f1.f0, .bool b.f1.f1, .bool b.f1.f2, .slice B4 b.f1.f3.length d4, .slice B5 b.f1.f4.length d5] 39)) := hb1.alloc (by simp) _
  have hcall := envLess a.f1 sa b.f1 sb A4 c4 A5 c5 B4 d4 B5 d5 ((w.alloc (.cells #[.string a.f0, .int .i64 a.f1.f0, .bool a.f1.f1, .bool a.f1.f2, .slice A4 a.f1.f3.length c4, .slice A5 a.f1.f4.length c5] 39)).alloc (.cells #[.string b.f0, .int .i64 b.f1.f0, .bool b.f1.f1, .bool b.f1.f2, .slice B4 b.f1.f3.length d4, .slice B5 b.f1.f4.length d5] 39)) l4 (Kd.C_below g4 hb2) l5 (Kd.C_below g5 hb2) m4 (Kd.C_below q4 hb2) m5 (Kd.C_below q5 hb2)
  clear g4 g5 q4 q5
  have fin : ∀ w', Below ((w.alloc (.cells #[.string a.f0, .int .i64 a.f1.f0, .bool a.f1.f1, .bool a.f1.f2, .slice A4 a.f1.f3.length c4, .slice A5 a.f1.f4.length c5] 39)).alloc (.cells #[.string b.f0, .int .i64 b.f1.f0, .bool b.f1.f1, .bool b.f1.f2, .slice B4 b.f1.f3.length d4, .slice B5 b.f1.f4.length d5] 39)).heap.size ((w.alloc (.cells #[.string a.f0, .int .i64 a.f1.f0, .bool a.f1.f1, .bool a.f1.f2, .slice A4 a.f1.f3.length c4, .slice A5 a.f1.f4.length c5] 39)).alloc (.cells #[.string b.f0, .int .i64 b.f1.f0, .bool b.f1.f1, .bool b.f1.f2, .slice B4 b.f1.f3.length d4, .slice B5 b.f1.f4.length d5] 39)) w' → Below w.heap.size w w' := fun w' h => hb2.trans (h.mono (by simp; omega))
  unfold lessB
  generalize lessT a.f1 b.f1 = R at *
  go_enter Try.func31, Try.ntmps31
  go_wp2_with (go_at_call 32; refine hcall.mono ?_; rintro e w' ⟨rfl, hb3⟩)
  go_ret
  exact ⟨rfl, fin _ hb3⟩

def lessE (a b : List S39) : Bool := bothE a b && all2 lessB a b

set_option maxHeartbeats 4000000 in
theorem envLessE (a b : List S39) (sa : ∀ k ∈ a, SmT k.f1) (sb : ∀ k ∈ b, SmT k.f1) (A : Option Addr) (c : Nat) (B : Option Addr) (d : Nat) (w : World) (hC : Kd.C k39 w A a.length a) (hD : Kd.C k39 w B b.length b) :
    Calls Try.prog 13 #[.slice A a.length c, .slice B b.length d] w fun e w' => e = .returned (.bool (lessE a b)) ∧ Below w.heap.size w w' := by
  have eg : ∀ args w, (callFunc 31 args).run Try.prog w = .ok (.enter 31 args) w := enters_of Try.func31 (by kernel_rfl) rfl
  have eR := enters_of Try.func29 (by kernel_rfl) rfl
  have eE := enters_of Try.func30 (by kernel_rfl) rfl
  have r1 := envBoth a b A c B d w hC hD
  have r3 : ∀ W, Below w.heap.size w W → Calls Try.prog 30 #[.slice A a.length c, .slice B b.length d, .func (.func 31) #[] #[]] W fun e w' => e = .returned (.bool (all2 lessB a b)) ∧ Below W.heap.size W w' := fun W hW =>
    eqBindsS 31 eg lessB a b less1 sa sb A c B d W (Kd.C_below hC hW) (Kd.C_below hD hW)
  have hf : lessE a b = (bothE a b && all2 lessB a b) := rfl
  clear hC hD
  cases h1 : bothE a b with
  | false =>
    rw [h1] at r1 hf
    have hf2 : lessE a b = false := by rw [hf]; rfl
    clear h1 hf r3
    go_enter Try.func13, Try.ntmps13
    go_wp2_with (go_at_call 29; refine r1.mono ?_; clear r1; rintro e w1 ⟨rfl, hb1⟩)
    go_ret
    exact ⟨by first | rfl | (rw [hf2]; rfl), hb1⟩
  | true =>
    rw [h1] at r1 hf
    have hf2 : lessE a b = all2 lessB a b := by rw [hf]; rfl
    clear h1 hf
    go_enter Try.func13, Try.ntmps13
    go_wp2_with (first
      | (go_at_call 29; refine r1.mono ?_; clear r1; rintro e w1 ⟨rfl, hb1⟩; have r3' := r3 w1 hb1; clear r3)
      | (go_at_call 30; refine r3'.mono ?_; clear r3'; rintro e w3 ⟨rfl, hb3⟩))
    go_ret
    exact ⟨by first | rfl | (rw [hf2]; rfl), hb1.trans (hb3.mono hb1.size)⟩

end Go.Proofs.Ytadjekpfehjibaa.PEnv
