/- slices.IndexFunc and slices.ContainsFunc, at a function that keeps an invariant. -/
import Derived.Test.YtadjekpfehjibaaKa
import Derived.Shelf.SlicesQ.Load
import Derived.Shelf.SlicesQ.IndexFunc

namespace Go.Proofs.Ytadjekpfehjibaa.PEnv
open Go.RowKit Go.Shelf Go.Proofs.YtadjekpfehjibaaW.PrintWords Go.Proofs.YtadjekpfehjibaaW.PrintLast Go.Proofs.YtadjekpfehjibaaW.PrintMore
set_option linter.unusedVariables false
set_option linter.unusedSimpArgs false

/-- A row of elements in memory, each by its cells. -/
def Els (sz : Nat) (w : World) (A : Option Addr) (n : Nat) (vs : List (List Value)) : Prop :=
  vs.length = n ∧ n ≤ 9223372036854775807 ∧ (∀ (j : Nat) (cs : List Value), vs[j]? = some cs → cs.length = sz) ∧
    (0 < n → ∃ ad, A = some ad ∧ ∀ (j : Nat) (cs : List Value), vs[j]? = some cs → ∀ (i : Nat) (u : Value), cs[i]? = some u → w.cell? (ad.add (j * sz + i)) = some u)

theorem Els.below {sz : Nat} {w w' : World} {A : Option Addr} {n : Nat} {vs : List (List Value)} (h : Els sz w A n vs) (hb : Below w.heap.size w w') : Els sz w' A n vs := by
  obtain ⟨h1, h2, h3, h4⟩ := h
  refine ⟨h1, h2, h3, fun h0 => ?_⟩
  obtain ⟨ad, e, hc⟩ := h4 h0
  exact ⟨ad, e, fun j cs hj i u hu => (hb.cell (World.block_lt_of_cell? w _ (hc j cs hj i u hu))).trans (hc j cs hj i u hu)⟩

theorem add_add (ad : Addr) (m j : Nat) : (ad.add m).add j = ad.add (m + j) := by
  unfold Addr.add
  by_cases hm : m = 0
  · subst hm; simp
  · by_cases hj : j = 0
    · subst hj; simp [hm]
    · have : m + j ≠ 0 := by omega
      simp [hm, hj, this, Nat.add_assoc]

theorem Els.cell {sz : Nat} {w W : World} {ad : Addr} {n : Nat} {vs : List (List Value)} (h : Els sz w (some ad) n vs) (hb : Below w.heap.size w W) (j : Nat) (cs : List Value) (hj : vs[j]? = some cs) (i : Nat) (u : Value) (hu : cs[i]? = some u) :
    W.cell? (ad.add (j * sz + i)) = some u := by
  obtain ⟨h1, h2, h3, h4⟩ := h
  have hlt : j < vs.length := by
    rcases Nat.lt_or_ge j vs.length with h | h
    · exact h
    · rw [List.getElem?_eq_none h] at hj; cases hj
  obtain ⟨ad', e, hc⟩ := h4 (by omega)
  cases e
  have := hc j cs hj i u hu
  exact (hb.cell (World.block_lt_of_cell? w _ this)).trans this
theorem Els.cell0 {sz : Nat} {w W : World} {ad : Addr} {n : Nat} {vs : List (List Value)} (h : Els sz w (some ad) n vs) (hb : Below w.heap.size w W) (j : Nat) (cs : List Value) (hj : vs[j]? = some cs) (u : Value) (hu : cs[0]? = some u) :
    W.cell? (ad.add (j * sz)) = some u := h.cell hb j cs hj 0 u hu
theorem Els.cellS {sz : Nat} {w W : World} {ad : Addr} {n : Nat} {vs : List (List Value)} (h : Els sz w (some ad) n vs) (hb : Below w.heap.size w W) (j : Nat) (cs : List Value) (hj : vs[j]? = some cs) (i : Nat) (u : Value) (hi : 0 < i) (hu : cs[i]? = some u) :
    W.cell? ⟨(ad.add (j * sz)).block, (ad.add (j * sz)).off + i, none⟩ = some u := by
  rw [← add_field ad (j * sz) i hi]; exact h.cell hb j cs hj i u hu
theorem list4 {cs : List Value} (h : cs.length = 4) : ∃ a b c d, cs = [a, b, c, d] := by
  match cs, h with
  | [a, b, c, d], _ => exact ⟨a, b, c, d, rfl⟩
theorem list5 {cs : List Value} (h : cs.length = 5) : ∃ a b c d e, cs = [a, b, c, d, e] := by
  match cs, h with
  | [a, b, c, d, e], _ => exact ⟨a, b, c, d, e, rfl⟩
theorem list6 {cs : List Value} (h : cs.length = 6) : ∃ a b c d e f, cs = [a, b, c, d, e, f] := by
  match cs, h with
  | [a, b, c, d, e, f], _ => exact ⟨a, b, c, d, e, f, rfl⟩

theorem els_of_C {α : Type} {d : Kd α} {w : World} {A : Option Addr} {n : Nat} {xs : List α} (h : Kd.C d w A n xs) : ∃ vs, Els d.sz w A n vs ∧ ∀ (i : Nat) (x : α), xs[i]? = some x → ∃ cs, vs[i]? = some cs ∧ d.K w x cs := by
  obtain ⟨h1, h2, h3⟩ := h
  by_cases h0 : 0 < n
  · obtain ⟨ad, e, hc⟩ := h3 h0
    have hex : ∀ i : Fin xs.length, ∃ cs : List Value, cs.length = d.sz ∧ d.K w xs[i] cs ∧ ∀ k u, cs[k]? = some u → w.cell? (ad.add (i.1 * d.sz + k)) = some u := fun i => hc i.1 xs[i] (List.getElem?_eq_getElem i.2)
    refine ⟨List.ofFn (fun i => (hex i).choose), ⟨by simpa using h1, h2, ?_, fun _ => ⟨ad, e, ?_⟩⟩, ?_⟩
    · intro j cs hj
      obtain ⟨hlt, rfl⟩ := List.getElem?_eq_some_iff.mp hj
      rw [List.getElem_ofFn]
      exact (hex _).choose_spec.1
    · intro j cs hj
      obtain ⟨hlt, rfl⟩ := List.getElem?_eq_some_iff.mp hj
      rw [List.getElem_ofFn]
      exact (hex ⟨j, by simpa using hlt⟩).choose_spec.2.2
    · intro i x hx
      obtain ⟨hlt, rfl⟩ := List.getElem?_eq_some_iff.mp hx
      refine ⟨_, List.getElem?_eq_getElem (by simpa using hlt), ?_⟩
      rw [List.getElem_ofFn]
      exact (hex ⟨i, hlt⟩).choose_spec.2.1
  · have : n = 0 := by omega
    subst this
    have : xs = [] := List.length_eq_zero_iff.mp h1
    subst this
    exact ⟨[], ⟨rfl, h2, by simp, fun h => absurd h (Nat.lt_irrefl 0)⟩, by simp⟩

/-! ### Ty -/
set_option maxHeartbeats 2000000 in
/-- slices.IndexFunc: from call to call Inv goes on; the first 'yes' ends it. -/
theorem idxTy (g : Nat) (lb : Array Value) (eg : ∀ args w, (callFunc g args).run Try.prog w = .ok (.enter g args) w) (A : Option Addr) (n c : Nat) (vs : List (List Value)) (w0 w : World) (Inv Out : Nat → World → Prop)
    (hv : Els 5 w0 A n vs) (hB : ∀ i W, Inv i W → Below w0.heap.size w0 W)
    (hs : ∀ (i : Nat) (cs : List Value) (W : World), vs[i]? = some cs → Inv i W → Calls Try.prog g (#[.agg cs.toArray] ++ lb) W fun e W' => (e = .returned (.bool false) ∧ Inv (i + 1) W') ∨ (e = .returned (.bool true) ∧ Out i W'))
    (h0 : Inv 0 w) :
    Calls Try.prog 50 #[.slice A n c, .func (.func g) #[] lb] w fun e w' =>
      ∃ i : Int, e = .returned (.int .i64 i) ∧ ((i = -1 ∧ Inv n w') ∨ ∃ k : Nat, k < n ∧ i = k ∧ Out k w') := by
  have a0 := Try.isAgg37
  have z0 := Try.sizeOf37
  have hbig := hv.2.1
  go_enter Try.func50, Try.ntmps50
  go_wp2
  go_loopg [5, 8] n (fun gg _ s8 wr => ∃ kk : Nat, kk ≤ n ∧ n - kk ≤ gg ∧ s8 = .int .i64 kk ∧ Aside (Inv kk wr))
  case atStart => exact ⟨0, Nat.zero_le _, by omega, rfl, h0⟩
  case round =>
    obtain ⟨kk, hkk, hg, rfl, BW⟩ := hrel
    by_cases hlt : kk < n
    · have hltz : (kk : Int) < (n : Int) := by omega
      obtain ⟨ad, rfl, _⟩ := hv.2.2.2 (by omega)
      have hl : kk < vs.length := by rw [hv.1]; exact hlt
      obtain ⟨cs, hcs⟩ : ∃ cs, vs[kk]? = some cs := ⟨_, List.getElem?_eq_getElem hl⟩
      obtain ⟨u0, u1, u2, u3, u4, rfl⟩ := list5 (hv.2.2.1 kk cs hcs)
      have l0 := hv.cell0 (hB kk wr BW.out) kk _ hcs u0 rfl
      have l1 := hv.cellS (hB kk wr BW.out) kk _ hcs 1 u1 (by omega) rfl
      have l2 := hv.cellS (hB kk wr BW.out) kk _ hcs 2 u2 (by omega) rfl
      have l3 := hv.cellS (hB kk wr BW.out) kk _ hcs 3 u3 (by omega) rfl
      have l4 := hv.cellS (hB kk wr BW.out) kk _ hcs 4 u4 (by omega) rfl
      have hcall := hs kk _ wr hcs BW.out
      clear hs hv hB
      go_wp2_with (go_at_fn g; refine hcall.mono ?_; rintro e w' (⟨rfl, hi⟩ | ⟨rfl, ho⟩))
      · go_roundg (n - (kk + 1))
        case measure => omega
        case rel => exact ⟨kk + 1, by omega, by omega, by go_num, hi⟩
      · go_ret
        exact ⟨kk, rfl, .inr ⟨kk, hlt, rfl, ho⟩⟩
    · have hltz : ¬ (kk : Int) < (n : Int) := by omega
      have : kk = n := by omega
      subst this
      go_wp2
      go_ret
      exact ⟨-1, rfl, .inl ⟨rfl, BW.out⟩⟩

/-- slices.ContainsFunc: true where a call said 'yes'; else Inv has come to the end. -/
theorem conTy (g : Nat) (lb : Array Value) (eg : ∀ args w, (callFunc g args).run Try.prog w = .ok (.enter g args) w) (A : Option Addr) (n c : Nat) (vs : List (List Value)) (w0 w : World) (Inv Out : Nat → World → Prop)
    (hv : Els 5 w0 A n vs) (hB : ∀ i W, Inv i W → Below w0.heap.size w0 W)
    (hs : ∀ (i : Nat) (cs : List Value) (W : World), vs[i]? = some cs → Inv i W → Calls Try.prog g (#[.agg cs.toArray] ++ lb) W fun e W' => (e = .returned (.bool false) ∧ Inv (i + 1) W') ∨ (e = .returned (.bool true) ∧ Out i W'))
    (h0 : Inv 0 w) :
    Calls Try.prog 38 #[.slice A n c, .func (.func g) #[] lb] w fun e w' =>
      (e = .returned (.bool false) ∧ Inv n w') ∨ (e = .returned (.bool true) ∧ ∃ k, k < n ∧ Out k w') := by
  have h := idxTy g lb eg A n c vs w0 w Inv Out hv hB hs h0
  clear hs hv hB
  go_enter Try.func38, Try.ntmps38
  go_wp2_with (go_at_call 50; refine h.mono ?_; rintro e w' ⟨i, rfl, (⟨rfl, hi⟩ | ⟨k, hk, rfl, ho⟩)⟩)
  · go_ret
    exact .inl ⟨by first | rfl | simp, hi⟩
  · go_ret
    exact .inr ⟨by first | rfl | simp, k, hk, ho⟩

/-! ### Loan -/
set_option maxHeartbeats 2000000 in
/-- slices.IndexFunc: from call to call Inv goes on; the first 'yes' ends it. -/
theorem idxLoan (g : Nat) (lb : Array Value) (eg : ∀ args w, (callFunc g args).run Try.prog w = .ok (.enter g args) w) (A : Option Addr) (n c : Nat) (vs : List (List Value)) (w0 w : World) (Inv Out : Nat → World → Prop)
    (hv : Els 4 w0 A n vs) (hB : ∀ i W, Inv i W → Below w0.heap.size w0 W)
    (hs : ∀ (i : Nat) (cs : List Value) (W : World), vs[i]? = some cs → Inv i W → Calls Try.prog g (#[.agg cs.toArray] ++ lb) W fun e W' => (e = .returned (.bool false) ∧ Inv (i + 1) W') ∨ (e = .returned (.bool true) ∧ Out i W'))
    (h0 : Inv 0 w) :
    Calls Try.prog 40 #[.slice A n c, .func (.func g) #[] lb] w fun e w' =>
      ∃ i : Int, e = .returned (.int .i64 i) ∧ ((i = -1 ∧ Inv n w') ∨ ∃ k : Nat, k < n ∧ i = k ∧ Out k w') := by
  have a0 := Try.isAgg27
  have z0 := Try.sizeOf27
  have hbig := hv.2.1
  go_enter Try.func40, Try.ntmps40
  go_wp2
  go_loopg [5, 8] n (fun gg _ s8 wr => ∃ kk : Nat, kk ≤ n ∧ n - kk ≤ gg ∧ s8 = .int .i64 kk ∧ Aside (Inv kk wr))
  case atStart => exact ⟨0, Nat.zero_le _, by omega, rfl, h0⟩
  case round =>
    obtain ⟨kk, hkk, hg, rfl, BW⟩ := hrel
    by_cases hlt : kk < n
    · have hltz : (kk : Int) < (n : Int) := by omega
      obtain ⟨ad, rfl, _⟩ := hv.2.2.2 (by omega)
      have hl : kk < vs.length := by rw [hv.1]; exact hlt
      obtain ⟨cs, hcs⟩ : ∃ cs, vs[kk]? = some cs := ⟨_, List.getElem?_eq_getElem hl⟩
      obtain ⟨u0, u1, u2, u3, rfl⟩ := list4 (hv.2.2.1 kk cs hcs)
      have l0 := hv.cell0 (hB kk wr BW.out) kk _ hcs u0 rfl
      have l1 := hv.cellS (hB kk wr BW.out) kk _ hcs 1 u1 (by omega) rfl
      have l2 := hv.cellS (hB kk wr BW.out) kk _ hcs 2 u2 (by omega) rfl
      have l3 := hv.cellS (hB kk wr BW.out) kk _ hcs 3 u3 (by omega) rfl
      have hcall := hs kk _ wr hcs BW.out
      clear hs hv hB
      go_wp2_with (go_at_fn g; refine hcall.mono ?_; rintro e w' (⟨rfl, hi⟩ | ⟨rfl, ho⟩))
      · go_roundg (n - (kk + 1))
        case measure => omega
        case rel => exact ⟨kk + 1, by omega, by omega, by go_num, hi⟩
      · go_ret
        exact ⟨kk, rfl, .inr ⟨kk, hlt, rfl, ho⟩⟩
    · have hltz : ¬ (kk : Int) < (n : Int) := by omega
      have : kk = n := by omega
      subst this
      go_wp2
      go_ret
      exact ⟨-1, rfl, .inl ⟨rfl, BW.out⟩⟩

/-- slices.ContainsFunc: true where a call said 'yes'; else Inv has come to the end. -/
theorem conLoan (g : Nat) (lb : Array Value) (eg : ∀ args w, (callFunc g args).run Try.prog w = .ok (.enter g args) w) (A : Option Addr) (n c : Nat) (vs : List (List Value)) (w0 w : World) (Inv Out : Nat → World → Prop)
    (hv : Els 4 w0 A n vs) (hB : ∀ i W, Inv i W → Below w0.heap.size w0 W)
    (hs : ∀ (i : Nat) (cs : List Value) (W : World), vs[i]? = some cs → Inv i W → Calls Try.prog g (#[.agg cs.toArray] ++ lb) W fun e W' => (e = .returned (.bool false) ∧ Inv (i + 1) W') ∨ (e = .returned (.bool true) ∧ Out i W'))
    (h0 : Inv 0 w) :
    Calls Try.prog 24 #[.slice A n c, .func (.func g) #[] lb] w fun e w' =>
      (e = .returned (.bool false) ∧ Inv n w') ∨ (e = .returned (.bool true) ∧ ∃ k, k < n ∧ Out k w') := by
  have h := idxLoan g lb eg A n c vs w0 w Inv Out hv hB hs h0
  clear hs hv hB
  go_enter Try.func24, Try.ntmps24
  go_wp2_with (go_at_call 40; refine h.mono ?_; rintro e w' ⟨i, rfl, (⟨rfl, hi⟩ | ⟨k, hk, rfl, ho⟩)⟩)
  · go_ret
    exact .inl ⟨by first | rfl | simp, hi⟩
  · go_ret
    exact .inr ⟨by first | rfl | simp, k, hk, ho⟩

/-! ### Bind -/
set_option maxHeartbeats 2000000 in
/-- slices.IndexFunc: from call to call Inv goes on; the first 'yes' ends it. -/
theorem idxBind (g : Nat) (lb : Array Value) (eg : ∀ args w, (callFunc g args).run Try.prog w = .ok (.enter g args) w) (A : Option Addr) (n c : Nat) (vs : List (List Value)) (w0 w : World) (Inv Out : Nat → World → Prop)
    (hv : Els 6 w0 A n vs) (hB : ∀ i W, Inv i W → Below w0.heap.size w0 W)
    (hs : ∀ (i : Nat) (cs : List Value) (W : World), vs[i]? = some cs → Inv i W → Calls Try.prog g (#[.agg cs.toArray] ++ lb) W fun e W' => (e = .returned (.bool false) ∧ Inv (i + 1) W') ∨ (e = .returned (.bool true) ∧ Out i W'))
    (h0 : Inv 0 w) :
    Calls Try.prog 41 #[.slice A n c, .func (.func g) #[] lb] w fun e w' =>
      ∃ i : Int, e = .returned (.int .i64 i) ∧ ((i = -1 ∧ Inv n w') ∨ ∃ k : Nat, k < n ∧ i = k ∧ Out k w') := by
  have a0 := Try.isAgg39
  have z0 := Try.sizeOf39
  have hbig := hv.2.1
  go_enter Try.func41, Try.ntmps41
  go_wp2
  go_loopg [5, 8] n (fun gg _ s8 wr => ∃ kk : Nat, kk ≤ n ∧ n - kk ≤ gg ∧ s8 = .int .i64 kk ∧ Aside (Inv kk wr))
  case atStart => exact ⟨0, Nat.zero_le _, by omega, rfl, h0⟩
  case round =>
    obtain ⟨kk, hkk, hg, rfl, BW⟩ := hrel
    by_cases hlt : kk < n
    · have hltz : (kk : Int) < (n : Int) := by omega
      obtain ⟨ad, rfl, _⟩ := hv.2.2.2 (by omega)
      have hl : kk < vs.length := by rw [hv.1]; exact hlt
      obtain ⟨cs, hcs⟩ : ∃ cs, vs[kk]? = some cs := ⟨_, List.getElem?_eq_getElem hl⟩
      obtain ⟨u0, u1, u2, u3, u4, u5, rfl⟩ := list6 (hv.2.2.1 kk cs hcs)
      have l0 := hv.cell0 (hB kk wr BW.out) kk _ hcs u0 rfl
      have l1 := hv.cellS (hB kk wr BW.out) kk _ hcs 1 u1 (by omega) rfl
      have l2 := hv.cellS (hB kk wr BW.out) kk _ hcs 2 u2 (by omega) rfl
      have l3 := hv.cellS (hB kk wr BW.out) kk _ hcs 3 u3 (by omega) rfl
      have l4 := hv.cellS (hB kk wr BW.out) kk _ hcs 4 u4 (by omega) rfl
      have l5 := hv.cellS (hB kk wr BW.out) kk _ hcs 5 u5 (by omega) rfl
      have hcall := hs kk _ wr hcs BW.out
      clear hs hv hB
      go_wp2_with (go_at_fn g; refine hcall.mono ?_; rintro e w' (⟨rfl, hi⟩ | ⟨rfl, ho⟩))
      · go_roundg (n - (kk + 1))
        case measure => omega
        case rel => exact ⟨kk + 1, by omega, by omega, by go_num, hi⟩
      · go_ret
        exact ⟨kk, rfl, .inr ⟨kk, hlt, rfl, ho⟩⟩
    · have hltz : ¬ (kk : Int) < (n : Int) := by omega
      have : kk = n := by omega
      subst this
      go_wp2
      go_ret
      exact ⟨-1, rfl, .inl ⟨rfl, BW.out⟩⟩

/-- slices.ContainsFunc: true where a call said 'yes'; else Inv has come to the end. -/
theorem conBind (g : Nat) (lb : Array Value) (eg : ∀ args w, (callFunc g args).run Try.prog w = .ok (.enter g args) w) (A : Option Addr) (n c : Nat) (vs : List (List Value)) (w0 w : World) (Inv Out : Nat → World → Prop)
    (hv : Els 6 w0 A n vs) (hB : ∀ i W, Inv i W → Below w0.heap.size w0 W)
    (hs : ∀ (i : Nat) (cs : List Value) (W : World), vs[i]? = some cs → Inv i W → Calls Try.prog g (#[.agg cs.toArray] ++ lb) W fun e W' => (e = .returned (.bool false) ∧ Inv (i + 1) W') ∨ (e = .returned (.bool true) ∧ Out i W'))
    (h0 : Inv 0 w) :
    Calls Try.prog 26 #[.slice A n c, .func (.func g) #[] lb] w fun e w' =>
      (e = .returned (.bool false) ∧ Inv n w') ∨ (e = .returned (.bool true) ∧ ∃ k, k < n ∧ Out k w') := by
  have h := idxBind g lb eg A n c vs w0 w Inv Out hv hB hs h0
  clear hs hv hB
  go_enter Try.func26, Try.ntmps26
  go_wp2_with (go_at_call 41; refine h.mono ?_; rintro e w' ⟨i, rfl, (⟨rfl, hi⟩ | ⟨k, hk, rfl, ho⟩)⟩)
  · go_ret
    exact .inl ⟨by first | rfl | simp, hi⟩
  · go_ret
    exact .inr ⟨by first | rfl | simp, k, hk, ho⟩

end Go.Proofs.Ytadjekpfehjibaa.PEnv
