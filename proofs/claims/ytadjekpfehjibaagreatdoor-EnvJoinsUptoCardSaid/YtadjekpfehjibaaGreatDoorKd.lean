/- EnvJoins, the texts EIdx, EParts, ELaw1, ELaw3, ELaw4, EMerge2, EMerge3, EGrown, EMerge4, EHit, EPlain, ERise, ERight0, ERightk4, ERightk1: walks and laws that the card leans on, merged by packj.py. Conditions stand in each theorem. -/
import Derived.Test.YtadjekpfehjibaaGreatDoorKb
import Derived.Shelf.SlicesQ.Load
import Derived.Shelf.SlicesQ.IndexFunc
import Derived.RangeFuncNested
import Derived.RangeFuncBound
import Derived.RangeFuncCalls
import Derived.RangeFuncLeaves
import Derived.Shelf.Abstract
import Derived.Shelf.RegionOpen
import Derived.OwnWalkIn
import Derived.TacticsInMore
import Derived.LoopNIn
import Derived.LoopIn
import Derived.Laws.EntriesVeiled
import Derived.Test.YtadjekpfehjibaaGreatDoorKc
import Derived.ArgAppend
import Derived.Shelf.GgSortFunc.RowK
import Derived.Test.YtadjekpfehjibaaGreatDoorShelf
import Derived.Shelf.SlSortCmp.WholeK
import Derived.BigQuiet
set_option linter.unusedVariables false
set_option linter.unusedSimpArgs false
namespace Go.Proofs.YtadjekpfehjibaaGreatDoor.PEnv
open Go.RowKit Go.Shelf Go.Proofs.YtadjekpfehjibaaGreatDoorW.PrintWords Go.Proofs.YtadjekpfehjibaaGreatDoorW.PrintLast Go.Proofs.YtadjekpfehjibaaGreatDoorW.PrintMore
/-- A row of elements in memory, each by its cells. -/
def Els (sz : Nat) (w : World) (A : Option Addr) (n : Nat) (vs : List (List Value)) : Prop :=
  vs.length = n ∧ n ≤ 9223372036854775807 ∧ (∀ (j : Nat) (cs : List Value), vs[j]? = some cs → cs.length = sz) ∧
    (0 < n → ∃ ad, A = some ad ∧ ∀ (j : Nat) (cs : List Value), vs[j]? = some cs → ∀ (i : Nat) (u : Value), cs[i]? = some u → w.cell? (ad.add (j * sz + i)) = some u)
theorem Els.below {sz : Nat} {w w' : World} {A : Option Addr} {n : Nat} {vs : List (List Value)} (h : Els sz w A n vs) (hb : Below w.heap.size w w') : Els sz w' A n vs := by
  obtain ⟨h1, h2, h3, h4⟩ := h
  refine ⟨h1, h2, h3, fun h0 => ?_⟩
  obtain ⟨ad, e, hc⟩ := h4 h0
  exact ⟨ad, e, fun j cs hj i u hu => (hb.cell (World.block_lt_of_cell? w _ (hc j cs hj i u hu))).trans (hc j cs hj i u hu)⟩
theorem Els.cell {sz : Nat} {w W : World} {ad : Addr} {n : Nat} {vs : List (List Value)} (h : Els sz w (some ad) n vs) (hb : Below w.heap.size w W) (j : Nat) (cs : List Value) (hj : vs[j]? = some cs) (i : Nat) (u : Value) (hu : cs[i]? = some u) :
    W.cell? (ad.add (j * sz + i)) = some u := by
  obtain ⟨h1, h2, h3, h4⟩ := h
  have hlt : j < vs.length := by
    rcases Nat.lt_or_ge j vs.length with h | h
    · exact h
    · rw [List.getElem?_eq_none h] at hj; cases hj
  obtain ⟨ad', e, hc⟩ := h4 (by omega)
  cases e
  have := hc j cs hj i u hu
  exact (hb.cell (World.block_lt_of_cell? w _ this)).trans this
theorem Els.cell0 {sz : Nat} {w W : World} {ad : Addr} {n : Nat} {vs : List (List Value)} (h : Els sz w (some ad) n vs) (hb : Below w.heap.size w W) (j : Nat) (cs : List Value) (hj : vs[j]? = some cs) (u : Value) (hu : cs[0]? = some u) :
    W.cell? (ad.add (j * sz)) = some u := h.cell hb j cs hj 0 u hu
theorem Els.cellS {sz : Nat} {w W : World} {ad : Addr} {n : Nat} {vs : List (List Value)} (h : Els sz w (some ad) n vs) (hb : Below w.heap.size w W) (j : Nat) (cs : List Value) (hj : vs[j]? = some cs) (i : Nat) (u : Value) (hi : 0 < i) (hu : cs[i]? = some u) :
    W.cell? ⟨(ad.add (j * sz)).block, (ad.add (j * sz)).off + i, none⟩ = some u := by
  rw [← add_field ad (j * sz) i hi]; exact h.cell hb j cs hj i u hu
theorem list4 {cs : List Value} (h : cs.length = 4) : ∃ a b c d, cs = [a, b, c, d] := by
  match cs, h with
  | [a, b, c, d], _ => exact ⟨a, b, c, d, rfl⟩
theorem list5 {cs : List Value} (h : cs.length = 5) : ∃ a b c d e, cs = [a, b, c, d, e] := by
  match cs, h with
  | [a, b, c, d, e], _ => exact ⟨a, b, c, d, e, rfl⟩
theorem list6 {cs : List Value} (h : cs.length = 6) : ∃ a b c d e f, cs = [a, b, c, d, e, f] := by
  match cs, h with
  | [a, b, c, d, e, f], _ => exact ⟨a, b, c, d, e, f, rfl⟩
theorem els_of_C {α : Type} {d : Kd α} {w : World} {A : Option Addr} {n : Nat} {xs : List α} (h : Kd.C d w A n xs) : ∃ vs, Els d.sz w A n vs ∧ ∀ (i : Nat) (x : α), xs[i]? = some x → ∃ cs, vs[i]? = some cs ∧ d.K w x cs := by
  obtain ⟨h1, h2, h3⟩ := h
  by_cases h0 : 0 < n
  · obtain ⟨ad, e, hc⟩ := h3 h0
    have hex : ∀ i : Fin xs.length, ∃ cs : List Value, cs.length = d.sz ∧ d.K w xs[i] cs ∧ ∀ k u, cs[k]? = some u → w.cell? (ad.add (i.1 * d.sz + k)) = some u := fun i => hc i.1 xs[i] (List.getElem?_eq_getElem i.2)
    refine ⟨List.ofFn (fun i => (hex i).choose), ⟨by simpa using h1, h2, ?_, fun _ => ⟨ad, e, ?_⟩⟩, ?_⟩
    · intro j cs hj
      obtain ⟨hlt, rfl⟩ := List.getElem?_eq_some_iff.mp hj
      rw [List.getElem_ofFn]
      exact (hex _).choose_spec.1
    · intro j cs hj
      obtain ⟨hlt, rfl⟩ := List.getElem?_eq_some_iff.mp hj
      rw [List.getElem_ofFn]
      exact (hex ⟨j, by simpa using hlt⟩).choose_spec.2.2
    · intro i x hx
      obtain ⟨hlt, rfl⟩ := List.getElem?_eq_some_iff.mp hx
      refine ⟨_, List.getElem?_eq_getElem (by simpa using hlt), ?_⟩
      rw [List.getElem_ofFn]
      exact (hex ⟨i, hlt⟩).choose_spec.2.1
  · have : n = 0 := by omega
    subst this
    have : xs = [] := List.length_eq_zero_iff.mp h1
    subst this
    exact ⟨[], ⟨rfl, h2, by simp, fun h => absurd h (Nat.lt_irrefl 0)⟩, by simp⟩
set_option maxHeartbeats 2000000 in
/-- slices.IndexFunc: from call to call Inv goes on; the first 'yes' ends it. -/
theorem idxTy (g : Nat) (lb : Array Value) (eg : ∀ args w, (callFunc g args).run Tryz.prog w = .ok (.enter g args) w) (A : Option Addr) (n c : Nat) (vs : List (List Value)) (w0 w : World) (Inv Out : Nat → World → Prop)
    (hv : Els 5 w0 A n vs) (hB : ∀ i W, Inv i W → Below w0.heap.size w0 W)
    (hs : ∀ (i : Nat) (cs : List Value) (W : World), vs[i]? = some cs → Inv i W → Calls Tryz.prog g (#[.agg cs.toArray] ++ lb) W fun e W' => (e = .returned (.bool false) ∧ Inv (i + 1) W') ∨ (e = .returned (.bool true) ∧ Out i W'))
    (h0 : Inv 0 w) :
    Calls Tryz.prog 62 #[.slice A n c, .func (.func g) #[] lb] w fun e w' =>
      ∃ i : Int, e = .returned (.int .i64 i) ∧ ((i = -1 ∧ Inv n w') ∨ ∃ k : Nat, k < n ∧ i = k ∧ Out k w') := by
  have a0 := Tryz.isAgg31
  have z0 := Tryz.sizeOf31
  have hbig := hv.2.1
  go_enter Tryz.func62, Tryz.ntmps62
  go_wp2
  go_loopg [5, 8] n (fun gg _ s8 wr => ∃ kk : Nat, kk ≤ n ∧ n - kk ≤ gg ∧ s8 = .int .i64 kk ∧ Aside (Inv kk wr))
  case atStart => exact ⟨0, Nat.zero_le _, by omega, rfl, h0⟩
  case round =>
    obtain ⟨kk, hkk, hg, rfl, BW⟩ := hrel
    by_cases hlt : kk < n
    · have hltz : (kk : Int) < (n : Int) := by omega
      obtain ⟨ad, rfl, _⟩ := hv.2.2.2 (by omega)
      have hl : kk < vs.length := by rw [hv.1]; exact hlt
      obtain ⟨cs, hcs⟩ : ∃ cs, vs[kk]? = some cs := ⟨_, List.getElem?_eq_getElem hl⟩
      obtain ⟨u0, u1, u2, u3, u4, rfl⟩ := list5 (hv.2.2.1 kk cs hcs)
      have l0 := hv.cell0 (hB kk wr BW.out) kk _ hcs u0 rfl
      have l1 := hv.cellS (hB kk wr BW.out) kk _ hcs 1 u1 (by omega) rfl
      have l2 := hv.cellS (hB kk wr BW.out) kk _ hcs 2 u2 (by omega) rfl
      have l3 := hv.cellS (hB kk wr BW.out) kk _ hcs 3 u3 (by omega) rfl
      have l4 := hv.cellS (hB kk wr BW.out) kk _ hcs 4 u4 (by omega) rfl
      have hcall := hs kk _ wr hcs BW.out
      clear hs hv hB
      go_wp2_with (go_at_fn g; refine hcall.mono ?_; rintro e w' (⟨rfl, hi⟩ | ⟨rfl, ho⟩))
      · go_roundg (n - (kk + 1))
        case measure => omega
        case rel => exact ⟨kk + 1, by omega, by omega, by go_num, hi⟩
      · go_ret
        exact ⟨kk, rfl, .inr ⟨kk, hlt, rfl, ho⟩⟩
    · have hltz : ¬ (kk : Int) < (n : Int) := by omega
      have : kk = n := by omega
      subst this
      go_wp2
      go_ret
      exact ⟨-1, rfl, .inl ⟨rfl, BW.out⟩⟩
/-- slices.ContainsFunc: true where a call said 'yes'; else Inv has come to the end. -/
theorem conTy (g : Nat) (lb : Array Value) (eg : ∀ args w, (callFunc g args).run Tryz.prog w = .ok (.enter g args) w) (A : Option Addr) (n c : Nat) (vs : List (List Value)) (w0 w : World) (Inv Out : Nat → World → Prop)
    (hv : Els 5 w0 A n vs) (hB : ∀ i W, Inv i W → Below w0.heap.size w0 W)
    (hs : ∀ (i : Nat) (cs : List Value) (W : World), vs[i]? = some cs → Inv i W → Calls Tryz.prog g (#[.agg cs.toArray] ++ lb) W fun e W' => (e = .returned (.bool false) ∧ Inv (i + 1) W') ∨ (e = .returned (.bool true) ∧ Out i W'))
    (h0 : Inv 0 w) :
    Calls Tryz.prog 40 #[.slice A n c, .func (.func g) #[] lb] w fun e w' =>
      (e = .returned (.bool false) ∧ Inv n w') ∨ (e = .returned (.bool true) ∧ ∃ k, k < n ∧ Out k w') := by
  have h := idxTy g lb eg A n c vs w0 w Inv Out hv hB hs h0
  clear hs hv hB
  go_enter Tryz.func40, Tryz.ntmps40
  go_wp2_with (go_at_call 62; refine h.mono ?_; rintro e w' ⟨i, rfl, (⟨rfl, hi⟩ | ⟨k, hk, rfl, ho⟩)⟩)
  · go_ret
    exact .inl ⟨by first | rfl | simp, hi⟩
  · go_ret
    exact .inr ⟨by first | rfl | simp, k, hk, ho⟩
set_option maxHeartbeats 2000000 in
/-- slices.IndexFunc: from call to call Inv goes on; the first 'yes' ends it. -/
theorem idxLoan (g : Nat) (lb : Array Value) (eg : ∀ args w, (callFunc g args).run Tryz.prog w = .ok (.enter g args) w) (A : Option Addr) (n c : Nat) (vs : List (List Value)) (w0 w : World) (Inv Out : Nat → World → Prop)
    (hv : Els 4 w0 A n vs) (hB : ∀ i W, Inv i W → Below w0.heap.size w0 W)
    (hs : ∀ (i : Nat) (cs : List Value) (W : World), vs[i]? = some cs → Inv i W → Calls Tryz.prog g (#[.agg cs.toArray] ++ lb) W fun e W' => (e = .returned (.bool false) ∧ Inv (i + 1) W') ∨ (e = .returned (.bool true) ∧ Out i W'))
    (h0 : Inv 0 w) :
    Calls Tryz.prog 60 #[.slice A n c, .func (.func g) #[] lb] w fun e w' =>
      ∃ i : Int, e = .returned (.int .i64 i) ∧ ((i = -1 ∧ Inv n w') ∨ ∃ k : Nat, k < n ∧ i = k ∧ Out k w') := by
  have a0 := Tryz.isAgg44
  have z0 := Tryz.sizeOf44
  have hbig := hv.2.1
  go_enter Tryz.func60, Tryz.ntmps60
  go_wp2
  go_loopg [5, 8] n (fun gg _ s8 wr => ∃ kk : Nat, kk ≤ n ∧ n - kk ≤ gg ∧ s8 = .int .i64 kk ∧ Aside (Inv kk wr))
  case atStart => exact ⟨0, Nat.zero_le _, by omega, rfl, h0⟩
  case round =>
    obtain ⟨kk, hkk, hg, rfl, BW⟩ := hrel
    by_cases hlt : kk < n
    · have hltz : (kk : Int) < (n : Int) := by omega
      obtain ⟨ad, rfl, _⟩ := hv.2.2.2 (by omega)
      have hl : kk < vs.length := by rw [hv.1]; exact hlt
      obtain ⟨cs, hcs⟩ : ∃ cs, vs[kk]? = some cs := ⟨_, List.getElem?_eq_getElem hl⟩
      obtain ⟨u0, u1, u2, u3, rfl⟩ := list4 (hv.2.2.1 kk cs hcs)
      have l0 := hv.cell0 (hB kk wr BW.out) kk _ hcs u0 rfl
      have l1 := hv.cellS (hB kk wr BW.out) kk _ hcs 1 u1 (by omega) rfl
      have l2 := hv.cellS (hB kk wr BW.out) kk _ hcs 2 u2 (by omega) rfl
      have l3 := hv.cellS (hB kk wr BW.out) kk _ hcs 3 u3 (by omega) rfl
      have hcall := hs kk _ wr hcs BW.out
      clear hs hv hB
      go_wp2_with (go_at_fn g; refine hcall.mono ?_; rintro e w' (⟨rfl, hi⟩ | ⟨rfl, ho⟩))
      · go_roundg (n - (kk + 1))
        case measure => omega
        case rel => exact ⟨kk + 1, by omega, by omega, by go_num, hi⟩
      · go_ret
        exact ⟨kk, rfl, .inr ⟨kk, hlt, rfl, ho⟩⟩
    · have hltz : ¬ (kk : Int) < (n : Int) := by omega
      have : kk = n := by omega
      subst this
      go_wp2
      go_ret
      exact ⟨-1, rfl, .inl ⟨rfl, BW.out⟩⟩
/-- slices.ContainsFunc: true where a call said 'yes'; else Inv has come to the end. -/
theorem conLoan (g : Nat) (lb : Array Value) (eg : ∀ args w, (callFunc g args).run Tryz.prog w = .ok (.enter g args) w) (A : Option Addr) (n c : Nat) (vs : List (List Value)) (w0 w : World) (Inv Out : Nat → World → Prop)
    (hv : Els 4 w0 A n vs) (hB : ∀ i W, Inv i W → Below w0.heap.size w0 W)
    (hs : ∀ (i : Nat) (cs : List Value) (W : World), vs[i]? = some cs → Inv i W → Calls Tryz.prog g (#[.agg cs.toArray] ++ lb) W fun e W' => (e = .returned (.bool false) ∧ Inv (i + 1) W') ∨ (e = .returned (.bool true) ∧ Out i W'))
    (h0 : Inv 0 w) :
    Calls Tryz.prog 37 #[.slice A n c, .func (.func g) #[] lb] w fun e w' =>
      (e = .returned (.bool false) ∧ Inv n w') ∨ (e = .returned (.bool true) ∧ ∃ k, k < n ∧ Out k w') := by
  have h := idxLoan g lb eg A n c vs w0 w Inv Out hv hB hs h0
  clear hs hv hB
  go_enter Tryz.func37, Tryz.ntmps37
  go_wp2_with (go_at_call 60; refine h.mono ?_; rintro e w' ⟨i, rfl, (⟨rfl, hi⟩ | ⟨k, hk, rfl, ho⟩)⟩)
  · go_ret
    exact .inl ⟨by first | rfl | simp, hi⟩
  · go_ret
    exact .inr ⟨by first | rfl | simp, k, hk, ho⟩
set_option maxHeartbeats 2000000 in
/-- slices.IndexFunc: from call to call Inv goes on; the first 'yes' ends it. -/
theorem idxBind (g : Nat) (lb : Array Value) (eg : ∀ args w, (callFunc g args).run Tryz.prog w = .ok (.enter g args) w) (A : Option Addr) (n c : Nat) (vs : List (List Value)) (w0 w : World) (Inv Out : Nat → World → Prop)
    (hv : Els 6 w0 A n vs) (hB : ∀ i W, Inv i W → Below w0.heap.size w0 W)
    (hs : ∀ (i : Nat) (cs : List Value) (W : World), vs[i]? = some cs → Inv i W → Calls Tryz.prog g (#[.agg cs.toArray] ++ lb) W fun e W' => (e = .returned (.bool false) ∧ Inv (i + 1) W') ∨ (e = .returned (.bool true) ∧ Out i W'))
    (h0 : Inv 0 w) :
    Calls Tryz.prog 38 #[.slice A n c, .func (.func g) #[] lb] w fun e w' =>
      ∃ i : Int, e = .returned (.int .i64 i) ∧ ((i = -1 ∧ Inv n w') ∨ ∃ k : Nat, k < n ∧ i = k ∧ Out k w') := by
  have a0 := Tryz.isAgg33
  have z0 := Tryz.sizeOf33
  have hbig := hv.2.1
  go_enter Tryz.func38, Tryz.ntmps38
  go_wp2
  go_loopg [5, 8] n (fun gg _ s8 wr => ∃ kk : Nat, kk ≤ n ∧ n - kk ≤ gg ∧ s8 = .int .i64 kk ∧ Aside (Inv kk wr))
  case atStart => exact ⟨0, Nat.zero_le _, by omega, rfl, h0⟩
  case round =>
    obtain ⟨kk, hkk, hg, rfl, BW⟩ := hrel
    by_cases hlt : kk < n
    · have hltz : (kk : Int) < (n : Int) := by omega
      obtain ⟨ad, rfl, _⟩ := hv.2.2.2 (by omega)
      have hl : kk < vs.length := by rw [hv.1]; exact hlt
      obtain ⟨cs, hcs⟩ : ∃ cs, vs[kk]? = some cs := ⟨_, List.getElem?_eq_getElem hl⟩
      obtain ⟨u0, u1, u2, u3, u4, u5, rfl⟩ := list6 (hv.2.2.1 kk cs hcs)
      have l0 := hv.cell0 (hB kk wr BW.out) kk _ hcs u0 rfl
      have l1 := hv.cellS (hB kk wr BW.out) kk _ hcs 1 u1 (by omega) rfl
      have l2 := hv.cellS (hB kk wr BW.out) kk _ hcs 2 u2 (by omega) rfl
      have l3 := hv.cellS (hB kk wr BW.out) kk _ hcs 3 u3 (by omega) rfl
      have l4 := hv.cellS (hB kk wr BW.out) kk _ hcs 4 u4 (by omega) rfl
      have l5 := hv.cellS (hB kk wr BW.out) kk _ hcs 5 u5 (by omega) rfl
      have hcall := hs kk _ wr hcs BW.out
      clear hs hv hB
      go_wp2_with (go_at_fn g; refine hcall.mono ?_; rintro e w' (⟨rfl, hi⟩ | ⟨rfl, ho⟩))
      · go_roundg (n - (kk + 1))
        case measure => omega
        case rel => exact ⟨kk + 1, by omega, by omega, by go_num, hi⟩
      · go_ret
        exact ⟨kk, rfl, .inr ⟨kk, hlt, rfl, ho⟩⟩
    · have hltz : ¬ (kk : Int) < (n : Int) := by omega
      have : kk = n := by omega
      subst this
      go_wp2
      go_ret
      exact ⟨-1, rfl, .inl ⟨rfl, BW.out⟩⟩
/-- slices.ContainsFunc: true where a call said 'yes'; else Inv has come to the end. -/
theorem conBind (g : Nat) (lb : Array Value) (eg : ∀ args w, (callFunc g args).run Tryz.prog w = .ok (.enter g args) w) (A : Option Addr) (n c : Nat) (vs : List (List Value)) (w0 w : World) (Inv Out : Nat → World → Prop)
    (hv : Els 6 w0 A n vs) (hB : ∀ i W, Inv i W → Below w0.heap.size w0 W)
    (hs : ∀ (i : Nat) (cs : List Value) (W : World), vs[i]? = some cs → Inv i W → Calls Tryz.prog g (#[.agg cs.toArray] ++ lb) W fun e W' => (e = .returned (.bool false) ∧ Inv (i + 1) W') ∨ (e = .returned (.bool true) ∧ Out i W'))
    (h0 : Inv 0 w) :
    Calls Tryz.prog 20 #[.slice A n c, .func (.func g) #[] lb] w fun e w' =>
      (e = .returned (.bool false) ∧ Inv n w') ∨ (e = .returned (.bool true) ∧ ∃ k, k < n ∧ Out k w') := by
  have h := idxBind g lb eg A n c vs w0 w Inv Out hv hB hs h0
  clear hs hv hB
  go_enter Tryz.func20, Tryz.ntmps20
  go_wp2_with (go_at_call 38; refine h.mono ?_; rintro e w' ⟨i, rfl, (⟨rfl, hi⟩ | ⟨k, hk, rfl, ho⟩)⟩)
  · go_ret
    exact .inl ⟨by first | rfl | simp, hi⟩
  · go_ret
    exact .inr ⟨by first | rfl | simp, k, hk, ho⟩
end Go.Proofs.YtadjekpfehjibaaGreatDoor.PEnv
namespace Go.Proofs.YtadjekpfehjibaaGreatDoor.PEnv
open Go.RowKit Go.Shelf Go.Proofs.YtadjekpfehjibaaGreatDoorW.PrintWords Go.Proofs.YtadjekpfehjibaaGreatDoorW.PrintLast Go.Proofs.YtadjekpfehjibaaGreatDoorW.PrintMore Go.Proofs.YtadjekpfehjibaaGreatDoor.PEnvJoins
attribute [local go_sem] Oper.semAt_some
theorem room_of_none {F : Fence} (hd : F.depth = none) (k : Nat) : F.room k := fun d h => by rw [hd] at h; cases h
theorem roundIn_anyDepth {F : Fence} (hd : F.depth = none) {m m' : Nat} {P : Program} {l : Nat} {f : FuncId} {tmps : Array Value} {assign body : Code} {w : World} {R : Ending → World → Prop}
    (h : RoundIn F m P l f tmps assign body w R) : RoundIn F m' P l f tmps assign body w R := ⟨h.1, fun c cs _ => h.2 c cs (room_of_none hd _)⟩
theorem yieldAt_anyDepth {F : Fence} (hd : F.depth = none) {m : Nat} (m' : Nat) {P : Program} {l : Nat} {args : Array Value} {W : World} {R : Ending → World → Prop} (h : YieldAt F m P l args W R) : YieldAt F m' P l args W R := by
  obtain ⟨fn, tmps, assign, body, hy, hR⟩ := h
  exact ⟨fn, tmps, assign, body, hy, roundIn_anyDepth hd hR⟩
/-- What a round that goes on keeps: what lay below n₀, and whatever cells lay. -/
def CK (n₀ : Nat) (W W' : World) : Prop := Below n₀ W W' ∧ ∀ (b : Nat) (o : Obj), W.heap[b]? = some o → o.isCells = true → W'.heap[b]? = some o
theorem CK.trans {n₀ : Nat} {A B C : World} (h : CK n₀ A B) (k : CK n₀ B C) : CK n₀ A C := ⟨h.1.trans k.1, fun b o hb hc => k.2 b o (h.2 b o hb hc) hc⟩
theorem CK.of_below {n₀ : Nat} {W W' : World} (hn : n₀ ≤ W.heap.size) (h : Below W.heap.size W W') : CK n₀ W W' :=
  ⟨h.mono hn, fun b o hb _ => (h.block b (Array.getElem?_eq_some_iff.1 hb).1).trans hb⟩
theorem CK.putObj {n₀ : Nat} {w : World} (hn : n₀ ≤ w.heap.size) (W : World) (l : Nat) (o o' : Obj) (hl : w.heap.size ≤ l) (h : W.heap[l]? = some o) (hc : o.isCells = false) (hw : o.isWalk = false) : CK n₀ W (W.putObj l o') :=
  ⟨belowK_b hn W l o o' hl h hc hw, fun b ob hb hcb => by
    rw [World.putObj_heap_other (fun e => by subst e; rw [h] at hb; cases hb; rw [hc] at hcb; cases hcb)]; exact hb⟩
theorem CK.cell {n₀ : Nat} {W W' : World} (h : CK n₀ W W') {a : Addr} {v : Value} (hc : W.cell? a = some v) : W'.cell? a = some v := by
  have hb : ∃ o, W.heap[a.block]? = some o ∧ o.isCells = true := by
    unfold World.cell? at hc
    split at hc
    · rename_i c e f he; exact ⟨_, he, rfl⟩
    · cases hc
  obtain ⟨o, ho, hoc⟩ := hb
  rw [← hc]
  exact World.cell?_of_block ((h.2 _ o ho hoc).trans ho.symm)
theorem below_cell {W W' : World} (h : Below W.heap.size W W') {a : Addr} {v : Value} (hc : W.cell? a = some v) : W'.cell? a = some v :=
  (h.cell (World.block_lt_of_cell? W _ hc)).trans hc
mutual
/-- A type and all in it. -/
def partsT : S31 → List S31
  | ⟨a, b, c, d, e⟩ => ⟨a, b, c, d, e⟩ :: partsL e
def partsL : List S31 → List S31
  | [] => []
  | t :: ts => partsT t ++ partsL ts
end
theorem partsT_eq (t : S31) : partsT t = t :: partsL t.f4 := by cases t; rfl
theorem tyInd {motive : S31 → Prop} (h : ∀ t, (∀ k ∈ t.f4, motive k) → motive t) (t : S31) : motive t :=
  S31.rec (motive_1 := motive) (motive_2 := fun l => ∀ k ∈ l, motive k) (fun f0 f1 f2 f3 f4 ih => h _ ih) (by simp) (fun a l ha hl k hk => by
    rcases List.mem_cons.mp hk with rfl | hk
    · exact ha
    · exact hl k hk) t
/-- What is handed to a round: a type with its cells, as they lay in the world w. -/
abbrev Part (w : World) := { x : S31 × List Value // k31.K w x.1 x.2 }
def ptr (b : Nat) : Value := .pointer (some ⟨b, 0, none⟩)
set_option maxHeartbeats 2000000 in
/-- env.parts$1$1$1: the other answer than walk's. -/
theorem walk3 (Wb : Nat) (f0 : Int) (f1 f2 : Bool) (A3 : Option Addr) (n3 c3 : Nat) (A4 : Option Addr) (n4 c4 : Nat) (cb : Array Value) (W : World) (A B : World → Prop)
    (hW : W.cell? ⟨Wb, 0, none⟩ = some (.func (.func 58) #[] cb))
    (hc : Calls Tryz.prog 58 (#[.agg #[.int .i64 f0, .bool f1, .bool f2, .slice A3 n3 c3, .slice A4 n4 c4]] ++ cb) (W.alloc (.cells #[.int .i64 f0, .bool f1, .bool f2, .slice A3 n3 c3, .slice A4 n4 c4] 31)) fun e W' => (e = .returned (.bool true) ∧ A W') ∨ (e = .returned (.bool false) ∧ B W')) :
    Calls Tryz.prog 59 #[.agg #[.int .i64 f0, .bool f1, .bool f2, .slice A3 n3 c3, .slice A4 n4 c4], ptr Wb] W fun e W' => (e = .returned (.bool false) ∧ A W') ∨ (e = .returned (.bool true) ∧ B W') := by
  have hlt : Wb < W.heap.size := World.block_lt_of_cell? W _ hW
  have hWa : (W.alloc (.cells #[.int .i64 f0, .bool f1, .bool f2, .slice A3 n3 c3, .slice A4 n4 c4] 31)).cell? ⟨Wb, 0, none⟩ = some (.func (.func 58) #[] cb) := below_cell ((Below.refl _ W).alloc (Nat.le_refl _) _) hW
  have eg : ∀ args w, (callFunc 58 args).run Tryz.prog w = .ok (.enter 58 args) w := enters_of Tryz.func58 (by kernel_rfl) rfl
  unfold ptr
  go_enter Tryz.func59, Tryz.ntmps59
  go_wp2_with (go_at_fn 58; refine hc.mono ?_; rintro e w' (⟨rfl, hA⟩ | ⟨rfl, hB⟩))
  · go_ret
    exact .inl ⟨rfl, hA⟩
  · go_ret
    exact .inr ⟨rfl, hB⟩
def Good (w : World) (l Y Wb : Nat) (W : World) : Prop :=
  Below w.heap.size w W ∧ W.cell? ⟨Y, 0, none⟩ = some (.func (.yield l) #[] #[]) ∧ W.cell? ⟨Wb, 0, none⟩ = some (.func (.func 58) #[] #[ptr Y, ptr Wb])
theorem Good.below {w : World} {l Y Wb : Nat} {W W' : World} (h : Good w l Y Wb W) (hb : Below W.heap.size W W') : Good w l Y Wb W' :=
  ⟨h.1.trans (hb.mono h.1.size), below_cell hb h.2.1, below_cell hb h.2.2⟩
theorem Good.ck {w : World} {l Y Wb : Nat} {W W' : World} (h : Good w l Y Wb W) (hb : CK w.heap.size W W') : Good w l Y Wb W' :=
  ⟨h.1.trans hb.1, hb.cell h.2.1, hb.cell h.2.2⟩
def WalkOK (w : World) (l Y Wb N : Nat) (J Jx : List (Part w) → World → Prop) (cs : List Value) (X : List (Part w)) : Prop :=
  ∀ (pre : List (Part w)) (W : World), Good w l Y Wb W → J pre W → pre.length + X.length ≤ N →
    Calls Tryz.prog 58 #[.agg cs.toArray, ptr Y, ptr Wb] W fun e W' =>
      (e = .returned (.bool true) ∧ J (pre ++ X) W' ∧ Good w l Y Wb W') ∨ (e = .returned (.bool false) ∧ ∃ q, q <+: X ∧ Jx (pre ++ q) W')
theorem gather {w : World} {Q : List Value → List (Part w) → Prop} : ∀ (ts : List S31) (vs : List (List Value)), vs.length = ts.length →
    (∀ (i : Nat) t cs, ts[i]? = some t → vs[i]? = some cs → ∃ X : List (Part w), X.map (fun x => x.1.1) = partsT t ∧ Q cs X) →
    ∃ Xs : List (List (Part w)), Xs.length = ts.length ∧ Xs.flatten.map (fun x => x.1.1) = partsL ts ∧ ∀ (i : Nat) cs, vs[i]? = some cs → ∃ X, Xs[i]? = some X ∧ Q cs X
  | [], vs, hl, _ => ⟨[], rfl, rfl, fun i cs h => by rw [List.length_eq_zero_iff.mp hl] at h; simp at h⟩
  | t :: ts, [], hl, _ => by cases hl
  | t :: ts, v :: vs, hl, h => by
    obtain ⟨X, hX, hQ⟩ := h 0 t v rfl rfl
    obtain ⟨Xs, h1, h2, h3⟩ := gather ts vs (by simpa using hl) (fun i t cs h4 h5 => h (i + 1) t cs (by simpa using h4) (by simpa using h5))
    refine ⟨X :: Xs, by simp [h1], by simp only [List.flatten_cons, List.map_append, hX, h2]; rfl, fun i cs hi => ?_⟩
    cases i with
    | zero =>
      have e : v = cs := by simpa using hi
      exact ⟨X, rfl, e ▸ hQ⟩
    | succ i =>
      obtain ⟨X', e, q⟩ := h3 i cs (by simpa using hi)
      exact ⟨X', by simpa using e, q⟩
theorem flatten_take_succ {α : Type} {Xs : List (List α)} {i : Nat} {X : List α} (h : Xs[i]? = some X) : (Xs.take (i + 1)).flatten = (Xs.take i).flatten ++ X := by
  rw [List.take_add_one, h]; simp
theorem flatten_take_pre {α : Type} (Xs : List (List α)) (i : Nat) : (Xs.take i).flatten <+: Xs.flatten :=
  ⟨(Xs.drop i).flatten, by rw [← List.flatten_append, List.take_append_drop]⟩
/-- What ContainsFunc, handed the function that turns walk's answer, does with the kids. -/
theorem kids (l Y Wb N : Nat) (w : World) (J Jx : List (Part w) → World → Prop)
    (hJ : ∀ s W W', J s W → Below W.heap.size W W' → J s W') (A4 : Option Addr) (n4 c4 : Nat) (ts : List S31) (vs : List (List Value)) (Xs : List (List (Part w)))
    (hv : Els 5 w A4 n4 vs) (hvK : ∀ (i : Nat) cs, vs[i]? = some cs → ∃ t, k31.K w t cs) (hX : ∀ (i : Nat) cs, vs[i]? = some cs → ∃ X, Xs[i]? = some X ∧ WalkOK w l Y Wb N J Jx cs X) (hXn : Xs.length = n4)
    (pre : List (Part w)) (W : World) (hG : Good w l Y Wb W) (h0 : J pre W) (hN : pre.length + Xs.flatten.length ≤ N) :
    Calls Tryz.prog 40 #[.slice A4 n4 c4, .func (.func 59) #[] #[ptr Wb]] W fun e W' =>
      (e = .returned (.bool false) ∧ J (pre ++ Xs.flatten) W' ∧ Good w l Y Wb W') ∨ (e = .returned (.bool true) ∧ ∃ q, q <+: Xs.flatten ∧ Jx (pre ++ q) W') := by
  have eg : ∀ args w, (callFunc 59 args).run Tryz.prog w = .ok (.enter 59 args) w := enters_of Tryz.func59 (by kernel_rfl) rfl
  refine (conTy 59 #[ptr Wb] eg A4 n4 c4 vs w W (fun i W => Good w l Y Wb W ∧ J (pre ++ (Xs.take i).flatten) W) (fun i W => ∃ q, q <+: Xs.flatten ∧ Jx (pre ++ q) W) hv (fun i W h => h.1.1) ?_ ⟨hG, by simpa using h0⟩).mono ?_
  · rintro i cs W hi ⟨hG, hJ0⟩
    obtain ⟨t, ht⟩ := hvK i cs hi
    obtain ⟨X, hXi, hw⟩ := hX i cs hi
    obtain ⟨A3, c3, A4, c4, rfl, _⟩ := k31_open ht
    have hb : Below W.heap.size W (W.alloc (.cells #[.int .i64 t.f0, .bool t.f1, .bool t.f2, .slice A3 t.f3.length c3, .slice A4 t.f4.length c4] 31)) := (Below.refl _ W).alloc (Nat.le_refl _) _
    have hle : pre.length + (Xs.take i).flatten.length + X.length ≤ N := by
      have h1 := flatten_take_succ hXi
      have h2 := (flatten_take_pre Xs (i + 1)).length_le
      rw [h1] at h2
      simp only [List.length_append] at h2
      omega
    refine (walk3 Wb t.f0 t.f1 t.f2 A3 t.f3.length c3 A4 t.f4.length c4 #[ptr Y, ptr Wb] W _ _ hG.2.2 (hw (pre ++ (Xs.take i).flatten) _ (hG.below hb) (hJ _ _ _ hJ0 hb) (by simp only [List.length_append]; omega))).mono ?_
    rintro e W' (⟨rfl, hA1, hA2⟩ | ⟨rfl, q, hq, hx⟩)
    · exact .inl ⟨rfl, hA2, by rw [flatten_take_succ hXi, ← List.append_assoc]; exact hA1⟩
    · refine .inr ⟨rfl, (Xs.take i).flatten ++ q, ?_, by rw [← List.append_assoc]; exact hx⟩
      refine List.IsPrefix.trans ?_ (flatten_take_pre Xs (i + 1))
      rw [flatten_take_succ hXi]
      exact (List.prefix_append_right_inj _).mpr hq
  · rintro e W' (⟨rfl, hA2, hA1⟩ | ⟨rfl, k, hk, q, hq, hx⟩)
    · rw [← hXn, List.take_length] at hA1
      exact .inl ⟨rfl, hA1, hA2⟩
    · exact .inr ⟨rfl, q, hq, hx⟩
set_option maxHeartbeats 4000000 in
/-- env.parts$1$1 (walk): one step. -/
theorem walk2 (l Y Wb N : Nat) (w : World) (J Jx : List (Part w) → World → Prop)
    (hY : ∀ m pre x W, J pre W → pre.length < N → YieldAt Fence.wide m Tryz.prog l #[.agg x.1.2.toArray] W fun e W' =>
      (e = .returned (.bool true) ∧ J (pre ++ [x]) W' ∧ CK w.heap.size W W') ∨ (e = .returned (.bool false) ∧ Jx (pre ++ [x]) W'))
    (hJ : ∀ s W W', J s W → Below W.heap.size W W' → J s W')
    (f0 : Int) (f1 f2 : Bool) (A3 : Option Addr) (n3 c3 : Nat) (A4 : Option Addr) (n4 c4 : Nat) (x : Part w) (hx : x.1.2 = [.int .i64 f0, .bool f1, .bool f2, .slice A3 n3 c3, .slice A4 n4 c4]) (X : List (Part w))
    (hcon : ∀ (pre : List (Part w)) (W : World), Good w l Y Wb W → J pre W → pre.length + X.length ≤ N → Calls Tryz.prog 40 #[.slice A4 n4 c4, .func (.func 59) #[] #[ptr Wb]] W fun e W' =>
      (e = .returned (.bool false) ∧ J (pre ++ X) W' ∧ Good w l Y Wb W') ∨ (e = .returned (.bool true) ∧ ∃ q, q <+: X ∧ Jx (pre ++ q) W')) :
    WalkOK w l Y Wb N J Jx [.int .i64 f0, .bool f1, .bool f2, .slice A3 n3 c3, .slice A4 n4 c4] (x :: X) := by
  intro pre W hG h0 hN
  have hd : Fence.wide.depth = none := rfl
  have hdd : ∀ k : Nat, (Fence.wide.depth.isSome = true → 1 ≤ k) := fun k h => by rw [hd] at h; cases h
  have hb : Below W.heap.size W (W.alloc (.cells #[.int .i64 f0, .bool f1, .bool f2, .slice A3 n3 c3, .slice A4 n4 c4] 31)) := (Below.refl _ W).alloc (Nat.le_refl _) _
  have hG1 := hG.below hb
  have hJ1 := hJ _ _ _ h0 hb
  have hyc := hG1.2.1
  have hc4 : (W.alloc (.cells #[.int .i64 f0, .bool f1, .bool f2, .slice A3 n3 c3, .slice A4 n4 c4] 31)).cell? ⟨W.heap.size, 4, none⟩ = some (.slice A4 n4 c4) := by unfold World.cell?; rw [World.alloc_heap_new]; rfl
  have hy1 : YieldAt Fence.wide 2 Tryz.prog l #[.agg #[.int .i64 f0, .bool f1, .bool f2, .slice A3 n3 c3, .slice A4 n4 c4]] (W.alloc (.cells #[.int .i64 f0, .bool f1, .bool f2, .slice A3 n3 c3, .slice A4 n4 c4] 31)) fun e W2 =>
      (e = .returned (.bool true) ∧ W2.cell? ⟨W.heap.size, 4, none⟩ = some (.slice A4 n4 c4) ∧ Calls Tryz.prog 40 #[.slice A4 n4 c4, .func (.func 59) #[] #[ptr Wb]] W2 fun e W' =>
        (e = .returned (.bool false) ∧ J (pre ++ x :: X) W' ∧ Good w l Y Wb W') ∨ (e = .returned (.bool true) ∧ ∃ q, q <+: X ∧ Jx (pre ++ x :: q) W')) ∨
      (e = .returned (.bool false) ∧ Jx (pre ++ [x]) W2) := by
    have h1 := hY 2 pre x _ hJ1 (by simp only [List.length_cons] at hN; omega)
    rw [hx] at h1
    refine YieldAt.mono h1 fun e W2 h => h.elim (fun ⟨he, hj, hk⟩ => .inl ⟨he, hk.cell hc4, ?_⟩) .inr
    have h2 := hcon (pre ++ [x]) W2 (hG1.ck hk) hj (by simp only [List.length_append, List.length_cons, List.length_nil] at hN ⊢; omega)
    simpa only [List.append_assoc, List.singleton_append] using h2
  clear hY hcon hJ
  obtain ⟨fn, tmps, assign, body, hy, hR⟩ := hy1
  refine (callsIn_wide (n := 3)).1 ?_
  unfold ptr at hG1 hR ⊢
  refine callsIn_of_wp Tryz.func58 rfl trivial ?_ rfl
  simp only [Tryz.ntmps58, List.size_toArray, List.length_cons, List.length_nil, Nat.reduceAdd, Nat.reduceSub, Array.replicate_succ, Array.replicate_zero, List.push_toArray, List.append_toArray, List.nil_append, List.cons_append]
  gi_wp2_with (first
    | ((try refine ⟨hdd _, ?_⟩); refine hR.mono ?_; clear hR; rintro e W2 (⟨rfl, hc2, hcall⟩ | ⟨rfl, hx2⟩))
    | ((try refine ⟨trivial, ?_⟩); gi_at_call 40; refine (callsIn_wide.2 hcall).mono ?_; rintro e W3 (⟨rfl, hJ3, hG3⟩ | ⟨rfl, q, hq, hx3⟩)))
  · go_ret
    exact .inl ⟨rfl, hJ3, hG3⟩
  · go_ret
    exact .inr ⟨rfl, x :: q, by simpa using hq, hx3⟩
  · refine ⟨trivial, ?_⟩
    gi_wp2
    go_ret
    exact .inr ⟨rfl, [x], by simp, hx2⟩
/-- env.parts$1$1 (walk), at every type. -/
theorem walkAll (l Y Wb N : Nat) (w : World) (J Jx : List (Part w) → World → Prop)
    (hY : ∀ m pre x W, J pre W → pre.length < N → YieldAt Fence.wide m Tryz.prog l #[.agg x.1.2.toArray] W fun e W' =>
      (e = .returned (.bool true) ∧ J (pre ++ [x]) W' ∧ CK w.heap.size W W') ∨ (e = .returned (.bool false) ∧ Jx (pre ++ [x]) W'))
    (hJ : ∀ s W W', J s W → Below W.heap.size W W' → J s W') (t : S31) :
    ∀ cs, k31.K w t cs → ∃ X : List (Part w), X.map (fun x => x.1.1) = partsT t ∧ WalkOK w l Y Wb N J Jx cs X := by
  induction t using tyInd with
  | h t ih =>
    intro cs hK
    have hK0 := hK
    obtain ⟨A3, c3, A4, c4, rfl, l3, g3, l4, g4⟩ := k31_open hK
    obtain ⟨vs, hv, hvK⟩ := els_of_C g4
    have hlen : vs.length = t.f4.length := hv.1
    obtain ⟨Xs, h1, h2, h3⟩ := gather (w := w) (Q := WalkOK w l Y Wb N J Jx) t.f4 vs hlen (fun i k cs hk hcs => by
      obtain ⟨cs', e, hKk⟩ := hvK i k hk
      rw [hcs] at e
      cases e
      exact ih k (List.mem_of_getElem? hk) cs hKk)
    refine ⟨⟨(t, _), hK0⟩ :: Xs.flatten, by rw [partsT_eq, List.map_cons, h2], ?_⟩
    refine walk2 l Y Wb N w J Jx hY hJ t.f0 t.f1 t.f2 A3 t.f3.length c3 A4 t.f4.length c4 _ rfl Xs.flatten ?_
    intro pre W hG h0 hN
    refine kids l Y Wb N w J Jx hJ A4 t.f4.length c4 t.f4 vs Xs hv (fun i cs hcs => ?_) h3 h1 pre W hG h0 hN
    have hi : i < t.f4.length := by
      rcases Nat.lt_or_ge i vs.length with h | h
      · omega
      · rw [List.getElem?_eq_none h] at hcs; cases hcs
    obtain ⟨cs', e, hKk⟩ := hvK i _ (List.getElem?_eq_getElem hi)
    rw [hcs] at e
    cases e
    exact ⟨_, hKk⟩
set_option maxHeartbeats 2000000 in
/-- env.parts$1: the iterator's own body. -/
theorem parts1 (l Bt N : Nat) (w : World) (J Jx : List (Part w) → World → Prop)
    (hY : ∀ m pre x W, J pre W → pre.length < N → YieldAt Fence.wide m Tryz.prog l #[.agg x.1.2.toArray] W fun e W' =>
      (e = .returned (.bool true) ∧ J (pre ++ [x]) W' ∧ CK w.heap.size W W') ∨ (e = .returned (.bool false) ∧ Jx (pre ++ [x]) W'))
    (f0 : Int) (f1 f2 : Bool) (A3 : Option Addr) (n3 c3 : Nat) (A4 : Option Addr) (n4 c4 : Nat) (X : List (Part w))
    (W : World) (hW : Below w.heap.size w W) (hJ : ∀ s W W', J s W → Below W.heap.size W W' → J s W')
    (h0c : W.cell? ⟨Bt, 0, none⟩ = some (.int .i64 f0)) (h1c : W.cell? ⟨Bt, 1, none⟩ = some (.bool f1)) (h2c : W.cell? ⟨Bt, 2, none⟩ = some (.bool f2)) (h3c : W.cell? ⟨Bt, 3, none⟩ = some (.slice A3 n3 c3)) (h4c : W.cell? ⟨Bt, 4, none⟩ = some (.slice A4 n4 c4))
    (h0 : J [] W) (hN : X.length ≤ N)
    (hw : WalkOK w l W.heap.size (W.heap.size + 1) N J Jx [.int .i64 f0, .bool f1, .bool f2, .slice A3 n3 c3, .slice A4 n4 c4] X) :
    Calls Tryz.prog 57 #[.func (.yield l) #[] #[], ptr Bt] W fun e W' => (∃ v, e = .returned v) ∧
      ((∃ ys, ys = X ∧ J ys W') ∨ (∃ pre, pre <+: X ∧ Jx pre W')) := by
  have eg : ∀ args w, (callFunc 58 args).run Tryz.prog w = .ok (.enter 58 args) w := enters_of Tryz.func58 (by kernel_rfl) rfl
  have hb1 : Below W.heap.size W (W.alloc (.cells #[.func (.yield l) #[] #[]] 49)) := (Below.refl _ W).alloc (Nat.le_refl _) _
  have hb3 : Below W.heap.size W ((W.alloc (.cells #[.func (.yield l) #[] #[]] 49)).alloc (.cells #[(.func (.func 58) #[] #[ptr W.heap.size, ptr (W.heap.size + 1)])] 49)) := hb1.alloc (by simp) _
  have hcY : ((W.alloc (.cells #[.func (.yield l) #[] #[]] 49)).alloc (.cells #[(.func (.func 58) #[] #[ptr W.heap.size, ptr (W.heap.size + 1)])] 49)).cell? ⟨W.heap.size, 0, none⟩ = some (.func (.yield l) #[] #[]) := by
    refine below_cell ((Below.refl _ _).alloc (Nat.le_refl _) _) ?_
    unfold World.cell?
    rw [World.alloc_heap_new]
    rfl
  have hcW : ((W.alloc (.cells #[.func (.yield l) #[] #[]] 49)).alloc (.cells #[(.func (.func 58) #[] #[ptr W.heap.size, ptr (W.heap.size + 1)])] 49)).cell? ⟨W.heap.size + 1, 0, none⟩ = some (.func (.func 58) #[] #[ptr W.heap.size, ptr (W.heap.size + 1)]) := by
    have h := World.alloc_heap_new (W.alloc (.cells #[.func (.yield l) #[] #[]] 49)) (.cells #[(.func (.func 58) #[] #[ptr W.heap.size, ptr (W.heap.size + 1)])] 49)
    rw [World.size_alloc] at h
    unfold World.cell?
    rw [h]; rfl
  have hcall := hw [] _ ⟨hW.trans (hb3.mono hW.size), hcY, hcW⟩ (hJ _ _ _ h0 hb3) (by simpa using hN)
  have k0 := below_cell hb3 h0c
  have k1 := below_cell hb3 h1c
  have k2 := below_cell hb3 h2c
  have k3 := below_cell hb3 h3c
  have k4 := below_cell hb3 h4c
  clear hw hY hJ
  unfold ptr at *
  go_enter Tryz.func57, Tryz.ntmps57
  go_wp2_with (go_at_fn 58; refine hcall.mono ?_; rintro e w' (⟨rfl, hA, _⟩ | ⟨rfl, q, hq, hB⟩))
  · go_end0
    exact ⟨⟨_, rfl⟩, .inl ⟨_, rfl, by simpa using hA⟩⟩
  · go_end0
    exact ⟨⟨_, rfl⟩, .inr ⟨q, hq, by simpa using hB⟩⟩
/-- env.parts: the type is boxed; the function value captures the box. -/
theorem parts0 (f0 : Int) (f1 f2 : Bool) (A3 : Option Addr) (n3 c3 : Nat) (A4 : Option Addr) (n4 c4 : Nat) (W : World) :
    Calls Tryz.prog 36 #[.agg #[.int .i64 f0, .bool f1, .bool f2, .slice A3 n3 c3, .slice A4 n4 c4]] W fun e W' =>
      e = .returned (.func (.func 57) #[] #[ptr W.heap.size]) ∧ W' = W.alloc (.cells #[.int .i64 f0, .bool f1, .bool f2, .slice A3 n3 c3, .slice A4 n4 c4] 31) := by
  unfold ptr
  go_enter Tryz.func36, Tryz.ntmps36
  go_wp2
  go_ret
  exact ⟨rfl, rfl⟩
/-- What env.parts hands back goes through all of the type, in order, or through a part of it. -/
theorem partsStops (n : Nat) (Bt : Nat) (t : S31) (cs : List Value) (w : World) (hK : k31.K w t cs) (hc : ∀ (i : Nat) u, cs[i]? = some u → w.cell? ⟨Bt, i, none⟩ = some u) :
    SeqStopsK Fence.wide n Tryz.prog 57 #[ptr Bt] (fun x : Part w => #[.agg x.1.2.toArray]) (CK w.heap.size) (fun ys => ys.map (fun x => x.1.1) = partsT t)
      (fun pre => pre.map (fun x => x.1.1) <+: partsT t) (partsT t).length w := by
  intro l J Jx W hW hJ hJx hY h0
  have hJ' : ∀ s W W', J s W → Below W.heap.size W W' → J s W' := fun s W W' hs hb => hJ s W W' none hs ⟨hb.os, hb.tape, hb.output, hb.size, fun k hk _ => hb.block k hk⟩ (fun r e => by cases e)
  have hY' : ∀ m pre x W1, J pre W1 → pre.length < (partsT t).length → YieldAt Fence.wide m Tryz.prog l #[.agg x.1.2.toArray] W1 fun e W' =>
      (e = .returned (.bool true) ∧ J (pre ++ [x]) W' ∧ CK w.heap.size W1 W') ∨ (e = .returned (.bool false) ∧ Jx (pre ++ [x]) W') := fun m pre x W1 h1 h2 => yieldAt_anyDepth rfl m (hY pre x W1 h1 h2)
  obtain ⟨X, hX, hw⟩ := walkAll l W.heap.size (W.heap.size + 1) (partsT t).length w J Jx hY' hJ' t cs hK
  obtain ⟨A3, c3, A4, c4, rfl, _⟩ := k31_open hK
  have hk : ∀ (i : Nat) u, [Value.int .i64 t.f0, .bool t.f1, .bool t.f2, .slice A3 t.f3.length c3, .slice A4 t.f4.length c4][i]? = some u → W.cell? ⟨Bt, i, none⟩ = some u := fun i u hu =>
    below_cell hW (hc i u hu)
  refine callsIn_wide.2 ((parts1 l Bt (partsT t).length w J Jx hY' t.f0 t.f1 t.f2 A3 t.f3.length c3 A4 t.f4.length c4 X W hW hJ' (hk 0 _ rfl) (hk 1 _ rfl) (hk 2 _ rfl) (hk 3 _ rfl) (hk 4 _ rfl) h0 (by rw [← hX, List.length_map]; exact Nat.le_refl _) hw).mono ?_)
  rintro e W' ⟨hv, (⟨ys, rfl, hJ1⟩ | ⟨pre, ⟨r, hr⟩, hJ1⟩)⟩
  · exact ⟨hv, .inl ⟨_, hX, hJ1⟩⟩
  · exact ⟨hv, .inr ⟨pre, ⟨r.map (fun x => x.1.1), by rw [← hX, ← hr, List.map_append]⟩, hJ1⟩⟩
end Go.Proofs.YtadjekpfehjibaaGreatDoor.PEnv
namespace Go.Proofs.YtadjekpfehjibaaGreatDoor.PEnv
open Go.RowKit Go.Shelf Go.Proofs.YtadjekpfehjibaaGreatDoorW.PrintWords Go.Proofs.YtadjekpfehjibaaGreatDoorW.PrintLast Go.Proofs.YtadjekpfehjibaaGreatDoorW.PrintMore Go.Proofs.YtadjekpfehjibaaGreatDoor.PEnvJoins
theorem wrap_succ (i : Nat) (h : i < 9223372036854775807) : wrap64 ((i : Int) + 1) = ((i + 1 : Nat) : Int) := by unfold wrap64; omega
theorem rd_at (xs : List Int) (i : Nat) (h : i < xs.length) : rd xs (i : Int) = xs[i] := by
  simp [rd, List.getElem?_eq_getElem h]
theorem drop_at (xs : List Int) (i : Nat) (h : i < xs.length) : xs.drop i = xs[i] :: xs.drop (i + 1) := List.drop_eq_getElem_cons h
theorem equal_l (x0 x1 : List Int) (hl : x0.length = x1.length) (hm : x0.length ≤ 9223372036854775807) : ∀ (k i : Nat), i ≤ x0.length → x0.length - i < k →
    slices_Equal_int_int.l0 k x0 x1 (x0.length : Int) (i : Int) = some (decide (x0.drop i = x1.drop i))
  | 0, i, _, h => by omega
  | k + 1, i, hi, hk => by
    unfold slices_Equal_int_int.l0
    by_cases h : i < x0.length
    · have h1 : i < x1.length := by omega
      rw [if_pos (by omega), if_pos (by omega), if_pos (by omega), if_pos (by omega), rd_at x0 i h, rd_at x1 i h1, drop_at x0 i h, drop_at x1 i h1]
      by_cases he : x0[i] = x1[i]
      · rw [if_pos he, wrap_succ i (by omega), equal_l x0 x1 hl hm k (i + 1) (by omega) (by omega)]
        simp only [List.cons.injEq, he, true_and]
      · rw [if_neg he]
        simp only [List.cons.injEq, he, false_and, decide_false]
    · rw [if_neg (by omega), List.drop_eq_nil_of_le (by omega), List.drop_eq_nil_of_le (by omega)]
      simp
theorem equal_f (x0 x1 : List Int) (hm : x0.length ≤ 9223372036854775807) (k : Nat) (hk : x0.length < k) : slices_Equal_int_int.f k x0 x1 = some (decide (x0 = x1)) := by
  unfold slices_Equal_int_int.f
  by_cases hl : x0.length = x1.length
  · rw [if_pos (by omega)]
    have := equal_l x0 x1 hl hm k 0 (by omega) (by omega)
    simpa using this
  · rw [if_neg (by omega)]
    have : x0 ≠ x1 := fun e => hl (by rw [e])
    simp [this]
/-- Is a list the beginning of another one? -/
def begB (a b : List Int) : Bool := decide (a = b.take a.length)
theorem begins_f (a b : List Int) (hm : a.length ≤ 9223372036854775807) (k : Nat) (hk : a.length < k) : env_begins.f k a b = some (begB a b) := by
  unfold env_begins.f begB
  by_cases hl : a.length ≤ b.length
  · rw [if_pos (by omega), if_pos (by omega), Int.toNat_natCast, equal_f a _ hm k hk]
    rfl
  · rw [if_neg (by omega)]
    have : a ≠ b.take a.length := fun e => hl (by have := congrArg List.length e; simp at this; omega)
    simp [this]
theorem refBegins_l (a b : List Int) (hm : a.length ≤ 9223372036854775807) : ∀ (k i : Nat), i ≤ a.length → a.length - i < k →
    lienbookref05_begins.l0 k a b (i : Int) = some (decide (a.drop i = (b.drop i).take (a.length - i)))
  | 0, i, _, h => by omega
  | k + 1, i, hi, hk => by
    unfold lienbookref05_begins.l0
    by_cases h : i < a.length
    · rw [if_pos (by omega)]
      by_cases h1 : i < b.length
      · rw [if_neg (by omega), if_pos (by omega), if_pos (by omega), rd_at a i h, rd_at b i h1, drop_at a i h, drop_at b i h1]
        have e1 : a.length - i = (a.length - (i + 1)) + 1 := by omega
        rw [e1, List.take_succ_cons]
        by_cases he : a[i] = b[i]
        · rw [if_pos he, wrap_succ i (by omega), refBegins_l a b hm k (i + 1) (by omega) (by omega)]
          simp only [List.cons.injEq, he, true_and]
        · rw [if_neg he]
          simp only [List.cons.injEq, he, false_and, decide_false]
      · rw [if_pos (by omega), List.drop_eq_nil_of_le (show b.length ≤ i by omega)]
        have : a.drop i ≠ [] := fun e => by have := congrArg List.length e; simp at this; omega
        simp only [List.take_nil, this, decide_false]
    · rw [if_neg (by omega), List.drop_eq_nil_of_le (by omega)]
      have : a.length - i = 0 := by omega
      simp [this]
theorem refBegins_f (a b : List Int) (hm : a.length ≤ 9223372036854775807) (k : Nat) (hk : a.length < k) : lienbookref05_begins.f k a b = some (begB a b) := by
  unfold lienbookref05_begins.f begB
  have := refBegins_l a b hm k 0 (by omega) (by omega)
  simpa using this
/-- Do two places overlap? -/
def overB (v1 : ByteArray) (s1 : List Int) (v2 : ByteArray) (s2 : List Int) : Bool := decide (v1.toList = v2.toList) && (begB s1 s2 || begB s2 s1)
theorem overlap_f (v1 : ByteArray) (s1 : List Int) (v2 : ByteArray) (s2 : List Int) (h1 : s1.length ≤ 9223372036854775807) (h2 : s2.length ≤ 9223372036854775807) (k : Nat) (hk1 : s1.length < k) (hk2 : s2.length < k) :
    env_Overlap.f k v1 s1 v2 s2 = some (overB v1 s1 v2 s2) := by
  unfold env_Overlap.f overB
  rw [begins_f s1 s2 h1 k hk1, begins_f s2 s1 h2 k hk2]
  by_cases h : v1.toList = v2.toList
  · rw [if_pos h]
    cases begB s1 s2 <;> cases begB s2 s1 <;> simp [h]
  · rw [if_neg h]
    simp [h]
end Go.Proofs.YtadjekpfehjibaaGreatDoor.PEnv
namespace Go.Proofs.YtadjekpfehjibaaGreatDoor.PEnv
open Go.RowKit Go.Shelf Go.Proofs.YtadjekpfehjibaaGreatDoorW.PrintWords Go.Proofs.YtadjekpfehjibaaGreatDoorW.PrintLast Go.Proofs.YtadjekpfehjibaaGreatDoorW.PrintMore Go.Proofs.YtadjekpfehjibaaGreatDoor.PEnvJoins
def cmpS (a b : ByteArray) : Int := if Op.bytesLess a.toList b.toList = true then -1 else if Op.bytesLess b.toList a.toList = true then 1 else 0
def cmpI (a b : Int) : Int := if a < b then -1 else if a > b then 1 else 0
def cmpIs : List Int → List Int → Int
  | [], [] => 0
  | [], _ :: _ => -1
  | _ :: _, [] => 1
  | a :: x, b :: y => if cmpI a b = 0 then cmpIs x y else cmpI a b
def bitI (b : Bool) : Int := if b = true then 1 else 0
def orI : List Int → Int
  | [] => 0
  | x :: xs => if x = 0 then orI xs else x
def cmp4 (a0 a1 : ByteArray) (l2 : List Int) (a3 : Bool) (b0 b1 : ByteArray) (m2 : List Int) (b3 : Bool) : Int :=
  orI [cmpS a0 b0, cmpS a1 b1, cmpIs l2 m2, bitI a3 - bitI b3]
def cmpLoan (a b : S44) : Int := cmp4 a.f0 a.f1.f0 a.f1.f1 a.f2 b.f0 b.f1.f0 b.f1.f1 b.f2
theorem cmpS_f (a b : ByteArray) : cmp_Compare_string.f a b = some (cmpS a b) := by
  have h : ∀ x : ByteArray, cmp_isNaN_string.f x = some false := fun x => by unfold cmp_isNaN_string.f; simp
  unfold cmp_Compare_string.f cmpS
  rw [h, h]
  simp only [Option.bind_some]
  rw [if_neg (by simp), if_neg (by simp)]
  split <;> first | rfl | (split <;> rfl)
theorem cmpI_f (a b : Int) : cmp_Compare_int.f a b = some (cmpI a b) := by
  have h : ∀ x : Int, cmp_isNaN_int.f x = some false := fun x => by unfold cmp_isNaN_int.f; simp
  unfold cmp_Compare_int.f cmpI
  rw [h, h]
  simp only [Option.bind_some]
  rw [if_neg (by simp), if_neg (by simp)]
  split <;> first | rfl | (split <;> rfl)
theorem cmpIs_l (a b : List Int) (hm : a.length ≤ 9223372036854775807) (hn : b.length ≤ 9223372036854775807) : ∀ (k i : Nat), i ≤ a.length → i ≤ b.length → a.length - i < k →
    slices_Compare_int_int.l0 k a b a (a.length : Int) (i : Int) = some (cmpIs (a.drop i) (b.drop i))
  | 0, i, _, _, h => by omega
  | k + 1, i, hi, hj, hk => by
    unfold slices_Compare_int_int.l0
    by_cases h : i < a.length
    · rw [if_pos (by omega), if_pos (by omega), if_pos (by omega)]
      by_cases h1 : i < b.length
      · rw [if_neg (by omega), if_pos (by omega), cmpI_f, Option.bind_some, rd_at a i h, rd_at b i h1, drop_at a i h, drop_at b i h1]
        unfold cmpIs
        by_cases he : cmpI a[i] b[i] = 0
        · rw [if_pos he, if_pos he, wrap_succ i (by omega), cmpIs_l a b hm hn k (i + 1) (by omega) (by omega) (by omega)]
        · rw [if_neg he, if_neg he]
      · rw [if_pos (by omega), drop_at a i h, List.drop_eq_nil_of_le (show b.length ≤ i by omega)]
        rfl
    · have e : i = a.length := by omega
      rw [if_neg (by omega), List.drop_eq_nil_of_le (show a.length ≤ i by omega)]
      by_cases h1 : a.length < b.length
      · rw [if_pos (by omega), drop_at b i (by omega)]
        rfl
      · rw [if_neg (by omega), List.drop_eq_nil_of_le (by omega)]
        rfl
theorem cmpIs_f (a b : List Int) (hm : a.length ≤ 9223372036854775807) (hn : b.length ≤ 9223372036854775807) (k : Nat) (hk : a.length < k) : slices_Compare_int_int.f k a b = some (cmpIs a b) := by
  unfold slices_Compare_int_int.f
  have := cmpIs_l a b hm hn k 0 (by omega) (by omega) (by omega)
  simpa using this
theorem orI_l (xs : List Int) (hm : xs.length ≤ 9223372036854775807) : ∀ (k i : Nat), i ≤ xs.length → xs.length - i < k →
    cmp_Or_int.l0 k 0 xs (xs.length : Int) (i : Int) = some (orI (xs.drop i))
  | 0, i, _, h => by omega
  | k + 1, i, hi, hk => by
    unfold cmp_Or_int.l0
    by_cases h : i < xs.length
    · rw [if_pos (by omega), if_pos (by omega), if_pos (by omega), rd_at xs i h, drop_at xs i h]
      unfold orI
      by_cases he : xs[i] = 0
      · rw [if_pos he, if_pos he, wrap_succ i (by omega), orI_l xs hm k (i + 1) (by omega) (by omega)]
      · rw [if_neg he, if_neg he]
    · rw [if_neg (by omega), List.drop_eq_nil_of_le (by omega)]
      rfl
theorem orI_f (xs : List Int) (hm : xs.length ≤ 9223372036854775807) (k : Nat) (hk : xs.length < k) : cmp_Or_int.f k xs = some (orI xs) := by
  unfold cmp_Or_int.f
  have := orI_l xs hm k 0 (by omega) (by omega)
  simpa using this
theorem cmp4_f (a0 a1 : ByteArray) (l2 : List Int) (a3 : Bool) (b0 b1 : ByteArray) (m2 : List Int) (b3 : Bool) (hm : l2.length ≤ 9223372036854775807) (hn : m2.length ≤ 9223372036854775807) (k : Nat) (hk : l2.length < k) (hk4 : 4 < k) :
    env_Cmp.f k a0 a1 l2 a3 b0 b1 m2 b3 = some (cmp4 a0 a1 l2 a3 b0 b1 m2 b3) := by
  have hb : ∀ b : Bool, env_bit.f b = some (bitI b) := fun b => by cases b <;> rfl
  have hw : wrap64 (bitI a3 - bitI b3) = bitI a3 - bitI b3 := by cases a3 <;> cases b3 <;> simp [bitI, wrap64]
  unfold env_Cmp.f cmp4
  rw [cmpS_f, cmpS_f, cmpIs_f l2 m2 hm hn k hk, hb, hb]
  simp only [Option.bind_some]
  rw [hw, orI_f _ (by simp) k (by simpa using hk4)]
  rfl
/-- env.Cmp, at every two loans. -/
theorem envCmp (a b : S44) (A2 : Option Addr) (c2 : Nat) (B2 : Option Addr) (d2 : Nat) (W : World) (g2 : Kd.C (Kd.int .i64) W A2 a.f1.f1.length a.f1.f1) (l2 : a.f1.f1.length ≤ c2) (h2 : Kd.C (Kd.int .i64) W B2 b.f1.f1.length b.f1.f1) (m2 : b.f1.f1.length ≤ d2) :
    Calls Tryz.prog 48 #[.agg #[.string a.f0, .string a.f1.f0, .slice A2 a.f1.f1.length c2, .bool a.f2], .agg #[.string b.f0, .string b.f1.f0, .slice B2 b.f1.f1.length d2, .bool b.f2]] W fun e W' =>
      e = .returned (.int .i64 (cmpLoan a b)) ∧ Below W.heap.size W W' :=
  env_Cmp.calls (a.f1.f1.length + 5) _ _ _ _ _ _ _ _ _ _ _ _ _ W g2 l2 h2 m2 (cmp4_f _ _ _ _ _ _ _ _ (Kd.C_max g2) (Kd.C_max h2) _ (by omega) (by omega))
end Go.Proofs.YtadjekpfehjibaaGreatDoor.PEnv
namespace Go.Proofs.YtadjekpfehjibaaGreatDoor.PEnv
open Go.RowKit Go.Shelf Go.Proofs.YtadjekpfehjibaaGreatDoorW.PrintWords Go.Proofs.YtadjekpfehjibaaGreatDoorW.PrintLast Go.Proofs.YtadjekpfehjibaaGreatDoorW.PrintMore Go.Proofs.YtadjekpfehjibaaGreatDoor.PEnvJoins
theorem bl_neg : ∀ x y z : List UInt8, Op.bytesLess z x = true → Op.bytesLess y x = true ∨ Op.bytesLess z y = true
  | [], _, z, h => by cases z <;> simp [Op.bytesLess] at h
  | a :: x, [], z, h => .inl rfl
  | a :: x, b :: y, [], h => .inr rfl
  | a :: x, b :: y, c :: z, h => by
    simp only [Op.bytesLess, Bool.or_eq_true, decide_eq_true_eq, Bool.and_eq_true, beq_iff_eq, UInt8.lt_iff_toNat_lt, ← UInt8.toNat_inj] at h ⊢
    by_cases h1 : b.toNat < a.toNat
    · exact .inl (.inl h1)
    by_cases h2 : c.toNat < b.toNat
    · exact .inr (.inl h2)
    rcases h with h | ⟨he, hl⟩
    · omega
    · rcases bl_neg x y z hl with h3 | h3
      · exact .inl (.inr ⟨by omega, h3⟩)
      · exact .inr (.inr ⟨by omega, h3⟩)
theorem bl_asymm {x y : List UInt8} (h : Op.bytesLess x y = true) : Op.bytesLess y x = false := by
  cases h2 : Op.bytesLess y x with
  | false => rfl
  | true =>
    rcases bl_neg x x y h2 with h3 | h3
    · rw [bl_irrefl] at h3; cases h3
    · exact absurd (bl_irrefl x) (by
        have : ∀ (x y : List UInt8), Op.bytesLess x y = true → Op.bytesLess y x = true → False := by
          intro x
          induction x with
          | nil => intro y _ h; cases y <;> simp [Op.bytesLess] at h
          | cons a x ih =>
            intro y h h'
            cases y with
            | nil => simp [Op.bytesLess] at h
            | cons b y =>
              simp only [Op.bytesLess, Bool.or_eq_true, decide_eq_true_eq, Bool.and_eq_true, beq_iff_eq, UInt8.lt_iff_toNat_lt, ← UInt8.toNat_inj] at h h'
              rcases h with h | ⟨he, hl⟩
              · rcases h' with h' | ⟨he', _⟩ <;> omega
              · rcases h' with h' | ⟨he', hl'⟩
                · omega
                · exact ih y hl hl'
        exact (this x y h h2).elim)
/-- A three-way comparison by a total preorder. -/
structure Cm {α : Type} (c : α → α → Int) : Prop where
  flip : ∀ x y, c x y < 0 ↔ 0 < c y x
  le : ∀ x y z, c x y ≤ 0 → c y z ≤ 0 → c x z ≤ 0
section
variable {α β : Type}
theorem Cm.pull {c : α → α → Int} (h : Cm c) (f : β → α) : Cm (fun x y => c (f x) (f y)) := ⟨fun x y => h.flip _ _, fun x y z => h.le _ _ _⟩
theorem Cm.zero {c : α → α → Int} (h : Cm c) {x y : α} (e : c x y = 0) : c y x = 0 := by
  have h1 := h.flip x y
  have h2 := h.flip y x
  omega
theorem Cm.refl {c : α → α → Int} (h : Cm c) (x : α) : c x x = 0 := by
  have h1 := h.flip x x
  omega
theorem Cm.lt_le {c : α → α → Int} (h : Cm c) {x y z : α} (h1 : c x y < 0) (h2 : c y z ≤ 0) : c x z < 0 := by
  by_cases h3 : c x z < 0
  · exact h3
  · have e1 := (h.flip x y).mp h1
    have e2 := h.flip z x
    have e3 := h.flip x z
    have e4 := h.le y z x h2 (by omega)
    omega
theorem Cm.le_lt {c : α → α → Int} (h : Cm c) {x y z : α} (h1 : c x y ≤ 0) (h2 : c y z < 0) : c x z < 0 := by
  by_cases h3 : c x z < 0
  · exact h3
  · have e1 := (h.flip y z).mp h2
    have e2 := h.flip z x
    have e3 := h.flip x z
    have e4 := h.le z x y (by omega) h1
    omega
theorem Cm.lex {c d : α → α → Int} (h : Cm c) (k : Cm d) : Cm (fun x y => if c x y = 0 then d x y else c x y) := by
  refine ⟨fun x y => ?_, fun x y z => ?_⟩
  · have h1 := h.flip x y
    have h2 := h.flip y x
    show (if c x y = 0 then d x y else c x y) < 0 ↔ 0 < (if c y x = 0 then d y x else c y x)
    by_cases e : c x y = 0
    · rw [if_pos e, if_pos (h.zero e)]
      exact k.flip x y
    · rw [if_neg e, if_neg (fun e2 => e (h.zero e2))]
      exact h1
  · show (if c x y = 0 then d x y else c x y) ≤ 0 → (if c y z = 0 then d y z else c y z) ≤ 0 → (if c x z = 0 then d x z else c x z) ≤ 0
    intro h1 h2
    by_cases e1 : c x y = 0
    · rw [if_pos e1] at h1
      by_cases e2 : c y z = 0
      · rw [if_pos e2] at h2
        have e3 : c x z = 0 := by
          have a := h.le x y z (by omega) (by omega)
          have b := h.le z y x (by have := h.zero e2; omega) (by have := h.zero e1; omega)
          have := h.flip x z
          have := h.flip z x
          omega
        rw [if_pos e3]
        exact k.le x y z h1 h2
      · rw [if_neg e2] at h2
        have := h.le_lt (x := x) (y := y) (z := z) (by omega) (by omega)
        rw [if_neg (by omega)]
        omega
    · rw [if_neg e1] at h1
      have h3 : c y z ≤ 0 := by
        by_cases e2 : c y z = 0
        · omega
        · rw [if_neg e2] at h2; omega
      have := h.lt_le (x := x) (y := y) (z := z) (by omega) h3
      rw [if_neg (by omega)]
      omega
end
theorem cm_S : Cm cmpS := by
  refine ⟨fun x y => ?_, fun x y z => ?_⟩
  · unfold cmpS
    by_cases h1 : Op.bytesLess x.toList y.toList = true
    · rw [if_pos h1, bl_asymm h1]
      simp
      rw [if_pos h1]; decide
    · rw [if_neg h1]
      simp only [Bool.not_eq_true] at h1
      rw [h1]
      by_cases h2 : Op.bytesLess y.toList x.toList = true
      · rw [if_pos h2, if_pos h2]; decide
      · rw [if_neg h2, if_neg h2]; decide
  · have e : ∀ a b : ByteArray, cmpS a b ≤ 0 ↔ Op.bytesLess b.toList a.toList = false := fun a b => by
      unfold cmpS
      by_cases h1 : Op.bytesLess a.toList b.toList = true
      · rw [if_pos h1, bl_asymm h1]; decide
      · rw [if_neg h1]
        by_cases h2 : Op.bytesLess b.toList a.toList = true
        · rw [if_pos h2, h2]; decide
        · rw [if_neg h2]; simp at h2; rw [h2]; decide
    rw [e, e, e]
    intro h1 h2
    cases h3 : Op.bytesLess z.toList x.toList with
    | false => rfl
    | true =>
      rcases bl_neg _ y.toList _ h3 with h4 | h4
      · rw [h1] at h4; cases h4
      · rw [h2] at h4; cases h4
theorem cm_I : Cm cmpI := by
  refine ⟨fun x y => ?_, fun x y z => ?_⟩
  · unfold cmpI; (repeat' split) <;> omega
  · unfold cmpI; intro h1 h2; (repeat' split) <;> (repeat' split at h1) <;> (repeat' split at h2) <;> omega
theorem cm_bit : Cm (fun x y : Bool => bitI x - bitI y) := by
  refine ⟨fun x y => ?_, fun x y z => ?_⟩
  · cases x <;> cases y <;> decide
  · cases x <;> cases y <;> cases z <;> decide
theorem cmpIs_flip : ∀ x y : List Int, cmpIs x y < 0 ↔ 0 < cmpIs y x
  | [], [] => by decide
  | [], _ :: _ => by unfold cmpIs; decide
  | _ :: _, [] => by unfold cmpIs; decide
  | a :: x, b :: y => by
    unfold cmpIs
    have h1 := cm_I.flip a b
    by_cases e : cmpI a b = 0
    · rw [if_pos e, if_pos (cm_I.zero e)]
      exact cmpIs_flip x y
    · rw [if_neg e, if_neg (fun e2 => e (cm_I.zero e2))]
      exact h1
theorem cmpI_eq {a b : Int} (h : cmpI a b = 0) : a = b := by unfold cmpI at h; (repeat' split at h) <;> omega
theorem cmpIs_le : ∀ x y z : List Int, cmpIs x y ≤ 0 → cmpIs y z ≤ 0 → cmpIs x z ≤ 0
  | [], [], [], _, _ => by decide
  | [], [], _ :: _, _, _ => by unfold cmpIs; decide
  | [], _ :: _, [], _, h => by unfold cmpIs at h; exact absurd h (by decide)
  | [], _ :: _, _ :: _, _, _ => by unfold cmpIs; decide
  | _ :: _, [], _, h, _ => by unfold cmpIs at h; exact absurd h (by decide)
  | _ :: _, _ :: _, [], _, h => by unfold cmpIs at h; exact absurd h (by decide)
  | a :: x, b :: y, c :: z, h1, h2 => by
    unfold cmpIs at h1 h2 ⊢
    by_cases e1 : cmpI a b = 0
    · rw [if_pos e1] at h1
      have := cmpI_eq e1
      subst this
      by_cases e2 : cmpI a c = 0
      · rw [if_pos e2] at h2 ⊢
        exact cmpIs_le x y z h1 h2
      · rw [if_neg e2] at h2 ⊢
        exact h2
    · rw [if_neg e1] at h1
      have h3 : cmpI b c ≤ 0 := by
        by_cases e2 : cmpI b c = 0
        · omega
        · rw [if_neg e2] at h2; omega
      have := cm_I.lt_le (x := a) (y := b) (z := c) (by omega) h3
      rw [if_neg (by omega)]
      omega
theorem cm_Is : Cm cmpIs := ⟨cmpIs_flip, cmpIs_le⟩
theorem cmpLoan_eq (a b : S44) : cmpLoan a b = if cmpS a.f0 b.f0 = 0 then (if cmpS a.f1.f0 b.f1.f0 = 0 then (if cmpIs a.f1.f1 b.f1.f1 = 0 then bitI a.f2 - bitI b.f2 else cmpIs a.f1.f1 b.f1.f1) else cmpS a.f1.f0 b.f1.f0) else cmpS a.f0 b.f0 := by
  unfold cmpLoan cmp4
  simp only [orI]
  by_cases h : bitI a.f2 - bitI b.f2 = 0
  · rw [if_pos h, h]
  · rw [if_neg h]
/-- The order of loans. -/
theorem cm_Loan : Cm cmpLoan := by
  have h := (cm_S.pull (fun l : S44 => l.f0)).lex ((cm_S.pull (fun l : S44 => l.f1.f0)).lex ((cm_Is.pull (fun l : S44 => l.f1.f1)).lex (cm_bit.pull (fun l : S44 => l.f2))))
  have e : cmpLoan = _ := funext fun a => funext fun b => cmpLoan_eq a b
  rw [e]
  exact h
theorem cmpS_zero {a b : ByteArray} (h : cmpS a b = 0) : a.toList = b.toList := by
  unfold cmpS at h
  by_cases h1 : Op.bytesLess a.toList b.toList = true
  · rw [if_pos h1] at h; exact absurd h (by decide)
  · rw [if_neg h1] at h
    by_cases h2 : Op.bytesLess b.toList a.toList = true
    · rw [if_pos h2] at h; exact absurd h (by decide)
    · exact bl_tri _ _ (by simpa using h1) (by simpa using h2)
theorem cmpS_self {a b : ByteArray} (h : a.toList = b.toList) : cmpS a b = 0 := by
  unfold cmpS
  rw [h, bl_irrefl]
  rfl
theorem cmpS_neg (a b : ByteArray) : decide (cmpS a b < 0) = Op.bytesLess a.toList b.toList := by
  unfold cmpS
  by_cases h1 : Op.bytesLess a.toList b.toList = true
  · rw [if_pos h1, h1]; rfl
  · rw [if_neg h1]
    have : Op.bytesLess a.toList b.toList = false := by simpa using h1
    rw [this]
    split <;> rfl
theorem cmpIs_zero : ∀ {x y : List Int}, cmpIs x y = 0 → x = y
  | [], [], _ => rfl
  | [], _ :: _, h => by unfold cmpIs at h; exact absurd h (by decide)
  | _ :: _, [], h => by unfold cmpIs at h; exact absurd h (by decide)
  | a :: x, b :: y, h => by
    unfold cmpIs at h
    by_cases e : cmpI a b = 0
    · rw [if_pos e] at h
      rw [cmpI_eq e, cmpIs_zero h]
    · rw [if_neg e] at h; exact absurd h e
theorem before_l (a0 a1 : ByteArray) (l2 : List Int) (a3 : Bool) (b0 b1 : ByteArray) (m2 : List Int) (b3 : Bool) (hm : l2.length ≤ 9223372036854775807) : ∀ (k i : Nat), i ≤ l2.length → i ≤ m2.length → 2 * (l2.length - i) + 1 < k →
    lienbookref05_before.l0 k (i : Int) a0 a1 l2 a3 b0 b1 m2 b3 = some (if cmpIs (l2.drop i) (m2.drop i) = 0 then (!a3 && b3) else if l2.drop i <+: m2.drop i ∨ m2.drop i <+: l2.drop i then decide (l2.length < m2.length) else decide (cmpIs (l2.drop i) (m2.drop i) < 0))
  | 0, i, _, _, h => by omega
  | 1, i, _, _, h => by omega
  | k + 2, i, hi, hj, hk => by
    unfold lienbookref05_before.l0
    by_cases h : i < l2.length
    · rw [if_pos (by omega)]
      unfold lienbookref05_before.j1
      by_cases h1 : i < m2.length
      · rw [if_pos (by simp; omega), if_pos (by omega), if_pos (by omega), if_pos (by omega), rd_at l2 i h, rd_at m2 i h1, drop_at l2 i h, drop_at m2 i h1]
        by_cases he : l2[i] = m2[i]
        · rw [if_pos he, wrap_succ i (by omega), before_l a0 a1 l2 a3 b0 b1 m2 b3 hm k (i + 1) (by omega) (by omega) (by omega)]
          have : cmpI m2[i] m2[i] = 0 := cm_I.refl _
          simp only [cmpIs, if_pos this, he, List.cons_prefix_cons, true_and]
        · rw [if_neg he]
          have hne : ¬ cmpI l2[i] m2[i] = 0 := fun e => he (cmpI_eq e)
          have hc : cmpIs (l2[i] :: l2.drop (i + 1)) (m2[i] :: m2.drop (i + 1)) = cmpI l2[i] m2[i] := by simp only [cmpIs, if_neg hne]
          rw [hc, if_neg hne, if_neg (by rw [List.cons_prefix_cons, List.cons_prefix_cons]; rintro (⟨e, _⟩ | ⟨e, _⟩); exact he e; exact he e.symm)]
          congr 1
          unfold cmpI
          by_cases hlt : l2[i] < m2[i]
          · rw [if_pos hlt]; simp [hlt]
          · rw [if_neg hlt]; simp [hlt]; split <;> decide
      · have e : i = m2.length := by omega
        rw [if_neg (by simp; omega), if_neg (by omega), drop_at l2 i h, List.drop_eq_nil_of_le (show m2.length ≤ i by omega)]
        simp only [cmpIs, List.nil_prefix, or_true, if_true]
        rw [if_neg (by decide)]
        congr 1
        simp only [decide_eq_decide]
        omega
    · have e : i = l2.length := by omega
      rw [if_neg (by omega)]
      unfold lienbookref05_before.j1
      rw [if_neg (by simp), List.drop_eq_nil_of_le (show l2.length ≤ i by omega)]
      by_cases h1 : l2.length = m2.length
      · rw [if_pos (by omega), List.drop_eq_nil_of_le (show m2.length ≤ i by omega)]
        simp only [cmpIs, if_true]
        cases a3 <;> simp
      · rw [if_neg (by omega), drop_at m2 i (by omega)]
        simp only [cmpIs, List.nil_prefix, true_or, if_true]
        rw [if_neg (by decide)]
        congr 1
        simp only [decide_eq_decide]
        omega
theorem cmpIs_pre : ∀ x y : List Int, cmpIs x y ≠ 0 → (x <+: y ∨ y <+: x) → (decide (cmpIs x y < 0) = decide (x.length < y.length))
  | [], [], h, _ => by simp [cmpIs] at h
  | [], _ :: _, _, _ => by simp [cmpIs]
  | _ :: _, [], _, _ => by simp [cmpIs]
  | a :: x, b :: y, h, hp => by
    rw [List.cons_prefix_cons, List.cons_prefix_cons] at hp
    have e : a = b := by rcases hp with ⟨e, _⟩ | ⟨e, _⟩; exact e; exact e.symm
    subst e
    have h0 : cmpI a a = 0 := cm_I.refl _
    have hc : cmpIs (a :: x) (a :: y) = cmpIs x y := by simp only [cmpIs, if_pos h0]
    rw [hc] at h ⊢
    rw [cmpIs_pre x y h (by rcases hp with ⟨_, p⟩ | ⟨_, p⟩; exact .inl p; exact .inr p)]
    simp
/-- Is a loan before another one? -/
def befL (a b : S44) : Bool := decide (cmpLoan a b < 0)
theorem before_f (a0 a1 : ByteArray) (l2 : List Int) (a3 : Bool) (b0 b1 : ByteArray) (m2 : List Int) (b3 : Bool) (hm : l2.length ≤ 9223372036854775807) (k : Nat) (hk : 2 * l2.length + 1 < k) :
    lienbookref05_before.f k a0 a1 l2 a3 b0 b1 m2 b3 = some (befL ⟨a0, ⟨a1, l2⟩, a3⟩ ⟨b0, ⟨b1, m2⟩, b3⟩) := by
  unfold lienbookref05_before.f befL
  rw [cmpLoan_eq]
  by_cases h0 : a0.toList = b0.toList
  · rw [if_pos h0, if_pos (cmpS_self h0)]
    by_cases h1 : a1.toList = b1.toList
    · rw [if_pos h1, if_pos (cmpS_self h1)]
      have := before_l a0 a1 l2 a3 b0 b1 m2 b3 hm k 0 (by omega) (by omega) (by omega)
      simp only [List.drop_zero] at this
      rw [show ((0 : Nat) : Int) = 0 from rfl] at this
      rw [this]
      congr 1
      by_cases hc : cmpIs l2 m2 = 0
      · rw [if_pos hc, if_pos hc]
        cases a3 <;> cases b3 <;> simp [bitI]
      · rw [if_neg hc, if_neg hc]
        split
        · rename_i hp
          exact (cmpIs_pre l2 m2 hc hp).symm
        · rfl
    · rw [if_neg h1, if_neg (fun e => h1 (cmpS_zero e)), cmpS_neg]
  · rw [if_neg h0, if_neg (fun e => h0 (cmpS_zero e)), cmpS_neg]
end Go.Proofs.YtadjekpfehjibaaGreatDoor.PEnv
namespace Go.Proofs.YtadjekpfehjibaaGreatDoor.PEnv
open Go.RowKit Go.Shelf Go.Proofs.YtadjekpfehjibaaGreatDoorW.PrintWords Go.Proofs.YtadjekpfehjibaaGreatDoorW.PrintLast Go.Proofs.YtadjekpfehjibaaGreatDoorW.PrintMore Go.Proofs.YtadjekpfehjibaaGreatDoor.PEnvJoins
set_option maxRecDepth 100000
theorem setMany_list : ∀ (vs : List Value) (pre rest : List Value), Sort.setMany (pre ++ rest).toArray pre.length vs = (pre ++ vs ++ rest.drop vs.length).toArray ∨ rest.length < vs.length
  | [], pre, rest => .inl (by simp [Sort.setMany])
  | v :: vs, pre, [] => .inr (by simp)
  | v :: vs, pre, r :: rest => by
    rcases setMany_list vs (pre ++ [v]) rest with h | h
    · left
      have e : ((pre ++ r :: rest).toArray.setIfInBounds pre.length v) = ((pre ++ [v]) ++ rest).toArray := by
        apply Array.ext'
        simp
      rw [Sort.setMany, e]
      have hl : pre.length + 1 = (pre ++ [v]).length := by simp
      rw [hl, h]
      simp
    · right
      simpa using h
theorem setCells_block : ∀ (vs : List Value) (o : Nat) (W : World) (bl : Nat) (arr : Array Value) (t : TypeId) (f : Nat × Nat), W.heap[bl]? = some (.cells arr t f) → (W.setCells bl o vs).heap[bl]? = some (.cells (Sort.setMany arr o vs) t f)
  | [], _, _, _, _, _, _, h => h
  | v :: vs, o, W, bl, arr, t, f, h => by
    refine setCells_block vs (o + 1) _ bl _ t f ?_
    unfold World.setCell
    simp [Array.getElem?_modify, h]
theorem below_setCells {B : Nat} {w : World} : ∀ (vs : List Value) (o : Nat) (W : World) (bl : Nat), B ≤ bl → Below B w W → Below B w (W.setCells bl o vs)
  | [], _, _, _, _, h => h
  | v :: vs, o, W, bl, hb, h => below_setCells vs (o + 1) _ bl hb (h.setCell hb v)
theorem size_setCells : ∀ (vs : List Value) (o : Nat) (W : World) (bl : Nat), (W.setCells bl o vs).heap.size = W.heap.size
  | [], _, _, _ => rfl
  | v :: vs, o, W, bl => by rw [World.setCells, size_setCells]; simp [World.setCell]
/-- An append whose run is known. -/
theorem wpList_append_known {P : Program} {w w1 : World} {v : Value} {ops : Array Oper} {rest : List Oper} {o : Oper} {a : Act} {Q : Exit → Act → World → Prop} (hg : o.guard = none) (s x : Operand) (t : TypeId)
    (hop : o.op = Op.call { callee := Callee.builtin Builtin.append, args := #[s, x], argTypes := #[t, t] }) (vs vx : Value) (hs : a.eval s = vs) (hx : a.eval x = vx) (hrun : ∀ ty, (Builtin.append_ #[t, t] ty #[vs, vx]).run P w = .ok v w1)
    (h : wpList P ops Q rest (a.put o.dst v) w1) : wpList P ops Q (o :: rest) a w := by
  refine wpList_plain hg fun K hK' => ?_
  have hr := hrun o.type
  unfold Oper.wp
  simp [execOp, hop, resolve, invoke, builtin, hs, hx, hr, Result.andThen]
  exact hK' _ _ h
/-- A clear whose run is known. -/
theorem wpList_clear_known {P : Program} {w w1 : World} {v : Value} {ops : Array Oper} {rest : List Oper} {o : Oper} {a : Act} {Q : Exit → Act → World → Prop} (hg : o.guard = none) (s : Operand) (t : TypeId)
    (hop : o.op = Op.call { callee := Callee.builtin Builtin.clear, args := #[s], argTypes := #[t] }) (vs : Value) (hs : a.eval s = vs) (hrun : ∀ ty, (Builtin.clear_ #[t] ty #[vs]).run P w = .ok v w1)
    (h : wpList P ops Q rest (a.put o.dst v) w1) : wpList P ops Q (o :: rest) a w := by
  refine wpList_plain hg fun K hK' => ?_
  have hr := hrun o.type
  unfold Oper.wp
  simp [execOp, hop, resolve, invoke, builtin, hs, hr, Result.andThen]
  exact hK' _ _ h
theorem appNothing (w : World) (ty : TypeId) (base : Option Addr) (s cap : Nat) (hle : s ≤ cap) (A : Option Addr) (c : Nat) :
    (Builtin.append_ #[28, 28] ty #[.slice base s cap, .slice A 0 c]).run Tryz.prog w = .ok (.slice base s cap) w := by
  have ht : Tryz.prog.underlying 28 = some (.slice 44) := by first | kernel_rfl | rfl
  have hi : Tryz.prog.info? 44 = some Tryz.t44 := by first | kernel_rfl | rfl
  have hfc : (Builtin.firstCells Tryz.t44.size 0 (.slice A 0 c)).run Tryz.prog w = .ok #[] w := by
    cases A with
    | none => exact run_firstCells_none w _ 0 0 c
    | some a => exact run_firstCells_some w _ 0 a 0 c [] (by simp) (fun j u h => by simp at h)
  cases base <;> simp [Builtin.append_, run_underlying ht, sizeOf, typeInfo, hi, Builtin.lenOf, hle, hfc, storeCells]
/-- An append within the room of a row of one's own. -/
theorem appendRoom {w : World} {A : Option Addr} {n c : Nat} {vs : List (List Value)} (hv : Els 4 w A n vs) (h1 : ∀ u ∈ vs.flatten, u.oneCell' = true) (ty : TypeId) (bl s cap : Nat) (pre rest : List Value) (hb : w.heap[bl]? = some (.cells (pre ++ rest).toArray 44 (0, 0)))
    (hp : pre.length = s * 4) (hr : rest.length = (cap - s) * 4) (hc : s + n ≤ cap) :
    (Builtin.append_ #[28, 28] ty #[.slice (some ⟨bl, 0, none⟩) s cap, .slice A n c]).run Tryz.prog w = .ok (.slice (some ⟨bl, 0, none⟩) (s + n) cap) (w.setCells bl (s * 4) vs.flatten) := by
  have hlen : vs.flatten.length = n * 4 := by
    rw [← hv.1]
    have := hv.2.2.1
    clear hv h1
    induction vs with
    | nil => rfl
    | cons c vs ih =>
      rw [List.flatten_cons, List.length_append, this 0 c rfl, ih (fun j cs hj => this (j + 1) cs hj), List.length_cons]
      omega
  by_cases h0 : 0 < n
  · obtain ⟨ad, rfl, hcell⟩ := hv.2.2.2 h0
    have hnew : ∀ j u, vs.flatten[j]? = some u → w.cell? (ad.add j) = some u := by
      have gen : ∀ (us : List (List Value)) (k : Nat), (∀ (j : Nat) cs, us[j]? = some cs → cs.length = 4) → (∀ (j : Nat) cs, us[j]? = some cs → ∀ i u, cs[i]? = some u → w.cell? (ad.add ((k + j) * 4 + i)) = some u) → ∀ j u, us.flatten[j]? = some u → w.cell? (ad.add (k * 4 + j)) = some u := by
        intro us
        induction us with
        | nil => intro k _ _ j u h; simp at h
        | cons x us ih =>
          intro k hl hx j u h
          have hl0 := hl 0 x rfl
          by_cases hj : j < 4
          · rw [List.flatten_cons, List.getElem?_append_left (by omega)] at h
            exact hx 0 x rfl j u h
          · rw [List.flatten_cons, List.getElem?_append_right (by omega)] at h
            have := ih (k + 1) (fun j cs hj => hl (j + 1) cs hj) (fun j cs hj i u hu => by
              have := hx (j + 1) cs hj i u hu
              rw [show k + 1 + j = k + (j + 1) by omega]; exact this) (j - x.length) u h
            rw [show (k + 1) * 4 + (j - x.length) = k * 4 + j by omega] at this
            exact this
      intro j u h
      have := gen vs 0 hv.2.2.1 (fun j cs hj i u hu => by rw [Nat.zero_add]; exact hcell j cs hj i u hu) j u h
      simpa using this
    have hcs : ∀ j, j < vs.flatten.length → (w.cell? ⟨bl, 0 + s * 4 + j, none⟩).isSome = true := fun j hj => by
      unfold World.cell?
      rw [hb]
      simp
      omega
    have hfs : ∀ j, j < vs.flatten.length → w.frozen? ⟨bl, 0 + s * 4 + j, none⟩ = false := fun j hj => by
      unfold World.frozen?
      rw [hb]
      simp
    have := run_append_room_cells (P := Tryz.prog) w 28 ty 44 Tryz.t44 (by first | kernel_rfl | rfl) (by first | kernel_rfl | rfl) bl 0 s cap ad n c vs.flatten hlen hnew h1 hc hcs hfs
    rw [Nat.zero_add] at this
    exact this
  · have e0 : n = 0 := by omega
    subst e0
    have : vs.flatten = [] := List.length_eq_zero_iff.mp (by omega)
    rw [this]
    exact appNothing w ty (some ⟨bl, 0, none⟩) s cap (by omega) A c
/-- A loan that lies in a world. -/
structure El (w : World) where
  l : S44
  A : Option Addr
  c : Nat
  reads : Kd.C (Kd.int .i64) w A l.f1.f1.length l.f1.f1
  room : l.f1.f1.length ≤ c
def noLoan : S44 := ⟨⟨#[]⟩, ⟨⟨#[]⟩, []⟩, false⟩
instance {w : World} : Inhabited (El w) := ⟨⟨noLoan, none, 0, ⟨rfl, Nat.zero_le _, fun h => absurd h (Nat.lt_irrefl 0)⟩, Nat.le_refl _⟩⟩
def encL {w : World} (x : El w) : List Value := [.string x.l.f0, .string x.l.f1.f0, .slice x.A x.l.f1.f1.length x.c, .bool x.l.f2]
def cmpEl {w : World} (x y : El w) : Int := cmpLoan x.l y.l
theorem els_of_loans {w : World} : ∀ (ls : List S44) (vs : List (List Value)), ls.length = vs.length → (∀ (i : Nat) x, ls[i]? = some x → ∃ cs, vs[i]? = some cs ∧ k44.K w x cs) → ∃ xs : List (El w), xs.map El.l = ls ∧ xs.map encL = vs
  | [], [], _, _ => ⟨[], rfl, rfl⟩
  | [], _ :: _, h, _ => by cases h
  | _ :: _, [], h, _ => by cases h
  | l :: ls, v :: vs, h, hK => by
    obtain ⟨xs, h1, h2⟩ := els_of_loans ls vs (by simpa using h) (fun i x hx => by simpa using hK (i + 1) x hx)
    obtain ⟨cs, hc, hk⟩ := hK 0 l rfl
    obtain rfl : v = cs := Option.some.inj hc
    obtain ⟨A2, c2, rfl, l2, g2⟩ := k44_open hk
    exact ⟨⟨l, A2, c2, g2, l2⟩ :: xs, by rw [List.map_cons, h1], by rw [List.map_cons, h2]; rfl⟩
theorem loans_els {w : World} {A : Option Addr} {ls : List S44} (h : Kd.C k44 w A ls.length ls) : ∃ xs : List (El w), xs.map El.l = ls ∧ Els 4 w A ls.length (xs.map encL) := by
  obtain ⟨vs, hv, hK⟩ := els_of_C h
  obtain ⟨xs, h1, h2⟩ := els_of_loans ls vs hv.1.symm hK
  exact ⟨xs, h1, by rw [h2]; exact hv⟩
theorem one_enc {w : World} (xs : List (El w)) : ∀ u ∈ (xs.map encL).flatten, u.oneCell' = true := by
  intro u hu
  rw [List.mem_flatten] at hu
  obtain ⟨cs, hcs, hu⟩ := hu
  obtain ⟨x, _, rfl⟩ := List.mem_map.mp hcs
  simp only [encL, List.mem_cons, List.not_mem_nil, or_false] at hu
  rcases hu with rfl | rfl | rfl | rfl <;> rfl
/-- A row's cells: what they hold, none frozen. -/
def RowE (W : World) (bl : Nat) (zs : List (List Value)) : Prop :=
  ∀ (j : Nat) (cs : List Value), zs[j]? = some cs → cs.length = 4 ∧ ∀ (i : Nat) (u : Value), cs[i]? = some u → W.cell? ⟨bl, j * 4 + i, none⟩ = some u ∧ W.frozen? ⟨bl, j * 4 + i, none⟩ = false
theorem flat_get : ∀ (zs : List (List Value)) (r : List Value), (∀ (j : Nat) (cs : List Value), zs[j]? = some cs → cs.length = 4) → ∀ (j : Nat) cs, zs[j]? = some cs → ∀ (i : Nat) u, cs[i]? = some u → (zs.flatten ++ r)[j * 4 + i]? = some u
  | [], _, _, j, cs, h, _, _, _ => by simp at h
  | z :: zs, r, hl, 0, cs, h, i, u, hu => by
    obtain rfl : z = cs := by simpa using h
    have hi : i < z.length := by
      rcases Nat.lt_or_ge i z.length with h | h
      · exact h
      · rw [List.getElem?_eq_none h] at hu; cases hu
    rw [List.flatten_cons, List.append_assoc, List.getElem?_append_left (by omega)]
    simpa using hu
  | z :: zs, r, hl, j + 1, cs, h, i, u, hu => by
    have h0 := hl 0 z rfl
    rw [List.flatten_cons, List.append_assoc, List.getElem?_append_right (by omega), show (j + 1) * 4 + i - z.length = j * 4 + i by omega]
    exact flat_get zs r (fun j cs hj => hl (j + 1) cs hj) j cs (by simpa using h) i u hu
theorem rowE_of_block {W : World} {bl : Nat} {zs : List (List Value)} {rest : List Value} {t : TypeId} (h : W.heap[bl]? = some (.cells (zs.flatten ++ rest).toArray t (0, 0))) (hl : ∀ (j : Nat) (cs : List Value), zs[j]? = some cs → cs.length = 4) : RowE W bl zs := by
  intro j cs hj
  refine ⟨hl j cs hj, fun i u hu => ⟨?_, ?_⟩⟩
  · unfold World.cell?
    rw [h]
    simpa using flat_get zs rest hl j cs hj i u hu
  · unfold World.frozen?
    rw [h]
    simp
theorem RowE.keep {W W' : World} {bl : Nat} {zs : List (List Value)} (h : RowE W bl zs) (e : W'.heap[bl]? = W.heap[bl]?) : RowE W' bl zs := fun j cs hj => ⟨(h j cs hj).1, fun i u hu => by
  obtain ⟨h1, h2⟩ := (h j cs hj).2 i u hu
  refine ⟨(World.cell?_of_block e).trans h1, ?_⟩
  unfold World.frozen? at h2 ⊢
  rw [show W'.heap[(⟨bl, j * 4 + i, none⟩ : Addr).block]? = W.heap[(⟨bl, j * 4 + i, none⟩ : Addr).block]? from e]
  exact h2⟩
end Go.Proofs.YtadjekpfehjibaaGreatDoor.PEnv
namespace Go.Proofs.YtadjekpfehjibaaGreatDoor.PEnv
open Go.RowKit Go.Shelf Go.Proofs.YtadjekpfehjibaaGreatDoorW.PrintWords Go.Proofs.YtadjekpfehjibaaGreatDoorW.PrintLast Go.Proofs.YtadjekpfehjibaaGreatDoorW.PrintMore Go.Proofs.YtadjekpfehjibaaGreatDoor.PEnvJoins
set_option maxRecDepth 100000
/-- A row of loans that the call itself has laid (behind B): k elements, room for cap. -/
def RowAt (B : Nat) (W : World) (X : Option Addr) (k cap : Nat) (es : List (List Value)) : Prop :=
  k ≤ cap ∧ ((k = 0 ∧ X = none) ∨ (0 < k ∧ ∃ (bl : Nat) (rest : List Value), X = some ⟨bl, 0, none⟩ ∧ B ≤ bl ∧ rest.length = (cap - k) * 4 ∧ W.heap[bl]? = some (.cells (es.flatten ++ rest).toArray 44 (0, 0))))
/-- slices.Grow of nil. -/
theorem growNil (k : Nat) (hk : 0 < k) (hm : k ≤ 1099511627776) (W : World) :
    Calls Tryz.prog 75 #[.slice none 0 0, .int .i64 (k : Int)] W fun e w' => ∃ (cap : Nat) (rest : List Value), e = .returned (.slice (some ⟨W.heap.size, 0, none⟩) 0 cap) ∧ k ≤ cap ∧ rest.length = cap * 4 ∧ Below W.heap.size W w' ∧ w'.heap[W.heap.size]? = some (.cells rest.toArray 44 (0, 0)) := by
  have h := Any8.slices_Grow_grow Tryz.growLoan Tryz.t44 (.agg #[.string ⟨#[]⟩, .string ⟨#[]⟩, .slice none 0 0, .bool false]) (by first | kernel_rfl | rfl) (by first | kernel_rfl | rfl) (by decide) none 0 0 k [] W (Nat.le_refl _) (by omega) (by show (0 + k) * 64 ≤ _; omega) (by omega) rfl (fun _ => rfl) (fun a ha => by cases ha)
  change Calls Tryz.prog 75 _ _ _ at h
  have e25 : Tryz.growLoan_ren.t 25 = 44 := rfl
  rw [e25] at h
  refine h.mono ?_
  rintro e w' ⟨rfl, hw⟩
  have hge := grownCap_ge W (0 + k) 0 44
  obtain ⟨G, hG⟩ : ∃ G, grownCap W (0 + k) 0 44 = G := ⟨_, rfl⟩
  rw [hG] at hw hge ⊢
  obtain ⟨arr, harr, hsz⟩ : ∃ arr : Array Value, w' = W.drew.alloc (.cells arr 44) ∧ arr.size = G * 4 := ⟨_, hw, by
    simp only [Array.size_append, size_zeroCells, List.size_toArray, List.length_nil]
    show 0 + (0 + k - 0) * 4 + (G - (0 + k)) * 4 = G * 4
    omega⟩
  subst harr
  exact ⟨G, arr.toList, rfl, by omega, by simpa using hsz, (below_drew1 (Below.refl _ W)).alloc (Nat.le_refl _) _, heap_alloc_new W.drew _⟩
set_option maxHeartbeats 4000000 in
theorem concat0 (A B : Option Addr) (n c m d L : Nat) (w : World) (h0 : n + m = 0) (c0 : w.cell? ⟨L, 0, none⟩ = some (.slice A n c)) (c1 : w.cell? ⟨L, 1, none⟩ = some (.slice B m d)) :
    Calls Tryz.prog 63 #[.slice (some ⟨L, 0, none⟩) 2 2] w fun e w' => e = .returned (.slice none 0 0) ∧ Below w.heap.size w w' := by
  obtain rfl : n = 0 := by omega
  obtain rfl : m = 0 := by omega
  have hgrow : ∀ W, Calls Tryz.prog 75 #[.slice none 0 0, .int .i64 0] W fun e w' => e = .returned (.slice none 0 0) ∧ w' = W := fun W => by
    have h := Any8.slices_Grow_room Tryz.growLoan none 0 0 0 W (Nat.le_refl _) (by omega) (by omega) (by omega)
    change Calls Tryz.prog 75 _ _ _ at h
    exact h
  have hap : ∀ (W : World) (X : Option Addr) (cc : Nat) (ty : TypeId), (Builtin.append_ #[28, 28] ty #[.slice none 0 0, .slice X 0 cc]).run Tryz.prog W = .ok (.slice none 0 0) W := fun W X cc ty =>
    appNothing W ty none 0 0 (Nat.le_refl _) X cc
  have hpure : ∀ W, Sem.run Tryz.prog (pure (#[] : Array Value)) W = .ok #[] W := fun _ => rfl
  clear h0
  go_enter Tryz.func63, Tryz.ntmps63
  go_wp2
  go_loopg [3, 11] 2 (fun gg s3 s11 wr => s3 = .int .i64 0 ∧ Aside (Below w.heap.size w wr) ∧ ((s11 = .int .i64 0 ∧ Aside (2 ≤ gg)) ∨ (s11 = .int .i64 1 ∧ Aside (1 ≤ gg)) ∨ s11 = .int .i64 2))
  case atStart => exact ⟨rfl, Below.refl _ _, .inl ⟨rfl, Nat.le_refl _⟩⟩
  case round =>
    obtain ⟨rfl, BW, ⟨rfl, hg⟩ | ⟨rfl, hg⟩ | rfl⟩ := hrel
    · have q0 := below_cell BW.out c0
      have hg' := hg.out
      clear c0 c1
      go_wp2
      go_roundg 1
      case measure => omega
      case rel => exact ⟨rfl, BW.out, .inr (.inl ⟨rfl, Nat.le_refl _⟩)⟩
    · have q1 := below_cell BW.out c1
      have hg' := hg.out
      clear c0 c1
      go_wp2
      go_roundg 0
      case measure => omega
      case rel => exact ⟨rfl, BW.out, .inr (.inr rfl)⟩
    · go_wp2_with (go_at_call 75; refine (hgrow _).mono ?_; rintro e w' ⟨rfl, rfl⟩)
      go_loopg [6, 27] 2 (fun gg s6 s27 wr => s6 = .slice none 0 0 ∧ Aside (Below w.heap.size w wr) ∧ ((s27 = .int .i64 0 ∧ Aside (2 ≤ gg)) ∨ (s27 = .int .i64 1 ∧ Aside (1 ≤ gg)) ∨ s27 = .int .i64 2))
      case atStart => exact ⟨rfl, BW.out, .inl ⟨rfl, Nat.le_refl _⟩⟩
      case round =>
        obtain ⟨rfl, BX, ⟨rfl, hg⟩ | ⟨rfl, hg⟩ | rfl⟩ := hrel
        · have q0 := below_cell BX.out c0
          have hg' := hg.out
          have hap' := hap wr A c
          clear c0 c1 hgrow hap
          go_wp2_with (at_builtin; refine wpList_append_known rfl _ _ 28 rfl _ _ rfl rfl hap' ?_)
          go_roundg 1
          case measure => omega
          case rel => exact ⟨rfl, BX.out, .inr (.inl ⟨rfl, Nat.le_refl _⟩)⟩
        · have q1 := below_cell BX.out c1
          have hg' := hg.out
          have hap' := hap wr B d
          clear c0 c1 hgrow hap
          go_wp2_with (at_builtin; refine wpList_append_known rfl _ _ 28 rfl _ _ rfl rfl hap' ?_)
          go_roundg 0
          case measure => omega
          case rel => exact ⟨rfl, BX.out, .inr (.inr rfl)⟩
        · go_wp2
          go_ret
          exact ⟨rfl, BX.out⟩
/-- What is held while Concat appends. -/
def CatI (w : World) (bl cap k : Nat) (pre : List Value) (W : World) : Prop :=
  Below w.heap.size w W ∧ ∃ rest : List Value, rest.length = (cap - k) * 4 ∧ pre.length = k * 4 ∧ W.heap[bl]? = some (.cells (pre ++ rest).toArray 44 (0, 0))
theorem CatI.next {w W : World} {bl cap k n : Nat} {pre vs : List Value} (h : CatI w bl cap k pre W) (hb : w.heap.size ≤ bl) (hv : vs.length = n * 4) (hc : k + n ≤ cap) : CatI w bl cap (k + n) (pre ++ vs) (W.setCells bl (k * 4) vs) := by
  obtain ⟨h1, rest, hr, hp, hx⟩ := h
  refine ⟨below_setCells vs _ W bl hb h1, rest.drop vs.length, ?_, ?_, ?_⟩
  · rw [List.length_drop, hr, hv, ← Nat.sub_mul]
    congr 1
    omega
  · rw [List.length_append, hp, hv, Nat.add_mul]
  · have := setCells_block vs (k * 4) W bl _ _ _ hx
    rw [this, ← hp]
    rcases setMany_list vs pre rest with h | h
    · rw [h]
    · have : (cap - k) * 4 < n * 4 := by omega
      omega
theorem flat_len {vs : List (List Value)} (h : ∀ (j : Nat) (cs : List Value), vs[j]? = some cs → cs.length = 4) : vs.flatten.length = vs.length * 4 := by
  induction vs with
  | nil => rfl
  | cons c vs ih =>
    rw [List.flatten_cons, List.length_append, h 0 c rfl, ih (fun j cs hj => h (j + 1) cs hj), List.length_cons]
    omega
set_option maxHeartbeats 4000000 in
theorem concat1 (A B : Option Addr) (n c m d L : Nat) (vs us : List (List Value)) (w : World) (h0 : 0 < n + m) (hroom : n + m ≤ 1099511627776) (hv : Els 4 w A n vs) (hu : Els 4 w B m us)
    (o1 : ∀ u ∈ vs.flatten, u.oneCell' = true) (o2 : ∀ u ∈ us.flatten, u.oneCell' = true) (c0 : w.cell? ⟨L, 0, none⟩ = some (.slice A n c)) (c1 : w.cell? ⟨L, 1, none⟩ = some (.slice B m d)) :
    Calls Tryz.prog 63 #[.slice (some ⟨L, 0, none⟩) 2 2] w fun e w' => ∃ X cap, e = .returned (.slice X (n + m) cap) ∧ Below w.heap.size w w' ∧ RowAt w.heap.size w' X (n + m) cap (vs ++ us) := by
  have hgrow := growNil (n + m) h0 hroom
  have l1 : vs.flatten.length = n * 4 := by rw [flat_len hv.2.2.1, hv.1]
  have l2 : us.flatten.length = m * 4 := by rw [flat_len hu.2.2.1, hu.1]
  have wn : wrap64 (n : Int) = (n : Int) := by unfold wrap64; omega
  have wm : wrap64 ((n : Int) + (m : Int)) = (n : Int) + (m : Int) := by unfold wrap64; omega
  have p1 : decide ((n : Int) < 0) = false := decide_eq_false (by omega)
  have p2 : decide ((n : Int) + (m : Int) < 0) = false := decide_eq_false (by omega)
  rw [Int.natCast_add] at hgrow
  go_enter Tryz.func63, Tryz.ntmps63
  go_wp2
  go_loopg [3, 11] 2 (fun gg s3 s11 wr => Aside (Below w.heap.size w wr) ∧ ((s11 = .int .i64 0 ∧ s3 = .int .i64 0 ∧ Aside (2 ≤ gg)) ∨ (s11 = .int .i64 1 ∧ s3 = .int .i64 n ∧ Aside (1 ≤ gg)) ∨ (s11 = .int .i64 2 ∧ s3 = .int .i64 ((n : Int) + (m : Int)))))
  case atStart => exact ⟨Below.refl _ _, .inl ⟨rfl, rfl, Nat.le_refl _⟩⟩
  case round =>
    obtain ⟨BW, ⟨rfl, rfl, hg⟩ | ⟨rfl, rfl, hg⟩ | ⟨rfl, rfl⟩⟩ := hrel
    · have q0 := below_cell BW.out c0
      have hg' := hg.out
      clear c0 c1 hgrow hv hu o1 o2 l1 l2 h0 hroom
      go_wp2
      go_roundg 1
      case measure => omega
      case rel => exact ⟨BW.out, .inr (.inl ⟨rfl, by first | rfl | simp [wn], Nat.le_refl _⟩)⟩
    · have q1 := below_cell BW.out c1
      have hg' := hg.out
      clear c0 c1 hgrow hv hu o1 o2 l1 l2 h0 hroom
      go_wp2
      go_roundg 0
      case measure => omega
      case rel => exact ⟨BW.out, .inr (.inr ⟨rfl, by first | rfl | simp [wm]⟩)⟩
    · have hgr := hgrow wr
      have hA := Aside0.mk hv
      have hB := Aside0.mk hu
      have hO := Aside0.mk o1
      have hP := Aside0.mk o2
      have hL := Aside0.mk (And.intro l1 l2)
      have hR := Aside0.mk hroom
      have hZ := Aside0.mk h0
      clear hgrow hv hu o1 o2 l1 l2 h0 hroom
      go_wp2_with (go_at_call 75; refine hgr.mono ?_; clear hgr; rintro e w1 ⟨cap, rest0, rfl, hcap, hr0, hb1, hx1⟩; have hC := Aside0.mk hcap; have hB1 := Aside0.mk (BW.out.trans (hb1.mono BW.out.size)); have hI0 := Aside0.mk (show CatI w wr.heap.size cap 0 [] w1 from ⟨hB1.out, rest0, hr0, rfl, hx1⟩); have hbl := Aside0.mk BW.out.size; clear hcap hr0 hb1 hx1)
      generalize wr.heap.size = bl at *
      go_loopg [6, 27] 2 (fun gg s6 s27 W => (s27 = .int .i64 0 ∧ s6 = .slice (some ⟨bl, 0, none⟩) 0 cap ∧ Aside (2 ≤ gg ∧ CatI w bl cap 0 [] W)) ∨ (s27 = .int .i64 1 ∧ s6 = .slice (some ⟨bl, 0, none⟩) n cap ∧ Aside (1 ≤ gg ∧ CatI w bl cap n vs.flatten W)) ∨ (s27 = .int .i64 2 ∧ s6 = .slice (some ⟨bl, 0, none⟩) (n + m) cap ∧ Aside (CatI w bl cap (n + m) (vs.flatten ++ us.flatten) W)))
      case atStart => exact .inl ⟨rfl, rfl, Nat.le_refl _, hI0.out⟩
      case round =>
        rcases hrel with ⟨rfl, rfl, hg⟩ | ⟨rfl, rfl, hg⟩ | ⟨rfl, rfl, hg⟩
        · obtain ⟨hg', hI⟩ := hg.out
          have q0 := below_cell hI.1 c0
          have hnext := hI.next hbl.out hL.out.1 (by have := hC.out; omega)
          obtain ⟨_, rest, hr, hp, hx⟩ := hI
          have hap := fun ty => appendRoom (hA.out.below ‹_›) (c := c) hO.out ty bl 0 cap [] rest hx hp hr (by have := hC.out; omega)
          obtain ⟨W2, hW2⟩ : ∃ W2, wr.setCells bl (0 * 4) vs.flatten = W2 := ⟨_, rfl⟩
          rw [hW2] at hnext
          simp only [hW2, Nat.zero_add] at hap
          rw [Nat.zero_add, List.nil_append] at hnext
          have hN := Aside0.mk hnext
          clear hnext hW2 hr hp hx hg c0 c1
          go_wp2_with (at_builtin; refine wpList_append_known rfl _ _ 28 rfl _ _ rfl rfl hap ?_)
          go_roundg 1
          case measure => omega
          case rel => exact .inr (.inl ⟨rfl, rfl, Nat.le_refl _, hN.out⟩)
        · obtain ⟨hg', hI⟩ := hg.out
          have q1 := below_cell hI.1 c1
          have hnext := hI.next hbl.out hL.out.2 (by have := hC.out; omega)
          obtain ⟨_, rest, hr, hp, hx⟩ := hI
          have hap := fun ty => appendRoom (hB.out.below ‹_›) (c := d) hP.out ty bl n cap vs.flatten rest hx hp hr (by have := hC.out; omega)
          obtain ⟨W2, hW2⟩ : ∃ W2, wr.setCells bl (n * 4) us.flatten = W2 := ⟨_, rfl⟩
          rw [hW2] at hnext
          simp only [hW2] at hap
          have hN := Aside0.mk hnext
          clear hnext hW2 hr hp hx hg c0 c1
          go_wp2_with (at_builtin; refine wpList_append_known rfl _ _ 28 rfl _ _ rfl rfl hap ?_)
          go_roundg 0
          case measure => omega
          case rel => exact .inr (.inr ⟨rfl, rfl, hN.out⟩)
        · have hI := hg.out
          clear hg
          have hI' := Aside0.mk hI
          clear hI
          go_wp2
          go_ret
          obtain ⟨hb, rest, hr, hp, hx⟩ := hI'.out
          exact ⟨_, _, rfl, hb, hC.out, .inr ⟨hZ.out, bl, rest, rfl, hbl.out, hr, by rw [List.flatten_append]; exact hx⟩⟩
end Go.Proofs.YtadjekpfehjibaaGreatDoor.PEnv
namespace Go.Proofs.YtadjekpfehjibaaGreatDoor.PEnvJoins
open Go.RowKit Go.Proofs.YtadjekpfehjibaaGreatDoorW.PrintWords Go.Proofs.YtadjekpfehjibaaGreatDoorW.PrintLast Go.Proofs.YtadjekpfehjibaaGreatDoorW.PrintMore
/-- Draws, and blocks laid behind. -/
def Gr (w w' : World) : Prop := ∃ (q : Nat) (os : Array Obj), w' = Sort.grow (w.drewN q) os
theorem Gr.refl (w : World) : Gr w w := ⟨0, #[], by simp [World.drewN]⟩
theorem Gr.trans {a b c : World} (h : Gr a b) (k : Gr b c) : Gr a c := by
  obtain ⟨q, os, rfl⟩ := h
  obtain ⟨q', os', rfl⟩ := k
  exact ⟨q + q', os ++ os', by simp [Sort.grow, World.drewN, Array.append_assoc, Nat.add_assoc]⟩
theorem Gr.drewN {a b : World} (h : Gr a b) (n : Nat) : Gr a (b.drewN n) := h.trans ⟨n, #[], by simp⟩
theorem Gr.drew1 {a b : World} (h : Gr a b) : Gr a b.drew := h.drewN 1
theorem Gr.alloc {a b : World} (h : Gr a b) (o : Obj) : Gr a (b.alloc o) := h.trans ⟨0, #[o], by simp [Sort.alloc_eq_grow, World.drewN]⟩
theorem Gr.below {a b : World} (h : Gr a b) : Below a.heap.size a b := by
  obtain ⟨q, os, rfl⟩ := h
  refine ⟨rfl, rfl, rfl, by simp [Sort.grow, World.drewN], fun k hk => ?_⟩
  simp only [Sort.grow, World.drewN]
  rw [Array.getElem?_append_left hk]
section
variable {P : Program} {ops : Array Oper} {o : Oper} {rest : List Oper} {a : Act} {Q : Exit → Act → World → Prop} {Kc : Act → World → Prop}
theorem box_eventG {W : World} (hgd : o.guard = none) {N : Tmp} (_hd : o.dst = some N) {cs : Array Value} {t : TypeId}
    (hrun : (execOp a.eval o).run P W = .ok (.value (.pointer (some ⟨W.heap.size, 0, none⟩))) (W.alloc (.cells cs t (0, 0))))
    (h : ∀ g, g = W.heap.size → ∀ w1, w1.heap[g]? = some (.cells cs t (0, 0)) → Below W.heap.size W w1 → Gr W w1 → wpList P ops Q rest (a.put o.dst (.pointer (some ⟨g, 0, none⟩))) w1) : wpList P ops Q (o :: rest) a W :=
  Kd.event_run hgd hrun (h _ rfl _ (blk_new W _) (below_alloc (Below.refl _ _) _) ((Gr.refl W).alloc _))
theorem R_lit_stepG {α : Type} (d : Kd α) {w0 W : World} (base e : Nat) (hw : Region.wanted o (yielded ops a.tmps) = true) {N : Tmp} (hd : o.dst = some N) {xs : List α} {inner : List Value} {ok okp : Nat → Prop}
    (hrun : (execOp a.eval o).run P W = .ok (.value (.slice (some ⟨W.heap.size, 0, none⟩) xs.length xs.length)) (W.alloc (.cells inner.toArray e)))
    (hrep : Reps (d.M W base okp) d.sz xs inner) (hok : ∀ k, okp k → ok k) (hfresh : ok W.heap.size) (HB : Below base w0 W) (hbase : base ≤ W.heap.size) (hm : xs.length ≤ 9223372036854775807)
    (h : ∀ v1 w1, d.R e w1 base ok v1 xs → Below base w0 w1 → W.grownBy w1 none → (∃ b, v1.ownBlock = some b ∧ W.heap.size ≤ b) → Gr W w1 → Kc (a.put o.dst v1) w1) : if Region.wanted o (yielded ops a.tmps) = true then Oper.wp P o a W Kc Q else Kc (a.put o.dst undef) W := by
  have h2 := @Kd.R_lit_step P ops o a Q (fun a' w' => Gr W w' → Kc a' w') α d w0 W base e hw N hd xs inner ok okp hrun hrep hok hfresh HB hbase hm (fun v1 w1 h1 h2 h3 h4 h5 => h v1 w1 h1 h2 h3 h4 h5)
  rw [if_pos hw] at h2 ⊢
  unfold Oper.wp at h2 ⊢
  rw [hrun] at h2 ⊢
  exact h2 ((Gr.refl W).alloc _)
end
set_option maxHeartbeats 8000000 in
set_option maxRecDepth 100000 in
theorem env_Cmp.callsG (k : Nat) (a0_0 : ByteArray) (a0_1 : ByteArray) (A0_2 : Option Addr) (c0_2 : Nat) (l0_2 : List Int) (a0_3 : Bool) (a1_0 : ByteArray) (a1_1 : ByteArray) (A1_2 : Option Addr) (c1_2 : Nat) (l1_2 : List Int) (a1_3 : Bool) (r : Int) (w : World) (hr0_2 : Kd.C (Kd.int .i64) w A0_2 l0_2.length l0_2) (hc0_2 : l0_2.length ≤ c0_2) (hr1_2 : Kd.C (Kd.int .i64) w A1_2 l1_2.length l1_2) (hc1_2 : l1_2.length ≤ c1_2) (h : env_Cmp.f k a0_0 a0_1 l0_2 a0_3 a1_0 a1_1 l1_2 a1_3 = some r) :
    Calls Tryz.prog 48 #[.agg #[.string a0_0, .string a0_1, .slice A0_2 l0_2.length c0_2, .bool a0_3], .agg #[.string a1_0, .string a1_1, .slice A1_2 l1_2.length c1_2, .bool a1_3]] w fun e w' => e = .returned (.int .i64 r) ∧ Gr w w' := by
  have hu44 := Tryz.underlying44
  have HR0_2 := Aside0.mk hr0_2
  have HC0_2 := Aside0.mk hc0_2
  clear hr0_2 hc0_2
  have HR1_2 := Aside0.mk hr1_2
  have HC1_2 := Aside0.mk hc1_2
  clear hr1_2 hc1_2
  have HB := Aside0.mk (Below.refl w.heap.size w)
  have HG := Aside0.mk (Gr.refl w)
  have H : ((cmp_Compare_string.f a0_0 a1_0).bind fun t206 => ((cmp_Compare_string.f a0_1 a1_1).bind fun t207 => ((slices_Compare_int_int.f k l0_2 l1_2).bind fun t208 => ((env_bit.f a0_3).bind fun t209 => ((env_bit.f a1_3).bind fun t210 => ((cmp_Or_int.f k (([t206, t207, t208, wrap64 (t209 - t210)] : List Int))).bind fun t214 => (some t214))))))) = some r := h
  clear h
  replace H := Option.bind_eq_some_iff.mp H
  obtain ⟨t206, A30, H⟩ := H
  replace H : ((cmp_Compare_string.f a0_1 a1_1).bind fun t207 => ((slices_Compare_int_int.f k l0_2 l1_2).bind fun t208 => ((env_bit.f a0_3).bind fun t209 => ((env_bit.f a1_3).bind fun t210 => ((cmp_Or_int.f k (([t206, t207, t208, wrap64 (t209 - t210)] : List Int))).bind fun t214 => (some t214)))))) = some r := H
  have A3 := Aside0.mk A30
  clear A30
  replace H := Option.bind_eq_some_iff.mp H
  obtain ⟨t207, A40, H⟩ := H
  replace H : ((slices_Compare_int_int.f k l0_2 l1_2).bind fun t208 => ((env_bit.f a0_3).bind fun t209 => ((env_bit.f a1_3).bind fun t210 => ((cmp_Or_int.f k (([t206, t207, t208, wrap64 (t209 - t210)] : List Int))).bind fun t214 => (some t214))))) = some r := H
  have A4 := Aside0.mk A40
  clear A40
  replace H := Option.bind_eq_some_iff.mp H
  obtain ⟨t208, A50, H⟩ := H
  replace H : ((env_bit.f a0_3).bind fun t209 => ((env_bit.f a1_3).bind fun t210 => ((cmp_Or_int.f k (([t206, t207, t208, wrap64 (t209 - t210)] : List Int))).bind fun t214 => (some t214)))) = some r := H
  have A5 := Aside0.mk A50
  clear A50
  replace H := Option.bind_eq_some_iff.mp H
  obtain ⟨t209, A60, H⟩ := H
  replace H : ((env_bit.f a1_3).bind fun t210 => ((cmp_Or_int.f k (([t206, t207, t208, wrap64 (t209 - t210)] : List Int))).bind fun t214 => (some t214))) = some r := H
  have A6 := Aside0.mk A60
  clear A60
  replace H := Option.bind_eq_some_iff.mp H
  obtain ⟨t210, A70, H⟩ := H
  replace H : ((cmp_Or_int.f k (([t206, t207, t208, wrap64 (t209 - t210)] : List Int))).bind fun t214 => (some t214)) = some r := H
  have A7 := Aside0.mk A70
  clear A70
  obtain ⟨y211, hy211⟩ : ∃ y_ : List Int, y_ = (([t206, t207, t208, wrap64 (t209 - t210)] : List Int)) := ⟨_, rfl⟩
  replace H : ((cmp_Or_int.f k y211).bind fun t214 => (some t214)) = some r := by first | (rw [hy211]; with_reducible exact H) | (have H2_ := (Option.bind_some _ _).symm.trans H; rw [hy211]; with_reducible exact H2_) | (have H2_ := (Option.bind_some _ _).symm.trans H; with_reducible exact H2_) | with_reducible exact H | (rw [hy211]; exact H) | exact H
  have Ny211 := Aside0.mk hy211
  clear hy211
  replace H := Option.bind_eq_some_iff.mp H
  obtain ⟨t214, A80, H⟩ := H
  replace H : (some t214) = some r := H
  have A8 := Aside0.mk A80
  clear A80
  obtain rfl := Option.some.inj H
  go_enter Tryz.func48, Tryz.ntmps48
  try go_wp2_with (first | ((with_reducible refine gate_dst (N := 2) rfl ?_); refine box_eventG ?hg (N := 2) ?hd (cs := #[.string a0_0, .string a0_1, .slice A0_2 l0_2.length c0_2, .bool a0_3]) (t := 44) ?hr ?_; (case hd => rfl); (case hg => rfl); (case hr => first | (go_simp; done) | (go_simp; rfl)); intro gb204 hg w9 hbox hb hgr_; have HG_ := Aside0.mk (Gr.trans (by repeat (first | exact HG.out | apply Gr.alloc | apply Gr.drewN | apply Gr.drew1)) hgr_); clear HG hgr_; have HG := HG_; clear HG_; have n0_ := Aside0.mk (below_step (by repeat (first | (with_reducible first | exact HB.out | apply below_alloc | apply pw_below_drewN | apply below_drew1) | exact HB.out)) hb); have n1_ := Aside0.mk (hbox); have n2_ := Aside0.mk ((by rw [hg]; exact (below_size (by repeat (first | (with_reducible first | exact HB.out | apply below_alloc | apply pw_below_drewN | apply below_drew1) | exact HB.out))) : w.heap.size ≤ gb204)); have n3_ := Aside0.mk ((by rw [hg]; exact (below_size (by repeat (first | (with_reducible first | exact HB.out | apply below_alloc | apply pw_below_drewN | apply below_drew1) | exact HB.out))) : w.heap.size ≤ gb204)); clear HB; have HB := n0_; have BK204 := n1_; have GW204 := n2_; have GE204 := n3_; clear n0_ n1_ n2_ n3_; clear hb hbox hg) | ((with_reducible refine gate_dst (N := 3) rfl ?_); refine box_eventG ?hg (N := 3) ?hd (cs := #[.string a1_0, .string a1_1, .slice A1_2 l1_2.length c1_2, .bool a1_3]) (t := 44) ?hr ?_; (case hd => rfl); (case hg => rfl); (case hr => first | (go_simp; done) | (go_simp; rfl)); intro gb205 hg w10 hbox hb hgr_; have HG_ := Aside0.mk (Gr.trans (by repeat (first | exact HG.out | apply Gr.alloc | apply Gr.drewN | apply Gr.drew1)) hgr_); clear HG hgr_; have HG := HG_; clear HG_; have n0_ := Aside0.mk (blk_below (g := gb204) (o := .cells #[.string a0_0, .string a0_1, .slice A0_2 l0_2.length c0_2, .bool a0_3] 44 (0, 0)) (by (with_reducible repeat (first | refine blk_drewN ?_ _ | refine blk_drew ?_ | refine blk_alloc ?_ _)); exact BK204.out) hb); have n1_ := Aside0.mk (below_step (by repeat (first | (with_reducible first | exact HB.out | apply below_alloc | apply pw_below_drewN | apply below_drew1 | refine below_set ?_ GE204.out) | exact HB.out)) hb); have n2_ := Aside0.mk (hbox); have n3_ := Aside0.mk ((by rw [hg]; exact (below_size (by repeat (first | (with_reducible first | exact HB.out | apply below_alloc | apply pw_below_drewN | apply below_drew1 | refine below_set ?_ GE204.out) | exact HB.out))) : w.heap.size ≤ gb205)); have n4_ := Aside0.mk ((by rw [hg]; exact (below_size (by repeat (first | (with_reducible first | exact HB.out | apply below_alloc | apply pw_below_drewN | apply below_drew1 | refine below_set ?_ GE204.out) | exact HB.out))) : w.heap.size ≤ gb205)); have n5_ := Aside0.mk ((by rw [hg]; exact Nat.ne_of_lt (blk_lt (g := gb204) (o := .cells #[.string a0_0, .string a0_1, .slice A0_2 l0_2.length c0_2, .bool a0_3] 44 (0, 0)) (by (with_reducible repeat (first | refine blk_drewN ?_ _ | refine blk_drew ?_ | refine blk_alloc ?_ _)); exact BK204.out)) : gb204 ≠ gb205)); have n6_ := Aside0.mk ((by rw [hg]; exact Nat.ne_of_gt (blk_lt (g := gb204) (o := .cells #[.string a0_0, .string a0_1, .slice A0_2 l0_2.length c0_2, .bool a0_3] 44 (0, 0)) (by (with_reducible repeat (first | refine blk_drewN ?_ _ | refine blk_drew ?_ | refine blk_alloc ?_ _)); exact BK204.out)) : gb205 ≠ gb204)); clear BK204; clear HB; have BK204 := n0_; have HB := n1_; have BK205 := n2_; have GW205 := n3_; have GE205 := n4_; have NB204_205 := n5_; have NB205_204 := n6_; clear n0_ n1_ n2_ n3_ n4_ n5_ n6_; clear hb hbox hg))
  have n0_ := Aside0.mk (blk_drew BK204.out)
  have n1_ := Aside0.mk (blk_drew BK205.out)
  have n2_ := Aside0.mk (below_drew1 HB.out)
  have HG_ := Aside0.mk (Gr.drew1 HG.out)
  clear HG
  have HG := HG_
  clear HG_
  clear BK204
  clear BK205
  clear HB
  have BK204 := n0_
  have BK205 := n1_
  have HB := n2_
  clear n0_ n1_ n2_
  refine start_ (n := 29) (S := fun w' => w'.cell? ⟨gb204, 0, none⟩ = some (.string a0_0) ∧ w'.cell? ⟨gb204, 1, none⟩ = some (.string a0_1) ∧ w'.cell? ⟨gb204, 2, none⟩ = some (.slice A0_2 l0_2.length c0_2) ∧ w'.cell? ⟨gb204, 3, none⟩ = some (.bool a0_3) ∧ w'.cell? ⟨gb205, 0, none⟩ = some (.string a1_0) ∧ w'.cell? ⟨gb205, 1, none⟩ = some (.string a1_1) ∧ w'.cell? ⟨gb205, 2, none⟩ = some (.slice A1_2 l1_2.length c1_2) ∧ w'.cell? ⟨gb205, 3, none⟩ = some (.bool a1_3)) (ds := []) #[false, false, false, false, false, false, false, false, false, false, false, false, false, false, false, false, false, false, false, false, false, false, false, false, false, false, false, false, false] (by kernel_rfl) rfl rfl ⟨(blk_cell BK204.out 0).trans rfl, (blk_cell BK204.out 1).trans rfl, (blk_cell BK204.out 2).trans rfl, (blk_cell BK204.out 3).trans rfl, (blk_cell BK205.out 0).trans rfl, (blk_cell BK205.out 1).trans rfl, (blk_cell BK205.out 2).trans rfl, (blk_cell BK205.out 3).trans rfl⟩ (fun hHeld => ?_); refine with_tabW env_Cmp.tab1 env_Cmp.bits1 (fun HT_ HW_ => ?_)
  generalize w10.drew = w11 at BK204 BK205 HB HG hHeld ⊢
  refine pure_ (i := 0) (N := some 5) (v := ?_) (a' := ?_) #[true, false, false, false, false, false, false, false, false, false, false, false, false, false, false, false, false, false, false, false, false, false, false, false, false, false, false, false, false] rfl rfl (any_of HT_.out (by kernel_rfl)) (fun _ _ _ h => h) (Or.inl ⟨by rfl, ?_⟩) ?_ ?_
  rotate_left
  · intro w'
    go_simp
    with_reducible rfl
  rotate_left
  · simp only [Act.put, List.setIfInBounds_toArray, List.set_cons_zero, List.set_cons_succ, i64_w, i32_w]
    rfl
  refine pure_ (i := 2) (N := some 7) (v := ?_) (a' := ?_) #[true, false, true, false, false, false, false, false, false, false, false, false, false, false, false, false, false, false, false, false, false, false, false, false, false, false, false, false, false] rfl rfl (any_of HT_.out (by kernel_rfl)) (fun _ _ _ h => h) (Or.inl ⟨by rfl, ?_⟩) ?_ ?_
  rotate_left
  · intro w'
    go_simp
    with_reducible rfl
  rotate_left
  · simp only [Act.put, List.setIfInBounds_toArray, List.set_cons_zero, List.set_cons_succ, i64_w, i32_w]
    rfl
  refine pure_ (i := 5) (N := some 10) (v := ?_) (a' := ?_) #[true, false, true, false, false, true, false, false, false, false, false, false, false, false, false, false, false, false, false, false, false, false, false, false, false, false, false, false, false] rfl rfl (any_of HT_.out (by kernel_rfl)) (fun _ _ _ h => h) (Or.inl ⟨by rfl, ?_⟩) ?_ ?_
  rotate_left
  · intro w'
    go_simp
    with_reducible rfl
  rotate_left
  · simp only [Act.put, List.setIfInBounds_toArray, List.set_cons_zero, List.set_cons_succ, i64_w, i32_w]
    rfl
  refine pure_ (i := 6) (N := some 11) (v := ?_) (a' := ?_) #[true, false, true, false, false, true, true, false, false, false, false, false, false, false, false, false, false, false, false, false, false, false, false, false, false, false, false, false, false] rfl rfl (any_of HT_.out (by kernel_rfl)) (fun _ _ _ h => h) (Or.inl ⟨by rfl, ?_⟩) ?_ ?_
  rotate_left
  · intro w'
    go_simp
    with_reducible rfl
  rotate_left
  · simp only [Act.put, List.setIfInBounds_toArray, List.set_cons_zero, List.set_cons_succ, i64_w, i32_w]
    rfl
  refine pure_ (i := 8) (N := some 13) (v := ?_) (a' := ?_) #[true, false, true, false, false, true, true, false, true, false, false, false, false, false, false, false, false, false, false, false, false, false, false, false, false, false, false, false, false] rfl rfl (any_of HT_.out (by kernel_rfl)) (fun _ _ _ h => h) (Or.inl ⟨by rfl, ?_⟩) ?_ ?_
  rotate_left
  · intro w'
    go_simp
    with_reducible rfl
  rotate_left
  · simp only [Act.put, List.setIfInBounds_toArray, List.set_cons_zero, List.set_cons_succ, i64_w, i32_w]
    rfl
  refine pure_ (i := 9) (N := some 14) (v := ?_) (a' := ?_) #[true, false, true, false, false, true, true, false, true, true, false, false, false, false, false, false, false, false, false, false, false, false, false, false, false, false, false, false, false] rfl rfl (any_of HT_.out (by kernel_rfl)) (fun _ _ _ h => h) (Or.inl ⟨by rfl, ?_⟩) ?_ ?_
  rotate_left
  · intro w'
    go_simp
    with_reducible rfl
  rotate_left
  · simp only [Act.put, List.setIfInBounds_toArray, List.set_cons_zero, List.set_cons_succ, i64_w, i32_w]
    rfl
  refine pure_ (i := 12) (N := some 17) (v := ?_) (a' := ?_) #[true, false, true, false, false, true, true, false, true, true, false, false, true, false, false, false, false, false, false, false, false, false, false, false, false, false, false, false, false] rfl rfl (any_of HT_.out (by kernel_rfl)) (fun _ _ _ h => h) (Or.inl ⟨by rfl, ?_⟩) ?_ ?_
  rotate_left
  · intro w'
    go_simp
    with_reducible rfl
  rotate_left
  · simp only [Act.put, List.setIfInBounds_toArray, List.set_cons_zero, List.set_cons_succ, i64_w, i32_w]
    rfl
  refine pure_ (i := 13) (N := some 18) (v := ?_) (a' := ?_) #[true, false, true, false, false, true, true, false, true, true, false, false, true, true, false, false, false, false, false, false, false, false, false, false, false, false, false, false, false] rfl rfl (any_of HT_.out (by kernel_rfl)) (fun _ _ _ h => h) (Or.inl ⟨by rfl, ?_⟩) ?_ ?_
  rotate_left
  · intro w'
    go_simp
    with_reducible rfl
  rotate_left
  · simp only [Act.put, List.setIfInBounds_toArray, List.set_cons_zero, List.set_cons_succ, i64_w, i32_w]
    rfl
  refine pure_ (i := 15) (N := some 20) (v := ?_) (a' := ?_) #[true, false, true, false, false, true, true, false, true, true, false, false, true, true, false, true, false, false, false, false, false, false, false, false, false, false, false, false, false] rfl rfl (any_of HT_.out (by kernel_rfl)) (fun _ _ _ h => h) (Or.inl ⟨by rfl, ?_⟩) ?_ ?_
  rotate_left
  · intro w'
    go_simp
    with_reducible rfl
  rotate_left
  · simp only [Act.put, List.setIfInBounds_toArray, List.set_cons_zero, List.set_cons_succ, i64_w, i32_w]
    rfl
  refine pure_ (i := 16) (N := some 21) (v := ?_) (a' := ?_) #[true, false, true, false, false, true, true, false, true, true, false, false, true, true, false, true, true, false, false, false, false, false, false, false, false, false, false, false, false] rfl rfl (any_of HT_.out (by kernel_rfl)) (fun _ _ _ h => h) (Or.inl ⟨by rfl, ?_⟩) ?_ ?_
  rotate_left
  · intro w'
    go_simp
    with_reducible rfl
  rotate_left
  · simp only [Act.put, List.setIfInBounds_toArray, List.set_cons_zero, List.set_cons_succ, i64_w, i32_w]
    rfl
  refine pure_ (i := 19) (N := some 24) (v := ?_) (a' := ?_) #[true, false, true, false, false, true, true, false, true, true, false, false, true, true, false, true, true, false, false, true, false, false, false, false, false, false, false, false, false] rfl rfl (any_of HT_.out (by kernel_rfl)) (fun _ _ _ h => h) (Or.inl ⟨by rfl, ?_⟩) ?_ ?_
  rotate_left
  · intro w'
    go_simp
    with_reducible rfl
  rotate_left
  · simp only [Act.put, List.setIfInBounds_toArray, List.set_cons_zero, List.set_cons_succ, i64_w, i32_w]
    rfl
  refine pure_ (i := 22) (N := some 27) (v := ?_) (a' := ?_) #[true, false, true, false, false, true, true, false, true, true, false, false, true, true, false, true, true, false, false, true, false, false, true, false, false, false, false, false, false] rfl rfl (any_of HT_.out (by kernel_rfl)) (fun _ _ _ h => h) (Or.inl ⟨by rfl, ?_⟩) ?_ ?_
  rotate_left
  · intro w'
    go_simp
    with_reducible rfl
  rotate_left
  · simp only [Act.put, List.setIfInBounds_toArray, List.set_cons_zero, List.set_cons_succ, i64_w, i32_w]
    rfl
  refine take_ (i := 1) (N := some 6) (v := ?_) (a' := ?_) #[true, true, true, false, false, true, true, false, true, true, false, false, true, true, false, true, true, false, false, true, false, false, true, false, false, false, false, false, false] rfl rfl (take_ofW HT_.out HW_.out (by kernel_rfl)) (fun _ _ _ h => h) (Or.inl ⟨by rfl, ?_⟩) hHeld ?_ ?_
  rotate_left
  · rintro w' ⟨s0, s1, s2, s3, s4, s5, s6, s7⟩
    go_simp
    with_reducible rfl
  rotate_left
  · simp only [Act.put, List.setIfInBounds_toArray, List.set_cons_zero, List.set_cons_succ, i64_w, i32_w]
    rfl
  refine take_ (i := 3) (N := some 8) (v := ?_) (a' := ?_) #[true, true, true, true, false, true, true, false, true, true, false, false, true, true, false, true, true, false, false, true, false, false, true, false, false, false, false, false, false] rfl rfl (take_ofW HT_.out HW_.out (by kernel_rfl)) (fun _ _ _ h => h) (Or.inl ⟨by rfl, ?_⟩) hHeld ?_ ?_
  rotate_left
  · rintro w' ⟨s0, s1, s2, s3, s4, s5, s6, s7⟩
    go_simp
    with_reducible rfl
  rotate_left
  · simp only [Act.put, List.setIfInBounds_toArray, List.set_cons_zero, List.set_cons_succ, i64_w, i32_w]
    rfl
  refine take_ (i := 7) (N := some 12) (v := ?_) (a' := ?_) #[true, true, true, true, false, true, true, true, true, true, false, false, true, true, false, true, true, false, false, true, false, false, true, false, false, false, false, false, false] rfl rfl (take_ofW HT_.out HW_.out (by kernel_rfl)) (fun _ _ _ h => h) (Or.inl ⟨by rfl, ?_⟩) hHeld ?_ ?_
  rotate_left
  · rintro w' ⟨s0, s1, s2, s3, s4, s5, s6, s7⟩
    go_simp
    with_reducible rfl
  rotate_left
  · simp only [Act.put, List.setIfInBounds_toArray, List.set_cons_zero, List.set_cons_succ, i64_w, i32_w]
    rfl
  refine take_ (i := 10) (N := some 15) (v := ?_) (a' := ?_) #[true, true, true, true, false, true, true, true, true, true, true, false, true, true, false, true, true, false, false, true, false, false, true, false, false, false, false, false, false] rfl rfl (take_ofW HT_.out HW_.out (by kernel_rfl)) (fun _ _ _ h => h) (Or.inl ⟨by rfl, ?_⟩) hHeld ?_ ?_
  rotate_left
  · rintro w' ⟨s0, s1, s2, s3, s4, s5, s6, s7⟩
    go_simp
    with_reducible rfl
  rotate_left
  · simp only [Act.put, List.setIfInBounds_toArray, List.set_cons_zero, List.set_cons_succ, i64_w, i32_w]
    rfl
  refine take_ (i := 14) (N := some 19) (v := ?_) (a' := ?_) #[true, true, true, true, false, true, true, true, true, true, true, false, true, true, true, true, true, false, false, true, false, false, true, false, false, false, false, false, false] rfl rfl (take_ofW HT_.out HW_.out (by kernel_rfl)) (fun _ _ _ h => h) (Or.inl ⟨by rfl, ?_⟩) hHeld ?_ ?_
  rotate_left
  · rintro w' ⟨s0, s1, s2, s3, s4, s5, s6, s7⟩
    go_simp
    with_reducible rfl
  rotate_left
  · simp only [Act.put, List.setIfInBounds_toArray, List.set_cons_zero, List.set_cons_succ, i64_w, i32_w]
    rfl
  refine take_ (i := 17) (N := some 22) (v := ?_) (a' := ?_) #[true, true, true, true, false, true, true, true, true, true, true, false, true, true, true, true, true, true, false, true, false, false, true, false, false, false, false, false, false] rfl rfl (take_ofW HT_.out HW_.out (by kernel_rfl)) (fun _ _ _ h => h) (Or.inl ⟨by rfl, ?_⟩) hHeld ?_ ?_
  rotate_left
  · rintro w' ⟨s0, s1, s2, s3, s4, s5, s6, s7⟩
    go_simp
    with_reducible rfl
  rotate_left
  · simp only [Act.put, List.setIfInBounds_toArray, List.set_cons_zero, List.set_cons_succ, i64_w, i32_w]
    rfl
  refine take_ (i := 20) (N := some 25) (v := ?_) (a' := ?_) #[true, true, true, true, false, true, true, true, true, true, true, false, true, true, true, true, true, true, false, true, true, false, true, false, false, false, false, false, false] rfl rfl (take_ofW HT_.out HW_.out (by kernel_rfl)) (fun _ _ _ h => h) (Or.inl ⟨by rfl, ?_⟩) hHeld ?_ ?_
  rotate_left
  · rintro w' ⟨s0, s1, s2, s3, s4, s5, s6, s7⟩
    go_simp
    with_reducible rfl
  rotate_left
  · simp only [Act.put, List.setIfInBounds_toArray, List.set_cons_zero, List.set_cons_succ, i64_w, i32_w]
    rfl
  refine take_ (i := 23) (N := some 28) (v := ?_) (a' := ?_) #[true, true, true, true, false, true, true, true, true, true, true, false, true, true, true, true, true, true, false, true, true, false, true, true, false, false, false, false, false] rfl rfl (take_ofW HT_.out HW_.out (by kernel_rfl)) (fun _ _ _ h => h) (Or.inl ⟨by rfl, ?_⟩) hHeld ?_ ?_
  rotate_left
  · rintro w' ⟨s0, s1, s2, s3, s4, s5, s6, s7⟩
    go_simp
    with_reducible rfl
  rotate_left
  · simp only [Act.put, List.setIfInBounds_toArray, List.set_cons_zero, List.set_cons_succ, i64_w, i32_w]
    rfl
  refine one_ (i := 4) (N := some 9) #[true, true, true, true, true, true, true, true, true, true, true, false, true, true, true, true, true, true, false, true, true, false, true, true, false, false, false, false, false] rfl rfl (one_of HT_.out (by kernel_rfl)) (by decide) (fun K hK => ?_)
  refine goes_ Tryz.func68 (by kernel_rfl) rfl #[.string a0_0, .string a1_0] (by rfl) rfl rfl (by (try simp only [List.map_toArray, List.map_cons, List.map_nil]); first | done | rfl | (simp only [List.length_drop, List.length_take]; rfl)) ?_
  with_reducible refine (cmp_Compare_string.calls a0_0 a1_0 t206 _ A3.out).mono ?_
  rintro e w' ⟨rfl, ⟨nd, rfl⟩⟩
  refine ⟨_, rfl, ?_⟩
  refine hK.out _ _ ⟨(blk_cell BK204.out 0).trans rfl, (blk_cell BK204.out 1).trans rfl, (blk_cell BK204.out 2).trans rfl, (blk_cell BK204.out 3).trans rfl, (blk_cell BK205.out 0).trans rfl, (blk_cell BK205.out 1).trans rfl, (blk_cell BK205.out 2).trans rfl, (blk_cell BK205.out 3).trans rfl⟩ (fun hHeld => ?_)
  clear hK K
  refine norm_ (a' := ?_) ?_ ?_
  rotate_left
  · show Act.put _ (some 9) _ = _
    simp only [Act.put, List.setIfInBounds_toArray, List.set_cons_zero, List.set_cons_succ, i64_w, i32_w]
    rfl
  refine one_ (i := 11) (N := some 16) #[true, true, true, true, true, true, true, true, true, true, true, true, true, true, true, true, true, true, false, true, true, false, true, true, false, false, false, false, false] rfl rfl (one_of HT_.out (by kernel_rfl)) (by decide) (fun K hK => ?_)
  refine goes_ Tryz.func68 (by kernel_rfl) rfl #[.string a0_1, .string a1_1] (by rfl) rfl rfl (by (try simp only [List.map_toArray, List.map_cons, List.map_nil]); first | done | rfl | (simp only [List.length_drop, List.length_take]; rfl)) ?_
  with_reducible refine (cmp_Compare_string.calls a0_1 a1_1 t207 _ A4.out).mono ?_
  rintro e w' ⟨rfl, ⟨nd, rfl⟩⟩
  refine ⟨_, rfl, ?_⟩
  refine hK.out _ _ ⟨(blk_cell BK204.out 0).trans rfl, (blk_cell BK204.out 1).trans rfl, (blk_cell BK204.out 2).trans rfl, (blk_cell BK204.out 3).trans rfl, (blk_cell BK205.out 0).trans rfl, (blk_cell BK205.out 1).trans rfl, (blk_cell BK205.out 2).trans rfl, (blk_cell BK205.out 3).trans rfl⟩ (fun hHeld => ?_)
  clear hK K
  refine norm_ (a' := ?_) ?_ ?_
  rotate_left
  · show Act.put _ (some 16) _ = _
    simp only [Act.put, List.setIfInBounds_toArray, List.set_cons_zero, List.set_cons_succ, i64_w, i32_w]
    rfl
  refine one_ (i := 18) (N := some 23) #[true, true, true, true, true, true, true, true, true, true, true, true, true, true, true, true, true, true, true, true, true, false, true, true, false, false, false, false, false] rfl rfl (one_of HT_.out (by kernel_rfl)) (by decide) (fun K hK => ?_)
  refine goes_ Tryz.func69 (by kernel_rfl) rfl #[.slice A0_2 l0_2.length c0_2, .slice A1_2 l1_2.length c1_2] (by rfl) rfl rfl (by (try simp only [List.map_toArray, List.map_cons, List.map_nil]); first | done | rfl | (simp only [List.length_drop, List.length_take]; rfl)) ?_
  with_reducible refine (slices_Compare_int_int.calls k _ _ l0_2 _ _ l1_2 t208 _ ?side1 ?side2 ?side3 ?side4 A5.out).mono ?_
  (case side1 => repeat (first | exact (Kd.C_below HR0_2.out (by repeat (first | (with_reducible first | exact HB.out | apply below_alloc | apply pw_below_drewN | apply below_drew1 | refine below_set ?_ GE204.out | refine below_set ?_ GE205.out) | exact HB.out))) | (with_reducible refine Kd.C_alloc ?_ _) | (with_reducible refine Kd.C_drewN ?_ _) | (with_reducible refine Kd.C_drew ?_)))
  (case side2 => exact HC0_2.out)
  (case side3 => repeat (first | exact (Kd.C_below HR1_2.out (by repeat (first | (with_reducible first | exact HB.out | apply below_alloc | apply pw_below_drewN | apply below_drew1 | refine below_set ?_ GE204.out | refine below_set ?_ GE205.out) | exact HB.out))) | (with_reducible refine Kd.C_alloc ?_ _) | (with_reducible refine Kd.C_drewN ?_ _) | (with_reducible refine Kd.C_drew ?_)))
  (case side4 => exact HC1_2.out)
  rintro e w' ⟨rfl, ⟨nd, rfl⟩⟩
  refine ⟨_, rfl, ?_⟩
  refine hK.out _ _ ⟨(blk_cell BK204.out 0).trans rfl, (blk_cell BK204.out 1).trans rfl, (blk_cell BK204.out 2).trans rfl, (blk_cell BK204.out 3).trans rfl, (blk_cell BK205.out 0).trans rfl, (blk_cell BK205.out 1).trans rfl, (blk_cell BK205.out 2).trans rfl, (blk_cell BK205.out 3).trans rfl⟩ (fun hHeld => ?_)
  clear hK K
  refine norm_ (a' := ?_) ?_ ?_
  rotate_left
  · show Act.put _ (some 23) _ = _
    simp only [Act.put, List.setIfInBounds_toArray, List.set_cons_zero, List.set_cons_succ, i64_w, i32_w]
    rfl
  refine one_ (i := 21) (N := some 26) #[true, true, true, true, true, true, true, true, true, true, true, true, true, true, true, true, true, true, true, true, true, true, true, true, false, false, false, false, false] rfl rfl (one_of HT_.out (by kernel_rfl)) (by decide) (fun K hK => ?_)
  refine goes_ Tryz.func70 (by kernel_rfl) rfl #[.bool a0_3] (by rfl) rfl rfl (by (try simp only [List.map_toArray, List.map_cons, List.map_nil]); first | done | rfl | (simp only [List.length_drop, List.length_take]; rfl)) ?_
  with_reducible refine (env_bit.calls a0_3 t209 _ A6.out).mono ?_
  rintro e w' ⟨rfl, ⟨nd, rfl⟩⟩
  refine ⟨_, rfl, ?_⟩
  refine hK.out _ _ ⟨(blk_cell BK204.out 0).trans rfl, (blk_cell BK204.out 1).trans rfl, (blk_cell BK204.out 2).trans rfl, (blk_cell BK204.out 3).trans rfl, (blk_cell BK205.out 0).trans rfl, (blk_cell BK205.out 1).trans rfl, (blk_cell BK205.out 2).trans rfl, (blk_cell BK205.out 3).trans rfl⟩ (fun hHeld => ?_)
  clear hK K
  refine norm_ (a' := ?_) ?_ ?_
  rotate_left
  · show Act.put _ (some 26) _ = _
    simp only [Act.put, List.setIfInBounds_toArray, List.set_cons_zero, List.set_cons_succ, i64_w, i32_w]
    rfl
  refine one_ (i := 24) (N := some 29) #[true, true, true, true, true, true, true, true, true, true, true, true, true, true, true, true, true, true, true, true, true, true, true, true, true, false, false, false, false] rfl rfl (one_of HT_.out (by kernel_rfl)) (by decide) (fun K hK => ?_)
  refine goes_ Tryz.func70 (by kernel_rfl) rfl #[.bool a1_3] (by rfl) rfl rfl (by (try simp only [List.map_toArray, List.map_cons, List.map_nil]); first | done | rfl | (simp only [List.length_drop, List.length_take]; rfl)) ?_
  with_reducible refine (env_bit.calls a1_3 t210 _ A7.out).mono ?_
  rintro e w' ⟨rfl, ⟨nd, rfl⟩⟩
  refine ⟨_, rfl, ?_⟩
  refine hK.out _ _ ⟨(blk_cell BK204.out 0).trans rfl, (blk_cell BK204.out 1).trans rfl, (blk_cell BK204.out 2).trans rfl, (blk_cell BK204.out 3).trans rfl, (blk_cell BK205.out 0).trans rfl, (blk_cell BK205.out 1).trans rfl, (blk_cell BK205.out 2).trans rfl, (blk_cell BK205.out 3).trans rfl⟩ (fun hHeld => ?_)
  clear hK K
  refine norm_ (a' := ?_) ?_ ?_
  rotate_left
  · show Act.put _ (some 29) _ = _
    simp only [Act.put, List.setIfInBounds_toArray, List.set_cons_zero, List.set_cons_succ, i64_w, i32_w]
    rfl
  refine pure_ (i := 25) (N := some 30) (v := ?_) (a' := ?_) #[true, true, true, true, true, true, true, true, true, true, true, true, true, true, true, true, true, true, true, true, true, true, true, true, true, true, false, false, false] rfl rfl (any_of HT_.out (by kernel_rfl)) (fun _ _ _ h => h) (Or.inl ⟨by rfl, ?_⟩) ?_ ?_
  rotate_left
  · intro w'
    go_simp
    with_reducible rfl
  rotate_left
  · simp only [Act.put, List.setIfInBounds_toArray, List.set_cons_zero, List.set_cons_succ, i64_w, i32_w]
    rfl
  refine one_ (i := 26) (N := some 31) #[true, true, true, true, true, true, true, true, true, true, true, true, true, true, true, true, true, true, true, true, true, true, true, true, true, true, true, false, false] rfl rfl (one_of HT_.out (by kernel_rfl)) (by decide) (fun K hK => ?_)
  refine R_lit_stepG (Kd.int .i64) _ 3 ?hg (N := 31) ?hd (xs := ([t206, t207, t208, wrap64 (t209 - t210)] : List Int)) (inner := [.int .i64 t206, .int .i64 t207, .int .i64 t208, .int .i64 (wrap64 (t209 - t210))]) (ok := fun _ => True) (okp := fun _ => True) ?hr ?hp (fun _ hk => hk) trivial (Below.refl _ _) (Nat.le_refl _) (by simp) ?_; (case hd => rfl); (case hg => rfl); (case hr => first | (go_simp; done) | (go_simp; rfl)); (case hp => exact (Reps.one (show Kd.M (Kd.int .i64) _ _ _ t206 [.int .i64 t206] from rfl) (Reps.one (show Kd.M (Kd.int .i64) _ _ _ t207 [.int .i64 t207] from rfl) (Reps.one (show Kd.M (Kd.int .i64) _ _ _ t208 [.int .i64 t208] from rfl) (Reps.one (show Kd.M (Kd.int .i64) _ _ _ (wrap64 (t209 - t210)) [.int .i64 (wrap64 (t209 - t210))] from rfl) (Reps.none _ _))))))
  intro v212 w12 ho13 hb hg_ hnew_ hgr_
  have HG_ := Aside0.mk (Gr.trans (by repeat (first | exact HG.out | apply Gr.alloc | apply Gr.drewN | apply Gr.drew1)) hgr_); clear HG hgr_; have HG := HG_; clear HG_
  clear hg_ hnew_
  (first | rw [← Ny211.out] at ho13 | (simp only [Int.reduceToNat] at ho13; rw [← Ny211.out] at ho13))
  have n0_ := Aside0.mk (Kd.R_lower ho13 (below_size (by repeat (first | (with_reducible first | exact HB.out | apply below_alloc | apply pw_below_drewN | apply below_drew1 | refine below_set ?_ GE204.out | refine below_set ?_ GE205.out) | exact HB.out))))
  have n1_ := Aside0.mk (blk_below (g := gb204) (o := .cells #[.string a0_0, .string a0_1, .slice A0_2 l0_2.length c0_2, .bool a0_3] 44 (0, 0)) (by (with_reducible repeat (first | refine blk_drewN ?_ _ | refine blk_drew ?_ | refine blk_alloc ?_ _)); exact BK204.out) hb)
  have n2_ := Aside0.mk (blk_below (g := gb205) (o := .cells #[.string a1_0, .string a1_1, .slice A1_2 l1_2.length c1_2, .bool a1_3] 44 (0, 0)) (by (with_reducible repeat (first | refine blk_drewN ?_ _ | refine blk_drew ?_ | refine blk_alloc ?_ _)); exact BK205.out) hb)
  have n3_ := Aside0.mk (below_step (by repeat (first | (with_reducible first | exact HB.out | apply below_alloc | apply pw_below_drewN | apply below_drew1 | refine below_set ?_ GE204.out | refine below_set ?_ GE205.out) | exact HB.out)) hb)
  clear BK204
  clear BK205
  clear HB
  have HO213 := n0_
  have BK204 := n1_
  have BK205 := n2_
  have HB := n3_
  clear n0_ n1_ n2_ n3_
  clear hb ho13
  obtain ⟨Ao14, co14, eo14⟩ := Kd.R_slice HO213.out
  (first | subst eo14 | (injection eo14 with f1_ f2_ f3_; have f4_ := f1_.symm; have f5_ := f3_.symm; clear f1_ f2_ f3_; subst f4_; subst f5_))
  refine hK.out _ _ ⟨(blk_cell BK204.out 0).trans rfl, (blk_cell BK204.out 1).trans rfl, (blk_cell BK204.out 2).trans rfl, (blk_cell BK204.out 3).trans rfl, (blk_cell BK205.out 0).trans rfl, (blk_cell BK205.out 1).trans rfl, (blk_cell BK205.out 2).trans rfl, (blk_cell BK205.out 3).trans rfl⟩ (fun hHeld => ?_)
  clear hK K
  refine norm_ (a' := ?_) ?_ ?_
  rotate_left
  · show Act.put _ (some 31) _ = _
    simp only [Act.put, List.setIfInBounds_toArray, List.set_cons_zero, List.set_cons_succ, i64_w, i32_w]
    rfl
  refine one_ (i := 27) (N := some 32) #[true, true, true, true, true, true, true, true, true, true, true, true, true, true, true, true, true, true, true, true, true, true, true, true, true, true, true, true, false] rfl rfl (one_of HT_.out (by kernel_rfl)) (by decide) (fun K hK => ?_)
  refine goes_ Tryz.func67 (by kernel_rfl) rfl #[.slice Ao14 y211.length co14] (by rfl) rfl rfl (by (try simp only [List.map_toArray, List.map_cons, List.map_nil]); first | done | rfl | (simp only [List.length_drop, List.length_take]; rfl)) ?_
  with_reducible refine (cmp_Or_int.calls k _ _ y211 t214 _ ?side1 ?side2 A8.out).mono ?_
  (case side1 => repeat (first | exact (Kd.R_reads' HO213.out).2.2 | (with_reducible refine Kd.C_alloc ?_ _) | (with_reducible refine Kd.C_drewN ?_ _) | (with_reducible refine Kd.C_drew ?_)))
  (case side2 => exact (Kd.R_reads' HO213.out).2.1)
  rintro e w' ⟨rfl, ⟨nd, rfl⟩⟩
  refine ⟨_, rfl, ?_⟩
  refine hK.out _ _ ⟨(blk_cell BK204.out 0).trans rfl, (blk_cell BK204.out 1).trans rfl, (blk_cell BK204.out 2).trans rfl, (blk_cell BK204.out 3).trans rfl, (blk_cell BK205.out 0).trans rfl, (blk_cell BK205.out 1).trans rfl, (blk_cell BK205.out 2).trans rfl, (blk_cell BK205.out 3).trans rfl⟩ (fun hHeld => ?_)
  clear hK K
  refine norm_ (a' := ?_) ?_ ?_
  rotate_left
  · show Act.put _ (some 32) _ = _
    simp only [Act.put, List.setIfInBounds_toArray, List.set_cons_zero, List.set_cons_succ, i64_w, i32_w]
    rfl
  refine pure_ (i := 28) (N := some 4) (v := ?_) (a' := ?_) #[true, true, true, true, true, true, true, true, true, true, true, true, true, true, true, true, true, true, true, true, true, true, true, true, true, true, true, true, true] rfl rfl (any_of HT_.out (by kernel_rfl)) (fun _ _ _ h => h) (Or.inl ⟨by rfl, ?_⟩) ?_ ?_
  rotate_left
  · intro w'
    go_simp
    with_reducible rfl
  rotate_left
  · simp only [Act.put, List.setIfInBounds_toArray, List.set_cons_zero, List.set_cons_succ, i64_w, i32_w]
    rfl
  refine done_ (done_of HT_.out (by kernel_rfl)) ?_
  try go_wp2
  go_ret
  exact ⟨by first | rfl | (simp [errW_none, errW_some] <;> rfl) | (simp [*, errW_none, errW_some] <;> rfl), by repeat (first | exact HG.out | apply Gr.alloc | apply Gr.drewN | apply Gr.drew1)⟩
end Go.Proofs.YtadjekpfehjibaaGreatDoor.PEnvJoins
namespace Go.Proofs.YtadjekpfehjibaaGreatDoor.PEnv
open Go.RowKit Go.Shelf Go.Lib Go.Proofs.YtadjekpfehjibaaGreatDoorW.PrintWords Go.Proofs.YtadjekpfehjibaaGreatDoorW.PrintLast Go.Proofs.YtadjekpfehjibaaGreatDoorW.PrintMore Go.Proofs.YtadjekpfehjibaaGreatDoor.PEnvJoins
/-- env.Cmp, at every two loans: it draws, and lays blocks behind; no more. -/
theorem envCmpG (a b : S44) (A2 : Option Addr) (c2 : Nat) (B2 : Option Addr) (d2 : Nat) (W : World) (g2 : Kd.C (Kd.int .i64) W A2 a.f1.f1.length a.f1.f1) (l2 : a.f1.f1.length ≤ c2) (h2 : Kd.C (Kd.int .i64) W B2 b.f1.f1.length b.f1.f1) (m2 : b.f1.f1.length ≤ d2) :
    Calls Tryz.prog 48 #[.agg #[.string a.f0, .string a.f1.f0, .slice A2 a.f1.f1.length c2, .bool a.f2], .agg #[.string b.f0, .string b.f1.f0, .slice B2 b.f1.f1.length d2, .bool b.f2]] W fun e W' =>
      e = .returned (.int .i64 (cmpLoan a b)) ∧ Gr W W' :=
  env_Cmp.callsG (a.f1.f1.length + 5) _ _ _ _ _ _ _ _ _ _ _ _ _ W g2 l2 h2 m2 (cmp4_f _ _ _ _ _ _ _ _ (Kd.C_max g2) (Kd.C_max h2) _ (by omega) (by omega))
theorem sortWorld_old {α : Type} [Inhabited α] (enc : α → List Value) (k : Nat) (W : World) (bl off m : Nat) (d : Array α) (os : Array Obj) : (sortWorldK enc k W bl off m d os).os = W.os ∧ (sortWorldK enc k W bl off m d os).tape = W.tape ∧ (sortWorldK enc k W bl off m d os).output = W.output ∧ W.heap.size ≤ (sortWorldK enc k W bl off m d os).heap.size ∧ ∀ b, b < W.heap.size → b ≠ bl → (sortWorldK enc k W bl off m d os).heap[b]? = W.heap[b]? := by
  refine ⟨rfl, rfl, rfl, ?_, fun b hb hne => ?_⟩
  · simp [sortWorldK, Sort.grow, Sort.putRowK, Sort.putRow, Sort.mapBlock, Sort.ahead]
  · simp only [sortWorldK, Sort.grow, Sort.putRowK, Sort.putRow, Sort.mapBlock, Sort.ahead]
    rw [Array.getElem?_append_left (by simpa using hb), Array.getElem?_modify, if_neg (fun e => hne e.symm)]
theorem below_sortWorld {α : Type} [Inhabited α] {B : Nat} {w W : World} (h : Below B w W) (enc : α → List Value) (k bl off m : Nat) (d : Array α) (os : Array Obj) (hB : B ≤ bl) (hW : B ≤ W.heap.size) : Below B w (sortWorldK enc k W bl off m d os) := by
  obtain ⟨h1, h2, h3, h4, h5⟩ := sortWorld_old enc k W bl off m d os
  exact ⟨h1.trans h.os, h2.trans h.tape, h3.trans h.output, Nat.le_trans h.size h4, fun b hb => (h5 b (by omega) (by omega)).trans (h.block b hb)⟩
theorem lt_El {w : World} (x y : El w) : ltOf cmpEl x y = decide (cmpLoan x.l y.l < 0) := rfl
theorem swo_El (w : World) : Sort.SWO (ltOf (cmpEl (w := w))) where
  irrefl x := by
    have := cm_Loan.refl x.l
    rw [lt_El, this]
    rfl
  trans x y z h1 h2 := by
    rw [lt_El] at *
    have h1' := of_decide_eq_true h1
    have h2' := of_decide_eq_true h2
    exact decide_eq_true (cm_Loan.lt_le h1' (by omega))
  ntrans x y z h1 h2 := by
    rw [lt_El] at *
    have h1' := of_decide_eq_false h1
    have h2' := of_decide_eq_false h2
    have a := cm_Loan.flip y.l x.l
    have b := cm_Loan.flip z.l y.l
    have c := cm_Loan.flip x.l z.l
    have d := cm_Loan.le z.l y.l x.l
    have e := cm_Loan.flip z.l x.l
    have f := cm_Loan.flip x.l y.l
    have g := cm_Loan.flip y.l z.l
    refine decide_eq_false ?_
    omega
/-- Ascending: no later one is less than an earlier one. -/
def Asc {w : World} (ys : List (El w)) : Prop := ys.Pairwise (fun x y => ¬ cmpEl y x < 0)
theorem holds_of_row {w W : World} {bl : Nat} {xs : List (El w)} (h : RowE W bl (xs.map encL)) : Sort.HoldsK encL 4 W bl 0 xs.toArray := by
  intro j hj
  have hj' : j < xs.length * 4 := by simpa using hj
  have hd : j / 4 < xs.length := by omega
  obtain ⟨_, h2⟩ := h (j / 4) (encL xs[j / 4]) (by rw [List.getElem?_map, List.getElem?_eq_getElem hd]; rfl)
  have hg : (Sort.flatK encL 4 xs.toArray)[j]! = (encL xs[j / 4])[j % 4]! := by
    rw [Sort.get_flatK _ _ _ _ (by simpa using hj'), getElem!_pos xs.toArray (j / 4) (by simpa using hd)]
    simp
  have hm : j % 4 < (encL xs[j / 4]).length := by show j % 4 < 4; omega
  have := h2 (j % 4) ((encL xs[j / 4])[j % 4]'hm) (List.getElem?_eq_getElem hm)
  rw [show j / 4 * 4 + j % 4 = j by omega] at this
  rw [hg, getElem!_pos (encL xs[j / 4]) (j % 4) hm, Nat.zero_add]
  exact this
theorem row_of_holds {w W : World} {bl : Nat} {d : Array (El w)} (h : Sort.HoldsK encL 4 W bl 0 d) : RowE W bl (d.toList.map encL) := by
  intro j cs hj
  rw [List.getElem?_map] at hj
  obtain ⟨x, hx, rfl⟩ := Option.map_eq_some_iff.mp hj
  have hlt : j < d.size := by
    have := List.getElem?_eq_some_iff.mp hx
    simpa using this.1
  refine ⟨rfl, fun i u hu => ?_⟩
  have hi : i < 4 := by
    have := (List.getElem?_eq_some_iff.mp hu).1
    simpa [encL] using this
  have hc := Sort.HoldsK.cell h hlt hi
  have e1 : d[j]! = x := by
    rw [getElem!_pos d j hlt]
    have := (List.getElem?_eq_some_iff.mp hx).2
    simpa using this
  have e2 : (encL x)[i]! = u := by
    obtain ⟨h1, h2⟩ := List.getElem?_eq_some_iff.mp hu
    rw [getElem!_pos (encL x) i h1]; exact h2
  rw [e1, e2, Nat.zero_add] at hc
  exact hc
/-- slices.SortFunc at a row of loans, by env.Cmp. -/
theorem sortLoans (w W : World) (hb : Below w.heap.size w W) (bl cap : Nat) (hbl : w.heap.size ≤ bl) (hlt : bl < W.heap.size) (xs : List (El w)) (hsm : xs.length < 4611686018427387904) (hrow : RowE W bl (xs.map encL)) :
    Calls Tryz.prog 64 #[.slice (some ⟨bl, 0, none⟩) xs.length cap, .func (.func 48) #[] #[]] W fun e w' =>
      e = .returned (.tuple #[]) ∧ Below w.heap.size w w' ∧ (∀ b, b < W.heap.size → b ≠ bl → w'.heap[b]? = W.heap[b]?) ∧ W.heap.size ≤ w'.heap.size ∧ ∃ ys : List (El w), ys.Perm xs ∧ Asc ys ∧ RowE w' bl (ys.map encL) := by
  have eg : ∀ args w, (callFunc 48 args).run Tryz.prog w = .ok (.enter 48 args) w := enters_of Tryz.func48 (by kernel_rfl) rfl
  have hH := holds_of_row hrow
  have hcon := AnyQ.slices_SortFunc Tryz.sortLoan 4 Tryz.isAgg44 Tryz.sizeOf44 (encL (w := w)) (fun _ => rfl)
    (fun x v hv => by simp only [encL, List.mem_cons, List.not_mem_nil, or_false] at hv; rcases hv with rfl | rfl | rfl | rfl <;> rfl) cmpEl (swo_El w) 48 #[] bl 0 cap xs.toArray W eg
    (fun m os dk hs x y => by
      have hB := below_sortWorld hb encL 4 bl 0 m dk os hbl hb.size
      exact envCmpG x.l y.l x.A x.c y.A y.c _ (Kd.C_below x.reads hB) x.room (Kd.C_below y.reads hB) y.room) hH hlt (by simpa using hsm)
  change Calls Tryz.prog 64 _ _ _ at hcon
  refine hcon.mono ?_
  rintro e w' ⟨rfl, d', q, os, hp, hs, rfl⟩
  obtain ⟨h1, h2, h3, h4, h5⟩ := sortWorld_old (encL (w := w)) 4 W bl 0 q d' os
  refine ⟨rfl, below_sortWorld hb encL 4 bl 0 q d' os hbl hb.size, h5, h4, d'.toList, ?_, ?_, row_of_holds (holdsK_sortWorldK_c encL 4 W bl 0 xs.toArray d' q os hH hlt hp.1)⟩
  · have h6 := hp.2.2
    have e1 : d'.extract 0 xs.toArray.size = d' := by rw [← hp.1]; simp
    have e2 : xs.toArray.extract 0 xs.toArray.size = xs.toArray := by simp
    rw [e1, e2] at h6
    exact h6
  · unfold Asc
    rw [List.pairwise_iff_getElem]
    intro i j hi hj hij
    have hj' : j < d'.size := by simpa using hj
    have := hs i j (Nat.zero_le _) hij (by rw [← hp.1]; exact hj')
    rw [getElem!_pos d' j hj', getElem!_pos d' i (by omega)] at this
    simp only [ltOf, decide_eq_false_iff_not] at this
    simpa using this
end Go.Proofs.YtadjekpfehjibaaGreatDoor.PEnv
namespace Go.Proofs.YtadjekpfehjibaaGreatDoor.PEnv
open Go.RowKit Go.Shelf Go.Proofs.YtadjekpfehjibaaGreatDoorW.PrintWords Go.Proofs.YtadjekpfehjibaaGreatDoorW.PrintLast Go.Proofs.YtadjekpfehjibaaGreatDoorW.PrintMore Go.Proofs.YtadjekpfehjibaaGreatDoor.PEnvJoins
attribute [local go_sem] Oper.semAt_some
/-- Does a loan hit a place? -/
def hitL (wr : Bool) (v : ByteArray) (s : List Int) (l : S44) : Bool := (decide (l.f0.toList = []) && overB l.f1.f0 l.f1.f1 v s) && (wr || l.f2)
set_option maxHeartbeats 4000000 in
/-- env.Hit$1. -/
theorem hit1 (wr : Bool) (v : ByteArray) (s : List Int) (Ap : Option Addr) (cp : Nat) (l : S44) (A2 : Option Addr) (c2 : Nat) (B4 B5 : Nat) (W : World)
    (h2 : Kd.C (Kd.int .i64) W A2 l.f1.f1.length l.f1.f1) (l2 : l.f1.f1.length ≤ c2) (hp : Kd.C (Kd.int .i64) W Ap s.length s) (lp : s.length ≤ cp)
    (h40 : W.cell? ⟨B4, 0, none⟩ = some (.string v)) (h41 : W.cell? ⟨B4, 1, none⟩ = some (.slice Ap s.length cp)) (h5 : W.cell? ⟨B5, 0, none⟩ = some (.bool wr)) :
    Calls Tryz.prog 35 #[.agg #[.string l.f0, .string l.f1.f0, .slice A2 l.f1.f1.length c2, .bool l.f2], ptr B4, ptr B5] W fun e W' => e = .returned (.bool (hitL wr v s l)) ∧ Below W.heap.size W W' := by
  have hb : Below W.heap.size W (W.alloc (.cells #[.string l.f0, .string l.f1.f0, .slice A2 l.f1.f1.length c2, .bool l.f2] 44)) := (Below.refl _ W).alloc (Nat.le_refl _) _
  have hcall := env_Overlap.calls (max l.f1.f1.length s.length + 1) l.f1.f0 A2 c2 l.f1.f1 v Ap cp s _ (W.alloc (.cells #[.string l.f0, .string l.f1.f0, .slice A2 l.f1.f1.length c2, .bool l.f2] 44))
    (Kd.C_below h2 hb) l2 (Kd.C_below hp hb) lp (overlap_f _ _ _ _ (Kd.C_max h2) (Kd.C_max hp) _ (by omega) (by omega))
  have k40 := below_cell hb h40
  have k41 := below_cell hb h41
  have k5 := below_cell hb h5
  have eb := enters_of Tryz.func17 (by kernel_rfl) rfl
  have fin : ∀ w', Below (W.alloc (.cells #[.string l.f0, .string l.f1.f0, .slice A2 l.f1.f1.length c2, .bool l.f2] 44)).heap.size (W.alloc (.cells #[.string l.f0, .string l.f1.f0, .slice A2 l.f1.f1.length c2, .bool l.f2] 44)) w' → Below W.heap.size W w' :=
    fun w' h => hb.trans (h.mono (by simp))
  have n5 : ∀ w', Below (W.alloc (.cells #[.string l.f0, .string l.f1.f0, .slice A2 l.f1.f1.length c2, .bool l.f2] 44)).heap.size (W.alloc (.cells #[.string l.f0, .string l.f1.f0, .slice A2 l.f1.f1.length c2, .bool l.f2] 44)) w' → w'.cell? ⟨B5, 0, none⟩ = some (.bool wr) :=
    fun w' h => below_cell h k5
  have n3 : ∀ w', Below (W.alloc (.cells #[.string l.f0, .string l.f1.f0, .slice A2 l.f1.f1.length c2, .bool l.f2] 44)).heap.size (W.alloc (.cells #[.string l.f0, .string l.f1.f0, .slice A2 l.f1.f1.length c2, .bool l.f2] 44)) w' → w'.cell? ⟨W.heap.size, 3, none⟩ = some (.bool l.f2) :=
    fun w' h => below_cell h (by unfold World.cell?; rw [World.alloc_heap_new]; rfl)
  have hl : hitL wr v s l = ((decide (l.f0.toList = []) && overB l.f1.f0 l.f1.f1 v s) && (wr || l.f2)) := rfl
  clear h2 hp h40 h41 h5
  unfold ptr
  by_cases hz : l.f0.toList = ([] : List UInt8)
  · have hz1 : (l.f0.toList == ([] : List UInt8)) = true := beq_iff_eq.mpr hz
    rw [decide_eq_true hz, Bool.true_and] at hl
    clear hz
    revert hl hcall
    cases overB l.f1.f0 l.f1.f1 v s with
    | true =>
      intro hcall hl
      cases wr with
      | true =>
        go_enter Tryz.func35, Tryz.ntmps35
        go_wp2_with (go_at_call 17; refine hcall.mono ?_; rintro e w' ⟨rfl, hb1⟩; have n5' := n5 w' hb1; have n3' := n3 w' hb1)
        go_ret
        exact ⟨by rw [hl]; rfl, fin _ hb1⟩
      | false =>
        go_enter Tryz.func35, Tryz.ntmps35
        go_wp2_with (go_at_call 17; refine hcall.mono ?_; rintro e w' ⟨rfl, hb1⟩; have n5' := n5 w' hb1; have n3' := n3 w' hb1)
        go_ret
        exact ⟨by rw [hl]; simp, fin _ hb1⟩
    | false =>
      intro hcall hl
      go_enter Tryz.func35, Tryz.ntmps35
      go_wp2_with (go_at_call 17; refine hcall.mono ?_; rintro e w' ⟨rfl, hb1⟩; have n5' := n5 w' hb1; have n3' := n3 w' hb1)
      go_ret
      exact ⟨by rw [hl]; rfl, fin _ hb1⟩
  · have hz1 : (l.f0.toList == ([] : List UInt8)) = false := by simpa using hz
    rw [decide_eq_false hz, Bool.false_and, Bool.false_and] at hl
    clear hz hcall
    go_enter Tryz.func35, Tryz.ntmps35
    go_wp2_with fail
    go_ret
    exact ⟨by rw [hl]; rfl, hb⟩
theorem idx_lt {α : Type} {xs : List α} {i : Nat} {x : α} (h : xs[i]? = some x) : i < xs.length := by
  rcases Nat.lt_or_ge i xs.length with h1 | h1
  · exact h1
  · rw [List.getElem?_eq_none h1] at h; cases h
set_option maxHeartbeats 1000000 in
/-- slices.ContainsFunc of loans, at env.Hit$1. -/
theorem conHit (wr : Bool) (v : ByteArray) (s : List Int) (Ap : Option Addr) (cp : Nat) (ls : List S44) (A : Option Addr) (c : Nat) (B4 B5 : Nat) (W : World)
    (hC : Kd.C k44 W A ls.length ls) (hp : Kd.C (Kd.int .i64) W Ap s.length s) (lp : s.length ≤ cp)
    (h40 : W.cell? ⟨B4, 0, none⟩ = some (.string v)) (h41 : W.cell? ⟨B4, 1, none⟩ = some (.slice Ap s.length cp)) (h5 : W.cell? ⟨B5, 0, none⟩ = some (.bool wr)) :
    Calls Tryz.prog 37 #[.slice A ls.length c, .func (.func 35) #[] #[ptr B4, ptr B5]] W fun e W' => e = .returned (.bool (ls.any (hitL wr v s))) ∧ Below W.heap.size W W' := by
  have eg : ∀ args w, (callFunc 35 args).run Tryz.prog w = .ok (.enter 35 args) w := enters_of Tryz.func35 (by kernel_rfl) rfl
  obtain ⟨vs, hv, hvK⟩ := els_of_C hC
  refine (conLoan 35 #[ptr B4, ptr B5] eg A ls.length c vs W W (fun i W' => Below W.heap.size W W' ∧ ∀ j l, j < i → ls[j]? = some l → hitL wr v s l = false) (fun i W' => Below W.heap.size W W' ∧ ∃ l, ls[i]? = some l ∧ hitL wr v s l = true)
    hv (fun i W' h => h.1) ?_ ⟨Below.refl _ _, fun j l hj => absurd hj (Nat.not_lt_zero _)⟩).mono ?_
  · rintro i cs W1 hi ⟨hb, hn⟩
    have hl : i < ls.length := by have := idx_lt hi; have := hv.1; omega
    obtain ⟨cs', e, hK⟩ := hvK i _ (List.getElem?_eq_getElem hl)
    rw [hi] at e
    cases e
    obtain ⟨A2, c2, rfl, l2, g2⟩ := k44_open hK
    refine (hit1 wr v s Ap cp ls[i] A2 c2 B4 B5 W1 (Kd.C_below g2 hb) l2 (Kd.C_below hp hb) lp (below_cell hb h40) (below_cell hb h41) (below_cell hb h5)).mono ?_
    rintro e W2 ⟨rfl, hb2⟩
    cases hh : hitL wr v s ls[i] with
    | true => exact .inr ⟨rfl, hb.trans (hb2.mono hb.size), _, List.getElem?_eq_getElem hl, hh⟩
    | false =>
      refine .inl ⟨rfl, hb.trans (hb2.mono hb.size), fun j l hj hjl => ?_⟩
      by_cases hji : j = i
      · subst hji
        rw [List.getElem?_eq_getElem hl] at hjl
        cases hjl
        exact hh
      · exact hn j l (by omega) hjl
  · rintro e W1 (⟨rfl, hb, hn⟩ | ⟨rfl, k, hk, hb, l, hl, hh⟩)
    · refine ⟨?_, hb⟩
      have : ls.any (hitL wr v s) = false := by
        rw [List.any_eq_false]
        intro l hl
        obtain ⟨j, hj⟩ := List.mem_iff_getElem?.mp hl
        rw [hn j l (idx_lt hj) hj]
        simp
      rw [this]
    · refine ⟨?_, hb⟩
      have : ls.any (hitL wr v s) = true := List.any_eq_true.mpr ⟨l, List.mem_of_getElem? hl, hh⟩
      rw [this]
/-- The marks of loops that are over are taken off, one by one. -/
theorem leavesMarks {P : Program} {fn : Func} {tmps : Array Value} {R : Ending → World → Prop} {n n₀ : Nat} : ∀ (Ds : List Nat) (W : World), Ds.Nodup → (∀ D ∈ Ds, n₀ ≤ D ∧ W.heap[D]? = some (.deferred (some []))) →
    (∀ W', CK n₀ W W' → LeavesInM Fence.wide n P fn tmps R [] .returning W') →
    LeavesInM Fence.wide n P fn tmps R (Ds.map (fun D => { target := .collected D, args := #[] })) .returning W
  | [], W, _, _, h => h W ⟨Below.refl _ _, fun b o hb _ => hb⟩
  | D :: Ds, W, hn, hD, h => by
    have hd := hD D (by simp)
    have hck : CK n₀ W (W.putObj D (.deferred none)) :=
      ⟨(Below.refl n₀ W).grown (grownBy_putObj' W D (.deferred none)) (by have := (Array.getElem?_eq_some_iff.1 hd.2).1; omega) (fun k e => by cases e; exact hd.1), fun b o hb hc => by
        rw [World.putObj_heap_other (fun e => by subst e; rw [hd.2] at hb; cases hb; cases hc)]; exact hb⟩
    refine ⟨by simp, .inl ⟨D, _, rfl, run_takeDeferred hd.2, ?_⟩⟩
    refine leavesMarks Ds _ (List.nodup_cons.mp hn).2 (fun D' hD' => ⟨(hD D' (by simp [hD'])).1, ?_⟩) (fun W' hW' => h W' (hck.trans hW'))
    rw [World.putObj_heap_other (fun e => by subst e; exact (List.nodup_cons.mp hn).1 hD')]
    exact (hD D' (by simp [hD'])).2
/-- Is a place hit in a type itself; in an environment? -/
def hitT (wr : Bool) (v : ByteArray) (s : List Int) (t : S31) : Bool := t.f3.any (hitL wr v s)
def hitE (wr : Bool) (v : ByteArray) (s : List Int) (es : List S33) : Bool := es.any (fun b => (partsT b.f1).any (hitT wr v s))
/-- Where env.Hit's loop begins. -/
structure HStart (wr : Bool) (v : ByteArray) (s : List Int) (Ap : Option Addr) (cp : Nat) (w W : World) : Prop where
  sz : W.heap.size = w.heap.size + 4
  bel : Below w.heap.size w W
  c40 : W.cell? ⟨w.heap.size, 0, none⟩ = some (.string v)
  c41 : W.cell? ⟨w.heap.size, 1, none⟩ = some (.slice Ap s.length cp)
  c5 : W.cell? ⟨w.heap.size + 1, 0, none⟩ = some (.bool wr)
  b6 : Boxed W (w.heap.size + 1 + 1) 4 (.bool false)
  c7 : W.cell? ⟨w.heap.size + 1 + 1 + 1, 0, none⟩ = some (.func (.func 35) #[] #[ptr w.heap.size, ptr (w.heap.size + 1)])
theorem hStart (wr : Bool) (v : ByteArray) (s : List Int) (Ap : Option Addr) (cp : Nat) (w : World) : HStart wr v s Ap cp w ((((w.alloc (.cells #[.string v, .slice Ap s.length cp] 42)).alloc (.cells #[.bool wr] 4)).alloc (.cells #[.bool false] 4)).alloc (.cells #[.func (.func 35) #[] #[.pointer (some ⟨w.heap.size, 0, none⟩), .pointer (some ⟨w.heap.size + 1, 0, none⟩)]] 59)) := by
  have e1 := World.alloc_heap_new w (.cells #[.string v, .slice Ap s.length cp] 42)
  generalize hw1 : w.alloc (.cells #[.string v, .slice Ap s.length cp] 42) = w1 at *
  have z1 : w1.heap.size = w.heap.size + 1 := by rw [← hw1]; simp
  have b1 : Below w.heap.size w w1 := by rw [← hw1]; exact (Below.refl _ w).alloc (Nat.le_refl _) _
  have e2 := World.alloc_heap_new w1 (.cells #[.bool wr] 4)
  have b2 : Below w1.heap.size w1 (w1.alloc (.cells #[.bool wr] 4)) := (Below.refl _ w1).alloc (Nat.le_refl _) _
  generalize hw2 : w1.alloc (.cells #[.bool wr] 4) = w2 at *
  have z2 : w2.heap.size = w.heap.size + 1 + 1 := by rw [← hw2]; simp [z1]
  have e3 := World.alloc_heap_new w2 (.cells #[.bool false] 4)
  have b3 : Below w2.heap.size w2 (w2.alloc (.cells #[.bool false] 4)) := (Below.refl _ w2).alloc (Nat.le_refl _) _
  generalize hw3 : w2.alloc (.cells #[.bool false] 4) = w3 at *
  have z3 : w3.heap.size = w.heap.size + 1 + 1 + 1 := by rw [← hw3]; simp [z2]
  have e4 := World.alloc_heap_new w3 (.cells #[.func (.func 35) #[] #[.pointer (some ⟨w.heap.size, 0, none⟩), .pointer (some ⟨w.heap.size + 1, 0, none⟩)]] 59)
  have b4 : Below w3.heap.size w3 (w3.alloc (.cells #[.func (.func 35) #[] #[.pointer (some ⟨w.heap.size, 0, none⟩), .pointer (some ⟨w.heap.size + 1, 0, none⟩)]] 59)) := (Below.refl _ w3).alloc (Nat.le_refl _) _
  have z4' : (w3.alloc (.cells #[.func (.func 35) #[] #[.pointer (some ⟨w.heap.size, 0, none⟩), .pointer (some ⟨w.heap.size + 1, 0, none⟩)]] 59)).heap.size = w.heap.size + 4 := by simp [z3]
  generalize hw4 : w3.alloc (.cells #[.func (.func 35) #[] #[.pointer (some ⟨w.heap.size, 0, none⟩), .pointer (some ⟨w.heap.size + 1, 0, none⟩)]] 59) = w4 at *
  have b24 : Below w2.heap.size w2 w4 := b3.trans (b4.mono (by omega))
  have b14 : Below w1.heap.size w1 w4 := b2.trans (b24.mono (by omega))
  rw [z1] at e2
  rw [z2] at e3
  rw [z3] at e4
  exact ⟨z4', b1.trans (b14.mono (by omega)), below_cell b14 (by unfold World.cell?; rw [e1]; rfl), below_cell b14 (by unfold World.cell?; rw [e1]; rfl), below_cell b24 (by unfold World.cell?; rw [e2]; rfl),
    (b4.block _ (by omega)).trans e3, by unfold World.cell?; rw [e4]; rfl⟩
def leftOf (n : Nat) (a : Act) : Nat := match a.tmps.getD 14 undef with | .int _ k => n - k.toNat | _ => 0
theorem leftOf_eq (n : Nat) (a : Act) (k : Int) (h : a.tmps.getD 14 undef = .int .i64 k) : leftOf n a = n - k.toNat := by unfold leftOf; rw [h]
def HI (wr : Bool) (v : ByteArray) (s : List Int) (es : List S33) (w W0 : World) (kk : Nat) (Ds : List Nat) (W : World) : Prop :=
  kk ≤ es.length ∧ Below W0.heap.size W0 W ∧ Ds.Nodup ∧ (∀ D ∈ Ds, w.heap.size ≤ D ∧ W.heap[D]? = some (.deferred (some []))) ∧ (∀ j b, j < kk → es[j]? = some b → (partsT b.f1).any (hitT wr v s) = false)
set_option maxRecDepth 100000 in
set_option maxHeartbeats 4000000 in
/-- env.Hit, at every environment. -/
theorem envHit (wr : Bool) (v : ByteArray) (s : List Int) (Ap : Option Addr) (cp : Nat) (es : List S33) (A : Option Addr) (c : Nat) (w : World)
    (hC : Kd.C k33 w A es.length es) (hc : es.length ≤ c) (hp : Kd.C (Kd.int .i64) w Ap s.length s) (lp : s.length ≤ cp) :
    Calls Tryz.prog 18 #[.slice A es.length c, .agg #[.string v, .slice Ap s.length cp], .bool wr] w fun e W' => e = .returned (.bool (hitE wr v s es)) ∧ Below w.heap.size w W' := by
  have hmax := Kd.C_max hC
  refine (callsIn_wide (n := 9)).1 ?_
  refine callsIn_of_wp_marks Tryz.func18 rfl trivial ?_ rfl
  simp only [Tryz.ntmps18, List.size_toArray, List.length_cons, List.length_nil, Nat.reduceAdd, Nat.reduceSub, Array.replicate_succ, Array.replicate_zero, List.push_toArray, List.append_toArray, List.nil_append, List.cons_append]
  gi_wp2
  have hS := hStart wr v s Ap cp w
  obtain ⟨W0, hW0⟩ : ∃ W0, ((((w.alloc (.cells #[.string v, .slice Ap s.length cp] 42)).alloc (.cells #[.bool wr] 4)).alloc (.cells #[.bool false] 4)).alloc (.cells #[.func (.func 35) #[] #[.pointer (some ⟨w.heap.size, 0, none⟩), .pointer (some ⟨w.heap.size + 1, 0, none⟩)]] 59)) = W0 := ⟨_, rfl⟩
  rw [hW0] at hS ⊢
  clear hW0
  refine wpIn_loop (fun a W => ∃ (kk : Nat) (Ds : List Nat) (u9 u15 u16 u17 u18 u19 u20 u26 : Value), HI wr v s es w W0 kk Ds W ∧ a = { tmps := #[.slice A es.length c, .agg #[.string v, .slice Ap s.length cp], .bool wr, undef, .pointer (some ⟨w.heap.size, 0, none⟩), .pointer (some ⟨w.heap.size + 1, 0, none⟩), .pointer (some ⟨w.heap.size + 1 + 1, 0, none⟩), .pointer (some ⟨w.heap.size + 1 + 1 + 1, 0, none⟩), undef, u9, undef, .func (.func 35) #[] #[.pointer (some ⟨w.heap.size, 0, none⟩), .pointer (some ⟨w.heap.size + 1, 0, none⟩)], .slice A es.length c, .int .i64 es.length, .int .i64 kk, u15, u16, u17, u18, u19, u20, undef, undef, undef, undef, undef, u26], defers := Ds.map (fun D => { target := .collected D, args := #[] }) })
    (fun a W => leftOf es.length a) ?start ?round
  case start => exact ⟨0, [], undef, undef, undef, undef, undef, undef, undef, undef, ⟨Nat.zero_le _, Below.refl _ _, List.nodup_nil, by simp, fun j b h => absurd h (Nat.not_lt_zero _)⟩, rfl⟩
  case round =>
    rintro _ W ⟨kk, Ds, u9, u15, u16, u17, u18, u19, u20, u26, ⟨hkk, hB, hN, hD, hno⟩, rfl⟩
    by_cases hlt : kk < es.length
    · have hltz : (kk : Int) < (es.length : Int) := by omega
      have hBw : Below w.heap.size w W := hS.bel.trans (hB.mono (by have := hS.sz; omega))
      obtain ⟨ad, A4, c4, A5, c5, rfl, x0, x1, x2, x3, x4, x5, l4, g4, l5, g5⟩ := at_T33 (Kd.C_below hC hBw) (kk : Int) (by omega) hltz
      have hrd : es[kk]? = some (rd_T33 es (kk : Int)) := by
        simp only [rd_T33, Int.toNat_natCast, List.getD_eq_getElem?_getD, List.getElem?_eq_getElem hlt, Option.getD_some]
      simp only [Int.toNat_natCast] at x0 x1 x2 x3 x4 x5
      generalize rd_T33 es (kk : Int) = bd at *
      gi_wp2_with ((try refine ⟨trivial, ?_⟩); gi_at_call 36; refine (callsIn_wide.2 (parts0 _ _ _ _ _ _ _ _ _ _)).mono ?_; rintro e w' ⟨rfl, rfl⟩)
      have bb0 : Below W.heap.size W (W.alloc (.cells #[.string bd.f0, .int .i64 bd.f1.f0, .bool bd.f1.f1, .bool bd.f1.f2, .slice A4 bd.f1.f3.length c4, .slice A5 bd.f1.f4.length c5] 33)) := (Below.refl _ W).alloc (Nat.le_refl _) _
      have z1 : ((W.alloc (.cells #[.string bd.f0, .int .i64 bd.f1.f0, .bool bd.f1.f1, .bool bd.f1.f2, .slice A4 bd.f1.f3.length c4, .slice A5 bd.f1.f4.length c5] 33)).alloc (.cells #[.int .i64 bd.f1.f0, .bool bd.f1.f1, .bool bd.f1.f2, .slice A4 bd.f1.f3.length c4, .slice A5 bd.f1.f4.length c5] 31)).heap.size = W.heap.size + 2 := by simp
      have bb : Below W.heap.size W ((W.alloc (.cells #[.string bd.f0, .int .i64 bd.f1.f0, .bool bd.f1.f1, .bool bd.f1.f2, .slice A4 bd.f1.f3.length c4, .slice A5 bd.f1.f4.length c5] 33)).alloc (.cells #[.int .i64 bd.f1.f0, .bool bd.f1.f1, .bool bd.f1.f2, .slice A4 bd.f1.f3.length c4, .slice A5 bd.f1.f4.length c5] 31)) := bb0.alloc (by simp) _
      have hBt0 : ((W.alloc (.cells #[.string bd.f0, .int .i64 bd.f1.f0, .bool bd.f1.f1, .bool bd.f1.f2, .slice A4 bd.f1.f3.length c4, .slice A5 bd.f1.f4.length c5] 33)).alloc (.cells #[.int .i64 bd.f1.f0, .bool bd.f1.f1, .bool bd.f1.f2, .slice A4 bd.f1.f3.length c4, .slice A5 bd.f1.f4.length c5] 31)).heap[W.heap.size + 1]? = some (.cells #[.int .i64 bd.f1.f0, .bool bd.f1.f1, .bool bd.f1.f2, .slice A4 bd.f1.f3.length c4, .slice A5 bd.f1.f4.length c5] 31) := by
        have h := World.alloc_heap_new (W.alloc (.cells #[.string bd.f0, .int .i64 bd.f1.f0, .bool bd.f1.f1, .bool bd.f1.f2, .slice A4 bd.f1.f3.length c4, .slice A5 bd.f1.f4.length c5] 33)) (.cells #[.int .i64 bd.f1.f0, .bool bd.f1.f1, .bool bd.f1.f2, .slice A4 bd.f1.f3.length c4, .slice A5 bd.f1.f4.length c5] 31)
        rw [World.size_alloc] at h
        exact h
      obtain ⟨W1, hW1⟩ : ∃ W1, ((W.alloc (.cells #[.string bd.f0, .int .i64 bd.f1.f0, .bool bd.f1.f1, .bool bd.f1.f2, .slice A4 bd.f1.f3.length c4, .slice A5 bd.f1.f4.length c5] 33)).alloc (.cells #[.int .i64 bd.f1.f0, .bool bd.f1.f1, .bool bd.f1.f2, .slice A4 bd.f1.f3.length c4, .slice A5 bd.f1.f4.length c5] 31)) = W1 := ⟨_, rfl⟩
      rw [hW1] at z1 bb hBt0 ⊢
      clear hW1 bb0
      have hBt : ∀ (i : Nat) u, [Value.int .i64 bd.f1.f0, .bool bd.f1.f1, .bool bd.f1.f2, .slice A4 bd.f1.f3.length c4, .slice A5 bd.f1.f4.length c5][i]? = some u → W1.cell? ⟨W.heap.size + 1, i, none⟩ = some u := by
        intro i u hu
        unfold World.cell?
        rw [hBt0]
        simpa using hu
      have hz := hS.sz
      have hBsz := hB.size
      have hB01 : Below W0.heap.size W0 W1 := hB.trans (bb.mono hB.size)
      have hBw1 : Below w.heap.size w W1 := hBw.trans (bb.mono (by omega))
      have hD1 : ∀ D ∈ Ds, w.heap.size ≤ D ∧ D < W.heap.size ∧ W1.heap[D]? = some (.deferred (some [])) := fun D hd => by
        have h1 := hD D hd
        have h2 := (Array.getElem?_eq_some_iff.1 h1.2).1
        exact ⟨h1.1, h2, (bb.block D h2).trans h1.2⟩
      refine wpIn_rangeFunc_ownH (n := 9) rfl (by decide : 1 ≤ 9) (gf := 57) (lb := #[ptr (W.heap.size + 1)]) rfl trivial (enters_of Tryz.func57 (by kernel_rfl) rfl)
        (partsStops 8 (W.heap.size + 1) bd.f1 _ W1 (k31_mk W1 bd.f1 l4 (Kd.C_below g4 bb) l5 (Kd.C_below g5 bb)) hBt) (fun h k => h.trans k) (fun W l o o' hl h hc hw => CK.putObj (Nat.le_refl _) W l o o' hl h hc hw) (Below.refl _ _) (fun _ => rfl)
        (fun pre W' => Below W1.heap.size W1 W' ∧ ∀ x ∈ pre, hitT wr v s x.1.1 = false)
        (fun c pre W' => (c = .ret ∧ ∃ x ∈ pre, hitT wr v s x.1.1 = true) ∧ Boxed W' (w.heap.size + 1 + 1) 4 (.bool true) ∧ Below w.heap.size w W' ∧ ∀ D ∈ Ds, W'.heap[D]? = some (.deferred (some [])))
        (OwnFrom.and (ownFrom_below (Nat.le_refl _) (Nat.le_refl _)) (ownFrom_pure _ (fun (pre : List (Part W1)) => ∀ x ∈ pre, hitT wr v s x.1.1 = false)))
        (fun c => OwnFrom.and (ownFrom_pure _ (fun (pre : List (Part W1)) => c = .ret ∧ ∃ x ∈ pre, hitT wr v s x.1.1 = true)) (OwnFrom.and (Own.from (boxed_own _ _ (fun _ => Value.bool true)) _) (OwnFrom.and (ownFrom_below (Nat.le_refl _) (by omega))
          (fun _ X Y row hs hg hr D hd => by
            have h2 := (hD1 D hd).2.1
            refine (hg.block D (Array.getElem?_eq_some_iff.1 (hs D hd)).1 (fun e => ?_)).trans (hs D hd)
            have := (hr D e.symm).1
            omega))))
        ⟨Below.refl _ _, by simp⟩
        (fun x a' W' => ∃ Bx, W1.heap.size ≤ Bx ∧ W'.heap[Bx]? = some (.cells x.1.2.toArray 31) ∧ a' = { tmps := #[.slice (some ad) es.length c, .agg #[.string v, .slice Ap s.length cp], .bool wr, undef, .pointer (some ⟨w.heap.size, 0, none⟩), .pointer (some ⟨w.heap.size + 1, 0, none⟩), .pointer (some ⟨w.heap.size + 1 + 1, 0, none⟩), .pointer (some ⟨w.heap.size + 1 + 1 + 1, 0, none⟩), undef, .pointer (some ⟨W.heap.size, 0, none⟩), .pointer (some ⟨Bx, 0, none⟩), .func (.func 35) #[] #[.pointer (some ⟨w.heap.size, 0, none⟩), .pointer (some ⟨w.heap.size + 1, 0, none⟩)], .slice (some ad) es.length c, .int .i64 es.length, .int .i64 kk, .bool true, .pointer (some (ad.add (kk * 6))), .agg #[.string bd.f0, .int .i64 bd.f1.f0, .bool bd.f1.f1, .bool bd.f1.f2, .slice A4 bd.f1.f3.length c4, .slice A5 bd.f1.f4.length c5], .pointer (some ⟨W.heap.size, 1, none⟩), .agg #[.int .i64 bd.f1.f0, .bool bd.f1.f1, .bool bd.f1.f2, .slice A4 bd.f1.f3.length c4, .slice A5 bd.f1.f4.length c5], .func (.func 57) #[] #[ptr (W.heap.size + 1)], .agg x.1.2.toArray, undef, undef, undef, undef, u26], defers := [] })
        (fun x a' _ X Y row hs hg hr => by
          obtain ⟨Bx, h1, h2, h3⟩ := hs
          refine ⟨Bx, h1, (hg.block Bx (Array.getElem?_eq_some_iff.1 h2).1 (fun e => ?_)).trans h2, h3⟩
          obtain ⟨_, o, ho, hc⟩ := hr Bx e.symm
          rw [h2] at ho
          cases ho
          cases hc)
        ?assign ?body ?done ?stop
      case assign =>
        rintro l pre ⟨⟨t, cs⟩, hK⟩ W' K ⟨hB1, hpre⟩ hKa
        have hK' : k31.K W1 t cs := hK
        obtain ⟨B3, d3, B4, d4, rfl, m3, q3, m4, q4⟩ := k31_open hK'
        gi_wp2
        have hbn : Below W'.heap.size W' (W'.alloc (.cells #[.int .i64 t.f0, .bool t.f1, .bool t.f2, .slice B3 t.f3.length d3, .slice B4 t.f4.length d4] 31)) := (Below.refl _ W').alloc (Nat.le_refl _) _
        exact hKa _ _ ((KeepsOthers.alloc _ _).from _) (CK.of_below hB1.size hbn) ⟨hB1.trans (hbn.mono hB1.size), hpre⟩ ⟨W'.heap.size, hB1.size, World.alloc_heap_new _ _, rfl⟩
      case body =>
        rintro l pre ⟨⟨t, cs⟩, hK⟩ a' W' hl ⟨r, hr⟩ ⟨hB1, hpre⟩ ⟨Bx, hBx, bX, rfl⟩ hlt'
        have hK' : k31.K W1 t cs := hK
        obtain ⟨B3, d3, B4, d4, rfl, m3, q3, m4, q4⟩ := k31_open hK'
        have hB0 : Below W0.heap.size W0 W' := hB01.trans (hB1.mono hB01.size)
        have hBw' : Below w.heap.size w W' := hBw1.trans (hB1.mono hBw1.size)
        have x3' : W'.cell? ⟨Bx, 3, none⟩ = some (.slice B3 t.f3.length d3) := by unfold World.cell?; rw [bX]; rfl
        have x7' := below_cell hB0 hS.c7
        have hcon := conHit wr v s Ap cp t.f3 B3 d3 w.heap.size (w.heap.size + 1) W' (Kd.C_below q3 hB1) (Kd.C_below hp hBw') lp (below_cell hB0 hS.c40) (below_cell hB0 hS.c41) (below_cell hB0 hS.c5)
        have b6' : ∀ w', Below W'.heap.size W' w' → Boxed w' (w.heap.size + 1 + 1) 4 (.bool false) := fun w' hb => by
          have h6 := hS.b6
          have h6l := h6.lt
          exact (hb.block _ (by have := hB0.size; omega)).trans ((hB0.block _ h6l).trans h6)
        have kf : ∀ w', Below W'.heap.size W' w' → KeepsFrom W1.heap.size W' w' := fun w' hb => KeepsFrom.of_grownBy (row := none) ⟨hb.os, hb.tape, hb.output, hb.size, fun k hk _ => hb.block k hk⟩ (fun j e => by cases e)
        cases hh : hitT wr v s t with
        | true =>
          rw [show t.f3.any (hitL wr v s) = true from hh] at hcon
          unfold ptr at hcon x7'
          gi_wp2_with ((try refine ⟨trivial, ?_⟩); gi_at_call 37; refine (CallsIn.inRound l (callsIn_wide.2 hcon)).mono ?_; rintro e w' ⟨rfl, hb'⟩; have h6 := b6' w' hb'; have h6c := h6.cell; have h6f := h6.frozen)
          refine ⟨(kf _ hb').trans ((KeepsOthers.setCell _ _ _).from _), ⟨rfl, ⟨(t, _), hK⟩, by simp, hh⟩, h6.set _, ?_, ?_⟩
          · exact (hBw'.trans (hb'.mono hBw'.size)).setCell (p := ⟨w.heap.size + 1 + 1, 0, none⟩) (by simp; omega) _
          · intro D hd
            have h1 := hD1 D hd
            exact (KeepsOthers.setCell _ _ _).same D _ ((hb'.block D (by have := hB1.size; omega)).trans ((hB1.block D (by omega)).trans h1.2.2)) rfl
        | false =>
          rw [show t.f3.any (hitL wr v s) = false from hh] at hcon
          unfold ptr at hcon x7'
          gi_wp2_with ((try refine ⟨trivial, ?_⟩); gi_at_call 37; refine (CallsIn.inRound l (callsIn_wide.2 hcon)).mono ?_; rintro e w' ⟨rfl, hb'⟩; have h6 := b6' w' hb'; have h6c := h6.cell; have h6f := h6.frozen)
          exact ⟨kf _ hb', CK.of_below hB1.size hb', hB1.trans (hb'.mono hB1.size), fun x hx => (List.mem_append.1 hx).elim (hpre x) (fun e => by simp at e; subst e; exact hh)⟩
      case done =>
        rintro D ys W' hDl hys ⟨hB1, hno'⟩ hKd
        have hnone : (partsT bd.f1).any (hitT wr v s) = false := by
          rw [← hys, List.any_map, List.any_eq_false]
          intro x hx
          simp [hno' x hx]
        gi_wp2
        refine ⟨⟨kk + 1, D :: Ds, _, _, _, _, _, _, _, _, ⟨by omega, hB01.trans (hB1.mono hB01.size), ?_, ?_, ?_⟩, rfl⟩, ?_⟩
        · refine List.nodup_cons.mpr ⟨fun hd => ?_, hN⟩
          have := (hD1 D hd).2.1
          omega
        · intro D' hd
          rcases List.mem_cons.mp hd with rfl | hd
          · exact ⟨by omega, hKd⟩
          · have h1 := hD1 D' hd
            exact ⟨h1.1, (hB1.block D' (by omega)).trans h1.2.2⟩
        · intro j b hj hb
          by_cases hjk : j = kk
          · subst hjk
            rw [hrd] at hb
            cases hb
            exact hnone
          · exact hno j b (by omega) hb
        · rw [leftOf_eq _ _ ((kk : Int) + 1) rfl, leftOf_eq _ _ (kk : Int) rfl]
          omega
      case stop =>
        rintro D c pre W' hDl ⟨rest, hrest⟩ ⟨⟨rfl, x, hx, hxh⟩, h6, hBw', hDs⟩ hKd
        have hall : hitE wr v s es = true := by
          refine List.any_eq_true.mpr ⟨bd, List.mem_of_getElem? hrd, List.any_eq_true.mpr ⟨x.1.1, ?_, hxh⟩⟩
          rw [← hrest]
          exact List.mem_append.2 (.inl (List.mem_map.mpr ⟨x, hx, rfl⟩))
        gi_wp2
        refine leavesMarks (n₀ := w.heap.size) (D :: Ds) W' (List.nodup_cons.mpr ⟨fun hd => ?_, hN⟩) (fun D' hd => ?_) (fun W2 hck => ?_)
        · have := (hD1 D hd).2.1
          omega
        · rcases List.mem_cons.mp hd with rfl | hd
          · exact ⟨by omega, hKd⟩
          · exact ⟨(hD1 D' hd).1, hDs D' hd⟩
        · have hc5 := hck.cell h6.cell
          refine ⟨.bool true, ?_, by first | rfl | rw [hall], hBw'.trans hck.1⟩
          simp [results, Tryz.f18, go_sem, hc5]
    · have hltz : ¬ (kk : Int) < (es.length : Int) := by omega
      have hz := hS.sz
      have h6 : Boxed W (w.heap.size + 1 + 1) 4 (.bool false) := (hB.block _ (by omega)).trans hS.b6
      have h6c := h6.cell
      have h6f := h6.frozen
      have hall : hitE wr v s es = false := by
        refine List.any_eq_false.mpr fun b hb => ?_
        obtain ⟨j, hj⟩ := List.mem_iff_getElem?.mp hb
        rw [hno j b (by have := idx_lt hj; omega) hj]
        simp
      have hBw : Below w.heap.size w W := hS.bel.trans (hB.mono (by omega))
      gi_wp2
      refine leavesMarks (n₀ := w.heap.size) Ds _ hN (fun D' hd => ⟨(hD D' hd).1, (KeepsOthers.setCell _ _ _).same D' _ (hD D' hd).2 rfl⟩) (fun W2 hck => ?_)
      have hc5 := hck.cell (World.cell?_setCell_same' W ⟨w.heap.size + 1 + 1, 0, none⟩ (.bool false) (by rw [h6c]; rfl))
      refine ⟨.bool false, ?_, by first | rfl | rw [hall], (hBw.setCell (p := ⟨w.heap.size + 1 + 1, 0, none⟩) (by simp; omega) _).trans hck.1⟩
      simp [results, Tryz.f18, go_sem, hc5]
end Go.Proofs.YtadjekpfehjibaaGreatDoor.PEnv
namespace Go.Proofs.YtadjekpfehjibaaGreatDoor.PEnv
open Go.RowKit Go.Shelf Go.Proofs.YtadjekpfehjibaaGreatDoorW.PrintWords Go.Proofs.YtadjekpfehjibaaGreatDoorW.PrintLast Go.Proofs.YtadjekpfehjibaaGreatDoorW.PrintMore Go.Proofs.YtadjekpfehjibaaGreatDoor.PEnvJoins
attribute [local go_sem] Oper.semAt_some
/-- Is a type a reference, or gone? -/
def badT (t : S31) : Bool := decide (t.f0 = 4) || t.f2
def plainT (t : S31) : Bool := !(partsT t).any badT
structure PStart (t0 : S31) (A3 : Option Addr) (c3 : Nat) (A4 : Option Addr) (c4 : Nat) (w W : World) : Prop where
  sz : W.heap.size = w.heap.size + 3
  bel : Below w.heap.size w W
  b2 : Boxed W (w.heap.size + 1) 4 (.bool false)
  b3 : W.heap[w.heap.size + 1 + 1]? = some (.cells #[.int .i64 t0.f0, .bool t0.f1, .bool t0.f2, .slice A3 t0.f3.length c3, .slice A4 t0.f4.length c4] 31)
theorem pStart (t0 : S31) (A3 : Option Addr) (c3 : Nat) (A4 : Option Addr) (c4 : Nat) (w : World) : PStart t0 A3 c3 A4 c4 w (((w.alloc (.cells #[.int .i64 t0.f0, .bool t0.f1, .bool t0.f2, .slice A3 t0.f3.length c3, .slice A4 t0.f4.length c4] 31)).alloc (.cells #[.bool false] 4)).alloc (.cells #[.int .i64 t0.f0, .bool t0.f1, .bool t0.f2, .slice A3 t0.f3.length c3, .slice A4 t0.f4.length c4] 31)) := by
  have b1 : Below w.heap.size w (w.alloc (.cells #[.int .i64 t0.f0, .bool t0.f1, .bool t0.f2, .slice A3 t0.f3.length c3, .slice A4 t0.f4.length c4] 31)) := (Below.refl _ w).alloc (Nat.le_refl _) _
  have z1 : (w.alloc (.cells #[.int .i64 t0.f0, .bool t0.f1, .bool t0.f2, .slice A3 t0.f3.length c3, .slice A4 t0.f4.length c4] 31)).heap.size = w.heap.size + 1 := by simp
  generalize w.alloc (.cells #[.int .i64 t0.f0, .bool t0.f1, .bool t0.f2, .slice A3 t0.f3.length c3, .slice A4 t0.f4.length c4] 31) = w1 at *
  have e2 := World.alloc_heap_new w1 (.cells #[.bool false] 4)
  have b2 : Below w1.heap.size w1 (w1.alloc (.cells #[.bool false] 4)) := (Below.refl _ w1).alloc (Nat.le_refl _) _
  have z2 : (w1.alloc (.cells #[.bool false] 4)).heap.size = w.heap.size + 1 + 1 := by simp [z1]
  generalize w1.alloc (.cells #[.bool false] 4) = w2 at *
  have e3 := World.alloc_heap_new w2 (.cells #[.int .i64 t0.f0, .bool t0.f1, .bool t0.f2, .slice A3 t0.f3.length c3, .slice A4 t0.f4.length c4] 31)
  have b3 : Below w2.heap.size w2 (w2.alloc (.cells #[.int .i64 t0.f0, .bool t0.f1, .bool t0.f2, .slice A3 t0.f3.length c3, .slice A4 t0.f4.length c4] 31)) := (Below.refl _ w2).alloc (Nat.le_refl _) _
  have z3 : (w2.alloc (.cells #[.int .i64 t0.f0, .bool t0.f1, .bool t0.f2, .slice A3 t0.f3.length c3, .slice A4 t0.f4.length c4] 31)).heap.size = w.heap.size + 3 := by simp [z2]
  generalize w2.alloc (.cells #[.int .i64 t0.f0, .bool t0.f1, .bool t0.f2, .slice A3 t0.f3.length c3, .slice A4 t0.f4.length c4] 31) = w3 at *
  rw [z1] at e2
  rw [z2] at e3
  exact ⟨z3, b1.trans ((b2.mono (by omega)).trans (b3.mono (by omega))), (b3.block _ (by omega)).trans e2, e3⟩
def PI (W1 : World) (pre : List (Part W1)) (W' : World) : Prop := Below W1.heap.size W1 W' ∧ ∀ x ∈ pre, badT x.1.1 = false
def PX (w W1 : World) (c : Code) (pre : List (Part W1)) (W' : World) : Prop := (c = .ret ∧ ∃ x ∈ pre, badT x.1.1 = true) ∧ Boxed W' (w.heap.size + 1) 4 (.bool false) ∧ Below w.heap.size w W'
set_option maxRecDepth 100000 in
set_option maxHeartbeats 4000000 in
/-- env.plain, at every type. -/
theorem envPlain (t0 : S31) (A3 : Option Addr) (c3 : Nat) (A4 : Option Addr) (c4 : Nat) (w : World)
    (l3 : t0.f3.length ≤ c3) (g3 : Kd.C k44 w A3 t0.f3.length t0.f3) (l4 : t0.f4.length ≤ c4) (g4 : Kd.C k31 w A4 t0.f4.length t0.f4) :
    Calls Tryz.prog 42 #[.agg #[.int .i64 t0.f0, .bool t0.f1, .bool t0.f2, .slice A3 t0.f3.length c3, .slice A4 t0.f4.length c4]] w fun e W' => e = .returned (.bool (plainT t0)) ∧ Below w.heap.size w W' := by
  refine (callsIn_wide (n := 9)).1 ?_
  refine callsIn_of_wp_marks Tryz.func42 rfl trivial ?_ rfl
  simp only [Tryz.ntmps42, List.size_toArray, List.length_cons, List.length_nil, Nat.reduceAdd, Nat.reduceSub, Array.replicate_succ, Array.replicate_zero, List.push_toArray, List.append_toArray, List.nil_append, List.cons_append]
  gi_wp2_with ((try refine ⟨trivial, ?_⟩); gi_at_call 36; refine (callsIn_wide.2 (parts0 _ _ _ _ _ _ _ _ _ _)).mono ?_; rintro e w' ⟨rfl, rfl⟩)
  have hS := pStart t0 A3 c3 A4 c4 w
  obtain ⟨W1, hW1⟩ : ∃ W1, (((w.alloc (.cells #[.int .i64 t0.f0, .bool t0.f1, .bool t0.f2, .slice A3 t0.f3.length c3, .slice A4 t0.f4.length c4] 31)).alloc (.cells #[.bool false] 4)).alloc (.cells #[.int .i64 t0.f0, .bool t0.f1, .bool t0.f2, .slice A3 t0.f3.length c3, .slice A4 t0.f4.length c4] 31)) = W1 := ⟨_, rfl⟩
  have z : ((w.alloc (.cells #[.int .i64 t0.f0, .bool t0.f1, .bool t0.f2, .slice A3 t0.f3.length c3, .slice A4 t0.f4.length c4] 31)).alloc (.cells #[.bool false] 4)).heap.size = w.heap.size + 1 + 1 := by simp
  try rw [z]
  rw [hW1]
  rw [hW1] at hS
  clear hW1 z
  have hz := hS.sz
  have hBt : ∀ (i : Nat) u, [Value.int .i64 t0.f0, .bool t0.f1, .bool t0.f2, .slice A3 t0.f3.length c3, .slice A4 t0.f4.length c4][i]? = some u → W1.cell? ⟨w.heap.size + 1 + 1, i, none⟩ = some u := by
    intro i u hu
    unfold World.cell?
    rw [hS.b3]
    simpa using hu
  refine wpIn_rangeFunc_ownH (n := 9) rfl (by decide : 1 ≤ 9) (gf := 57) (lb := #[ptr (w.heap.size + 1 + 1)]) rfl trivial (enters_of Tryz.func57 (by kernel_rfl) rfl)
    (partsStops 8 (w.heap.size + 1 + 1) t0 _ W1 (k31_mk W1 t0 l3 (Kd.C_below g3 hS.bel) l4 (Kd.C_below g4 hS.bel)) hBt) (fun h k => h.trans k) (fun W l o o' hl h hc hw => CK.putObj (Nat.le_refl _) W l o o' hl h hc hw) (Below.refl _ _) (fun _ => rfl)
    (PI W1) (PX w W1)
    (OwnFrom.and (ownFrom_below (Nat.le_refl _) (Nat.le_refl _)) (ownFrom_pure _ (fun (pre : List (Part W1)) => ∀ x ∈ pre, badT x.1.1 = false)))
    (fun c => OwnFrom.and (ownFrom_pure _ (fun (pre : List (Part W1)) => c = .ret ∧ ∃ x ∈ pre, badT x.1.1 = true)) (OwnFrom.and (Own.from (boxed_own _ _ (fun _ => Value.bool false)) _) (ownFrom_below (Nat.le_refl _) (by omega))))
    ⟨Below.refl _ _, by simp⟩
    (fun x a' W' => ∃ Bx, W1.heap.size ≤ Bx ∧ W'.heap[Bx]? = some (.cells x.1.2.toArray 31) ∧ a' = { tmps := #[.agg #[.int .i64 t0.f0, .bool t0.f1, .bool t0.f2, .slice A3 t0.f3.length c3, .slice A4 t0.f4.length c4], .pointer (some ⟨w.heap.size, 0, none⟩), .pointer (some ⟨w.heap.size + 1, 0, none⟩), .pointer (some ⟨Bx, 0, none⟩), .agg #[.int .i64 t0.f0, .bool t0.f1, .bool t0.f2, .slice A3 t0.f3.length c3, .slice A4 t0.f4.length c4], .func (.func 57) #[] #[ptr (w.heap.size + 1 + 1)], .agg x.1.2.toArray, undef, undef, undef, undef, undef, undef, undef], defers := [] })
    (fun x a' _ X Y row hs hg hr => by
      obtain ⟨Bx, h1, h2, h3⟩ := hs
      refine ⟨Bx, h1, (hg.block Bx (Array.getElem?_eq_some_iff.1 h2).1 (fun e => ?_)).trans h2, h3⟩
      obtain ⟨_, o, ho, hc⟩ := hr Bx e.symm
      rw [h2] at ho
      cases ho
      cases hc)
    ?assign ?body ?done ?stop
  case assign =>
    rintro l pre ⟨⟨t, cs⟩, hK⟩ W' K ⟨hB1, hpre⟩ hKa
    have hK' : k31.K W1 t cs := hK
    obtain ⟨B3, d3, B4, d4, rfl, m3, q3, m4, q4⟩ := k31_open hK'
    gi_wp2
    have hbn : Below W'.heap.size W' (W'.alloc (.cells #[.int .i64 t.f0, .bool t.f1, .bool t.f2, .slice B3 t.f3.length d3, .slice B4 t.f4.length d4] 31)) := (Below.refl _ W').alloc (Nat.le_refl _) _
    exact hKa _ _ ((KeepsOthers.alloc _ _).from _) (CK.of_below hB1.size hbn) ⟨hB1.trans (hbn.mono hB1.size), hpre⟩ ⟨W'.heap.size, hB1.size, World.alloc_heap_new _ _, rfl⟩
  case body =>
    rintro l pre ⟨⟨t, cs⟩, hK⟩ a' W' hl ⟨r, hr⟩ ⟨hB1, hpre⟩ ⟨Bx, hBx, bX, rfl⟩ hlt'
    have hK' : k31.K W1 t cs := hK
    obtain ⟨B3, d3, B4, d4, rfl, m3, q3, m4, q4⟩ := k31_open hK'
    have hBw' : Below w.heap.size w W' := hS.bel.trans (hB1.mono (by omega))
    have x0' : W'.cell? ⟨Bx, 0, none⟩ = some (.int .i64 t.f0) := by unfold World.cell?; rw [bX]; rfl
    have x2' : W'.cell? ⟨Bx, 2, none⟩ = some (.bool t.f2) := by unfold World.cell?; rw [bX]; rfl
    have h6 : Boxed W' (w.heap.size + 1) 4 (.bool false) := (hB1.block _ (by omega)).trans hS.b2
    have h6c := h6.cell
    have h6f := h6.frozen
    have yes : badT t = true → KeepsFrom W1.heap.size W' (W'.setCell ⟨w.heap.size + 1, 0, none⟩ (.bool false)) ∧ PX w W1 .ret (pre ++ [(⟨(t, _), hK⟩ : Part W1)]) (W'.setCell ⟨w.heap.size + 1, 0, none⟩ (.bool false)) := fun hb =>
      ⟨(KeepsOthers.setCell _ _ _).from _, ⟨rfl, ⟨(t, _), hK⟩, by simp, hb⟩, h6.set _, hBw'.setCell (p := ⟨w.heap.size + 1, 0, none⟩) (by simp) _⟩
    have no : badT t = false → KeepsFrom W1.heap.size W' W' ∧ CK W1.heap.size W' W' ∧ PI W1 (pre ++ [(⟨(t, _), hK⟩ : Part W1)]) W' := fun hb =>
      ⟨KeepsFrom.refl _ _, CK.of_below hB1.size (Below.refl _ _), hB1, fun x hx => (List.mem_append.1 hx).elim (hpre x) (fun e => by simp at e; subst e; exact hb)⟩
    clear hz
    clear hK'
    by_cases h4 : t.f0 = 4
    · have h4b : (t.f0 == 4) = true := beq_iff_eq.mpr h4
      have hb : badT t = true := by simp [badT, h4]
      clear h4
      gi_wp2
      exact yes hb
    · have h4b : (t.f0 == 4) = false := by simpa using h4
      rcases Bool.eq_false_or_eq_true t.f2 with hg | hg
      · rw [hg] at x2'
        have hb : badT t = true := by simp [badT, hg]
        clear h4 hg
        gi_wp2
        exact yes hb
      · rw [hg] at x2'
        have hb : badT t = false := by simp [badT, h4, hg]
        clear h4 hg
        gi_wp2
        exact no hb
  case done =>
    rintro D ys W' hDl hys ⟨hB1, hno'⟩ hKd
    have h6 : Boxed W' (w.heap.size + 1) 4 (.bool false) := (hB1.block _ (by omega)).trans hS.b2
    have h6c := h6.cell
    have h6f := h6.frozen
    have hall : plainT t0 = true := by
      unfold plainT
      rw [← hys, List.any_map, Bool.not_eq_true', List.any_eq_false]
      intro x hx
      simp [hno' x hx]
    have hBw' : Below w.heap.size w W' := hS.bel.trans (hB1.mono (by omega))
    gi_wp2
    refine leavesMarks (n₀ := w.heap.size) [D] _ (by simp) (fun D' hd => ?_) (fun W2 hck => ?_)
    · obtain rfl : D' = D := by simpa using hd
      exact ⟨by omega, (KeepsOthers.setCell _ _ _).same D' _ hKd rfl⟩
    · have hc5 := hck.cell (World.cell?_setCell_same' W' ⟨w.heap.size + 1, 0, none⟩ (.bool true) (by rw [h6c]; rfl))
      refine ⟨.bool true, ?_, by first | rfl | rw [hall], (hBw'.setCell (p := ⟨w.heap.size + 1, 0, none⟩) (by simp) _).trans hck.1⟩
      simp [results, Tryz.f42, go_sem, hc5]
  case stop =>
    rintro D c pre W' hDl ⟨rest, hrest⟩ ⟨⟨rfl, x, hx, hxh⟩, h6, hBw'⟩ hKd
    have hall : plainT t0 = false := by
      unfold plainT
      rw [Bool.not_eq_false', List.any_eq_true]
      refine ⟨x.1.1, ?_, hxh⟩
      rw [← hrest]
      exact List.mem_append.2 (.inl (List.mem_map.mpr ⟨x, hx, rfl⟩))
    gi_wp2
    refine leavesMarks (n₀ := w.heap.size) [D] W' (by simp) (fun D' hd => ?_) (fun W2 hck => ?_)
    · obtain rfl : D' = D := by simpa using hd
      exact ⟨by omega, hKd⟩
    · have hc5 := hck.cell h6.cell
      refine ⟨.bool false, ?_, by first | rfl | rw [hall], hBw'.trans hck.1⟩
      simp [results, Tryz.f42, go_sem, hc5]
end Go.Proofs.YtadjekpfehjibaaGreatDoor.PEnv
namespace Go.Proofs.YtadjekpfehjibaaGreatDoor.PEnv
open Go.RowKit Go.Shelf Go.Proofs.YtadjekpfehjibaaGreatDoorW.PrintWords Go.Proofs.YtadjekpfehjibaaGreatDoorW.PrintLast Go.Proofs.YtadjekpfehjibaaGreatDoorW.PrintMore Go.Proofs.YtadjekpfehjibaaGreatDoor.PEnvJoins
theorem region_cls {P : Program} {id : Nat} {Q : Exit → Act → World → Prop} {a : Act} {w : World} {l : List Oper} (C : World → Prop) (hm : P.follows .mixedOrders = true) (hB : Region.lexB .any l.toArray = true) (hC : C { w with drawn := w.drawn + 1 })
    (h : wpQuiet P l.toArray C (fun a' => ∀ w', C w' → Q .normal a' w') l a) : (Code.region id l.toArray true).wp P Q a w :=
  wp_region_quiet (C := C) hm hB hC (by simpa using h)
/-- Is one loan right? -/
def loanOK (l : S44) : Bool := decide (l.f0.toList = []) || (decide (l.f1.f0.toList = []) && decide (l.f1.f1.length = 0) && !l.f2)
set_option maxHeartbeats 4000000 in
/-- env.loan. -/
theorem envLoan (l : S44) (A2 : Option Addr) (c2 : Nat) (W : World) :
    Calls Tryz.prog 61 #[.agg #[.string l.f0, .string l.f1.f0, .slice A2 l.f1.f1.length c2, .bool l.f2]] W fun e W' => e = .returned (.bool (loanOK l)) ∧ Below W.heap.size W W' := by
  have hb : Below W.heap.size W (W.alloc (.cells #[.string l.f0, .string l.f1.f0, .slice A2 l.f1.f1.length c2, .bool l.f2] 44)) := (Below.refl _ W).alloc (Nat.le_refl _) _
  have hl : loanOK l = (decide (l.f0.toList = []) || (decide (l.f1.f0.toList = []) && decide (l.f1.f1.length = 0) && !l.f2)) := rfl
  by_cases h0 : l.f0.toList = ([] : List UInt8)
  · have h0b : (l.f0.toList == ([] : List UInt8)) = true := beq_iff_eq.mpr h0
    rw [decide_eq_true h0] at hl
    clear h0
    go_enter Tryz.func61, Tryz.ntmps61
    go_wp2
    go_ret
    exact ⟨by rw [hl]; rfl, hb⟩
  · have h0b : (l.f0.toList == ([] : List UInt8)) = false := by simpa using h0
    rw [decide_eq_false h0] at hl
    clear h0
    by_cases h1 : l.f1.f0.toList = ([] : List UInt8)
    · have h1b : (l.f1.f0.toList == ([] : List UInt8)) = true := beq_iff_eq.mpr h1
      rw [decide_eq_true h1] at hl
      clear h1
      by_cases h2 : l.f1.f1.length = 0
      · have h2b : ((l.f1.f1.length : Int) == 0) = true := by simp [h2]
        rw [decide_eq_true h2] at hl
        have hl2 : loanOK l = !l.f2 := by rw [hl]; rfl
        clear hl h2
        generalize l.f1.f1.length = n at *
        go_enter Tryz.func61, Tryz.ntmps61
        go_wp2
        go_ret
        exact ⟨by rw [hl2]; rfl, hb⟩
      · have h2b : ((l.f1.f1.length : Int) == 0) = false := by simpa using h2
        rw [decide_eq_false h2] at hl
        clear h2
        generalize l.f1.f1.length = n at *
        go_enter Tryz.func61, Tryz.ntmps61
        go_wp2
        go_ret
        exact ⟨by rw [hl]; rfl, hb⟩
    · have h1b : (l.f1.f0.toList == ([] : List UInt8)) = false := by simpa using h1
      rw [decide_eq_false h1] at hl
      clear h1
      go_enter Tryz.func61, Tryz.ntmps61
      go_wp2
      go_ret
      exact ⟨by rw [hl]; rfl, hb⟩
def risingFrom : Option S44 → List S44 → Bool
  | _, [] => true
  | none, x :: xs => loanOK x && risingFrom (some x) xs
  | some q, x :: xs => (loanOK x && decide (cmpLoan q x < 0)) && risingFrom (some x) xs
def risingB (ls : List S44) : Bool := risingFrom none ls
theorem risingFrom_nil (p : Option S44) : risingFrom p [] = true := by cases p <;> rfl
def prevAt (ls : List S44) (k : Nat) : Option S44 := if k = 0 then none else ls[k - 1]?
set_option maxHeartbeats 8000000 in
/-- env.rising. -/
theorem envRising (ls : List S44) (A : Option Addr) (c : Nat) (w : World) (hC : Kd.C k44 w A ls.length ls) (hc : ls.length ≤ c) :
    Calls Tryz.prog 39 #[.slice A ls.length c] w fun e W' => e = .returned (.bool (risingB ls)) ∧ Below w.heap.size w W' := by
  have hmax := Kd.C_max hC
  go_enter Tryz.func39, Tryz.ntmps39
  go_wp2
  go_loopg [7] ls.length (fun gg s7 wr => ∃ kk : Nat, kk ≤ ls.length ∧ ls.length - kk ≤ gg ∧ s7 = .int .i64 kk ∧ Aside (Below w.heap.size w wr) ∧ Aside (risingB ls = risingFrom (prevAt ls kk) (ls.drop kk)))
  case atStart => exact ⟨0, Nat.zero_le _, by omega, rfl, Below.refl _ _, (by simp [risingB, prevAt] : risingB ls = risingFrom (prevAt ls 0) (ls.drop 0))⟩
  case round =>
    obtain ⟨kk, hkk, hg, rfl, BW, HR⟩ := hrel
    by_cases hlt : kk < ls.length
    · have hltz : (kk : Int) < (ls.length : Int) := by omega
      obtain ⟨ad, A2, c2, rfl, x0, x1, x2, x3, l2, g2⟩ := at_T44 (Kd.C_below hC BW.out) (kk : Int) (by omega) hltz
      have hrd : ls[kk]? = some (rd_T44 ls (kk : Int)) := by
        simp only [rd_T44, Int.toNat_natCast, List.getD_eq_getElem?_getD, List.getElem?_eq_getElem hlt, Option.getD_some]
      simp only [Int.toNat_natCast] at x0 x1 x2 x3
      generalize rd_T44 ls (kk : Int) = x at *
      go_wp2_with fail
      have hb2 : Below wr.heap.size wr (wr.alloc (.cells #[.string x.f0, .string x.f1.f0, .slice A2 x.f1.f1.length c2, .bool x.f2] 44)) := (Below.refl _ wr).alloc (Nat.le_refl _) _
      have e2 := World.alloc_heap_new wr (.cells #[.string x.f0, .string x.f1.f0, .slice A2 x.f1.f1.length c2, .bool x.f2] 44)
      obtain ⟨W2, hW2⟩ : ∃ W2, (wr.alloc (.cells #[.string x.f0, .string x.f1.f0, .slice A2 x.f1.f1.length c2, .bool x.f2] 44)) = W2 := ⟨_, rfl⟩
      rw [hW2] at hb2 e2 ⊢
      clear hW2
      have hx : ∀ i u, [Value.string x.f0, .string x.f1.f0, .slice A2 x.f1.f1.length c2, .bool x.f2][i]? = some u → ∀ Wq, Below W2.heap.size W2 Wq → Wq.cell? ⟨wr.heap.size, i, none⟩ = some u := fun i u hu Wq hq => below_cell hq (by
        unfold World.cell?; rw [e2]; simpa using hu)
      have k0 := hx 0 _ rfl
      have k1 := hx 1 _ rfl
      have k2 := hx 2 _ rfl
      have k3 := hx 3 _ rfl
      have callA : ∀ Wq, Below W2.heap.size W2 Wq → Calls Tryz.prog 61 #[.agg #[.string x.f0, .string x.f1.f0, .slice A2 x.f1.f1.length c2, .bool x.f2]] Wq fun e w'' => e = .returned (.bool (loanOK x)) ∧ Below W2.heap.size W2 w'' := fun Wq hq =>
        (envLoan x A2 c2 Wq).mono fun e w'' h => ⟨h.1, hq.trans (h.2.mono hq.size)⟩
      have eA := enters_of Tryz.func61 (by kernel_rfl) rfl
      have eB := enters_of Tryz.func48 (by kernel_rfl) rfl
      have bk : Below w.heap.size w W2 := BW.out.trans (hb2.mono BW.out.size)
      clear hx e2
      cases hlo : loanOK x with
      | false =>
        rw [hlo] at callA
        have hall : risingB ls = false := by
          rw [HR.out, List.drop_eq_getElem_cons hlt]
          have e : ls[kk] = x := by rw [List.getElem?_eq_getElem hlt] at hrd; exact Option.some.inj hrd
          rw [e]
          cases prevAt ls kk <;> simp [risingFrom, hlo]
        clear hlo
        refine region_cls (fun W' => Below W2.heap.size W2 W') (by kernel_rfl) (by kernel_rfl) (below_drew1 (Below.refl _ W2)) ?_
        go_big_quiet_want
        refine ⟨.agg #[.string x.f0, .string x.f1.f0, .slice A2 x.f1.f1.length c2, .bool x.f2], fun Wq hWq => ?_, ?_⟩
        · have q0 := k0 Wq hWq
          have q1 := k1 Wq hWq
          have q2 := k2 Wq hWq
          have q3 := k3 Wq hWq
          have ca := callA Wq hWq
          clear k0 k1 k2 k3 callA
          unfold Oper.quietAt
          go_simp
        simp only [Act.put, List.setIfInBounds_toArray, List.set_cons_zero, List.set_cons_succ]
        go_big_quiet_on
        go_big_quiet_want
        refine ⟨.bool false, fun Wq hWq => ?_, ?_⟩
        · have q0 := k0 Wq hWq
          have q1 := k1 Wq hWq
          have q2 := k2 Wq hWq
          have q3 := k3 Wq hWq
          have ca := callA Wq hWq
          clear k0 k1 k2 k3 callA
          unfold Oper.quietAt
          go_simp
        simp only [Act.put, List.setIfInBounds_toArray, List.set_cons_zero, List.set_cons_succ]
        go_big_quiet_on
        go_big_quiet_want
        refine ⟨.bool true, fun Wq hWq => ?_, ?_⟩
        · have q0 := k0 Wq hWq
          have q1 := k1 Wq hWq
          have q2 := k2 Wq hWq
          have q3 := k3 Wq hWq
          have ca := callA Wq hWq
          clear k0 k1 k2 k3 callA
          unfold Oper.quietAt
          go_simp
        simp only [Act.put, List.setIfInBounds_toArray, List.set_cons_zero, List.set_cons_succ]
        go_big_quiet_on
        go_big_quiet_want
        refine ⟨.bool true, fun Wq hWq => ?_, ?_⟩
        · have q0 := k0 Wq hWq
          have q1 := k1 Wq hWq
          have q2 := k2 Wq hWq
          have q3 := k3 Wq hWq
          have ca := callA Wq hWq
          clear k0 k1 k2 k3 callA
          unfold Oper.quietAt
          go_simp
        simp only [Act.put, List.setIfInBounds_toArray, List.set_cons_zero, List.set_cons_succ]
        go_big_quiet_on
        go_big_quiet_skip
        go_big_quiet_skip
        go_big_quiet_skip
        go_big_quiet_skip
        go_big_quiet_skip
        go_big_quiet_skip
        go_big_quiet_skip
        go_big_quiet_skip
        go_big_quiet_skip
        go_big_quiet_skip
        go_big_quiet_skip
        go_big_quiet_skip
        go_big_quiet_want
        refine ⟨.bool true, fun Wq hWq => ?_, ?_⟩
        · have q0 := k0 Wq hWq
          have q1 := k1 Wq hWq
          have q2 := k2 Wq hWq
          have q3 := k3 Wq hWq
          have ca := callA Wq hWq
          clear k0 k1 k2 k3 callA
          unfold Oper.quietAt
          go_simp
        simp only [Act.put, List.setIfInBounds_toArray, List.set_cons_zero, List.set_cons_succ]
        go_big_quiet_on
        refine wpQuiet_nil ?_
        intro W3 hW3
        clear k0 k1 k2 k3 callA
        go_wp2 <;> skip
        go_ret
        exact ⟨by rw [hall]; rfl, bk.trans (hW3.mono bk.size)⟩
      | true =>
        rw [hlo] at callA
        by_cases h0 : kk = 0
        · subst h0
          have hnext : risingB ls = risingFrom (prevAt ls (0 + 1)) (ls.drop (0 + 1)) := by
            rw [HR.out, List.drop_eq_getElem_cons hlt]
            have e : ls[0] = x := by rw [List.getElem?_eq_getElem hlt] at hrd; exact Option.some.inj hrd
            rw [e]
            simp [risingFrom, prevAt, hlo, hrd]
          clear hlo
          refine region_cls (fun W' => Below W2.heap.size W2 W') (by kernel_rfl) (by kernel_rfl) (below_drew1 (Below.refl _ W2)) ?_
          go_big_quiet_want
          refine ⟨.agg #[.string x.f0, .string x.f1.f0, .slice A2 x.f1.f1.length c2, .bool x.f2], fun Wq hWq => ?_, ?_⟩
          · have q0 := k0 Wq hWq
            have q1 := k1 Wq hWq
            have q2 := k2 Wq hWq
            have q3 := k3 Wq hWq
            have ca := callA Wq hWq
            clear k0 k1 k2 k3 callA
            unfold Oper.quietAt
            go_simp
          simp only [Act.put, List.setIfInBounds_toArray, List.set_cons_zero, List.set_cons_succ]
          go_big_quiet_on
          go_big_quiet_want
          refine ⟨.bool true, fun Wq hWq => ?_, ?_⟩
          · have q0 := k0 Wq hWq
            have q1 := k1 Wq hWq
            have q2 := k2 Wq hWq
            have q3 := k3 Wq hWq
            have ca := callA Wq hWq
            clear k0 k1 k2 k3 callA
            unfold Oper.quietAt
            go_simp
          simp only [Act.put, List.setIfInBounds_toArray, List.set_cons_zero, List.set_cons_succ]
          go_big_quiet_on
          go_big_quiet_want
          refine ⟨.bool false, fun Wq hWq => ?_, ?_⟩
          · have q0 := k0 Wq hWq
            have q1 := k1 Wq hWq
            have q2 := k2 Wq hWq
            have q3 := k3 Wq hWq
            have ca := callA Wq hWq
            clear k0 k1 k2 k3 callA
            unfold Oper.quietAt
            go_simp
          simp only [Act.put, List.setIfInBounds_toArray, List.set_cons_zero, List.set_cons_succ]
          go_big_quiet_on
          go_big_quiet_want
          refine ⟨.bool false, fun Wq hWq => ?_, ?_⟩
          · have q0 := k0 Wq hWq
            have q1 := k1 Wq hWq
            have q2 := k2 Wq hWq
            have q3 := k3 Wq hWq
            have ca := callA Wq hWq
            clear k0 k1 k2 k3 callA
            unfold Oper.quietAt
            go_simp
          simp only [Act.put, List.setIfInBounds_toArray, List.set_cons_zero, List.set_cons_succ]
          go_big_quiet_on
          go_big_quiet_want
          refine ⟨.int .i64 0, fun Wq hWq => ?_, ?_⟩
          · have q0 := k0 Wq hWq
            have q1 := k1 Wq hWq
            have q2 := k2 Wq hWq
            have q3 := k3 Wq hWq
            have ca := callA Wq hWq
            clear k0 k1 k2 k3 callA
            unfold Oper.quietAt
            go_simp
          simp only [Act.put, List.setIfInBounds_toArray, List.set_cons_zero, List.set_cons_succ]
          go_big_quiet_on
          go_big_quiet_want
          refine ⟨.bool false, fun Wq hWq => ?_, ?_⟩
          · have q0 := k0 Wq hWq
            have q1 := k1 Wq hWq
            have q2 := k2 Wq hWq
            have q3 := k3 Wq hWq
            have ca := callA Wq hWq
            clear k0 k1 k2 k3 callA
            unfold Oper.quietAt
            go_simp
          simp only [Act.put, List.setIfInBounds_toArray, List.set_cons_zero, List.set_cons_succ]
          go_big_quiet_on
          go_big_quiet_want
          refine ⟨.bool false, fun Wq hWq => ?_, ?_⟩
          · have q0 := k0 Wq hWq
            have q1 := k1 Wq hWq
            have q2 := k2 Wq hWq
            have q3 := k3 Wq hWq
            have ca := callA Wq hWq
            clear k0 k1 k2 k3 callA
            unfold Oper.quietAt
            go_simp
          simp only [Act.put, List.setIfInBounds_toArray, List.set_cons_zero, List.set_cons_succ]
          go_big_quiet_on
          go_big_quiet_skip
          go_big_quiet_skip
          go_big_quiet_skip
          go_big_quiet_skip
          go_big_quiet_skip
          go_big_quiet_skip
          go_big_quiet_skip
          go_big_quiet_skip
          go_big_quiet_want
          refine ⟨.bool false, fun Wq hWq => ?_, ?_⟩
          · have q0 := k0 Wq hWq
            have q1 := k1 Wq hWq
            have q2 := k2 Wq hWq
            have q3 := k3 Wq hWq
            have ca := callA Wq hWq
            clear k0 k1 k2 k3 callA
            unfold Oper.quietAt
            go_simp
          simp only [Act.put, List.setIfInBounds_toArray, List.set_cons_zero, List.set_cons_succ]
          go_big_quiet_on
          go_big_quiet_want
          refine ⟨.bool false, fun Wq hWq => ?_, ?_⟩
          · have q0 := k0 Wq hWq
            have q1 := k1 Wq hWq
            have q2 := k2 Wq hWq
            have q3 := k3 Wq hWq
            have ca := callA Wq hWq
            clear k0 k1 k2 k3 callA
            unfold Oper.quietAt
            go_simp
          simp only [Act.put, List.setIfInBounds_toArray, List.set_cons_zero, List.set_cons_succ]
          go_big_quiet_on
          refine wpQuiet_nil ?_
          intro W3 hW3
          clear k0 k1 k2 k3 callA
          go_wp2
          go_roundg (ls.length - 1)
          case measure => omega
          case rel => exact ⟨0 + 1, by omega, by omega, by go_num, bk.trans (hW3.mono bk.size), hnext⟩
        · obtain ⟨m, rfl⟩ : ∃ m, kk = m + 1 := ⟨kk - 1, by omega⟩
          have hm0 : (0 : Int) ≤ (m : Int) := by omega
          have hm1 : (m : Int) < (ls.length : Int) := by omega
          have hm2 : (m : Int) + 1 ≤ 9223372036854775807 := by omega
          have hm3 : (0 : Int) < (m : Int) + 1 := by omega
          have hwm : IntKind.i64.wrap (m : Int) = (m : Int) := by rw [i64_w]; unfold wrap64; omega
          obtain ⟨ad', B2, d2, ead, y0, y1, y2, y3, n2, h2⟩ := at_T44 (Kd.C_below hC bk) (m : Int) (by omega) hm1
          cases ead
          have hrdy : ls[m]? = some (rd_T44 ls (m : Int)) := by
            simp only [rd_T44, Int.toNat_natCast, List.getD_eq_getElem?_getD, List.getElem?_eq_getElem (show m < ls.length by omega), Option.getD_some]
          simp only [Int.toNat_natCast] at y0 y1 y2 y3
          generalize rd_T44 ls (m : Int) = y at *
          have m0 := fun Wq (hq : Below W2.heap.size W2 Wq) => below_cell hq y0
          have m1 := fun Wq (hq : Below W2.heap.size W2 Wq) => below_cell hq y1
          have m2 := fun Wq (hq : Below W2.heap.size W2 Wq) => below_cell hq y2
          have m3 := fun Wq (hq : Below W2.heap.size W2 Wq) => below_cell hq y3
          have g2' := Kd.C_below g2 hb2
          have callB : ∀ Wq, Below W2.heap.size W2 Wq → Calls Tryz.prog 48 #[.agg #[.string y.f0, .string y.f1.f0, .slice B2 y.f1.f1.length d2, .bool y.f2], .agg #[.string x.f0, .string x.f1.f0, .slice A2 x.f1.f1.length c2, .bool x.f2]] Wq fun e w'' => e = .returned (.int .i64 (cmpLoan y x)) ∧ Below W2.heap.size W2 w'' := fun Wq hq =>
            (envCmp y x B2 d2 A2 c2 Wq (Kd.C_below h2 hq) n2 (Kd.C_below g2' hq) l2).mono fun e w'' h => ⟨h.1, hq.trans (h.2.mono hq.size)⟩
          have hstep : risingB ls = ((loanOK x && decide (cmpLoan y x < 0)) && risingFrom (prevAt ls (m + 1 + 1)) (ls.drop (m + 1 + 1))) := by
            rw [HR.out, List.drop_eq_getElem_cons hlt]
            have e : ls[m + 1] = x := by rw [List.getElem?_eq_getElem hlt] at hrd; exact Option.some.inj hrd
            rw [e]
            simp [risingFrom, prevAt, hrd, hrdy]
          rw [hlo] at hstep
          clear hlo y0 y1 y2 y3 hrd hrdy h0
          generalize hcy : cmpLoan y x = cy at *
          clear hcy
          by_cases hneg : 0 ≤ cy
          · have hd1 : decide (0 ≤ cy) = true := decide_eq_true hneg
            have hall : risingB ls = false := by rw [hstep, decide_eq_false (by omega)]; rfl
            clear hstep
            refine region_cls (fun W' => Below W2.heap.size W2 W') (by kernel_rfl) (by kernel_rfl) (below_drew1 (Below.refl _ W2)) ?_
            go_big_quiet_want
            refine ⟨.agg #[.string x.f0, .string x.f1.f0, .slice A2 x.f1.f1.length c2, .bool x.f2], fun Wq hWq => ?_, ?_⟩
            · have q0 := k0 Wq hWq
              have q1 := k1 Wq hWq
              have q2 := k2 Wq hWq
              have q3 := k3 Wq hWq
              have ca := callA Wq hWq
              have p0 := m0 Wq hWq
              have p1 := m1 Wq hWq
              have p2 := m2 Wq hWq
              have p3 := m3 Wq hWq
              have cb := callB Wq hWq
              clear k0 k1 k2 k3 callA m0 m1 m2 m3 callB
              unfold Oper.quietAt
              go_simp
            simp only [Act.put, List.setIfInBounds_toArray, List.set_cons_zero, List.set_cons_succ]
            go_big_quiet_on
            go_big_quiet_want
            refine ⟨.bool true, fun Wq hWq => ?_, ?_⟩
            · have q0 := k0 Wq hWq
              have q1 := k1 Wq hWq
              have q2 := k2 Wq hWq
              have q3 := k3 Wq hWq
              have ca := callA Wq hWq
              have p0 := m0 Wq hWq
              have p1 := m1 Wq hWq
              have p2 := m2 Wq hWq
              have p3 := m3 Wq hWq
              have cb := callB Wq hWq
              clear k0 k1 k2 k3 callA m0 m1 m2 m3 callB
              unfold Oper.quietAt
              go_simp
            simp only [Act.put, List.setIfInBounds_toArray, List.set_cons_zero, List.set_cons_succ]
            go_big_quiet_on
            go_big_quiet_want
            refine ⟨.bool false, fun Wq hWq => ?_, ?_⟩
            · have q0 := k0 Wq hWq
              have q1 := k1 Wq hWq
              have q2 := k2 Wq hWq
              have q3 := k3 Wq hWq
              have ca := callA Wq hWq
              have p0 := m0 Wq hWq
              have p1 := m1 Wq hWq
              have p2 := m2 Wq hWq
              have p3 := m3 Wq hWq
              have cb := callB Wq hWq
              clear k0 k1 k2 k3 callA m0 m1 m2 m3 callB
              unfold Oper.quietAt
              go_simp
            simp only [Act.put, List.setIfInBounds_toArray, List.set_cons_zero, List.set_cons_succ]
            go_big_quiet_on
            go_big_quiet_want
            refine ⟨.bool false, fun Wq hWq => ?_, ?_⟩
            · have q0 := k0 Wq hWq
              have q1 := k1 Wq hWq
              have q2 := k2 Wq hWq
              have q3 := k3 Wq hWq
              have ca := callA Wq hWq
              have p0 := m0 Wq hWq
              have p1 := m1 Wq hWq
              have p2 := m2 Wq hWq
              have p3 := m3 Wq hWq
              have cb := callB Wq hWq
              clear k0 k1 k2 k3 callA m0 m1 m2 m3 callB
              unfold Oper.quietAt
              go_simp
            simp only [Act.put, List.setIfInBounds_toArray, List.set_cons_zero, List.set_cons_succ]
            go_big_quiet_on
            go_big_quiet_want
            refine ⟨.int .i64 ((m : Int) + 1), fun Wq hWq => ?_, ?_⟩
            · have q0 := k0 Wq hWq
              have q1 := k1 Wq hWq
              have q2 := k2 Wq hWq
              have q3 := k3 Wq hWq
              have ca := callA Wq hWq
              have p0 := m0 Wq hWq
              have p1 := m1 Wq hWq
              have p2 := m2 Wq hWq
              have p3 := m3 Wq hWq
              have cb := callB Wq hWq
              clear k0 k1 k2 k3 callA m0 m1 m2 m3 callB
              unfold Oper.quietAt
              go_simp
            simp only [Act.put, List.setIfInBounds_toArray, List.set_cons_zero, List.set_cons_succ]
            go_big_quiet_on
            go_big_quiet_want
            refine ⟨.bool true, fun Wq hWq => ?_, ?_⟩
            · have q0 := k0 Wq hWq
              have q1 := k1 Wq hWq
              have q2 := k2 Wq hWq
              have q3 := k3 Wq hWq
              have ca := callA Wq hWq
              have p0 := m0 Wq hWq
              have p1 := m1 Wq hWq
              have p2 := m2 Wq hWq
              have p3 := m3 Wq hWq
              have cb := callB Wq hWq
              clear k0 k1 k2 k3 callA m0 m1 m2 m3 callB
              unfold Oper.quietAt
              go_simp
            simp only [Act.put, List.setIfInBounds_toArray, List.set_cons_zero, List.set_cons_succ]
            go_big_quiet_on
            go_big_quiet_want
            refine ⟨.bool true, fun Wq hWq => ?_, ?_⟩
            · have q0 := k0 Wq hWq
              have q1 := k1 Wq hWq
              have q2 := k2 Wq hWq
              have q3 := k3 Wq hWq
              have ca := callA Wq hWq
              have p0 := m0 Wq hWq
              have p1 := m1 Wq hWq
              have p2 := m2 Wq hWq
              have p3 := m3 Wq hWq
              have cb := callB Wq hWq
              clear k0 k1 k2 k3 callA m0 m1 m2 m3 callB
              unfold Oper.quietAt
              go_simp
            simp only [Act.put, List.setIfInBounds_toArray, List.set_cons_zero, List.set_cons_succ]
            go_big_quiet_on
            go_big_quiet_want
            refine ⟨.slice (some ad) ls.length c, fun Wq hWq => ?_, ?_⟩
            · have q0 := k0 Wq hWq
              have q1 := k1 Wq hWq
              have q2 := k2 Wq hWq
              have q3 := k3 Wq hWq
              have ca := callA Wq hWq
              have p0 := m0 Wq hWq
              have p1 := m1 Wq hWq
              have p2 := m2 Wq hWq
              have p3 := m3 Wq hWq
              have cb := callB Wq hWq
              clear k0 k1 k2 k3 callA m0 m1 m2 m3 callB
              unfold Oper.quietAt
              go_simp
            simp only [Act.put, List.setIfInBounds_toArray, List.set_cons_zero, List.set_cons_succ]
            go_big_quiet_on
            go_big_quiet_want
            refine ⟨.int .i64 ((m : Int) + 1), fun Wq hWq => ?_, ?_⟩
            · have q0 := k0 Wq hWq
              have q1 := k1 Wq hWq
              have q2 := k2 Wq hWq
              have q3 := k3 Wq hWq
              have ca := callA Wq hWq
              have p0 := m0 Wq hWq
              have p1 := m1 Wq hWq
              have p2 := m2 Wq hWq
              have p3 := m3 Wq hWq
              have cb := callB Wq hWq
              clear k0 k1 k2 k3 callA m0 m1 m2 m3 callB
              unfold Oper.quietAt
              go_simp
            simp only [Act.put, List.setIfInBounds_toArray, List.set_cons_zero, List.set_cons_succ]
            go_big_quiet_on
            go_big_quiet_want
            refine ⟨.int .i64 (m : Int), fun Wq hWq => ?_, ?_⟩
            · have q0 := k0 Wq hWq
              have q1 := k1 Wq hWq
              have q2 := k2 Wq hWq
              have q3 := k3 Wq hWq
              have ca := callA Wq hWq
              have p0 := m0 Wq hWq
              have p1 := m1 Wq hWq
              have p2 := m2 Wq hWq
              have p3 := m3 Wq hWq
              have cb := callB Wq hWq
              clear k0 k1 k2 k3 callA m0 m1 m2 m3 callB
              unfold Oper.quietAt
              go_simp
            simp only [Act.put, List.setIfInBounds_toArray, List.set_cons_zero, List.set_cons_succ]
            go_big_quiet_on
            go_big_quiet_want
            refine ⟨.pointer (some (ad.add (m * 4))), fun Wq hWq => ?_, ?_⟩
            · have q0 := k0 Wq hWq
              have q1 := k1 Wq hWq
              have q2 := k2 Wq hWq
              have q3 := k3 Wq hWq
              have ca := callA Wq hWq
              have p0 := m0 Wq hWq
              have p1 := m1 Wq hWq
              have p2 := m2 Wq hWq
              have p3 := m3 Wq hWq
              have cb := callB Wq hWq
              clear k0 k1 k2 k3 callA m0 m1 m2 m3 callB
              unfold Oper.quietAt
              go_simp
            simp only [Act.put, List.setIfInBounds_toArray, List.set_cons_zero, List.set_cons_succ]
            go_big_quiet_on
            go_big_quiet_want
            refine ⟨.agg #[.string y.f0, .string y.f1.f0, .slice B2 y.f1.f1.length d2, .bool y.f2], fun Wq hWq => ?_, ?_⟩
            · have q0 := k0 Wq hWq
              have q1 := k1 Wq hWq
              have q2 := k2 Wq hWq
              have q3 := k3 Wq hWq
              have ca := callA Wq hWq
              have p0 := m0 Wq hWq
              have p1 := m1 Wq hWq
              have p2 := m2 Wq hWq
              have p3 := m3 Wq hWq
              have cb := callB Wq hWq
              clear k0 k1 k2 k3 callA m0 m1 m2 m3 callB
              unfold Oper.quietAt
              go_simp
            simp only [Act.put, List.setIfInBounds_toArray, List.set_cons_zero, List.set_cons_succ]
            go_big_quiet_on
            go_big_quiet_want
            refine ⟨.agg #[.string x.f0, .string x.f1.f0, .slice A2 x.f1.f1.length c2, .bool x.f2], fun Wq hWq => ?_, ?_⟩
            · have q0 := k0 Wq hWq
              have q1 := k1 Wq hWq
              have q2 := k2 Wq hWq
              have q3 := k3 Wq hWq
              have ca := callA Wq hWq
              have p0 := m0 Wq hWq
              have p1 := m1 Wq hWq
              have p2 := m2 Wq hWq
              have p3 := m3 Wq hWq
              have cb := callB Wq hWq
              clear k0 k1 k2 k3 callA m0 m1 m2 m3 callB
              unfold Oper.quietAt
              go_simp
            simp only [Act.put, List.setIfInBounds_toArray, List.set_cons_zero, List.set_cons_succ]
            go_big_quiet_on
            go_big_quiet_want
            refine ⟨.int .i64 (cy), fun Wq hWq => ?_, ?_⟩
            · have q0 := k0 Wq hWq
              have q1 := k1 Wq hWq
              have q2 := k2 Wq hWq
              have q3 := k3 Wq hWq
              have ca := callA Wq hWq
              have p0 := m0 Wq hWq
              have p1 := m1 Wq hWq
              have p2 := m2 Wq hWq
              have p3 := m3 Wq hWq
              have cb := callB Wq hWq
              clear k0 k1 k2 k3 callA m0 m1 m2 m3 callB
              unfold Oper.quietAt
              go_simp
            simp only [Act.put, List.setIfInBounds_toArray, List.set_cons_zero, List.set_cons_succ]
            go_big_quiet_on
            go_big_quiet_want
            refine ⟨.bool true, fun Wq hWq => ?_, ?_⟩
            · have q0 := k0 Wq hWq
              have q1 := k1 Wq hWq
              have q2 := k2 Wq hWq
              have q3 := k3 Wq hWq
              have ca := callA Wq hWq
              have p0 := m0 Wq hWq
              have p1 := m1 Wq hWq
              have p2 := m2 Wq hWq
              have p3 := m3 Wq hWq
              have cb := callB Wq hWq
              clear k0 k1 k2 k3 callA m0 m1 m2 m3 callB
              unfold Oper.quietAt
              go_simp
            simp only [Act.put, List.setIfInBounds_toArray, List.set_cons_zero, List.set_cons_succ]
            go_big_quiet_on
            go_big_quiet_want
            refine ⟨.bool true, fun Wq hWq => ?_, ?_⟩
            · have q0 := k0 Wq hWq
              have q1 := k1 Wq hWq
              have q2 := k2 Wq hWq
              have q3 := k3 Wq hWq
              have ca := callA Wq hWq
              have p0 := m0 Wq hWq
              have p1 := m1 Wq hWq
              have p2 := m2 Wq hWq
              have p3 := m3 Wq hWq
              have cb := callB Wq hWq
              clear k0 k1 k2 k3 callA m0 m1 m2 m3 callB
              unfold Oper.quietAt
              go_simp
            simp only [Act.put, List.setIfInBounds_toArray, List.set_cons_zero, List.set_cons_succ]
            go_big_quiet_on
            go_big_quiet_want
            refine ⟨.bool true, fun Wq hWq => ?_, ?_⟩
            · have q0 := k0 Wq hWq
              have q1 := k1 Wq hWq
              have q2 := k2 Wq hWq
              have q3 := k3 Wq hWq
              have ca := callA Wq hWq
              have p0 := m0 Wq hWq
              have p1 := m1 Wq hWq
              have p2 := m2 Wq hWq
              have p3 := m3 Wq hWq
              have cb := callB Wq hWq
              clear k0 k1 k2 k3 callA m0 m1 m2 m3 callB
              unfold Oper.quietAt
              go_simp
            simp only [Act.put, List.setIfInBounds_toArray, List.set_cons_zero, List.set_cons_succ]
            go_big_quiet_on
            refine wpQuiet_nil ?_
            intro W3 hW3
            clear k0 k1 k2 k3 callA m0 m1 m2 m3 callB
            go_wp2
            go_ret
            exact ⟨by first | rfl | (rw [hall]; rfl), bk.trans (hW3.mono bk.size)⟩
          · have hd1 : decide (0 ≤ cy) = false := decide_eq_false hneg
            have hnext : risingB ls = risingFrom (prevAt ls (m + 1 + 1)) (ls.drop (m + 1 + 1)) := by rw [hstep, decide_eq_true (by omega)]; rfl
            clear hstep
            refine region_cls (fun W' => Below W2.heap.size W2 W') (by kernel_rfl) (by kernel_rfl) (below_drew1 (Below.refl _ W2)) ?_
            go_big_quiet_want
            refine ⟨.agg #[.string x.f0, .string x.f1.f0, .slice A2 x.f1.f1.length c2, .bool x.f2], fun Wq hWq => ?_, ?_⟩
            · have q0 := k0 Wq hWq
              have q1 := k1 Wq hWq
              have q2 := k2 Wq hWq
              have q3 := k3 Wq hWq
              have ca := callA Wq hWq
              have p0 := m0 Wq hWq
              have p1 := m1 Wq hWq
              have p2 := m2 Wq hWq
              have p3 := m3 Wq hWq
              have cb := callB Wq hWq
              clear k0 k1 k2 k3 callA m0 m1 m2 m3 callB
              unfold Oper.quietAt
              go_simp
            simp only [Act.put, List.setIfInBounds_toArray, List.set_cons_zero, List.set_cons_succ]
            go_big_quiet_on
            go_big_quiet_want
            refine ⟨.bool true, fun Wq hWq => ?_, ?_⟩
            · have q0 := k0 Wq hWq
              have q1 := k1 Wq hWq
              have q2 := k2 Wq hWq
              have q3 := k3 Wq hWq
              have ca := callA Wq hWq
              have p0 := m0 Wq hWq
              have p1 := m1 Wq hWq
              have p2 := m2 Wq hWq
              have p3 := m3 Wq hWq
              have cb := callB Wq hWq
              clear k0 k1 k2 k3 callA m0 m1 m2 m3 callB
              unfold Oper.quietAt
              go_simp
            simp only [Act.put, List.setIfInBounds_toArray, List.set_cons_zero, List.set_cons_succ]
            go_big_quiet_on
            go_big_quiet_want
            refine ⟨.bool false, fun Wq hWq => ?_, ?_⟩
            · have q0 := k0 Wq hWq
              have q1 := k1 Wq hWq
              have q2 := k2 Wq hWq
              have q3 := k3 Wq hWq
              have ca := callA Wq hWq
              have p0 := m0 Wq hWq
              have p1 := m1 Wq hWq
              have p2 := m2 Wq hWq
              have p3 := m3 Wq hWq
              have cb := callB Wq hWq
              clear k0 k1 k2 k3 callA m0 m1 m2 m3 callB
              unfold Oper.quietAt
              go_simp
            simp only [Act.put, List.setIfInBounds_toArray, List.set_cons_zero, List.set_cons_succ]
            go_big_quiet_on
            go_big_quiet_want
            refine ⟨.bool false, fun Wq hWq => ?_, ?_⟩
            · have q0 := k0 Wq hWq
              have q1 := k1 Wq hWq
              have q2 := k2 Wq hWq
              have q3 := k3 Wq hWq
              have ca := callA Wq hWq
              have p0 := m0 Wq hWq
              have p1 := m1 Wq hWq
              have p2 := m2 Wq hWq
              have p3 := m3 Wq hWq
              have cb := callB Wq hWq
              clear k0 k1 k2 k3 callA m0 m1 m2 m3 callB
              unfold Oper.quietAt
              go_simp
            simp only [Act.put, List.setIfInBounds_toArray, List.set_cons_zero, List.set_cons_succ]
            go_big_quiet_on
            go_big_quiet_want
            refine ⟨.int .i64 ((m : Int) + 1), fun Wq hWq => ?_, ?_⟩
            · have q0 := k0 Wq hWq
              have q1 := k1 Wq hWq
              have q2 := k2 Wq hWq
              have q3 := k3 Wq hWq
              have ca := callA Wq hWq
              have p0 := m0 Wq hWq
              have p1 := m1 Wq hWq
              have p2 := m2 Wq hWq
              have p3 := m3 Wq hWq
              have cb := callB Wq hWq
              clear k0 k1 k2 k3 callA m0 m1 m2 m3 callB
              unfold Oper.quietAt
              go_simp
            simp only [Act.put, List.setIfInBounds_toArray, List.set_cons_zero, List.set_cons_succ]
            go_big_quiet_on
            go_big_quiet_want
            refine ⟨.bool true, fun Wq hWq => ?_, ?_⟩
            · have q0 := k0 Wq hWq
              have q1 := k1 Wq hWq
              have q2 := k2 Wq hWq
              have q3 := k3 Wq hWq
              have ca := callA Wq hWq
              have p0 := m0 Wq hWq
              have p1 := m1 Wq hWq
              have p2 := m2 Wq hWq
              have p3 := m3 Wq hWq
              have cb := callB Wq hWq
              clear k0 k1 k2 k3 callA m0 m1 m2 m3 callB
              unfold Oper.quietAt
              go_simp
            simp only [Act.put, List.setIfInBounds_toArray, List.set_cons_zero, List.set_cons_succ]
            go_big_quiet_on
            go_big_quiet_want
            refine ⟨.bool true, fun Wq hWq => ?_, ?_⟩
            · have q0 := k0 Wq hWq
              have q1 := k1 Wq hWq
              have q2 := k2 Wq hWq
              have q3 := k3 Wq hWq
              have ca := callA Wq hWq
              have p0 := m0 Wq hWq
              have p1 := m1 Wq hWq
              have p2 := m2 Wq hWq
              have p3 := m3 Wq hWq
              have cb := callB Wq hWq
              clear k0 k1 k2 k3 callA m0 m1 m2 m3 callB
              unfold Oper.quietAt
              go_simp
            simp only [Act.put, List.setIfInBounds_toArray, List.set_cons_zero, List.set_cons_succ]
            go_big_quiet_on
            go_big_quiet_want
            refine ⟨.slice (some ad) ls.length c, fun Wq hWq => ?_, ?_⟩
            · have q0 := k0 Wq hWq
              have q1 := k1 Wq hWq
              have q2 := k2 Wq hWq
              have q3 := k3 Wq hWq
              have ca := callA Wq hWq
              have p0 := m0 Wq hWq
              have p1 := m1 Wq hWq
              have p2 := m2 Wq hWq
              have p3 := m3 Wq hWq
              have cb := callB Wq hWq
              clear k0 k1 k2 k3 callA m0 m1 m2 m3 callB
              unfold Oper.quietAt
              go_simp
            simp only [Act.put, List.setIfInBounds_toArray, List.set_cons_zero, List.set_cons_succ]
            go_big_quiet_on
            go_big_quiet_want
            refine ⟨.int .i64 ((m : Int) + 1), fun Wq hWq => ?_, ?_⟩
            · have q0 := k0 Wq hWq
              have q1 := k1 Wq hWq
              have q2 := k2 Wq hWq
              have q3 := k3 Wq hWq
              have ca := callA Wq hWq
              have p0 := m0 Wq hWq
              have p1 := m1 Wq hWq
              have p2 := m2 Wq hWq
              have p3 := m3 Wq hWq
              have cb := callB Wq hWq
              clear k0 k1 k2 k3 callA m0 m1 m2 m3 callB
              unfold Oper.quietAt
              go_simp
            simp only [Act.put, List.setIfInBounds_toArray, List.set_cons_zero, List.set_cons_succ]
            go_big_quiet_on
            go_big_quiet_want
            refine ⟨.int .i64 (m : Int), fun Wq hWq => ?_, ?_⟩
            · have q0 := k0 Wq hWq
              have q1 := k1 Wq hWq
              have q2 := k2 Wq hWq
              have q3 := k3 Wq hWq
              have ca := callA Wq hWq
              have p0 := m0 Wq hWq
              have p1 := m1 Wq hWq
              have p2 := m2 Wq hWq
              have p3 := m3 Wq hWq
              have cb := callB Wq hWq
              clear k0 k1 k2 k3 callA m0 m1 m2 m3 callB
              unfold Oper.quietAt
              go_simp
            simp only [Act.put, List.setIfInBounds_toArray, List.set_cons_zero, List.set_cons_succ]
            go_big_quiet_on
            go_big_quiet_want
            refine ⟨.pointer (some (ad.add (m * 4))), fun Wq hWq => ?_, ?_⟩
            · have q0 := k0 Wq hWq
              have q1 := k1 Wq hWq
              have q2 := k2 Wq hWq
              have q3 := k3 Wq hWq
              have ca := callA Wq hWq
              have p0 := m0 Wq hWq
              have p1 := m1 Wq hWq
              have p2 := m2 Wq hWq
              have p3 := m3 Wq hWq
              have cb := callB Wq hWq
              clear k0 k1 k2 k3 callA m0 m1 m2 m3 callB
              unfold Oper.quietAt
              go_simp
            simp only [Act.put, List.setIfInBounds_toArray, List.set_cons_zero, List.set_cons_succ]
            go_big_quiet_on
            go_big_quiet_want
            refine ⟨.agg #[.string y.f0, .string y.f1.f0, .slice B2 y.f1.f1.length d2, .bool y.f2], fun Wq hWq => ?_, ?_⟩
            · have q0 := k0 Wq hWq
              have q1 := k1 Wq hWq
              have q2 := k2 Wq hWq
              have q3 := k3 Wq hWq
              have ca := callA Wq hWq
              have p0 := m0 Wq hWq
              have p1 := m1 Wq hWq
              have p2 := m2 Wq hWq
              have p3 := m3 Wq hWq
              have cb := callB Wq hWq
              clear k0 k1 k2 k3 callA m0 m1 m2 m3 callB
              unfold Oper.quietAt
              go_simp
            simp only [Act.put, List.setIfInBounds_toArray, List.set_cons_zero, List.set_cons_succ]
            go_big_quiet_on
            go_big_quiet_want
            refine ⟨.agg #[.string x.f0, .string x.f1.f0, .slice A2 x.f1.f1.length c2, .bool x.f2], fun Wq hWq => ?_, ?_⟩
            · have q0 := k0 Wq hWq
              have q1 := k1 Wq hWq
              have q2 := k2 Wq hWq
              have q3 := k3 Wq hWq
              have ca := callA Wq hWq
              have p0 := m0 Wq hWq
              have p1 := m1 Wq hWq
              have p2 := m2 Wq hWq
              have p3 := m3 Wq hWq
              have cb := callB Wq hWq
              clear k0 k1 k2 k3 callA m0 m1 m2 m3 callB
              unfold Oper.quietAt
              go_simp
            simp only [Act.put, List.setIfInBounds_toArray, List.set_cons_zero, List.set_cons_succ]
            go_big_quiet_on
            go_big_quiet_want
            refine ⟨.int .i64 (cy), fun Wq hWq => ?_, ?_⟩
            · have q0 := k0 Wq hWq
              have q1 := k1 Wq hWq
              have q2 := k2 Wq hWq
              have q3 := k3 Wq hWq
              have ca := callA Wq hWq
              have p0 := m0 Wq hWq
              have p1 := m1 Wq hWq
              have p2 := m2 Wq hWq
              have p3 := m3 Wq hWq
              have cb := callB Wq hWq
              clear k0 k1 k2 k3 callA m0 m1 m2 m3 callB
              unfold Oper.quietAt
              go_simp
            simp only [Act.put, List.setIfInBounds_toArray, List.set_cons_zero, List.set_cons_succ]
            go_big_quiet_on
            go_big_quiet_want
            refine ⟨.bool false, fun Wq hWq => ?_, ?_⟩
            · have q0 := k0 Wq hWq
              have q1 := k1 Wq hWq
              have q2 := k2 Wq hWq
              have q3 := k3 Wq hWq
              have ca := callA Wq hWq
              have p0 := m0 Wq hWq
              have p1 := m1 Wq hWq
              have p2 := m2 Wq hWq
              have p3 := m3 Wq hWq
              have cb := callB Wq hWq
              clear k0 k1 k2 k3 callA m0 m1 m2 m3 callB
              unfold Oper.quietAt
              go_simp
            simp only [Act.put, List.setIfInBounds_toArray, List.set_cons_zero, List.set_cons_succ]
            go_big_quiet_on
            go_big_quiet_want
            refine ⟨.bool false, fun Wq hWq => ?_, ?_⟩
            · have q0 := k0 Wq hWq
              have q1 := k1 Wq hWq
              have q2 := k2 Wq hWq
              have q3 := k3 Wq hWq
              have ca := callA Wq hWq
              have p0 := m0 Wq hWq
              have p1 := m1 Wq hWq
              have p2 := m2 Wq hWq
              have p3 := m3 Wq hWq
              have cb := callB Wq hWq
              clear k0 k1 k2 k3 callA m0 m1 m2 m3 callB
              unfold Oper.quietAt
              go_simp
            simp only [Act.put, List.setIfInBounds_toArray, List.set_cons_zero, List.set_cons_succ]
            go_big_quiet_on
            go_big_quiet_want
            refine ⟨.bool false, fun Wq hWq => ?_, ?_⟩
            · have q0 := k0 Wq hWq
              have q1 := k1 Wq hWq
              have q2 := k2 Wq hWq
              have q3 := k3 Wq hWq
              have ca := callA Wq hWq
              have p0 := m0 Wq hWq
              have p1 := m1 Wq hWq
              have p2 := m2 Wq hWq
              have p3 := m3 Wq hWq
              have cb := callB Wq hWq
              clear k0 k1 k2 k3 callA m0 m1 m2 m3 callB
              unfold Oper.quietAt
              go_simp
            simp only [Act.put, List.setIfInBounds_toArray, List.set_cons_zero, List.set_cons_succ]
            go_big_quiet_on
            refine wpQuiet_nil ?_
            intro W3 hW3
            clear k0 k1 k2 k3 callA m0 m1 m2 m3 callB
            go_wp2
            go_roundg (ls.length - (m + 1 + 1))
            case measure => omega
            case rel => exact ⟨m + 1 + 1, by omega, by omega, by go_num, bk.trans (hW3.mono bk.size), hnext⟩
    · have hltz : ¬ (kk : Int) < (ls.length : Int) := by omega
      have hall : risingB ls = true := by rw [HR.out, List.drop_eq_nil_of_le (by omega), risingFrom_nil]
      go_wp2
      go_ret
      exact ⟨by first | rfl | (rw [hall]; rfl), BW.out⟩
end Go.Proofs.YtadjekpfehjibaaGreatDoor.PEnv
namespace Go.Proofs.YtadjekpfehjibaaGreatDoor.PEnv
open Go.RowKit Go.Shelf Go.Proofs.YtadjekpfehjibaaGreatDoorW.PrintWords Go.Proofs.YtadjekpfehjibaaGreatDoorW.PrintLast Go.Proofs.YtadjekpfehjibaaGreatDoorW.PrintMore Go.Proofs.YtadjekpfehjibaaGreatDoor.PEnvJoins
/-- The first test of env.right: what makes a type wrong by itself. -/
def headBad (t : S31) : Bool := ((!decide (t.f0 = 4) && (t.f1 || decide (0 < t.f3.length))) || ((decide (t.f0 = 4) && t.f2) && !t.f1)) || !risingB t.f3
def plainHead : List S31 → Bool
  | [] => true
  | k :: _ => plainT k
def tailOK (t : S31) : Bool :=
  if t.f0 = 1 then decide (t.f4.length = 0) && !t.f2
  else if t.f0 = 3 then (decide (2 ≤ t.f4.length) && decide (t.f4.length ≤ 30)) && !t.f2
  else ((decide (t.f0 = 4) || decide (t.f0 = 2)) && decide (t.f4.length = 1)) && plainHead t.f4
mutual
def rightT : S31 → Bool
  | ⟨a, b, c, d, e⟩ => (!headBad ⟨a, b, c, d, e⟩ && rightL e) && tailOK ⟨a, b, c, d, e⟩
def rightL : List S31 → Bool
  | [] => true
  | t :: ts => rightT t && rightL ts
end
theorem rightT_eq (t : S31) : rightT t = ((!headBad t && rightL t.f4) && tailOK t) := by cases t; rfl
theorem rightL_all : ∀ ts : List S31, rightL ts = ts.all rightT
  | [] => rfl
  | t :: ts => by rw [List.all_cons, ← rightL_all ts]; rfl
/-- A callee's word on a type: what it answers, at every place where the type may lie. -/
def TyWord (f : Nat) (ans : S31 → Bool) (t : S31) : Prop :=
  ∀ (A3 : Option Addr) (c3 : Nat) (A4 : Option Addr) (c4 : Nat) (w : World), t.f3.length ≤ c3 → Kd.C k44 w A3 t.f3.length t.f3 → t.f4.length ≤ c4 → Kd.C k31 w A4 t.f4.length t.f4 →
    Calls Tryz.prog f #[.agg #[.int .i64 t.f0, .bool t.f1, .bool t.f2, .slice A3 t.f3.length c3, .slice A4 t.f4.length c4]] w fun e w' => e = .returned (.bool (ans t)) ∧ Below w.heap.size w w'
set_option maxHeartbeats 1000000 in
/-- env.right$1. -/
theorem right1 (t : S31) (h : TyWord 22 rightT t) : TyWord 41 (fun t => !rightT t) t := by
  intro A3 c3 A4 c4 w l3 g3 l4 g4
  have hb : Below w.heap.size w (w.alloc (.cells #[.int .i64 t.f0, .bool t.f1, .bool t.f2, .slice A3 t.f3.length c3, .slice A4 t.f4.length c4] 31)) := (Below.refl _ w).alloc (Nat.le_refl _) _
  have hcall := h A3 c3 A4 c4 _ l3 (Kd.C_below g3 hb) l4 (Kd.C_below g4 hb)
  clear h
  go_enter Tryz.func41, Tryz.ntmps41
  go_wp2_with (go_at_call 22; refine hcall.mono ?_; rintro e w' ⟨rfl, hb2⟩)
  go_ret
  exact ⟨rfl, hb.trans (hb2.mono hb.size)⟩
/-- slices.ContainsFunc of kids, at a function whose word is known of each. -/
theorem conKids (f : Nat) (eg : ∀ args w, (callFunc f args).run Tryz.prog w = .ok (.enter f args) w) (ans : S31 → Bool) (ts : List S31) (h : ∀ k ∈ ts, TyWord f ans k) (A : Option Addr) (c : Nat) (W : World) (hC : Kd.C k31 W A ts.length ts) :
    Calls Tryz.prog 40 #[.slice A ts.length c, .func (.func f) #[] #[]] W fun e W' => e = .returned (.bool (ts.any ans)) ∧ Below W.heap.size W W' := by
  obtain ⟨vs, hv, hvK⟩ := els_of_C hC
  refine (conTy f #[] eg A ts.length c vs W W (fun i W' => Below W.heap.size W W' ∧ ∀ j l, j < i → ts[j]? = some l → ans l = false) (fun i W' => Below W.heap.size W W' ∧ ∃ l, ts[i]? = some l ∧ ans l = true)
    hv (fun i W' h => h.1) ?_ ⟨Below.refl _ _, fun j l hj => absurd hj (Nat.not_lt_zero _)⟩).mono ?_
  · rintro i cs W1 hi ⟨hb, hn⟩
    have hl : i < ts.length := by have := idx_lt hi; have := hv.1; omega
    obtain ⟨cs', e, hK⟩ := hvK i _ (List.getElem?_eq_getElem hl)
    rw [hi] at e
    cases e
    obtain ⟨A3, c3, A4, c4, rfl, l3, g3, l4, g4⟩ := k31_open hK
    refine (h ts[i] (List.getElem_mem hl) A3 c3 A4 c4 W1 l3 (Kd.C_below g3 hb) l4 (Kd.C_below g4 hb)).mono ?_
    rintro e W2 ⟨rfl, hb2⟩
    cases hh : ans ts[i] with
    | true => exact .inr ⟨rfl, hb.trans (hb2.mono hb.size), _, List.getElem?_eq_getElem hl, hh⟩
    | false =>
      refine .inl ⟨rfl, hb.trans (hb2.mono hb.size), fun j l hj hjl => ?_⟩
      by_cases hji : j = i
      · subst hji
        rw [List.getElem?_eq_getElem hl] at hjl
        cases hjl
        exact hh
      · exact hn j l (by omega) hjl
  · rintro e W1 (⟨rfl, hb, hn⟩ | ⟨rfl, k, hk, hb, l, hl, hh⟩)
    · refine ⟨?_, hb⟩
      have : ts.any ans = false := by
        rw [List.any_eq_false]
        intro l hl
        obtain ⟨j, hj⟩ := List.mem_iff_getElem?.mp hl
        rw [hn j l (idx_lt hj) hj]
        simp
      rw [this]
    · refine ⟨?_, hb⟩
      have : ts.any ans = true := List.any_eq_true.mpr ⟨l, List.mem_of_getElem? hl, hh⟩
      rw [this]
end Go.Proofs.YtadjekpfehjibaaGreatDoor.PEnv
namespace Go.Proofs.YtadjekpfehjibaaGreatDoor.PEnv
open Go.RowKit Go.Shelf Go.Proofs.YtadjekpfehjibaaGreatDoorW.PrintWords Go.Proofs.YtadjekpfehjibaaGreatDoorW.PrintLast Go.Proofs.YtadjekpfehjibaaGreatDoorW.PrintMore Go.Proofs.YtadjekpfehjibaaGreatDoor.PEnvJoins
set_option maxRecDepth 100000 in
set_option maxHeartbeats 8000000 in
/-- env.right, one step (k4). -/
theorem right_k4 (t : S31) (hk4 : t.f0 = 4) (hk : ∀ k ∈ t.f4, TyWord 22 rightT k) : TyWord 22 rightT t := by
  intro A3 c3 A4 c4 w l3 g3 l4 g4
  have hk1 : t.f0 ≠ 1 := by omega
  have hk3 : t.f0 ≠ 3 := by omega
  have hk2 : t.f0 ≠ 2 := by omega
  have hb1 : Below w.heap.size w (w.alloc (.cells #[.int .i64 t.f0, .bool t.f1, .bool t.f2, .slice A3 t.f3.length c3, .slice A4 t.f4.length c4] 31)) := (Below.refl _ w).alloc (Nat.le_refl _) _
  have e1 := World.alloc_heap_new w (.cells #[.int .i64 t.f0, .bool t.f1, .bool t.f2, .slice A3 t.f3.length c3, .slice A4 t.f4.length c4] 31)
  have cellF : ∀ i u, [Value.int .i64 t.f0, .bool t.f1, .bool t.f2, .slice A3 t.f3.length c3, .slice A4 t.f4.length c4][i]? = some u → ∀ W, Below (w.alloc (.cells #[.int .i64 t.f0, .bool t.f1, .bool t.f2, .slice A3 t.f3.length c3, .slice A4 t.f4.length c4] 31)).heap.size (w.alloc (.cells #[.int .i64 t.f0, .bool t.f1, .bool t.f2, .slice A3 t.f3.length c3, .slice A4 t.f4.length c4] 31)) W → W.cell? ⟨w.heap.size, i, none⟩ = some u := fun i u hu W hq => below_cell hq (by
    unfold World.cell?; rw [e1]; simpa using hu)
  clear e1
  obtain ⟨W1, hW1⟩ : ∃ W1, w.alloc (.cells #[.int .i64 t.f0, .bool t.f1, .bool t.f2, .slice A3 t.f3.length c3, .slice A4 t.f4.length c4] 31) = W1 := ⟨_, rfl⟩
  rw [hW1] at hb1 cellF
  have q0 := cellF 0 _ rfl W1 (Below.refl _ _)
  have q1 := cellF 1 _ rfl W1 (Below.refl _ _)
  have q2 := cellF 2 _ rfl W1 (Below.refl _ _)
  have q3 := cellF 3 _ rfl W1 (Below.refl _ _)
  have q4 := cellF 4 _ rfl W1 (Below.refl _ _)
  have hris := envRising t.f3 A3 c3 W1 (Kd.C_below g3 hb1) l3
  have eR := enters_of Tryz.func39 (by kernel_rfl) rfl
  have ePl := enters_of Tryz.func42 (by kernel_rfl) rfl
  have eg : ∀ args w, (callFunc 41 args).run Tryz.prog w = .ok (.enter 41 args) w := enters_of Tryz.func41 (by kernel_rfl) rfl
  have hany : t.f4.any (fun k => !rightT k) = !rightL t.f4 := by rw [rightL_all, List.not_all_eq_any_not]
  have hcon : ∀ W, Below W1.heap.size W1 W → Calls Tryz.prog 40 #[.slice A4 t.f4.length c4, .func (.func 41) #[] #[]] W fun e W' => e = .returned (.bool (!rightL t.f4)) ∧ Below W.heap.size W W' := fun W hW => by
    have h := conKids 41 eg (fun k => !rightT k) t.f4 (fun k hk' => right1 k (hk k hk')) A4 c4 W (Kd.C_below (Kd.C_below g4 hb1) hW)
    rw [hany] at h
    exact h
  clear hk hany
  have hh : headBad t = (((!decide (t.f0 = 4) && (t.f1 || decide (0 < t.f3.length))) || ((decide (t.f0 = 4) && t.f2) && !t.f1)) || !risingB t.f3) := rfl
  have hr : rightT t = ((!headBad t && rightL t.f4) && tailOK t) := rightT_eq t
  have ht : tailOK t = if t.f0 = 1 then decide (t.f4.length = 0) && !t.f2 else if t.f0 = 3 then (decide (2 ≤ t.f4.length) && decide (t.f4.length ≤ 30)) && !t.f2 else ((decide (t.f0 = 4) || decide (t.f0 = 2)) && decide (t.f4.length = 1)) && plainHead t.f4 := rfl
  have hpl : t.f4.length = 1 → ∃ k ad B3 d3 B4 d4, A4 = some ad ∧ plainHead t.f4 = plainT k ∧ ∀ W, Below W1.heap.size W1 W →
      (W.cell? ad = some (.int .i64 k.f0) ∧ W.cell? ⟨ad.block, ad.off + 1, none⟩ = some (.bool k.f1) ∧ W.cell? ⟨ad.block, ad.off + 2, none⟩ = some (.bool k.f2) ∧
       W.cell? ⟨ad.block, ad.off + 3, none⟩ = some (.slice B3 k.f3.length d3) ∧ W.cell? ⟨ad.block, ad.off + 4, none⟩ = some (.slice B4 k.f4.length d4)) ∧
      Calls Tryz.prog 42 #[.agg #[.int .i64 k.f0, .bool k.f1, .bool k.f2, .slice B3 k.f3.length d3, .slice B4 k.f4.length d4]] W fun e W' => e = .returned (.bool (plainT k)) ∧ Below W.heap.size W W' := by
    intro h1
    obtain ⟨ad, B3, d3, B4, d4, ead, y0, y1, y2, y3, y4, n3, p3, n4, p4⟩ := at_T31 (Kd.C_below g4 hb1) 0 (by omega) (by omega)
    have e0 : ad.add ((0 : Int).toNat * 5) = ad := by simp [Addr.add]
    rw [e0] at y0 y1 y2 y3 y4
    refine ⟨rd_T31 t.f4 0, ad, B3, d3, B4, d4, ead, ?_, fun W hW => ⟨⟨below_cell hW y0, below_cell hW y1, below_cell hW y2, below_cell hW y3, below_cell hW y4⟩, envPlain _ _ _ _ _ W n3 (Kd.C_below p3 hW) n4 (Kd.C_below p4 hW)⟩⟩
    generalize t.f4 = l at h1
    match l, h1 with
    | [k], _ => rfl
  clear g3 g4
  have hk4b : (t.f0 == 4) = true := by simp [hk4]
  have hk1b : (t.f0 == 1) = false := by simp [hk1]
  have hk3b : (t.f0 == 3) = false := by simp [hk3]
  have hk2b : (t.f0 == 2) = false := by simp [hk2]
  rw [decide_eq_true hk4] at hh
  rw [if_neg hk1, if_neg hk3, decide_eq_true hk4, Bool.true_or] at ht
  clear hk4 hk1 hk3 hk2
  go_enter Tryz.func22, Tryz.ntmps22
  go_upto_region 3 with fail
  go_cut [11] from 12 to 41 (fun v11 wx => v11 = .bool (headBad t) ∧ Below W1.heap.size W1 wx)
  case first =>
    clear cellF hcon hpl hr ht hW1
    rcases Bool.eq_false_or_eq_true t.f2 with h2 | h2
    · rcases Bool.eq_false_or_eq_true t.f1 with h1 | h1
      · rw [h1, h2] at hh
        rw [h1] at q1
        rw [h2] at q2
        clear h1 h2
        go_wp2_with (go_at_call 39; refine hris.mono ?_; rintro e w' ⟨rfl, hb2⟩)
        go_meet
        case rel => exact ⟨by rw [hh]; first | rfl | simp, by first | exact hb2 | exact Below.refl _ _⟩
      · rw [h1, h2] at hh
        rw [h1] at q1
        rw [h2] at q2
        clear h1 h2
        go_wp2_with (go_at_call 39; refine hris.mono ?_; rintro e w' ⟨rfl, hb2⟩)
        go_meet
        case rel => exact ⟨by rw [hh]; first | rfl | simp, by first | exact hb2 | exact Below.refl _ _⟩
    · rw [h2] at hh q2
      clear h2
      go_wp2_with (go_at_call 39; refine hris.mono ?_; rintro e w' ⟨rfl, hb2⟩)
      go_meet
      case rel => exact ⟨by rw [hh]; first | rfl | simp, by first | exact hb2 | exact Below.refl _ _⟩
  case rest =>
    obtain ⟨rfl, hbc⟩ := hcut
    have s0 := cellF 0 _ rfl wc hbc
    have s1 := cellF 1 _ rfl wc hbc
    have s2 := cellF 2 _ rfl wc hbc
    have s3 := cellF 3 _ rfl wc hbc
    have s4 := cellF 4 _ rfl wc hbc
    have hcn := hcon wc hbc
    clear hcon hris hh q0 q1 q2 q3 q4 hW1
    have fin1 : ∀ w', Below W1.heap.size W1 w' → Below w.heap.size w w' := fun w' h => hb1.trans (h.mono hb1.size)
    have fin2 : ∀ w', Below wc.heap.size wc w' → Below W1.heap.size W1 w' := fun w' h => hbc.trans (h.mono hbc.size)
    cases hhb : headBad t with
    | true =>
      have hrt : rightT t = false := by rw [hr, hhb]; rfl
      clear hpl cellF hcn
      go_wp2_with fail
      go_ret
      exact ⟨by first | rfl | (rw [hrt]; rfl), fin1 _ hbc⟩
    | false =>
      rw [hhb] at hr
      clear hhb
      cases hkl : rightL t.f4 with
      | false =>
        rw [hkl] at hr hcn
        have hrt : rightT t = false := by rw [hr]; rfl
        clear hpl hkl
        go_wp2_with (go_at_call 40; refine hcn.mono ?_; rintro e w2 ⟨rfl, hb2⟩; have hb3 := hbc.trans (hb2.mono hbc.size); have u0 := cellF 0 _ rfl w2 hb3; have u2 := cellF 2 _ rfl w2 hb3; have u4 := cellF 4 _ rfl w2 hb3)
        go_ret
        exact ⟨by first | rfl | (rw [hrt]; rfl), fin1 _ (fin2 _ hb2)⟩
      | true =>
        rw [hkl] at hr hcn
        have hrt : rightT t = tailOK t := by rw [hr]; cases tailOK t <;> rfl
        clear hkl hr
        rw [ht] at hrt
        clear ht
        by_cases hn : t.f4.length = 1
        · have hn1 : ((t.f4.length : Int) == 1) = true := beq_iff_eq.mpr (by omega)
          have hn2 : (0 : Int) < (t.f4.length : Int) := by omega
          obtain ⟨k, ad, B3, d3, B4, d4, rfl, hph, hPl⟩ := hpl hn
          rw [decide_eq_true hn, hph] at hrt
          have hrt : rightT t = plainT k := by rw [hrt]; simp
          clear hn hph
          go_wp2_with (first
            | (go_at_call 40; refine hcn.mono ?_; rintro e w2 ⟨rfl, hb2⟩; have hb3 := hbc.trans (hb2.mono hbc.size); have u0 := cellF 0 _ rfl w2 hb3; have u2 := cellF 2 _ rfl w2 hb3; have u4 := cellF 4 _ rfl w2 hb3; obtain ⟨⟨v0, v1, v2, v3, v4⟩, hplain⟩ := hPl w2 hb3)
            | (go_at_call 42; refine hplain.mono ?_; rintro e w3 ⟨rfl, hb4⟩))
          go_ret
          exact ⟨by first | rfl | (rw [hrt]; first | rfl | simp), fin1 _ (hb3.trans (hb4.mono hb3.size))⟩
        · have hn1 : ((t.f4.length : Int) == 1) = false := beq_eq_false_iff_ne.mpr (by omega)
          rw [decide_eq_false hn] at hrt
          clear hpl hn
          go_wp2_with (go_at_call 40; refine hcn.mono ?_; rintro e w2 ⟨rfl, hb2⟩; have hb3 := hbc.trans (hb2.mono hbc.size); have u0 := cellF 0 _ rfl w2 hb3; have u2 := cellF 2 _ rfl w2 hb3; have u4 := cellF 4 _ rfl w2 hb3)
          go_ret
          exact ⟨by first | rfl | (rw [hrt]; first | rfl | simp), fin1 _ (fin2 _ hb2)⟩
end Go.Proofs.YtadjekpfehjibaaGreatDoor.PEnv
namespace Go.Proofs.YtadjekpfehjibaaGreatDoor.PEnv
open Go.RowKit Go.Shelf Go.Proofs.YtadjekpfehjibaaGreatDoorW.PrintWords Go.Proofs.YtadjekpfehjibaaGreatDoorW.PrintLast Go.Proofs.YtadjekpfehjibaaGreatDoorW.PrintMore Go.Proofs.YtadjekpfehjibaaGreatDoor.PEnvJoins
set_option maxRecDepth 100000 in
set_option maxHeartbeats 8000000 in
/-- env.right, one step (k1). -/
theorem right_k1 (t : S31) (hk1 : t.f0 = 1) (hk : ∀ k ∈ t.f4, TyWord 22 rightT k) : TyWord 22 rightT t := by
  intro A3 c3 A4 c4 w l3 g3 l4 g4
  have hk4 : t.f0 ≠ 4 := by omega
  have hb1 : Below w.heap.size w (w.alloc (.cells #[.int .i64 t.f0, .bool t.f1, .bool t.f2, .slice A3 t.f3.length c3, .slice A4 t.f4.length c4] 31)) := (Below.refl _ w).alloc (Nat.le_refl _) _
  have e1 := World.alloc_heap_new w (.cells #[.int .i64 t.f0, .bool t.f1, .bool t.f2, .slice A3 t.f3.length c3, .slice A4 t.f4.length c4] 31)
  have cellF : ∀ i u, [Value.int .i64 t.f0, .bool t.f1, .bool t.f2, .slice A3 t.f3.length c3, .slice A4 t.f4.length c4][i]? = some u → ∀ W, Below (w.alloc (.cells #[.int .i64 t.f0, .bool t.f1, .bool t.f2, .slice A3 t.f3.length c3, .slice A4 t.f4.length c4] 31)).heap.size (w.alloc (.cells #[.int .i64 t.f0, .bool t.f1, .bool t.f2, .slice A3 t.f3.length c3, .slice A4 t.f4.length c4] 31)) W → W.cell? ⟨w.heap.size, i, none⟩ = some u := fun i u hu W hq => below_cell hq (by
    unfold World.cell?; rw [e1]; simpa using hu)
  clear e1
  obtain ⟨W1, hW1⟩ : ∃ W1, w.alloc (.cells #[.int .i64 t.f0, .bool t.f1, .bool t.f2, .slice A3 t.f3.length c3, .slice A4 t.f4.length c4] 31) = W1 := ⟨_, rfl⟩
  rw [hW1] at hb1 cellF
  have q0 := cellF 0 _ rfl W1 (Below.refl _ _)
  have q1 := cellF 1 _ rfl W1 (Below.refl _ _)
  have q2 := cellF 2 _ rfl W1 (Below.refl _ _)
  have q3 := cellF 3 _ rfl W1 (Below.refl _ _)
  have q4 := cellF 4 _ rfl W1 (Below.refl _ _)
  have hris := envRising t.f3 A3 c3 W1 (Kd.C_below g3 hb1) l3
  have eR := enters_of Tryz.func39 (by kernel_rfl) rfl
  have ePl := enters_of Tryz.func42 (by kernel_rfl) rfl
  have eg : ∀ args w, (callFunc 41 args).run Tryz.prog w = .ok (.enter 41 args) w := enters_of Tryz.func41 (by kernel_rfl) rfl
  have hany : t.f4.any (fun k => !rightT k) = !rightL t.f4 := by rw [rightL_all, List.not_all_eq_any_not]
  have hcon : ∀ W, Below W1.heap.size W1 W → Calls Tryz.prog 40 #[.slice A4 t.f4.length c4, .func (.func 41) #[] #[]] W fun e W' => e = .returned (.bool (!rightL t.f4)) ∧ Below W.heap.size W W' := fun W hW => by
    have h := conKids 41 eg (fun k => !rightT k) t.f4 (fun k hk' => right1 k (hk k hk')) A4 c4 W (Kd.C_below (Kd.C_below g4 hb1) hW)
    rw [hany] at h
    exact h
  clear hk hany
  have hh : headBad t = (((!decide (t.f0 = 4) && (t.f1 || decide (0 < t.f3.length))) || ((decide (t.f0 = 4) && t.f2) && !t.f1)) || !risingB t.f3) := rfl
  have hr : rightT t = ((!headBad t && rightL t.f4) && tailOK t) := rightT_eq t
  have ht : tailOK t = if t.f0 = 1 then decide (t.f4.length = 0) && !t.f2 else if t.f0 = 3 then (decide (2 ≤ t.f4.length) && decide (t.f4.length ≤ 30)) && !t.f2 else ((decide (t.f0 = 4) || decide (t.f0 = 2)) && decide (t.f4.length = 1)) && plainHead t.f4 := rfl
  have hpl : t.f4.length = 1 → ∃ k ad B3 d3 B4 d4, A4 = some ad ∧ plainHead t.f4 = plainT k ∧ ∀ W, Below W1.heap.size W1 W →
      (W.cell? ad = some (.int .i64 k.f0) ∧ W.cell? ⟨ad.block, ad.off + 1, none⟩ = some (.bool k.f1) ∧ W.cell? ⟨ad.block, ad.off + 2, none⟩ = some (.bool k.f2) ∧
       W.cell? ⟨ad.block, ad.off + 3, none⟩ = some (.slice B3 k.f3.length d3) ∧ W.cell? ⟨ad.block, ad.off + 4, none⟩ = some (.slice B4 k.f4.length d4)) ∧
      Calls Tryz.prog 42 #[.agg #[.int .i64 k.f0, .bool k.f1, .bool k.f2, .slice B3 k.f3.length d3, .slice B4 k.f4.length d4]] W fun e W' => e = .returned (.bool (plainT k)) ∧ Below W.heap.size W W' := by
    intro h1
    obtain ⟨ad, B3, d3, B4, d4, ead, y0, y1, y2, y3, y4, n3, p3, n4, p4⟩ := at_T31 (Kd.C_below g4 hb1) 0 (by omega) (by omega)
    have e0 : ad.add ((0 : Int).toNat * 5) = ad := by simp [Addr.add]
    rw [e0] at y0 y1 y2 y3 y4
    refine ⟨rd_T31 t.f4 0, ad, B3, d3, B4, d4, ead, ?_, fun W hW => ⟨⟨below_cell hW y0, below_cell hW y1, below_cell hW y2, below_cell hW y3, below_cell hW y4⟩, envPlain _ _ _ _ _ W n3 (Kd.C_below p3 hW) n4 (Kd.C_below p4 hW)⟩⟩
    generalize t.f4 = l at h1
    match l, h1 with
    | [k], _ => rfl
  clear g3 g4
  have hk1b : (t.f0 == 1) = true := by simp [hk1]
  have hk4b : (t.f0 == 4) = false := by simp [hk4]
  rw [decide_eq_false hk4] at hh
  rw [if_pos hk1] at ht
  clear hk1 hk4
  go_enter Tryz.func22, Tryz.ntmps22
  go_upto_region 3 with fail
  go_cut [11] from 12 to 41 (fun v11 wx => v11 = .bool (headBad t) ∧ Below W1.heap.size W1 wx)
  case first =>
    clear cellF hcon hpl hr ht hW1
    rcases Bool.eq_false_or_eq_true t.f1 with h1 | h1
    · rw [h1] at hh q1
      clear h1
      go_wp2_with (go_at_call 39; refine hris.mono ?_; rintro e w' ⟨rfl, hb2⟩)
      go_meet
      case rel => exact ⟨by rw [hh]; first | rfl | simp, by first | exact hb2 | exact Below.refl _ _⟩
    · rw [h1] at hh q1
      clear h1
      by_cases hl : 0 < t.f3.length
      · have hl1 : decide ((t.f3.length : Int) > 0) = true := decide_eq_true (by omega)
        have hl2 : decide (0 < t.f3.length) = true := decide_eq_true hl
        have hl3 : decide ((0 : Int) < (t.f3.length : Int)) = true := decide_eq_true (by omega)
        rw [decide_eq_true hl] at hh
        clear hl
        go_wp2_with (go_at_call 39; refine hris.mono ?_; rintro e w' ⟨rfl, hb2⟩)
        go_meet
        case rel => exact ⟨by rw [hh]; first | rfl | simp, by first | exact hb2 | exact Below.refl _ _⟩
      · have hl1 : decide ((t.f3.length : Int) > 0) = false := decide_eq_false (by omega)
        have hl2 : decide (0 < t.f3.length) = false := decide_eq_false hl
        have hl3 : decide ((0 : Int) < (t.f3.length : Int)) = false := decide_eq_false (by omega)
        rw [decide_eq_false hl] at hh
        clear hl
        go_wp2_with (go_at_call 39; refine hris.mono ?_; rintro e w' ⟨rfl, hb2⟩)
        go_meet
        case rel => exact ⟨by rw [hh]; first | rfl | simp, by first | exact hb2 | exact Below.refl _ _⟩
  case rest =>
    obtain ⟨rfl, hbc⟩ := hcut
    have s0 := cellF 0 _ rfl wc hbc
    have s1 := cellF 1 _ rfl wc hbc
    have s2 := cellF 2 _ rfl wc hbc
    have s3 := cellF 3 _ rfl wc hbc
    have s4 := cellF 4 _ rfl wc hbc
    have hcn := hcon wc hbc
    clear hcon hris hh q0 q1 q2 q3 q4 hW1
    have fin1 : ∀ w', Below W1.heap.size W1 w' → Below w.heap.size w w' := fun w' h => hb1.trans (h.mono hb1.size)
    have fin2 : ∀ w', Below wc.heap.size wc w' → Below W1.heap.size W1 w' := fun w' h => hbc.trans (h.mono hbc.size)
    cases hhb : headBad t with
    | true =>
      have hrt : rightT t = false := by rw [hr, hhb]; rfl
      clear hpl cellF hcn
      go_wp2_with fail
      go_ret
      exact ⟨by first | rfl | (rw [hrt]; rfl), fin1 _ hbc⟩
    | false =>
      rw [hhb] at hr
      clear hhb
      cases hkl : rightL t.f4 with
      | false =>
        rw [hkl] at hr hcn
        have hrt : rightT t = false := by rw [hr]; rfl
        clear hpl hkl
        go_wp2_with (go_at_call 40; refine hcn.mono ?_; rintro e w2 ⟨rfl, hb2⟩; have hb3 := hbc.trans (hb2.mono hbc.size); have u0 := cellF 0 _ rfl w2 hb3; have u2 := cellF 2 _ rfl w2 hb3; have u4 := cellF 4 _ rfl w2 hb3)
        go_ret
        exact ⟨by first | rfl | (rw [hrt]; rfl), fin1 _ (fin2 _ hb2)⟩
      | true =>
        rw [hkl] at hr hcn
        have hrt : rightT t = tailOK t := by rw [hr]; cases tailOK t <;> rfl
        clear hkl hr
        rw [ht] at hrt
        clear hpl ht
        by_cases hn : t.f4.length = 0
        · have hn1 : ((t.f4.length : Int) == 0) = true := beq_iff_eq.mpr (by omega)
          rw [decide_eq_true hn] at hrt
          clear hn
          go_wp2_with (go_at_call 40; refine hcn.mono ?_; rintro e w2 ⟨rfl, hb2⟩; have hb3 := hbc.trans (hb2.mono hbc.size); have u0 := cellF 0 _ rfl w2 hb3; have u2 := cellF 2 _ rfl w2 hb3; have u4 := cellF 4 _ rfl w2 hb3)
          go_ret
          exact ⟨by first | rfl | (rw [hrt]; first | rfl | simp), fin1 _ (fin2 _ hb2)⟩
        · have hn1 : ((t.f4.length : Int) == 0) = false := beq_eq_false_iff_ne.mpr (by omega)
          rw [decide_eq_false hn] at hrt
          clear hn
          go_wp2_with (go_at_call 40; refine hcn.mono ?_; rintro e w2 ⟨rfl, hb2⟩; have hb3 := hbc.trans (hb2.mono hbc.size); have u0 := cellF 0 _ rfl w2 hb3; have u2 := cellF 2 _ rfl w2 hb3; have u4 := cellF 4 _ rfl w2 hb3)
          go_ret
          exact ⟨by first | rfl | (rw [hrt]; first | rfl | simp), fin1 _ (fin2 _ hb2)⟩
end Go.Proofs.YtadjekpfehjibaaGreatDoor.PEnv
