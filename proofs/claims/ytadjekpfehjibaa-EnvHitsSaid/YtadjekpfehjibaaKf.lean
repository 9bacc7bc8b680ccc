/- env.parts is the iterator over a type and all in it; and what begins, Overlap and Cmp answer, in plain words. -/
import Derived.RangeFuncNested
import Derived.RangeFuncBound
import Derived.RangeFuncCalls
import Derived.RangeFuncLeaves
import Derived.Shelf.Abstract
import Derived.Shelf.RegionOpen
import Derived.OwnWalkIn
import Derived.TacticsInMore
import Derived.LoopNIn
import Derived.LoopIn
import Derived.Laws.EntriesVeiled
import Derived.Test.YtadjekpfehjibaaKd
import Derived.Test.YtadjekpfehjibaaKa
import Derived.Test.YtadjekpfehjibaaKc
import Derived.Test.YtadjekpfehjibaaKb

namespace Go.Proofs.Ytadjekpfehjibaa.PEnv
open Go.RowKit Go.Shelf Go.Proofs.YtadjekpfehjibaaW.PrintWords Go.Proofs.YtadjekpfehjibaaW.PrintLast Go.Proofs.YtadjekpfehjibaaW.PrintMore Go.Proofs.Ytadjekpfehjibaa.PEnvHits
set_option linter.unusedVariables false
set_option linter.unusedSimpArgs false
attribute [local go_sem] Oper.semAt_some

theorem room_of_none {F : Fence} (hd : F.depth = none) (k : Nat) : F.room k := fun d h => by rw [hd] at h; cases h
theorem roundIn_anyDepth {F : Fence} (hd : F.depth = none) {m m' : Nat} {P : Program} {l : Nat} {f : FuncId} {tmps : Array Value} {assign body : Code} {w : World} {R : Ending → World → Prop}
    (h : RoundIn F m P l f tmps assign body w R) : RoundIn F m' P l f tmps assign body w R := ⟨h.1, fun c cs _ => h.2 c cs (room_of_none hd _)⟩
theorem yieldAt_anyDepth {F : Fence} (hd : F.depth = none) {m : Nat} (m' : Nat) {P : Program} {l : Nat} {args : Array Value} {W : World} {R : Ending → World → Prop} (h : YieldAt F m P l args W R) : YieldAt F m' P l args W R := by
  obtain ⟨fn, tmps, assign, body, hy, hR⟩ := h
  exact ⟨fn, tmps, assign, body, hy, roundIn_anyDepth hd hR⟩

/-- What a round that goes on keeps: what lay below n₀, and whatever cells lay. -/
def CK (n₀ : Nat) (W W' : World) : Prop := Below n₀ W W' ∧ ∀ (b : Nat) (o : Obj), W.heap[b]? = some o → o.isCells = true → W'.heap[b]? = some o
theorem CK.trans {n₀ : Nat} {A B C : World} (h : CK n₀ A B) (k : CK n₀ B C) : CK n₀ A C := ⟨h.1.trans k.1, fun b o hb hc => k.2 b o (h.2 b o hb hc) hc⟩
theorem CK.of_below {n₀ : Nat} {W W' : World} (hn : n₀ ≤ W.heap.size) (h : Below W.heap.size W W') : CK n₀ W W' :=
  ⟨h.mono hn, fun b o hb _ => (h.block b (Array.getElem?_eq_some_iff.1 hb).1).trans hb⟩
theorem CK.putObj {n₀ : Nat} {w : World} (hn : n₀ ≤ w.heap.size) (W : World) (l : Nat) (o o' : Obj) (hl : w.heap.size ≤ l) (h : W.heap[l]? = some o) (hc : o.isCells = false) (hw : o.isWalk = false) : CK n₀ W (W.putObj l o') :=
  ⟨belowK_b hn W l o o' hl h hc hw, fun b ob hb hcb => by
    rw [World.putObj_heap_other (fun e => by subst e; rw [h] at hb; cases hb; rw [hc] at hcb; cases hcb)]; exact hb⟩
theorem CK.cell {n₀ : Nat} {W W' : World} (h : CK n₀ W W') {a : Addr} {v : Value} (hc : W.cell? a = some v) : W'.cell? a = some v := by
  have hb : ∃ o, W.heap[a.block]? = some o ∧ o.isCells = true := by
    unfold World.cell? at hc
    split at hc
    · rename_i c e f he; exact ⟨_, he, rfl⟩
    · cases hc
  obtain ⟨o, ho, hoc⟩ := hb
  rw [← hc]
  exact World.cell?_of_block ((h.2 _ o ho hoc).trans ho.symm)
theorem below_cell {W W' : World} (h : Below W.heap.size W W') {a : Addr} {v : Value} (hc : W.cell? a = some v) : W'.cell? a = some v :=
  (h.cell (World.block_lt_of_cell? W _ hc)).trans hc

mutual
/-- A type and all in it. -/
def partsT : S37 → List S37
  | ⟨a, b, c, d, e⟩ => ⟨a, b, c, d, e⟩ :: partsL e
def partsL : List S37 → List S37
  | [] => []
  | t :: ts => partsT t ++ partsL ts
end
theorem partsT_eq (t : S37) : partsT t = t :: partsL t.f4 := by cases t; rfl
theorem tyInd {motive : S37 → Prop} (h : ∀ t, (∀ k ∈ t.f4, motive k) → motive t) (t : S37) : motive t :=
  S37.rec (motive_1 := motive) (motive_2 := fun l => ∀ k ∈ l, motive k) (fun f0 f1 f2 f3 f4 ih => h _ ih) (by simp) (fun a l ha hl k hk => by
    rcases List.mem_cons.mp hk with rfl | hk
    · exact ha
    · exact hl k hk) t

/-- What is handed to a round: a type with its cells, as they lay in the world w. -/
abbrev Part (w : World) := { x : S37 × List Value // k37.K w x.1 x.2 }

def ptr (b : Nat) : Value := .pointer (some ⟨b, 0, none⟩)

set_option maxHeartbeats 2000000 in
/-- env.parts$1$1$1: the other answer than walk's. -/
theorem walk3 (Wb : Nat) (f0 : Int) (f1 f2 : Bool) (A3 : Option Addr) (n3 c3 : Nat) (A4 : Option Addr) (n4 c4 : Nat) (cb : Array Value) (W : World) (A B : World → Prop)
    (hW : W.cell? ⟨Wb, 0, none⟩ = some (.func (.func 37) #[] cb))
    (hc : Calls Try.prog 37 (#[.agg #[.int .i64 f0, .bool f1, .bool f2, .slice A3 n3 c3, .slice A4 n4 c4]] ++ cb) (W.alloc (.cells #[.int .i64 f0, .bool f1, .bool f2, .slice A3 n3 c3, .slice A4 n4 c4] 37)) fun e W' => (e = .returned (.bool true) ∧ A W') ∨ (e = .returned (.bool false) ∧ B W')) :
    Calls Try.prog 39 #[.agg #[.int .i64 f0, .bool f1, .bool f2, .slice A3 n3 c3, .slice A4 n4 c4], ptr Wb] W fun e W' => (e = .returned (.bool false) ∧ A W') ∨ (e = .returned (.bool true) ∧ B W') := by
  have hlt : Wb < W.heap.size := World.block_lt_of_cell? W _ hW
  have hWa : (W.alloc (.cells #[.int .i64 f0, .bool f1, .bool f2, .slice A3 n3 c3, .slice A4 n4 c4] 37)).cell? ⟨Wb, 0, none⟩ = some (.func (.func 37) #[] cb) := below_cell ((Below.refl _ W).alloc (Nat.le_refl _) _) hW
  have eg : ∀ args w, (callFunc 37 args).run Try.prog w = .ok (.enter 37 args) w := enters_of Try.func37 (by kernel_rfl) rfl
  unfold ptr
  go_enter Try.func39, Try.ntmps39
  go_wp2_with (go_at_fn 37; refine hc.mono ?_; rintro e w' (⟨rfl, hA⟩ | ⟨rfl, hB⟩))
  · go_ret
    exact .inl ⟨rfl, hA⟩
  · go_ret
    exact .inr ⟨rfl, hB⟩

def Good (w : World) (l Y Wb : Nat) (W : World) : Prop :=
  Below w.heap.size w W ∧ W.cell? ⟨Y, 0, none⟩ = some (.func (.yield l) #[] #[]) ∧ W.cell? ⟨Wb, 0, none⟩ = some (.func (.func 37) #[] #[ptr Y, ptr Wb])
theorem Good.below {w : World} {l Y Wb : Nat} {W W' : World} (h : Good w l Y Wb W) (hb : Below W.heap.size W W') : Good w l Y Wb W' :=
  ⟨h.1.trans (hb.mono h.1.size), below_cell hb h.2.1, below_cell hb h.2.2⟩
theorem Good.ck {w : World} {l Y Wb : Nat} {W W' : World} (h : Good w l Y Wb W) (hb : CK w.heap.size W W') : Good w l Y Wb W' :=
  ⟨h.1.trans hb.1, hb.cell h.2.1, hb.cell h.2.2⟩

def WalkOK (w : World) (l Y Wb N : Nat) (J Jx : List (Part w) → World → Prop) (cs : List Value) (X : List (Part w)) : Prop :=
  ∀ (pre : List (Part w)) (W : World), Good w l Y Wb W → J pre W → pre.length + X.length ≤ N →
    Calls Try.prog 37 #[.agg cs.toArray, ptr Y, ptr Wb] W fun e W' =>
      (e = .returned (.bool true) ∧ J (pre ++ X) W' ∧ Good w l Y Wb W') ∨ (e = .returned (.bool false) ∧ ∃ q, q <+: X ∧ Jx (pre ++ q) W')

theorem gather {w : World} {Q : List Value → List (Part w) → Prop} : ∀ (ts : List S37) (vs : List (List Value)), vs.length = ts.length →
    (∀ (i : Nat) t cs, ts[i]? = some t → vs[i]? = some cs → ∃ X : List (Part w), X.map (fun x => x.1.1) = partsT t ∧ Q cs X) →
    ∃ Xs : List (List (Part w)), Xs.length = ts.length ∧ Xs.flatten.map (fun x => x.1.1) = partsL ts ∧ ∀ (i : Nat) cs, vs[i]? = some cs → ∃ X, Xs[i]? = some X ∧ Q cs X
  | [], vs, hl, _ => ⟨[], rfl, rfl, fun i cs h => by rw [List.length_eq_zero_iff.mp hl] at h; simp at h⟩
  | t :: ts, [], hl, _ => by cases hl
  | t :: ts, v :: vs, hl, h => by
    obtain ⟨X, hX, hQ⟩ := h 0 t v rfl rfl
    obtain ⟨Xs, h1, h2, h3⟩ := gather ts vs (by simpa using hl) (fun i t cs h4 h5 => h (i + 1) t cs (by simpa using h4) (by simpa using h5))
    refine ⟨X :: Xs, by simp [h1], by simp only [List.flatten_cons, List.map_append, hX, h2]; rfl, fun i cs hi => ?_⟩
    cases i with
    | zero =>
      have e : v = cs := by simpa using hi
      exact ⟨X, rfl, e ▸ hQ⟩
    | succ i =>
      obtain ⟨X', e, q⟩ := h3 i cs (by simpa using hi)
      exact ⟨X', by simpa using e, q⟩

theorem flatten_take_succ {α : Type} {Xs : List (List α)} {i : Nat} {X : List α} (h : Xs[i]? = some X) : (Xs.take (i + 1)).flatten = (Xs.take i).flatten ++ X := by
  rw [List.take_add_one, h]; simp
theorem flatten_take_pre {α : Type} (Xs : List (List α)) (i : Nat) : (Xs.take i).flatten <+: Xs.flatten :=
  ⟨(Xs.drop i).flatten, by rw [← List.flatten_append, List.take_append_drop]⟩

/-- What ContainsFunc, handed the function that turns walk's answer, does with the kids. -/
theorem kids (l Y Wb N : Nat) (w : World) (J Jx : List (Part w) → World → Prop)
    (hJ : ∀ s W W', J s W → Below W.heap.size W W' → J s W') (A4 : Option Addr) (n4 c4 : Nat) (ts : List S37) (vs : List (List Value)) (Xs : List (List (Part w)))
    (hv : Els 5 w A4 n4 vs) (hvK : ∀ (i : Nat) cs, vs[i]? = some cs → ∃ t, k37.K w t cs) (hX : ∀ (i : Nat) cs, vs[i]? = some cs → ∃ X, Xs[i]? = some X ∧ WalkOK w l Y Wb N J Jx cs X) (hXn : Xs.length = n4)
    (pre : List (Part w)) (W : World) (hG : Good w l Y Wb W) (h0 : J pre W) (hN : pre.length + Xs.flatten.length ≤ N) :
    Calls Try.prog 38 #[.slice A4 n4 c4, .func (.func 39) #[] #[ptr Wb]] W fun e W' =>
      (e = .returned (.bool false) ∧ J (pre ++ Xs.flatten) W' ∧ Good w l Y Wb W') ∨ (e = .returned (.bool true) ∧ ∃ q, q <+: Xs.flatten ∧ Jx (pre ++ q) W') := by
  have eg : ∀ args w, (callFunc 39 args).run Try.prog w = .ok (.enter 39 args) w := enters_of Try.func39 (by kernel_rfl) rfl
  refine (conTy 39 #[ptr Wb] eg A4 n4 c4 vs w W (fun i W => Good w l Y Wb W ∧ J (pre ++ (Xs.take i).flatten) W) (fun i W => ∃ q, q <+: Xs.flatten ∧ Jx (pre ++ q) W) hv (fun i W h => h.1.1) ?_ ⟨hG, by simpa using h0⟩).mono ?_
  · rintro i cs W hi ⟨hG, hJ0⟩
    obtain ⟨t, ht⟩ := hvK i cs hi
    obtain ⟨X, hXi, hw⟩ := hX i cs hi
    obtain ⟨A3, c3, A4, c4, rfl, _⟩ := k37_open ht
    have hb : Below W.heap.size W (W.alloc (.cells #[.int .i64 t.f0, .bool t.f1, .bool t.f2, .slice A3 t.f3.length c3, .slice A4 t.f4.length c4] 37)) := (Below.refl _ W).alloc (Nat.le_refl _) _
    have hle : pre.length + (Xs.take i).flatten.length + X.length ≤ N := by
      have h1 := flatten_take_succ hXi
      have h2 := (flatten_take_pre Xs (i + 1)).length_le
      rw [h1] at h2
      simp only [List.length_append] at h2
      omega
    refine (walk3 Wb t.f0 t.f1 t.f2 A3 t.f3.length c3 A4 t.f4.length c4 #[ptr Y, ptr Wb] W _ _ hG.2.2 (hw (pre ++ (Xs.take i).flatten) _ (hG.below hb) (hJ _ _ _ hJ0 hb) (by simp only [List.length_append]; omega))).mono ?_
    rintro e W' (⟨rfl, hA1, hA2⟩ | ⟨rfl, q, hq, hx⟩)
    · exact .inl ⟨rfl, hA2, by rw [flatten_take_succ hXi, ← List.append_assoc]; exact hA1⟩
    · refine .inr ⟨rfl, (Xs.take i).flatten ++ q, ?_, by rw [← List.append_assoc]; exact hx⟩
      refine List.IsPrefix.trans ?_ (flatten_take_pre Xs (i + 1))
      rw [flatten_take_succ hXi]
      exact (List.prefix_append_right_inj _).mpr hq
  · rintro e W' (⟨rfl, hA2, hA1⟩ | ⟨rfl, k, hk, q, hq, hx⟩)
    · rw [← hXn, List.take_length] at hA1
      exact .inl ⟨rfl, hA1, hA2⟩
    · exact .inr ⟨rfl, q, hq, hx⟩

set_option maxHeartbeats 4000000 in
/-- env.parts$1$1 (walk): one step. -/
theorem walk2 (l Y Wb N : Nat) (w : World) (J Jx : List (Part w) → World → Prop)
    (hY : ∀ m pre x W, J pre W → pre.length < N → YieldAt Fence.wide m Try.prog l #[.agg x.1.2.toArray] W fun e W' =>
      (e = .returned (.bool true) ∧ J (pre ++ [x]) W' ∧ CK w.heap.size W W') ∨ (e = .returned (.bool false) ∧ Jx (pre ++ [x]) W'))
    (hJ : ∀ s W W', J s W → Below W.heap.size W W' → J s W')
    (f0 : Int) (f1 f2 : Bool) (A3 : Option Addr) (n3 c3 : Nat) (A4 : Option Addr) (n4 c4 : Nat) (x : Part w) (hx : x.1.2 = [.int .i64 f0, .bool f1, .bool f2, .slice A3 n3 c3, .slice A4 n4 c4]) (X : List (Part w))
    (hcon : ∀ (pre : List (Part w)) (W : World), Good w l Y Wb W → J pre W → pre.length + X.length ≤ N → Calls Try.prog 38 #[.slice A4 n4 c4, .func (.func 39) #[] #[ptr Wb]] W fun e W' =>
      (e = .returned (.bool false) ∧ J (pre ++ X) W' ∧ Good w l Y Wb W') ∨ (e = .returned (.bool true) ∧ ∃ q, q <+: X ∧ Jx (pre ++ q) W')) :
    WalkOK w l Y Wb N J Jx [.int .i64 f0, .bool f1, .bool f2, .slice A3 n3 c3, .slice A4 n4 c4] (x :: X) := by
  intro pre W hG h0 hN
  have hd : Fence.wide.depth = none := rfl
  have hdd : ∀ k : Nat, (Fence.wide.depth.isSome = true → 1 ≤ k) := fun k h => by rw [hd] at h; cases h
  have hb : Below W.heap.size W (W.alloc (.cells #[.int .i64 f0, .bool f1, .bool f2, .slice A3 n3 c3, .slice A4 n4 c4] 37)) := (Below.refl _ W).alloc (Nat.le_refl _) _
  have hG1 := hG.below hb
  have hJ1 := hJ _ _ _ h0 hb
  have hyc := hG1.2.1
  have hc4 : (W.alloc (.cells #[.int .i64 f0, .bool f1, .bool f2, .slice A3 n3 c3, .slice A4 n4 c4] 37)).cell? ⟨W.heap.size, 4, none⟩ = some (.slice A4 n4 c4) := by unfold World.cell?; rw [World.alloc_heap_new]; rfl
  have hy1 : YieldAt Fence.wide 2 Try.prog l #[.agg #[.int .i64 f0, .bool f1, .bool f2, .slice A3 n3 c3, .slice A4 n4 c4]] (W.alloc (.cells #[.int .i64 f0, .bool f1, .bool f2, .slice A3 n3 c3, .slice A4 n4 c4] 37)) fun e W2 =>
      (e = .returned (.bool true) ∧ W2.cell? ⟨W.heap.size, 4, none⟩ = some (.slice A4 n4 c4) ∧ Calls Try.prog 38 #[.slice A4 n4 c4, .func (.func 39) #[] #[ptr Wb]] W2 fun e W' =>
        (e = .returned (.bool false) ∧ J (pre ++ x :: X) W' ∧ Good w l Y Wb W') ∨ (e = .returned (.bool true) ∧ ∃ q, q <+: X ∧ Jx (pre ++ x :: q) W')) ∨
      (e = .returned (.bool false) ∧ Jx (pre ++ [x]) W2) := by
    have h1 := hY 2 pre x _ hJ1 (by simp only [List.length_cons] at hN; omega)
    rw [hx] at h1
    refine YieldAt.mono h1 fun e W2 h => h.elim (fun ⟨he, hj, hk⟩ => .inl ⟨he, hk.cell hc4, ?_⟩) .inr
    have h2 := hcon (pre ++ [x]) W2 (hG1.ck hk) hj (by simp only [List.length_append, List.length_cons, List.length_nil] at hN ⊢; omega)
    simpa only [List.append_assoc, List.singleton_append] using h2
  clear hY hcon hJ
  obtain ⟨fn, tmps, assign, body, hy, hR⟩ := hy1
  refine (callsIn_wide (n := 3)).1 ?_
  unfold ptr at hG1 hR ⊢
  refine callsIn_of_wp Try.func37 rfl trivial ?_ rfl
  simp only [Try.ntmps37, List.size_toArray, List.length_cons, List.length_nil, Nat.reduceAdd, Nat.reduceSub, Array.replicate_succ, Array.replicate_zero, List.push_toArray, List.append_toArray, List.nil_append, List.cons_append]
  gi_wp2_with (first
    | ((try refine ⟨hdd _, ?_⟩); refine hR.mono ?_; clear hR; rintro e W2 (⟨rfl, hc2, hcall⟩ | ⟨rfl, hx2⟩))
    | ((try refine ⟨trivial, ?_⟩); gi_at_call 38; refine (callsIn_wide.2 hcall).mono ?_; rintro e W3 (⟨rfl, hJ3, hG3⟩ | ⟨rfl, q, hq, hx3⟩)))
  · go_ret
    exact .inl ⟨rfl, hJ3, hG3⟩
  · go_ret
    exact .inr ⟨rfl, x :: q, by simpa using hq, hx3⟩
  · refine ⟨trivial, ?_⟩
    gi_wp2
    go_ret
    exact .inr ⟨rfl, [x], by simp, hx2⟩

/-- env.parts$1$1 (walk), at every type. -/
theorem walkAll (l Y Wb N : Nat) (w : World) (J Jx : List (Part w) → World → Prop)
    (hY : ∀ m pre x W, J pre W → pre.length < N → YieldAt Fence.wide m Try.prog l #[.agg x.1.2.toArray] W fun e W' =>
      (e = .returned (.bool true) ∧ J (pre ++ [x]) W' ∧ CK w.heap.size W W') ∨ (e = .returned (.bool false) ∧ Jx (pre ++ [x]) W'))
    (hJ : ∀ s W W', J s W → Below W.heap.size W W' → J s W') (t : S37) :
    ∀ cs, k37.K w t cs → ∃ X : List (Part w), X.map (fun x => x.1.1) = partsT t ∧ WalkOK w l Y Wb N J Jx cs X := by
  induction t using tyInd with
  | h t ih =>
    intro cs hK
    have hK0 := hK
    obtain ⟨A3, c3, A4, c4, rfl, l3, g3, l4, g4⟩ := k37_open hK
    obtain ⟨vs, hv, hvK⟩ := els_of_C g4
    have hlen : vs.length = t.f4.length := hv.1
    obtain ⟨Xs, h1, h2, h3⟩ := gather (w := w) (Q := WalkOK w l Y Wb N J Jx) t.f4 vs hlen (fun i k cs hk hcs => by
      obtain ⟨cs', e, hKk⟩ := hvK i k hk
      rw [hcs] at e
      cases e
      exact ih k (List.mem_of_getElem? hk) cs hKk)
    refine ⟨⟨(t, _), hK0⟩ :: Xs.flatten, by rw [partsT_eq, List.map_cons, h2], ?_⟩
    refine walk2 l Y Wb N w J Jx hY hJ t.f0 t.f1 t.f2 A3 t.f3.length c3 A4 t.f4.length c4 _ rfl Xs.flatten ?_
    intro pre W hG h0 hN
    refine kids l Y Wb N w J Jx hJ A4 t.f4.length c4 t.f4 vs Xs hv (fun i cs hcs => ?_) h3 h1 pre W hG h0 hN
    have hi : i < t.f4.length := by
      rcases Nat.lt_or_ge i vs.length with h | h
      · omega
      · rw [List.getElem?_eq_none h] at hcs; cases hcs
    obtain ⟨cs', e, hKk⟩ := hvK i _ (List.getElem?_eq_getElem hi)
    rw [hcs] at e
    cases e
    exact ⟨_, hKk⟩

set_option maxHeartbeats 2000000 in
/-- env.parts$1: the iterator's own body. -/
theorem parts1 (l Bt N : Nat) (w : World) (J Jx : List (Part w) → World → Prop)
    (hY : ∀ m pre x W, J pre W → pre.length < N → YieldAt Fence.wide m Try.prog l #[.agg x.1.2.toArray] W fun e W' =>
      (e = .returned (.bool true) ∧ J (pre ++ [x]) W' ∧ CK w.heap.size W W') ∨ (e = .returned (.bool false) ∧ Jx (pre ++ [x]) W'))
    (f0 : Int) (f1 f2 : Bool) (A3 : Option Addr) (n3 c3 : Nat) (A4 : Option Addr) (n4 c4 : Nat) (X : List (Part w))
    (W : World) (hW : Below w.heap.size w W) (hJ : ∀ s W W', J s W → Below W.heap.size W W' → J s W')
    (h0c : W.cell? ⟨Bt, 0, none⟩ = some (.int .i64 f0)) (h1c : W.cell? ⟨Bt, 1, none⟩ = some (.bool f1)) (h2c : W.cell? ⟨Bt, 2, none⟩ = some (.bool f2)) (h3c : W.cell? ⟨Bt, 3, none⟩ = some (.slice A3 n3 c3)) (h4c : W.cell? ⟨Bt, 4, none⟩ = some (.slice A4 n4 c4))
    (h0 : J [] W) (hN : X.length ≤ N)
    (hw : WalkOK w l W.heap.size (W.heap.size + 1) N J Jx [.int .i64 f0, .bool f1, .bool f2, .slice A3 n3 c3, .slice A4 n4 c4] X) :
    Calls Try.prog 36 #[.func (.yield l) #[] #[], ptr Bt] W fun e W' => (∃ v, e = .returned v) ∧
      ((∃ ys, ys = X ∧ J ys W') ∨ (∃ pre, pre <+: X ∧ Jx pre W')) := by
  have eg : ∀ args w, (callFunc 37 args).run Try.prog w = .ok (.enter 37 args) w := enters_of Try.func37 (by kernel_rfl) rfl
  have hb1 : Below W.heap.size W (W.alloc (.cells #[.func (.yield l) #[] #[]] 56)) := (Below.refl _ W).alloc (Nat.le_refl _) _
  have hb3 : Below W.heap.size W ((W.alloc (.cells #[.func (.yield l) #[] #[]] 56)).alloc (.cells #[(.func (.func 37) #[] #[ptr W.heap.size, ptr (W.heap.size + 1)])] 56)) := hb1.alloc (by simp) _
  have hcY : ((W.alloc (.cells #[.func (.yield l) #[] #[]] 56)).alloc (.cells #[(.func (.func 37) #[] #[ptr W.heap.size, ptr (W.heap.size + 1)])] 56)).cell? ⟨W.heap.size, 0, none⟩ = some (.func (.yield l) #[] #[]) := by
    refine below_cell ((Below.refl _ _).alloc (Nat.le_refl _) _) ?_
    unfold World.cell?
    rw [World.alloc_heap_new]
    rfl
  have hcW : ((W.alloc (.cells #[.func (.yield l) #[] #[]] 56)).alloc (.cells #[(.func (.func 37) #[] #[ptr W.heap.size, ptr (W.heap.size + 1)])] 56)).cell? ⟨W.heap.size + 1, 0, none⟩ = some (.func (.func 37) #[] #[ptr W.heap.size, ptr (W.heap.size + 1)]) := by
    have h := World.alloc_heap_new (W.alloc (.cells #[.func (.yield l) #[] #[]] 56)) (.cells #[(.func (.func 37) #[] #[ptr W.heap.size, ptr (W.heap.size + 1)])] 56)
    rw [World.size_alloc] at h
    unfold World.cell?
    rw [h]; rfl
  have hcall := hw [] _ ⟨hW.trans (hb3.mono hW.size), hcY, hcW⟩ (hJ _ _ _ h0 hb3) (by simpa using hN)
  have k0 := below_cell hb3 h0c
  have k1 := below_cell hb3 h1c
  have k2 := below_cell hb3 h2c
  have k3 := below_cell hb3 h3c
  have k4 := below_cell hb3 h4c
  clear hw hY hJ
  unfold ptr at *
  go_enter Try.func36, Try.ntmps36
  go_wp2_with (go_at_fn 37; refine hcall.mono ?_; rintro e w' (⟨rfl, hA, _⟩ | ⟨rfl, q, hq, hB⟩))
  · go_end0
    exact ⟨⟨_, rfl⟩, .inl ⟨_, rfl, by simpa using hA⟩⟩
  · go_end0
    exact ⟨⟨_, rfl⟩, .inr ⟨q, hq, by simpa using hB⟩⟩

/-- env.parts: the type is boxed; the function value captures the box. -/
theorem parts0 (f0 : Int) (f1 f2 : Bool) (A3 : Option Addr) (n3 c3 : Nat) (A4 : Option Addr) (n4 c4 : Nat) (W : World) :
    Calls Try.prog 23 #[.agg #[.int .i64 f0, .bool f1, .bool f2, .slice A3 n3 c3, .slice A4 n4 c4]] W fun e W' =>
      e = .returned (.func (.func 36) #[] #[ptr W.heap.size]) ∧ W' = W.alloc (.cells #[.int .i64 f0, .bool f1, .bool f2, .slice A3 n3 c3, .slice A4 n4 c4] 37) := by
  unfold ptr
  go_enter Try.func23, Try.ntmps23
  go_wp2
  go_ret
  exact ⟨rfl, rfl⟩

/-- What env.parts hands back goes through all of the type, in order, or through a part of it. -/
theorem partsStops (n : Nat) (Bt : Nat) (t : S37) (cs : List Value) (w : World) (hK : k37.K w t cs) (hc : ∀ (i : Nat) u, cs[i]? = some u → w.cell? ⟨Bt, i, none⟩ = some u) :
    SeqStopsK Fence.wide n Try.prog 36 #[ptr Bt] (fun x : Part w => #[.agg x.1.2.toArray]) (CK w.heap.size) (fun ys => ys.map (fun x => x.1.1) = partsT t)
      (fun pre => pre.map (fun x => x.1.1) <+: partsT t) (partsT t).length w := by
  intro l J Jx W hW hJ hJx hY h0
  have hJ' : ∀ s W W', J s W → Below W.heap.size W W' → J s W' := fun s W W' hs hb => hJ s W W' none hs ⟨hb.os, hb.tape, hb.output, hb.size, fun k hk _ => hb.block k hk⟩ (fun r e => by cases e)
  have hY' : ∀ m pre x W1, J pre W1 → pre.length < (partsT t).length → YieldAt Fence.wide m Try.prog l #[.agg x.1.2.toArray] W1 fun e W' =>
      (e = .returned (.bool true) ∧ J (pre ++ [x]) W' ∧ CK w.heap.size W1 W') ∨ (e = .returned (.bool false) ∧ Jx (pre ++ [x]) W') := fun m pre x W1 h1 h2 => yieldAt_anyDepth rfl m (hY pre x W1 h1 h2)
  obtain ⟨X, hX, hw⟩ := walkAll l W.heap.size (W.heap.size + 1) (partsT t).length w J Jx hY' hJ' t cs hK
  obtain ⟨A3, c3, A4, c4, rfl, _⟩ := k37_open hK
  have hk : ∀ (i : Nat) u, [Value.int .i64 t.f0, .bool t.f1, .bool t.f2, .slice A3 t.f3.length c3, .slice A4 t.f4.length c4][i]? = some u → W.cell? ⟨Bt, i, none⟩ = some u := fun i u hu =>
    below_cell hW (hc i u hu)
  refine callsIn_wide.2 ((parts1 l Bt (partsT t).length w J Jx hY' t.f0 t.f1 t.f2 A3 t.f3.length c3 A4 t.f4.length c4 X W hW hJ' (hk 0 _ rfl) (hk 1 _ rfl) (hk 2 _ rfl) (hk 3 _ rfl) (hk 4 _ rfl) h0 (by rw [← hX, List.length_map]; exact Nat.le_refl _) hw).mono ?_)
  rintro e W' ⟨hv, (⟨ys, rfl, hJ1⟩ | ⟨pre, ⟨r, hr⟩, hJ1⟩)⟩
  · exact ⟨hv, .inl ⟨_, hX, hJ1⟩⟩
  · exact ⟨hv, .inr ⟨pre, ⟨r.map (fun x => x.1.1), by rw [← hX, ← hr, List.map_append]⟩, hJ1⟩⟩

end Go.Proofs.Ytadjekpfehjibaa.PEnv

namespace Go.Proofs.Ytadjekpfehjibaa.PEnv
open Go.RowKit Go.Shelf Go.Proofs.YtadjekpfehjibaaW.PrintWords Go.Proofs.YtadjekpfehjibaaW.PrintLast Go.Proofs.YtadjekpfehjibaaW.PrintMore Go.Proofs.Ytadjekpfehjibaa.PEnvHits
set_option linter.unusedVariables false
set_option linter.unusedSimpArgs false

theorem wrap_succ (i : Nat) (h : i < 9223372036854775807) : wrap64 ((i : Int) + 1) = ((i + 1 : Nat) : Int) := by unfold wrap64; omega
theorem rd_at (xs : List Int) (i : Nat) (h : i < xs.length) : rd xs (i : Int) = xs[i] := by
  simp [rd, List.getElem?_eq_getElem h]
theorem drop_at (xs : List Int) (i : Nat) (h : i < xs.length) : xs.drop i = xs[i] :: xs.drop (i + 1) := List.drop_eq_getElem_cons h

theorem equal_l (x0 x1 : List Int) (hl : x0.length = x1.length) (hm : x0.length ≤ 9223372036854775807) : ∀ (k i : Nat), i ≤ x0.length → x0.length - i < k →
    slices_Equal_int_int.l0 k x0 x1 (x0.length : Int) (i : Int) = some (decide (x0.drop i = x1.drop i))
  | 0, i, _, h => by omega
  | k + 1, i, hi, hk => by
    unfold slices_Equal_int_int.l0
    by_cases h : i < x0.length
    · have h1 : i < x1.length := by omega
      rw [if_pos (by omega), if_pos (by omega), if_pos (by omega), if_pos (by omega), rd_at x0 i h, rd_at x1 i h1, drop_at x0 i h, drop_at x1 i h1]
      by_cases he : x0[i] = x1[i]
      · rw [if_pos he, wrap_succ i (by omega), equal_l x0 x1 hl hm k (i + 1) (by omega) (by omega)]
        simp only [List.cons.injEq, he, true_and]
      · rw [if_neg he]
        simp only [List.cons.injEq, he, false_and, decide_false]
    · rw [if_neg (by omega), List.drop_eq_nil_of_le (by omega), List.drop_eq_nil_of_le (by omega)]
      simp
theorem equal_f (x0 x1 : List Int) (hm : x0.length ≤ 9223372036854775807) (k : Nat) (hk : x0.length < k) : slices_Equal_int_int.f k x0 x1 = some (decide (x0 = x1)) := by
  unfold slices_Equal_int_int.f
  by_cases hl : x0.length = x1.length
  · rw [if_pos (by omega)]
    have := equal_l x0 x1 hl hm k 0 (by omega) (by omega)
    simpa using this
  · rw [if_neg (by omega)]
    have : x0 ≠ x1 := fun e => hl (by rw [e])
    simp [this]

/-- Is a list the beginning of another one? -/
def begB (a b : List Int) : Bool := decide (a = b.take a.length)

theorem begins_f (a b : List Int) (hm : a.length ≤ 9223372036854775807) (k : Nat) (hk : a.length < k) : env_begins.f k a b = some (begB a b) := by
  unfold env_begins.f begB
  by_cases hl : a.length ≤ b.length
  · rw [if_pos (by omega), if_pos (by omega), Int.toNat_natCast, equal_f a _ hm k hk]
    rfl
  · rw [if_neg (by omega)]
    have : a ≠ b.take a.length := fun e => hl (by have := congrArg List.length e; simp at this; omega)
    simp [this]

theorem refBegins_l (a b : List Int) (hm : a.length ≤ 9223372036854775807) : ∀ (k i : Nat), i ≤ a.length → a.length - i < k →
    lienbookref05_begins.l0 k a b (i : Int) = some (decide (a.drop i = (b.drop i).take (a.length - i)))
  | 0, i, _, h => by omega
  | k + 1, i, hi, hk => by
    unfold lienbookref05_begins.l0
    by_cases h : i < a.length
    · rw [if_pos (by omega)]
      by_cases h1 : i < b.length
      · rw [if_neg (by omega), if_pos (by omega), if_pos (by omega), rd_at a i h, rd_at b i h1, drop_at a i h, drop_at b i h1]
        have e1 : a.length - i = (a.length - (i + 1)) + 1 := by omega
        rw [e1, List.take_succ_cons]
        by_cases he : a[i] = b[i]
        · rw [if_pos he, wrap_succ i (by omega), refBegins_l a b hm k (i + 1) (by omega) (by omega)]
          simp only [List.cons.injEq, he, true_and]
        · rw [if_neg he]
          simp only [List.cons.injEq, he, false_and, decide_false]
      · rw [if_pos (by omega), List.drop_eq_nil_of_le (show b.length ≤ i by omega)]
        have : a.drop i ≠ [] := fun e => by have := congrArg List.length e; simp at this; omega
        simp only [List.take_nil, this, decide_false]
    · rw [if_neg (by omega), List.drop_eq_nil_of_le (by omega)]
      have : a.length - i = 0 := by omega
      simp [this]
theorem refBegins_f (a b : List Int) (hm : a.length ≤ 9223372036854775807) (k : Nat) (hk : a.length < k) : lienbookref05_begins.f k a b = some (begB a b) := by
  unfold lienbookref05_begins.f begB
  have := refBegins_l a b hm k 0 (by omega) (by omega)
  simpa using this

/-- Do two places overlap? -/
def overB (v1 : ByteArray) (s1 : List Int) (v2 : ByteArray) (s2 : List Int) : Bool := decide (v1.toList = v2.toList) && (begB s1 s2 || begB s2 s1)

theorem overlap_f (v1 : ByteArray) (s1 : List Int) (v2 : ByteArray) (s2 : List Int) (h1 : s1.length ≤ 9223372036854775807) (h2 : s2.length ≤ 9223372036854775807) (k : Nat) (hk1 : s1.length < k) (hk2 : s2.length < k) :
    env_Overlap.f k v1 s1 v2 s2 = some (overB v1 s1 v2 s2) := by
  unfold env_Overlap.f overB
  rw [begins_f s1 s2 h1 k hk1, begins_f s2 s1 h2 k hk2]
  by_cases h : v1.toList = v2.toList
  · rw [if_pos h]
    cases begB s1 s2 <;> cases begB s2 s1 <;> simp [h]
  · rw [if_neg h]
    simp [h]

end Go.Proofs.Ytadjekpfehjibaa.PEnv

namespace Go.Proofs.Ytadjekpfehjibaa.PEnv
open Go.RowKit Go.Shelf Go.Proofs.YtadjekpfehjibaaW.PrintWords Go.Proofs.YtadjekpfehjibaaW.PrintLast Go.Proofs.YtadjekpfehjibaaW.PrintMore Go.Proofs.Ytadjekpfehjibaa.PEnvHits
set_option linter.unusedVariables false
set_option linter.unusedSimpArgs false

theorem refOverlap_f (v1 : ByteArray) (s1 : List Int) (v2 : ByteArray) (s2 : List Int) (h1 : s1.length ≤ 9223372036854775807) (h2 : s2.length ≤ 9223372036854775807) (k : Nat) (hk1 : s1.length < k) (hk2 : s2.length < k) :
    lienbookref05_Overlap.f k v1 s1 v2 s2 = some (overB v1 s1 v2 s2) := by
  unfold lienbookref05_Overlap.f overB
  rw [refBegins_f s1 s2 h1 k hk1, refBegins_f s2 s1 h2 k hk2]
  by_cases h : v1.toList = v2.toList
  · rw [if_pos h]
    cases begB s1 s2 <;> cases begB s2 s1 <;> simp [h]
  · rw [if_neg h]
    simp [h]

end Go.Proofs.Ytadjekpfehjibaa.PEnv

namespace Go.Proofs.Ytadjekpfehjibaa.PEnv
open Go.RowKit Go.Shelf Go.Proofs.YtadjekpfehjibaaW.PrintWords Go.Proofs.YtadjekpfehjibaaW.PrintLast Go.Proofs.YtadjekpfehjibaaW.PrintMore Go.Proofs.Ytadjekpfehjibaa.PEnvHits
set_option linter.unusedVariables false
set_option linter.unusedSimpArgs false

def cmpS (a b : ByteArray) : Int := if Op.bytesLess a.toList b.toList = true then -1 else if Op.bytesLess b.toList a.toList = true then 1 else 0
def cmpI (a b : Int) : Int := if a < b then -1 else if a > b then 1 else 0
def cmpIs : List Int → List Int → Int
  | [], [] => 0
  | [], _ :: _ => -1
  | _ :: _, [] => 1
  | a :: x, b :: y => if cmpI a b = 0 then cmpIs x y else cmpI a b
def bitI (b : Bool) : Int := if b = true then 1 else 0
def orI : List Int → Int
  | [] => 0
  | x :: xs => if x = 0 then orI xs else x
def cmp4 (a0 a1 : ByteArray) (l2 : List Int) (a3 : Bool) (b0 b1 : ByteArray) (m2 : List Int) (b3 : Bool) : Int :=
  orI [cmpS a0 b0, cmpS a1 b1, cmpIs l2 m2, bitI a3 - bitI b3]
def cmpLoan (a b : S27) : Int := cmp4 a.f0 a.f1.f0 a.f1.f1 a.f2 b.f0 b.f1.f0 b.f1.f1 b.f2

theorem cmpS_f (a b : ByteArray) : cmp_Compare_string.f a b = some (cmpS a b) := by
  have h : ∀ x : ByteArray, cmp_isNaN_string.f x = some false := fun x => by unfold cmp_isNaN_string.f; simp
  unfold cmp_Compare_string.f cmpS
  rw [h, h]
  simp only [Option.bind_some]
  rw [if_neg (by simp), if_neg (by simp)]
  split <;> first | rfl | (split <;> rfl)
theorem cmpI_f (a b : Int) : cmp_Compare_int.f a b = some (cmpI a b) := by
  have h : ∀ x : Int, cmp_isNaN_int.f x = some false := fun x => by unfold cmp_isNaN_int.f; simp
  unfold cmp_Compare_int.f cmpI
  rw [h, h]
  simp only [Option.bind_some]
  rw [if_neg (by simp), if_neg (by simp)]
  split <;> first | rfl | (split <;> rfl)
theorem cmpIs_l (a b : List Int) (hm : a.length ≤ 9223372036854775807) (hn : b.length ≤ 9223372036854775807) : ∀ (k i : Nat), i ≤ a.length → i ≤ b.length → a.length - i < k →
    slices_Compare_int_int.l0 k a b a (a.length : Int) (i : Int) = some (cmpIs (a.drop i) (b.drop i))
  | 0, i, _, _, h => by omega
  | k + 1, i, hi, hj, hk => by
    unfold slices_Compare_int_int.l0
    by_cases h : i < a.length
    · rw [if_pos (by omega), if_pos (by omega), if_pos (by omega)]
      by_cases h1 : i < b.length
      · rw [if_neg (by omega), if_pos (by omega), cmpI_f, Option.bind_some, rd_at a i h, rd_at b i h1, drop_at a i h, drop_at b i h1]
        unfold cmpIs
        by_cases he : cmpI a[i] b[i] = 0
        · rw [if_pos he, if_pos he, wrap_succ i (by omega), cmpIs_l a b hm hn k (i + 1) (by omega) (by omega) (by omega)]
        · rw [if_neg he, if_neg he]
      · rw [if_pos (by omega), drop_at a i h, List.drop_eq_nil_of_le (show b.length ≤ i by omega)]
        rfl
    · have e : i = a.length := by omega
      rw [if_neg (by omega), List.drop_eq_nil_of_le (show a.length ≤ i by omega)]
      by_cases h1 : a.length < b.length
      · rw [if_pos (by omega), drop_at b i (by omega)]
        rfl
      · rw [if_neg (by omega), List.drop_eq_nil_of_le (by omega)]
        rfl
theorem cmpIs_f (a b : List Int) (hm : a.length ≤ 9223372036854775807) (hn : b.length ≤ 9223372036854775807) (k : Nat) (hk : a.length < k) : slices_Compare_int_int.f k a b = some (cmpIs a b) := by
  unfold slices_Compare_int_int.f
  have := cmpIs_l a b hm hn k 0 (by omega) (by omega) (by omega)
  simpa using this
theorem orI_l (xs : List Int) (hm : xs.length ≤ 9223372036854775807) : ∀ (k i : Nat), i ≤ xs.length → xs.length - i < k →
    cmp_Or_int.l0 k 0 xs (xs.length : Int) (i : Int) = some (orI (xs.drop i))
  | 0, i, _, h => by omega
  | k + 1, i, hi, hk => by
    unfold cmp_Or_int.l0
    by_cases h : i < xs.length
    · rw [if_pos (by omega), if_pos (by omega), if_pos (by omega), rd_at xs i h, drop_at xs i h]
      unfold orI
      by_cases he : xs[i] = 0
      · rw [if_pos he, if_pos he, wrap_succ i (by omega), orI_l xs hm k (i + 1) (by omega) (by omega)]
      · rw [if_neg he, if_neg he]
    · rw [if_neg (by omega), List.drop_eq_nil_of_le (by omega)]
      rfl
theorem orI_f (xs : List Int) (hm : xs.length ≤ 9223372036854775807) (k : Nat) (hk : xs.length < k) : cmp_Or_int.f k xs = some (orI xs) := by
  unfold cmp_Or_int.f
  have := orI_l xs hm k 0 (by omega) (by omega)
  simpa using this
theorem cmp4_f (a0 a1 : ByteArray) (l2 : List Int) (a3 : Bool) (b0 b1 : ByteArray) (m2 : List Int) (b3 : Bool) (hm : l2.length ≤ 9223372036854775807) (hn : m2.length ≤ 9223372036854775807) (k : Nat) (hk : l2.length < k) (hk4 : 4 < k) :
    env_Cmp.f k a0 a1 l2 a3 b0 b1 m2 b3 = some (cmp4 a0 a1 l2 a3 b0 b1 m2 b3) := by
  have hb : ∀ b : Bool, env_bit.f b = some (bitI b) := fun b => by cases b <;> rfl
  have hw : wrap64 (bitI a3 - bitI b3) = bitI a3 - bitI b3 := by cases a3 <;> cases b3 <;> simp [bitI, wrap64]
  unfold env_Cmp.f cmp4
  rw [cmpS_f, cmpS_f, cmpIs_f l2 m2 hm hn k hk, hb, hb]
  simp only [Option.bind_some]
  rw [hw, orI_f _ (by simp) k (by simpa using hk4)]
  rfl

/-- env.Cmp, at every two loans. -/
theorem envCmp (a b : S27) (A2 : Option Addr) (c2 : Nat) (B2 : Option Addr) (d2 : Nat) (W : World) (g2 : Kd.C (Kd.int .i64) W A2 a.f1.f1.length a.f1.f1) (l2 : a.f1.f1.length ≤ c2) (h2 : Kd.C (Kd.int .i64) W B2 b.f1.f1.length b.f1.f1) (m2 : b.f1.f1.length ≤ d2) :
    Calls Try.prog 8 #[.agg #[.string a.f0, .string a.f1.f0, .slice A2 a.f1.f1.length c2, .bool a.f2], .agg #[.string b.f0, .string b.f1.f0, .slice B2 b.f1.f1.length d2, .bool b.f2]] W fun e W' =>
      e = .returned (.int .i64 (cmpLoan a b)) ∧ Below W.heap.size W W' :=
  env_Cmp.calls (a.f1.f1.length + 5) _ _ _ _ _ _ _ _ _ _ _ _ _ W g2 l2 h2 m2 (cmp4_f _ _ _ _ _ _ _ _ (Kd.C_max g2) (Kd.C_max h2) _ (by omega) (by omega))

end Go.Proofs.Ytadjekpfehjibaa.PEnv

namespace Go.Proofs.Ytadjekpfehjibaa.PEnv
open Go.RowKit Go.Shelf Go.Proofs.YtadjekpfehjibaaW.PrintWords Go.Proofs.YtadjekpfehjibaaW.PrintLast Go.Proofs.YtadjekpfehjibaaW.PrintMore Go.Proofs.Ytadjekpfehjibaa.PEnvHits
set_option linter.unusedVariables false
set_option linter.unusedSimpArgs false

theorem bl_neg : ∀ x y z : List UInt8, Op.bytesLess z x = true → Op.bytesLess y x = true ∨ Op.bytesLess z y = true
  | [], _, z, h => by cases z <;> simp [Op.bytesLess] at h
  | a :: x, [], z, h => .inl rfl
  | a :: x, b :: y, [], h => .inr rfl
  | a :: x, b :: y, c :: z, h => by
    simp only [Op.bytesLess, Bool.or_eq_true, decide_eq_true_eq, Bool.and_eq_true, beq_iff_eq, UInt8.lt_iff_toNat_lt, ← UInt8.toNat_inj] at h ⊢
    by_cases h1 : b.toNat < a.toNat
    · exact .inl (.inl h1)
    by_cases h2 : c.toNat < b.toNat
    · exact .inr (.inl h2)
    rcases h with h | ⟨he, hl⟩
    · omega
    · rcases bl_neg x y z hl with h3 | h3
      · exact .inl (.inr ⟨by omega, h3⟩)
      · exact .inr (.inr ⟨by omega, h3⟩)
theorem bl_asymm {x y : List UInt8} (h : Op.bytesLess x y = true) : Op.bytesLess y x = false := by
  cases h2 : Op.bytesLess y x with
  | false => rfl
  | true =>
    rcases bl_neg x x y h2 with h3 | h3
    · rw [bl_irrefl] at h3; cases h3
    · exact absurd (bl_irrefl x) (by
        have : ∀ (x y : List UInt8), Op.bytesLess x y = true → Op.bytesLess y x = true → False := by
          intro x
          induction x with
          | nil => intro y _ h; cases y <;> simp [Op.bytesLess] at h
          | cons a x ih =>
            intro y h h'
            cases y with
            | nil => simp [Op.bytesLess] at h
            | cons b y =>
              simp only [Op.bytesLess, Bool.or_eq_true, decide_eq_true_eq, Bool.and_eq_true, beq_iff_eq, UInt8.lt_iff_toNat_lt, ← UInt8.toNat_inj] at h h'
              rcases h with h | ⟨he, hl⟩
              · rcases h' with h' | ⟨he', _⟩ <;> omega
              · rcases h' with h' | ⟨he', hl'⟩
                · omega
                · exact ih y hl hl'
        exact (this x y h h2).elim)

/-- A three-way comparison by a total preorder. -/
structure Cm {α : Type} (c : α → α → Int) : Prop where
  flip : ∀ x y, c x y < 0 ↔ 0 < c y x
  le : ∀ x y z, c x y ≤ 0 → c y z ≤ 0 → c x z ≤ 0

section
variable {α β : Type}
theorem Cm.pull {c : α → α → Int} (h : Cm c) (f : β → α) : Cm (fun x y => c (f x) (f y)) := ⟨fun x y => h.flip _ _, fun x y z => h.le _ _ _⟩
theorem Cm.zero {c : α → α → Int} (h : Cm c) {x y : α} (e : c x y = 0) : c y x = 0 := by
  have h1 := h.flip x y
  have h2 := h.flip y x
  omega
theorem Cm.refl {c : α → α → Int} (h : Cm c) (x : α) : c x x = 0 := by
  have h1 := h.flip x x
  omega
theorem Cm.lt_le {c : α → α → Int} (h : Cm c) {x y z : α} (h1 : c x y < 0) (h2 : c y z ≤ 0) : c x z < 0 := by
  by_cases h3 : c x z < 0
  · exact h3
  · have e1 := (h.flip x y).mp h1
    have e2 := h.flip z x
    have e3 := h.flip x z
    have e4 := h.le y z x h2 (by omega)
    omega
theorem Cm.le_lt {c : α → α → Int} (h : Cm c) {x y z : α} (h1 : c x y ≤ 0) (h2 : c y z < 0) : c x z < 0 := by
  by_cases h3 : c x z < 0
  · exact h3
  · have e1 := (h.flip y z).mp h2
    have e2 := h.flip z x
    have e3 := h.flip x z
    have e4 := h.le z x y (by omega) h1
    omega
theorem Cm.lex {c d : α → α → Int} (h : Cm c) (k : Cm d) : Cm (fun x y => if c x y = 0 then d x y else c x y) := by
  refine ⟨fun x y => ?_, fun x y z => ?_⟩
  · have h1 := h.flip x y
    have h2 := h.flip y x
    show (if c x y = 0 then d x y else c x y) < 0 ↔ 0 < (if c y x = 0 then d y x else c y x)
    by_cases e : c x y = 0
    · rw [if_pos e, if_pos (h.zero e)]
      exact k.flip x y
    · rw [if_neg e, if_neg (fun e2 => e (h.zero e2))]
      exact h1
  · show (if c x y = 0 then d x y else c x y) ≤ 0 → (if c y z = 0 then d y z else c y z) ≤ 0 → (if c x z = 0 then d x z else c x z) ≤ 0
    intro h1 h2
    by_cases e1 : c x y = 0
    · rw [if_pos e1] at h1
      by_cases e2 : c y z = 0
      · rw [if_pos e2] at h2
        have e3 : c x z = 0 := by
          have a := h.le x y z (by omega) (by omega)
          have b := h.le z y x (by have := h.zero e2; omega) (by have := h.zero e1; omega)
          have := h.flip x z
          have := h.flip z x
          omega
        rw [if_pos e3]
        exact k.le x y z h1 h2
      · rw [if_neg e2] at h2
        have := h.le_lt (x := x) (y := y) (z := z) (by omega) (by omega)
        rw [if_neg (by omega)]
        omega
    · rw [if_neg e1] at h1
      have h3 : c y z ≤ 0 := by
        by_cases e2 : c y z = 0
        · omega
        · rw [if_neg e2] at h2; omega
      have := h.lt_le (x := x) (y := y) (z := z) (by omega) h3
      rw [if_neg (by omega)]
      omega
end

theorem cm_S : Cm cmpS := by
  refine ⟨fun x y => ?_, fun x y z => ?_⟩
  · unfold cmpS
    by_cases h1 : Op.bytesLess x.toList y.toList = true
    · rw [if_pos h1, bl_asymm h1]
      simp
      rw [if_pos h1]; decide
    · rw [if_neg h1]
      simp only [Bool.not_eq_true] at h1
      rw [h1]
      by_cases h2 : Op.bytesLess y.toList x.toList = true
      · rw [if_pos h2, if_pos h2]; decide
      · rw [if_neg h2, if_neg h2]; decide
  · have e : ∀ a b : ByteArray, cmpS a b ≤ 0 ↔ Op.bytesLess b.toList a.toList = false := fun a b => by
      unfold cmpS
      by_cases h1 : Op.bytesLess a.toList b.toList = true
      · rw [if_pos h1, bl_asymm h1]; decide
      · rw [if_neg h1]
        by_cases h2 : Op.bytesLess b.toList a.toList = true
        · rw [if_pos h2, h2]; decide
        · rw [if_neg h2]; simp at h2; rw [h2]; decide
    rw [e, e, e]
    intro h1 h2
    cases h3 : Op.bytesLess z.toList x.toList with
    | false => rfl
    | true =>
      rcases bl_neg _ y.toList _ h3 with h4 | h4
      · rw [h1] at h4; cases h4
      · rw [h2] at h4; cases h4
theorem cm_I : Cm cmpI := by
  refine ⟨fun x y => ?_, fun x y z => ?_⟩
  · unfold cmpI; (repeat' split) <;> omega
  · unfold cmpI; intro h1 h2; (repeat' split) <;> (repeat' split at h1) <;> (repeat' split at h2) <;> omega
theorem cm_bit : Cm (fun x y : Bool => bitI x - bitI y) := by
  refine ⟨fun x y => ?_, fun x y z => ?_⟩
  · cases x <;> cases y <;> decide
  · cases x <;> cases y <;> cases z <;> decide
theorem cmpIs_flip : ∀ x y : List Int, cmpIs x y < 0 ↔ 0 < cmpIs y x
  | [], [] => by decide
  | [], _ :: _ => by unfold cmpIs; decide
  | _ :: _, [] => by unfold cmpIs; decide
  | a :: x, b :: y => by
    unfold cmpIs
    have h1 := cm_I.flip a b
    by_cases e : cmpI a b = 0
    · rw [if_pos e, if_pos (cm_I.zero e)]
      exact cmpIs_flip x y
    · rw [if_neg e, if_neg (fun e2 => e (cm_I.zero e2))]
      exact h1
theorem cmpI_eq {a b : Int} (h : cmpI a b = 0) : a = b := by unfold cmpI at h; (repeat' split at h) <;> omega
theorem cmpIs_le : ∀ x y z : List Int, cmpIs x y ≤ 0 → cmpIs y z ≤ 0 → cmpIs x z ≤ 0
  | [], [], [], _, _ => by decide
  | [], [], _ :: _, _, _ => by unfold cmpIs; decide
  | [], _ :: _, [], _, h => by unfold cmpIs at h; exact absurd h (by decide)
  | [], _ :: _, _ :: _, _, _ => by unfold cmpIs; decide
  | _ :: _, [], _, h, _ => by unfold cmpIs at h; exact absurd h (by decide)
  | _ :: _, _ :: _, [], _, h => by unfold cmpIs at h; exact absurd h (by decide)
  | a :: x, b :: y, c :: z, h1, h2 => by
    unfold cmpIs at h1 h2 ⊢
    by_cases e1 : cmpI a b = 0
    · rw [if_pos e1] at h1
      have := cmpI_eq e1
      subst this
      by_cases e2 : cmpI a c = 0
      · rw [if_pos e2] at h2 ⊢
        exact cmpIs_le x y z h1 h2
      · rw [if_neg e2] at h2 ⊢
        exact h2
    · rw [if_neg e1] at h1
      have h3 : cmpI b c ≤ 0 := by
        by_cases e2 : cmpI b c = 0
        · omega
        · rw [if_neg e2] at h2; omega
      have := cm_I.lt_le (x := a) (y := b) (z := c) (by omega) h3
      rw [if_neg (by omega)]
      omega
theorem cm_Is : Cm cmpIs := ⟨cmpIs_flip, cmpIs_le⟩

theorem cmpLoan_eq (a b : S27) : cmpLoan a b = if cmpS a.f0 b.f0 = 0 then (if cmpS a.f1.f0 b.f1.f0 = 0 then (if cmpIs a.f1.f1 b.f1.f1 = 0 then bitI a.f2 - bitI b.f2 else cmpIs a.f1.f1 b.f1.f1) else cmpS a.f1.f0 b.f1.f0) else cmpS a.f0 b.f0 := by
  unfold cmpLoan cmp4
  simp only [orI]
  by_cases h : bitI a.f2 - bitI b.f2 = 0
  · rw [if_pos h, h]
  · rw [if_neg h]

/-- The order of loans. -/
theorem cm_Loan : Cm cmpLoan := by
  have h := (cm_S.pull (fun l : S27 => l.f0)).lex ((cm_S.pull (fun l : S27 => l.f1.f0)).lex ((cm_Is.pull (fun l : S27 => l.f1.f1)).lex (cm_bit.pull (fun l : S27 => l.f2))))
  have e : cmpLoan = _ := funext fun a => funext fun b => cmpLoan_eq a b
  rw [e]
  exact h

theorem cmpS_zero {a b : ByteArray} (h : cmpS a b = 0) : a.toList = b.toList := by
  unfold cmpS at h
  by_cases h1 : Op.bytesLess a.toList b.toList = true
  · rw [if_pos h1] at h; exact absurd h (by decide)
  · rw [if_neg h1] at h
    by_cases h2 : Op.bytesLess b.toList a.toList = true
    · rw [if_pos h2] at h; exact absurd h (by decide)
    · exact bl_tri _ _ (by simpa using h1) (by simpa using h2)
theorem cmpS_self {a b : ByteArray} (h : a.toList = b.toList) : cmpS a b = 0 := by
  unfold cmpS
  rw [h, bl_irrefl]
  rfl
theorem cmpS_neg (a b : ByteArray) : decide (cmpS a b < 0) = Op.bytesLess a.toList b.toList := by
  unfold cmpS
  by_cases h1 : Op.bytesLess a.toList b.toList = true
  · rw [if_pos h1, h1]; rfl
  · rw [if_neg h1]
    have : Op.bytesLess a.toList b.toList = false := by simpa using h1
    rw [this]
    split <;> rfl
theorem cmpIs_zero : ∀ {x y : List Int}, cmpIs x y = 0 → x = y
  | [], [], _ => rfl
  | [], _ :: _, h => by unfold cmpIs at h; exact absurd h (by decide)
  | _ :: _, [], h => by unfold cmpIs at h; exact absurd h (by decide)
  | a :: x, b :: y, h => by
    unfold cmpIs at h
    by_cases e : cmpI a b = 0
    · rw [if_pos e] at h
      rw [cmpI_eq e, cmpIs_zero h]
    · rw [if_neg e] at h; exact absurd h e

/-- Is the rest of a place less than another one's, or alike and less mutable? -/
def befI (x y : List Int) (a3 b3 : Bool) : Bool := if cmpIs x y = 0 then (!a3 && b3) else decide (cmpIs x y < 0)

theorem before_l (a0 a1 : ByteArray) (l2 : List Int) (a3 : Bool) (b0 b1 : ByteArray) (m2 : List Int) (b3 : Bool) (hm : l2.length ≤ 9223372036854775807) : ∀ (k i : Nat), i ≤ l2.length → i ≤ m2.length → 2 * (l2.length - i) + 1 < k →
    lienbookref05_before.l0 k (i : Int) a0 a1 l2 a3 b0 b1 m2 b3 = some (if cmpIs (l2.drop i) (m2.drop i) = 0 then (!a3 && b3) else if l2.drop i <+: m2.drop i ∨ m2.drop i <+: l2.drop i then decide (l2.length < m2.length) else decide (cmpIs (l2.drop i) (m2.drop i) < 0))
  | 0, i, _, _, h => by omega
  | 1, i, _, _, h => by omega
  | k + 2, i, hi, hj, hk => by
    unfold lienbookref05_before.l0
    by_cases h : i < l2.length
    · rw [if_pos (by omega)]
      unfold lienbookref05_before.j1
      by_cases h1 : i < m2.length
      · rw [if_pos (by simp; omega), if_pos (by omega), if_pos (by omega), if_pos (by omega), rd_at l2 i h, rd_at m2 i h1, drop_at l2 i h, drop_at m2 i h1]
        by_cases he : l2[i] = m2[i]
        · rw [if_pos he, wrap_succ i (by omega), before_l a0 a1 l2 a3 b0 b1 m2 b3 hm k (i + 1) (by omega) (by omega) (by omega)]
          have : cmpI m2[i] m2[i] = 0 := cm_I.refl _
          simp only [cmpIs, if_pos this, he, List.cons_prefix_cons, true_and]
        · rw [if_neg he]
          have hne : ¬ cmpI l2[i] m2[i] = 0 := fun e => he (cmpI_eq e)
          have hc : cmpIs (l2[i] :: l2.drop (i + 1)) (m2[i] :: m2.drop (i + 1)) = cmpI l2[i] m2[i] := by simp only [cmpIs, if_neg hne]
          rw [hc, if_neg hne, if_neg (by rw [List.cons_prefix_cons, List.cons_prefix_cons]; rintro (⟨e, _⟩ | ⟨e, _⟩); exact he e; exact he e.symm)]
          congr 1
          unfold cmpI
          by_cases hlt : l2[i] < m2[i]
          · rw [if_pos hlt]; simp [hlt]
          · rw [if_neg hlt]; simp [hlt]; split <;> decide
      · have e : i = m2.length := by omega
        rw [if_neg (by simp; omega), if_neg (by omega), drop_at l2 i h, List.drop_eq_nil_of_le (show m2.length ≤ i by omega)]
        simp only [cmpIs, List.nil_prefix, or_true, if_true]
        rw [if_neg (by decide)]
        congr 1
        simp only [decide_eq_decide]
        omega
    · have e : i = l2.length := by omega
      rw [if_neg (by omega)]
      unfold lienbookref05_before.j1
      rw [if_neg (by simp), List.drop_eq_nil_of_le (show l2.length ≤ i by omega)]
      by_cases h1 : l2.length = m2.length
      · rw [if_pos (by omega), List.drop_eq_nil_of_le (show m2.length ≤ i by omega)]
        simp only [cmpIs, if_true]
        cases a3 <;> simp
      · rw [if_neg (by omega), drop_at m2 i (by omega)]
        simp only [cmpIs, List.nil_prefix, true_or, if_true]
        rw [if_neg (by decide)]
        congr 1
        simp only [decide_eq_decide]
        omega

theorem cmpIs_pre : ∀ x y : List Int, cmpIs x y ≠ 0 → (x <+: y ∨ y <+: x) → (decide (cmpIs x y < 0) = decide (x.length < y.length))
  | [], [], h, _ => by simp [cmpIs] at h
  | [], _ :: _, _, _ => by simp [cmpIs]
  | _ :: _, [], _, _ => by simp [cmpIs]
  | a :: x, b :: y, h, hp => by
    rw [List.cons_prefix_cons, List.cons_prefix_cons] at hp
    have e : a = b := by rcases hp with ⟨e, _⟩ | ⟨e, _⟩; exact e; exact e.symm
    subst e
    have h0 : cmpI a a = 0 := cm_I.refl _
    have hc : cmpIs (a :: x) (a :: y) = cmpIs x y := by simp only [cmpIs, if_pos h0]
    rw [hc] at h ⊢
    rw [cmpIs_pre x y h (by rcases hp with ⟨_, p⟩ | ⟨_, p⟩; exact .inl p; exact .inr p)]
    simp

/-- Is a loan before another one? -/
def befL (a b : S27) : Bool := decide (cmpLoan a b < 0)

theorem before_f (a0 a1 : ByteArray) (l2 : List Int) (a3 : Bool) (b0 b1 : ByteArray) (m2 : List Int) (b3 : Bool) (hm : l2.length ≤ 9223372036854775807) (k : Nat) (hk : 2 * l2.length + 1 < k) :
    lienbookref05_before.f k a0 a1 l2 a3 b0 b1 m2 b3 = some (befL ⟨a0, ⟨a1, l2⟩, a3⟩ ⟨b0, ⟨b1, m2⟩, b3⟩) := by
  unfold lienbookref05_before.f befL
  rw [cmpLoan_eq]
  by_cases h0 : a0.toList = b0.toList
  · rw [if_pos h0, if_pos (cmpS_self h0)]
    by_cases h1 : a1.toList = b1.toList
    · rw [if_pos h1, if_pos (cmpS_self h1)]
      have := before_l a0 a1 l2 a3 b0 b1 m2 b3 hm k 0 (by omega) (by omega) (by omega)
      simp only [List.drop_zero] at this
      rw [show ((0 : Nat) : Int) = 0 from rfl] at this
      rw [this]
      congr 1
      by_cases hc : cmpIs l2 m2 = 0
      · rw [if_pos hc, if_pos hc]
        cases a3 <;> cases b3 <;> simp [bitI]
      · rw [if_neg hc, if_neg hc]
        split
        · rename_i hp
          exact (cmpIs_pre l2 m2 hc hp).symm
        · rfl
    · rw [if_neg h1, if_neg (fun e => h1 (cmpS_zero e)), cmpS_neg]
  · rw [if_neg h0, if_neg (fun e => h0 (cmpS_zero e)), cmpS_neg]

theorem cmpLoan_cases (a b : S27) : cmpLoan a b = if befL a b = true then -1 else if befL b a = true then 1 else 0 := by
  have hf := cm_Loan.flip a b
  have hg := cm_Loan.flip b a
  have hs : ∀ x y : ByteArray, cmpS x y = -1 ∨ cmpS x y = 0 ∨ cmpS x y = 1 := fun x y => by unfold cmpS; (repeat' split) <;> simp
  have hi : ∀ x y : List Int, cmpIs x y = -1 ∨ cmpIs x y = 0 ∨ cmpIs x y = 1 := by
    intro x
    induction x with
    | nil => intro y; cases y <;> simp [cmpIs]
    | cons a x ih =>
      intro y
      cases y with
      | nil => simp [cmpIs]
      | cons b y =>
        unfold cmpIs
        split
        · exact ih y
        · unfold cmpI; (repeat' split) <;> simp
  have h3 : cmpLoan a b = -1 ∨ cmpLoan a b = 0 ∨ cmpLoan a b = 1 := by
    rw [cmpLoan_eq]
    (repeat' split)
    · cases a.f2 <;> cases b.f2 <;> simp [bitI]
    · exact hi _ _
    · exact hs _ _
    · exact hs _ _
  unfold befL
  simp only [decide_eq_true_eq]
  split
  · omega
  · split
    · omega
    · omega

theorem refCmp_f (a b : S27) (h1 : a.f1.f1.length ≤ 9223372036854775807) (h2 : b.f1.f1.length ≤ 9223372036854775807) (k : Nat) (k1 : 2 * a.f1.f1.length + 1 < k) (k2 : 2 * b.f1.f1.length + 1 < k) :
    lienbookref05_Cmp.f k a.f0 a.f1.f0 a.f1.f1 a.f2 b.f0 b.f1.f0 b.f1.f1 b.f2 = some (cmpLoan a b) := by
  unfold lienbookref05_Cmp.f
  have e1 := before_f a.f0 a.f1.f0 a.f1.f1 a.f2 b.f0 b.f1.f0 b.f1.f1 b.f2 h1 k k1
  have e2 := before_f b.f0 b.f1.f0 b.f1.f1 b.f2 a.f0 a.f1.f0 a.f1.f1 a.f2 h2 k k2
  change lienbookref05_before.f k a.f0 a.f1.f0 a.f1.f1 a.f2 b.f0 b.f1.f0 b.f1.f1 b.f2 = some (befL a b) at e1
  change lienbookref05_before.f k b.f0 b.f1.f0 b.f1.f1 b.f2 a.f0 a.f1.f0 a.f1.f1 a.f2 = some (befL b a) at e2
  rw [e1, Option.bind_some, e2, Option.bind_some, cmpLoan_cases a b]
  cases befL a b <;> cases befL b a <;> rfl

end Go.Proofs.Ytadjekpfehjibaa.PEnv
