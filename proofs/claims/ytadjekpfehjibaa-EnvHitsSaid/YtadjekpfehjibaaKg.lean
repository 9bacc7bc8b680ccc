/- env.Hit and env.plain, at every input. -/
import Derived.Test.YtadjekpfehjibaaKf

namespace Go.Proofs.Ytadjekpfehjibaa.PEnv
open Go.RowKit Go.Shelf Go.Proofs.YtadjekpfehjibaaW.PrintWords Go.Proofs.YtadjekpfehjibaaW.PrintLast Go.Proofs.YtadjekpfehjibaaW.PrintMore Go.Proofs.Ytadjekpfehjibaa.PEnvHits
set_option linter.unusedVariables false
set_option linter.unusedSimpArgs false
attribute [local go_sem] Oper.semAt_some

/-- Does a loan hit a place? -/
def hitL (wr : Bool) (v : ByteArray) (s : List Int) (l : S27) : Bool := (decide (l.f0.toList = []) && overB l.f1.f0 l.f1.f1 v s) && (wr || l.f2)

set_option maxHeartbeats 4000000 in
/-- env.Hit$1. -/
theorem hit1 (wr : Bool) (v : ByteArray) (s : List Int) (Ap : Option Addr) (cp : Nat) (l : S27) (A2 : Option Addr) (c2 : Nat) (B4 B5 : Nat) (W : World)
    (h2 : Kd.C (Kd.int .i64) W A2 l.f1.f1.length l.f1.f1) (l2 : l.f1.f1.length ≤ c2) (hp : Kd.C (Kd.int .i64) W Ap s.length s) (lp : s.length ≤ cp)
    (h40 : W.cell? ⟨B4, 0, none⟩ = some (.string v)) (h41 : W.cell? ⟨B4, 1, none⟩ = some (.slice Ap s.length cp)) (h5 : W.cell? ⟨B5, 0, none⟩ = some (.bool wr)) :
    Calls Try.prog 22 #[.agg #[.string l.f0, .string l.f1.f0, .slice A2 l.f1.f1.length c2, .bool l.f2], ptr B4, ptr B5] W fun e W' => e = .returned (.bool (hitL wr v s l)) ∧ Below W.heap.size W W' := by
  have hb : Below W.heap.size W (W.alloc (.cells #[.string l.f0, .string l.f1.f0, .slice A2 l.f1.f1.length c2, .bool l.f2] 27)) := (Below.refl _ W).alloc (Nat.le_refl _) _
  have hcall := env_Overlap.calls (max l.f1.f1.length s.length + 1) l.f1.f0 A2 c2 l.f1.f1 v Ap cp s _ (W.alloc (.cells #[.string l.f0, .string l.f1.f0, .slice A2 l.f1.f1.length c2, .bool l.f2] 27))
    (Kd.C_below h2 hb) l2 (Kd.C_below hp hb) lp (overlap_f _ _ _ _ (Kd.C_max h2) (Kd.C_max hp) _ (by omega) (by omega))
  have k40 := below_cell hb h40
  have k41 := below_cell hb h41
  have k5 := below_cell hb h5
  have eb := enters_of Try.func6 (by kernel_rfl) rfl
  have fin : ∀ w', Below (W.alloc (.cells #[.string l.f0, .string l.f1.f0, .slice A2 l.f1.f1.length c2, .bool l.f2] 27)).heap.size (W.alloc (.cells #[.string l.f0, .string l.f1.f0, .slice A2 l.f1.f1.length c2, .bool l.f2] 27)) w' → Below W.heap.size W w' :=
    fun w' h => hb.trans (h.mono (by simp))
  have n5 : ∀ w', Below (W.alloc (.cells #[.string l.f0, .string l.f1.f0, .slice A2 l.f1.f1.length c2, .bool l.f2] 27)).heap.size (W.alloc (.cells #[.string l.f0, .string l.f1.f0, .slice A2 l.f1.f1.length c2, .bool l.f2] 27)) w' → w'.cell? ⟨B5, 0, none⟩ = some (.bool wr) :=
    fun w' h => below_cell h k5
  have n3 : ∀ w', Below (W.alloc (.cells #[.string l.f0, .string l.f1.f0, .slice A2 l.f1.f1.length c2, .bool l.f2] 27)).heap.size (W.alloc (.cells #[.string l.f0, .string l.f1.f0, .slice A2 l.f1.f1.length c2, .bool l.f2] 27)) w' → w'.cell? ⟨W.heap.size, 3, none⟩ = some (.bool l.f2) :=
    fun w' h => below_cell h (by unfold World.cell?; rw [World.alloc_heap_new]; rfl)
  have hl : hitL wr v s l = ((decide (l.f0.toList = []) && overB l.f1.f0 l.f1.f1 v s) && (wr || l.f2)) := rfl
  clear h2 hp h40 h41 h5
  unfold ptr
  by_cases hz : l.f0.toList = ([] : List UInt8)
  · have hz1 : (l.f0.toList == ([] : List UInt8)) = true := beq_iff_eq.mpr hz
    rw [decide_eq_true hz, Bool.true_and] at hl
    clear hz
    revert hl hcall
    cases overB l.f1.f0 l.f1.f1 v s with
    | true =>
      intro hcall hl
      cases wr with
      | true =>
        go_enter Try.func22, Try.ntmps22
        go_wp2_with (go_at_call 6; refine hcall.mono ?_; rintro e w' ⟨rfl, hb1⟩; have n5' := n5 w' hb1; have n3' := n3 w' hb1)
        go_ret
        exact ⟨by rw [hl]; rfl, fin _ hb1⟩
      | false =>
        go_enter Try.func22, Try.ntmps22
        go_wp2_with (go_at_call 6; refine hcall.mono ?_; rintro e w' ⟨rfl, hb1⟩; have n5' := n5 w' hb1; have n3' := n3 w' hb1)
        go_ret
        exact ⟨by rw [hl]; simp, fin _ hb1⟩
    | false =>
      intro hcall hl
      go_enter Try.func22, Try.ntmps22
      go_wp2_with (go_at_call 6; refine hcall.mono ?_; rintro e w' ⟨rfl, hb1⟩; have n5' := n5 w' hb1; have n3' := n3 w' hb1)
      go_ret
      exact ⟨by rw [hl]; rfl, fin _ hb1⟩
  · have hz1 : (l.f0.toList == ([] : List UInt8)) = false := by simpa using hz
    rw [decide_eq_false hz, Bool.false_and, Bool.false_and] at hl
    clear hz hcall
    go_enter Try.func22, Try.ntmps22
    go_wp2_with fail
    go_ret
    exact ⟨by rw [hl]; rfl, hb⟩

theorem idx_lt {α : Type} {xs : List α} {i : Nat} {x : α} (h : xs[i]? = some x) : i < xs.length := by
  rcases Nat.lt_or_ge i xs.length with h1 | h1
  · exact h1
  · rw [List.getElem?_eq_none h1] at h; cases h

set_option maxHeartbeats 1000000 in
/-- slices.ContainsFunc of loans, at env.Hit$1. -/
theorem conHit (wr : Bool) (v : ByteArray) (s : List Int) (Ap : Option Addr) (cp : Nat) (ls : List S27) (A : Option Addr) (c : Nat) (B4 B5 : Nat) (W : World)
    (hC : Kd.C k27 W A ls.length ls) (hp : Kd.C (Kd.int .i64) W Ap s.length s) (lp : s.length ≤ cp)
    (h40 : W.cell? ⟨B4, 0, none⟩ = some (.string v)) (h41 : W.cell? ⟨B4, 1, none⟩ = some (.slice Ap s.length cp)) (h5 : W.cell? ⟨B5, 0, none⟩ = some (.bool wr)) :
    Calls Try.prog 24 #[.slice A ls.length c, .func (.func 22) #[] #[ptr B4, ptr B5]] W fun e W' => e = .returned (.bool (ls.any (hitL wr v s))) ∧ Below W.heap.size W W' := by
  have eg : ∀ args w, (callFunc 22 args).run Try.prog w = .ok (.enter 22 args) w := enters_of Try.func22 (by kernel_rfl) rfl
  obtain ⟨vs, hv, hvK⟩ := els_of_C hC
  refine (conLoan 22 #[ptr B4, ptr B5] eg A ls.length c vs W W (fun i W' => Below W.heap.size W W' ∧ ∀ j l, j < i → ls[j]? = some l → hitL wr v s l = false) (fun i W' => Below W.heap.size W W' ∧ ∃ l, ls[i]? = some l ∧ hitL wr v s l = true)
    hv (fun i W' h => h.1) ?_ ⟨Below.refl _ _, fun j l hj => absurd hj (Nat.not_lt_zero _)⟩).mono ?_
  · rintro i cs W1 hi ⟨hb, hn⟩
    have hl : i < ls.length := by have := idx_lt hi; have := hv.1; omega
    obtain ⟨cs', e, hK⟩ := hvK i _ (List.getElem?_eq_getElem hl)
    rw [hi] at e
    cases e
    obtain ⟨A2, c2, rfl, l2, g2⟩ := k27_open hK
    refine (hit1 wr v s Ap cp ls[i] A2 c2 B4 B5 W1 (Kd.C_below g2 hb) l2 (Kd.C_below hp hb) lp (below_cell hb h40) (below_cell hb h41) (below_cell hb h5)).mono ?_
    rintro e W2 ⟨rfl, hb2⟩
    cases hh : hitL wr v s ls[i] with
    | true => exact .inr ⟨rfl, hb.trans (hb2.mono hb.size), _, List.getElem?_eq_getElem hl, hh⟩
    | false =>
      refine .inl ⟨rfl, hb.trans (hb2.mono hb.size), fun j l hj hjl => ?_⟩
      by_cases hji : j = i
      · subst hji
        rw [List.getElem?_eq_getElem hl] at hjl
        cases hjl
        exact hh
      · exact hn j l (by omega) hjl
  · rintro e W1 (⟨rfl, hb, hn⟩ | ⟨rfl, k, hk, hb, l, hl, hh⟩)
    · refine ⟨?_, hb⟩
      have : ls.any (hitL wr v s) = false := by
        rw [List.any_eq_false]
        intro l hl
        obtain ⟨j, hj⟩ := List.mem_iff_getElem?.mp hl
        rw [hn j l (idx_lt hj) hj]
        simp
      rw [this]
    · refine ⟨?_, hb⟩
      have : ls.any (hitL wr v s) = true := List.any_eq_true.mpr ⟨l, List.mem_of_getElem? hl, hh⟩
      rw [this]

/-- The marks of loops that are over are taken off, one by one. -/
theorem leavesMarks {P : Program} {fn : Func} {tmps : Array Value} {R : Ending → World → Prop} {n n₀ : Nat} : ∀ (Ds : List Nat) (W : World), Ds.Nodup → (∀ D ∈ Ds, n₀ ≤ D ∧ W.heap[D]? = some (.deferred (some []))) →
    (∀ W', CK n₀ W W' → LeavesInM Fence.wide n P fn tmps R [] .returning W') →
    LeavesInM Fence.wide n P fn tmps R (Ds.map (fun D => { target := .collected D, args := #[] })) .returning W
  | [], W, _, _, h => h W ⟨Below.refl _ _, fun b o hb _ => hb⟩
  | D :: Ds, W, hn, hD, h => by
    have hd := hD D (by simp)
    have hck : CK n₀ W (W.putObj D (.deferred none)) :=
      ⟨(Below.refl n₀ W).grown (grownBy_putObj' W D (.deferred none)) (by have := (Array.getElem?_eq_some_iff.1 hd.2).1; omega) (fun k e => by cases e; exact hd.1), fun b o hb hc => by
        rw [World.putObj_heap_other (fun e => by subst e; rw [hd.2] at hb; cases hb; cases hc)]; exact hb⟩
    refine ⟨by simp, .inl ⟨D, _, rfl, run_takeDeferred hd.2, ?_⟩⟩
    refine leavesMarks Ds _ (List.nodup_cons.mp hn).2 (fun D' hD' => ⟨(hD D' (by simp [hD'])).1, ?_⟩) (fun W' hW' => h W' (hck.trans hW'))
    rw [World.putObj_heap_other (fun e => by subst e; exact (List.nodup_cons.mp hn).1 hD')]
    exact (hD D' (by simp [hD'])).2

/-- Is a place hit in a type itself; in an environment? -/
def hitT (wr : Bool) (v : ByteArray) (s : List Int) (t : S37) : Bool := t.f3.any (hitL wr v s)
def hitE (wr : Bool) (v : ByteArray) (s : List Int) (es : List S39) : Bool := es.any (fun b => (partsT b.f1).any (hitT wr v s))

/-- Where env.Hit's loop begins. -/
structure HStart (wr : Bool) (v : ByteArray) (s : List Int) (Ap : Option Addr) (cp : Nat) (w W : World) : Prop where
  sz : W.heap.size = w.heap.size + 4
  bel : Below w.heap.size w W
  c40 : W.cell? ⟨w.heap.size, 0, none⟩ = some (.string v)
  c41 : W.cell? ⟨w.heap.size, 1, none⟩ = some (.slice Ap s.length cp)
  c5 : W.cell? ⟨w.heap.size + 1, 0, none⟩ = some (.bool wr)
  b6 : Boxed W (w.heap.size + 1 + 1) 4 (.bool false)
  c7 : W.cell? ⟨w.heap.size + 1 + 1 + 1, 0, none⟩ = some (.func (.func 22) #[] #[ptr w.heap.size, ptr (w.heap.size + 1)])
theorem hStart (wr : Bool) (v : ByteArray) (s : List Int) (Ap : Option Addr) (cp : Nat) (w : World) : HStart wr v s Ap cp w ((((w.alloc (.cells #[.string v, .slice Ap s.length cp] 25)).alloc (.cells #[.bool wr] 4)).alloc (.cells #[.bool false] 4)).alloc (.cells #[.func (.func 22) #[] #[.pointer (some ⟨w.heap.size, 0, none⟩), .pointer (some ⟨w.heap.size + 1, 0, none⟩)]] 49)) := by
  have e1 := World.alloc_heap_new w (.cells #[.string v, .slice Ap s.length cp] 25)
  generalize hw1 : w.alloc (.cells #[.string v, .slice Ap s.length cp] 25) = w1 at *
  have z1 : w1.heap.size = w.heap.size + 1 := by rw [← hw1]; simp
  have b1 : Below w.heap.size w w1 := by rw [← hw1]; exact (Below.refl _ w).alloc (Nat.le_refl _) _
  have e2 := World.alloc_heap_new w1 (.cells #[.bool wr] 4)
  have b2 : Below w1.heap.size w1 (w1.alloc (.cells #[.bool wr] 4)) := (Below.refl _ w1).alloc (Nat.le_refl _) _
  generalize hw2 : w1.alloc (.cells #[.bool wr] 4) = w2 at *
  have z2 : w2.heap.size = w.heap.size + 1 + 1 := by rw [← hw2]; simp [z1]
  have e3 := World.alloc_heap_new w2 (.cells #[.bool false] 4)
  have b3 : Below w2.heap.size w2 (w2.alloc (.cells #[.bool false] 4)) := (Below.refl _ w2).alloc (Nat.le_refl _) _
  generalize hw3 : w2.alloc (.cells #[.bool false] 4) = w3 at *
  have z3 : w3.heap.size = w.heap.size + 1 + 1 + 1 := by rw [← hw3]; simp [z2]
  have e4 := World.alloc_heap_new w3 (.cells #[.func (.func 22) #[] #[.pointer (some ⟨w.heap.size, 0, none⟩), .pointer (some ⟨w.heap.size + 1, 0, none⟩)]] 49)
  have b4 : Below w3.heap.size w3 (w3.alloc (.cells #[.func (.func 22) #[] #[.pointer (some ⟨w.heap.size, 0, none⟩), .pointer (some ⟨w.heap.size + 1, 0, none⟩)]] 49)) := (Below.refl _ w3).alloc (Nat.le_refl _) _
  have z4' : (w3.alloc (.cells #[.func (.func 22) #[] #[.pointer (some ⟨w.heap.size, 0, none⟩), .pointer (some ⟨w.heap.size + 1, 0, none⟩)]] 49)).heap.size = w.heap.size + 4 := by simp [z3]
  generalize hw4 : w3.alloc (.cells #[.func (.func 22) #[] #[.pointer (some ⟨w.heap.size, 0, none⟩), .pointer (some ⟨w.heap.size + 1, 0, none⟩)]] 49) = w4 at *
  have b24 : Below w2.heap.size w2 w4 := b3.trans (b4.mono (by omega))
  have b14 : Below w1.heap.size w1 w4 := b2.trans (b24.mono (by omega))
  rw [z1] at e2
  rw [z2] at e3
  rw [z3] at e4
  exact ⟨z4', b1.trans (b14.mono (by omega)), below_cell b14 (by unfold World.cell?; rw [e1]; rfl), below_cell b14 (by unfold World.cell?; rw [e1]; rfl), below_cell b24 (by unfold World.cell?; rw [e2]; rfl),
    (b4.block _ (by omega)).trans e3, by unfold World.cell?; rw [e4]; rfl⟩

def leftOf (n : Nat) (a : Act) : Nat := match a.tmps.getD 14 undef with | .int _ k => n - k.toNat | _ => 0
theorem leftOf_eq (n : Nat) (a : Act) (k : Int) (h : a.tmps.getD 14 undef = .int .i64 k) : leftOf n a = n - k.toNat := by unfold leftOf; rw [h]

def HI (wr : Bool) (v : ByteArray) (s : List Int) (es : List S39) (w W0 : World) (kk : Nat) (Ds : List Nat) (W : World) : Prop :=
  kk ≤ es.length ∧ Below W0.heap.size W0 W ∧ Ds.Nodup ∧ (∀ D ∈ Ds, w.heap.size ≤ D ∧ W.heap[D]? = some (.deferred (some []))) ∧ (∀ j b, j < kk → es[j]? = some b → (partsT b.f1).any (hitT wr v s) = false)

set_option maxRecDepth 100000 in
set_option maxHeartbeats 4000000 in
/-- env.Hit, at every environment. -/
theorem envHit (wr : Bool) (v : ByteArray) (s : List Int) (Ap : Option Addr) (cp : Nat) (es : List S39) (A : Option Addr) (c : Nat) (w : World)
    (hC : Kd.C k39 w A es.length es) (hc : es.length ≤ c) (hp : Kd.C (Kd.int .i64) w Ap s.length s) (lp : s.length ≤ cp) :
    Calls Try.prog 10 #[.slice A es.length c, .agg #[.string v, .slice Ap s.length cp], .bool wr] w fun e W' => e = .returned (.bool (hitE wr v s es)) ∧ Below w.heap.size w W' := by
  have hmax := Kd.C_max hC
  refine (callsIn_wide (n := 9)).1 ?_
  refine callsIn_of_wp_marks Try.func10 rfl trivial ?_ rfl
  simp only [Try.ntmps10, List.size_toArray, List.length_cons, List.length_nil, Nat.reduceAdd, Nat.reduceSub, Array.replicate_succ, Array.replicate_zero, List.push_toArray, List.append_toArray, List.nil_append, List.cons_append]
  gi_wp2
  have hS := hStart wr v s Ap cp w
  obtain ⟨W0, hW0⟩ : ∃ W0, ((((w.alloc (.cells #[.string v, .slice Ap s.length cp] 25)).alloc (.cells #[.bool wr] 4)).alloc (.cells #[.bool false] 4)).alloc (.cells #[.func (.func 22) #[] #[.pointer (some ⟨w.heap.size, 0, none⟩), .pointer (some ⟨w.heap.size + 1, 0, none⟩)]] 49)) = W0 := ⟨_, rfl⟩
  rw [hW0] at hS ⊢
  clear hW0
  refine wpIn_loop (fun a W => ∃ (kk : Nat) (Ds : List Nat) (u9 u15 u16 u17 u18 u19 u20 u26 : Value), HI wr v s es w W0 kk Ds W ∧ a = { tmps := #[.slice A es.length c, .agg #[.string v, .slice Ap s.length cp], .bool wr, undef, .pointer (some ⟨w.heap.size, 0, none⟩), .pointer (some ⟨w.heap.size + 1, 0, none⟩), .pointer (some ⟨w.heap.size + 1 + 1, 0, none⟩), .pointer (some ⟨w.heap.size + 1 + 1 + 1, 0, none⟩), undef, u9, undef, .func (.func 22) #[] #[.pointer (some ⟨w.heap.size, 0, none⟩), .pointer (some ⟨w.heap.size + 1, 0, none⟩)], .slice A es.length c, .int .i64 es.length, .int .i64 kk, u15, u16, u17, u18, u19, u20, undef, undef, undef, undef, undef, u26], defers := Ds.map (fun D => { target := .collected D, args := #[] }) })
    (fun a W => leftOf es.length a) ?start ?round
  case start => exact ⟨0, [], undef, undef, undef, undef, undef, undef, undef, undef, ⟨Nat.zero_le _, Below.refl _ _, List.nodup_nil, by simp, fun j b h => absurd h (Nat.not_lt_zero _)⟩, rfl⟩
  case round =>
    rintro _ W ⟨kk, Ds, u9, u15, u16, u17, u18, u19, u20, u26, ⟨hkk, hB, hN, hD, hno⟩, rfl⟩
    by_cases hlt : kk < es.length
    · have hltz : (kk : Int) < (es.length : Int) := by omega
      have hBw : Below w.heap.size w W := hS.bel.trans (hB.mono (by have := hS.sz; omega))
      obtain ⟨ad, A4, c4, A5, c5, rfl, x0, x1, x2, x3, x4, x5, l4, g4, l5, g5⟩ := at_T39 (Kd.C_below hC hBw) (kk : Int) (by omega) hltz
      have hrd : es[kk]? = some (rd_T39 es (kk : Int)) := by
        simp only [rd_T39, Int.toNat_natCast, List.getD_eq_getElem?_getD, List.getElem?_eq_getElem hlt, Option.getD_some]
      simp only [Int.toNat_natCast] at x0 x1 x2 x3 x4 x5
      generalize rd_T39 es (kk : Int) = bd at *
      gi_wp2_with ((try refine ⟨trivial, ?_⟩); gi_at_call 23; refine (callsIn_wide.2 (parts0 _ _ _ _ _ _ _ _ _ _)).mono ?_; rintro e w' ⟨rfl, rfl⟩)
      have bb0 : Below W.heap.size W (W.alloc (.cells #[.string bd.f0, .int .i64 bd.f1.f0, .bool bd.f1.f1, .bool bd.f1.f2, .slice A4 bd.f1.f3.length c4, .slice A5 bd.f1.f4.length c5] 39)) := (Below.refl _ W).alloc (Nat.le_refl _) _
      have z1 : ((W.alloc (.cells #[.string bd.f0, .int .i64 bd.f1.f0, .bool bd.f1.f1, .bool bd.f1.f2, .slice A4 bd.f1.f3.length c4, .slice A5 bd.f1.f4.length c5] 39)).alloc (.cells #[.int .i64 bd.f1.f0, .bool bd.f1.f1, .bool bd.f1.f2, .slice A4 bd.f1.f3.length c4, .slice A5 bd.f1.f4.length c5] 37)).heap.size = W.heap.size + 2 := by simp
      have bb : Below W.heap.size W ((W.alloc (.cells #[.string bd.f0, .int .i64 bd.f1.f0, .bool bd.f1.f1, .bool bd.f1.f2, .slice A4 bd.f1.f3.length c4, .slice A5 bd.f1.f4.length c5] 39)).alloc (.cells #[.int .i64 bd.f1.f0, .bool bd.f1.f1, .bool bd.f1.f2, .slice A4 bd.f1.f3.length c4, .slice A5 bd.f1.f4.length c5] 37)) := bb0.alloc (by simp) _
      have hBt0 : ((W.alloc (.cells #[.string bd.f0, .int .i64 bd.f1.f0, .bool bd.f1.f1, .bool bd.f1.f2, .slice A4 bd.f1.f3.length c4, .slice A5 bd.f1.f4.length c5] 39)).alloc (.cells #[.int .i64 bd.f1.f0, .bool bd.f1.f1, .bool bd.f1.f2, .slice A4 bd.f1.f3.length c4, .slice A5 bd.f1.f4.length c5] 37)).heap[W.heap.size + 1]? = some (.cells #[.int .i64 bd.f1.f0, .bool bd.f1.f1, .bool bd.f1.f2, .slice A4 bd.f1.f3.length c4, .slice A5 bd.f1.f4.length c5] 37) := by
        have h := World.alloc_heap_new (W.alloc (.cells #[.string bd.f0, .int .i64 bd.f1.f0, .bool bd.f1.f1, .bool bd.f1.f2, .slice A4 bd.f1.f3.length c4, .slice A5 bd.f1.f4.length c5] 39)) (.cells #[.int .i64 bd.f1.f0, .bool bd.f1.f1, .bool bd.f1.f2, .slice A4 bd.f1.f3.length c4, .slice A5 bd.f1.f4.length c5] 37)
        rw [World.size_alloc] at h
        exact h
      obtain ⟨W1, hW1⟩ : ∃ W1, ((W.alloc (.cells #[.string bd.f0, .int .i64 bd.f1.f0, .bool bd.f1.f1, .bool bd.f1.f2, .slice A4 bd.f1.f3.length c4, .slice A5 bd.f1.f4.length c5] 39)).alloc (.cells #[.int .i64 bd.f1.f0, .bool bd.f1.f1, .bool bd.f1.f2, .slice A4 bd.f1.f3.length c4, .slice A5 bd.f1.f4.length c5] 37)) = W1 := ⟨_, rfl⟩
      rw [hW1] at z1 bb hBt0 ⊢
      clear hW1 bb0
      have hBt : ∀ (i : Nat) u, [Value.int .i64 bd.f1.f0, .bool bd.f1.f1, .bool bd.f1.f2, .slice A4 bd.f1.f3.length c4, .slice A5 bd.f1.f4.length c5][i]? = some u → W1.cell? ⟨W.heap.size + 1, i, none⟩ = some u := by
        intro i u hu
        unfold World.cell?
        rw [hBt0]
        simpa using hu
      have hz := hS.sz
      have hBsz := hB.size
      have hB01 : Below W0.heap.size W0 W1 := hB.trans (bb.mono hB.size)
      have hBw1 : Below w.heap.size w W1 := hBw.trans (bb.mono (by omega))
      have hD1 : ∀ D ∈ Ds, w.heap.size ≤ D ∧ D < W.heap.size ∧ W1.heap[D]? = some (.deferred (some [])) := fun D hd => by
        have h1 := hD D hd
        have h2 := (Array.getElem?_eq_some_iff.1 h1.2).1
        exact ⟨h1.1, h2, (bb.block D h2).trans h1.2⟩
      refine wpIn_rangeFunc_ownH (n := 9) rfl (by decide : 1 ≤ 9) (gf := 36) (lb := #[ptr (W.heap.size + 1)]) rfl trivial (enters_of Try.func36 (by kernel_rfl) rfl)
        (partsStops 8 (W.heap.size + 1) bd.f1 _ W1 (k37_mk W1 bd.f1 l4 (Kd.C_below g4 bb) l5 (Kd.C_below g5 bb)) hBt) (fun h k => h.trans k) (fun W l o o' hl h hc hw => CK.putObj (Nat.le_refl _) W l o o' hl h hc hw) (Below.refl _ _) (fun _ => rfl)
        (fun pre W' => Below W1.heap.size W1 W' ∧ ∀ x ∈ pre, hitT wr v s x.1.1 = false)
        (fun c pre W' => (c = .ret ∧ ∃ x ∈ pre, hitT wr v s x.1.1 = true) ∧ Boxed W' (w.heap.size + 1 + 1) 4 (.bool true) ∧ Below w.heap.size w W' ∧ ∀ D ∈ Ds, W'.heap[D]? = some (.deferred (some [])))
        (OwnFrom.and (ownFrom_below (Nat.le_refl _) (Nat.le_refl _)) (ownFrom_pure _ (fun (pre : List (Part W1)) => ∀ x ∈ pre, hitT wr v s x.1.1 = false)))
        (fun c => OwnFrom.and (ownFrom_pure _ (fun (pre : List (Part W1)) => c = .ret ∧ ∃ x ∈ pre, hitT wr v s x.1.1 = true)) (OwnFrom.and (Own.from (boxed_own _ _ (fun _ => Value.bool true)) _) (OwnFrom.and (ownFrom_below (Nat.le_refl _) (by omega))
          (fun _ X Y row hs hg hr D hd => by
            have h2 := (hD1 D hd).2.1
            refine (hg.block D (Array.getElem?_eq_some_iff.1 (hs D hd)).1 (fun e => ?_)).trans (hs D hd)
            have := (hr D e.symm).1
            omega))))
        ⟨Below.refl _ _, by simp⟩
        (fun x a' W' => ∃ Bx, W1.heap.size ≤ Bx ∧ W'.heap[Bx]? = some (.cells x.1.2.toArray 37) ∧ a' = { tmps := #[.slice (some ad) es.length c, .agg #[.string v, .slice Ap s.length cp], .bool wr, undef, .pointer (some ⟨w.heap.size, 0, none⟩), .pointer (some ⟨w.heap.size + 1, 0, none⟩), .pointer (some ⟨w.heap.size + 1 + 1, 0, none⟩), .pointer (some ⟨w.heap.size + 1 + 1 + 1, 0, none⟩), undef, .pointer (some ⟨W.heap.size, 0, none⟩), .pointer (some ⟨Bx, 0, none⟩), .func (.func 22) #[] #[.pointer (some ⟨w.heap.size, 0, none⟩), .pointer (some ⟨w.heap.size + 1, 0, none⟩)], .slice (some ad) es.length c, .int .i64 es.length, .int .i64 kk, .bool true, .pointer (some (ad.add (kk * 6))), .agg #[.string bd.f0, .int .i64 bd.f1.f0, .bool bd.f1.f1, .bool bd.f1.f2, .slice A4 bd.f1.f3.length c4, .slice A5 bd.f1.f4.length c5], .pointer (some ⟨W.heap.size, 1, none⟩), .agg #[.int .i64 bd.f1.f0, .bool bd.f1.f1, .bool bd.f1.f2, .slice A4 bd.f1.f3.length c4, .slice A5 bd.f1.f4.length c5], .func (.func 36) #[] #[ptr (W.heap.size + 1)], .agg x.1.2.toArray, undef, undef, undef, undef, u26], defers := [] })
        (fun x a' _ X Y row hs hg hr => by
          obtain ⟨Bx, h1, h2, h3⟩ := hs
          refine ⟨Bx, h1, (hg.block Bx (Array.getElem?_eq_some_iff.1 h2).1 (fun e => ?_)).trans h2, h3⟩
          obtain ⟨_, o, ho, hc⟩ := hr Bx e.symm
          rw [h2] at ho
          cases ho
          cases hc)
        ?assign ?body ?done ?stop
      case assign =>
        rintro l pre ⟨⟨t, cs⟩, hK⟩ W' K ⟨hB1, hpre⟩ hKa
        have hK' : k37.K W1 t cs := hK
        obtain ⟨B3, d3, B4, d4, rfl, m3, q3, m4, q4⟩ := k37_open hK'
        gi_wp2
        have hbn : Below W'.heap.size W' (W'.alloc (.cells #[.int .i64 t.f0, .bool t.f1, .bool t.f2, .slice B3 t.f3.length d3, .slice B4 t.f4.length d4] 37)) := (Below.refl _ W').alloc (Nat.le_refl _) _
        exact hKa _ _ ((KeepsOthers.alloc _ _).from _) (CK.of_below hB1.size hbn) ⟨hB1.trans (hbn.mono hB1.size), hpre⟩ ⟨W'.heap.size, hB1.size, World.alloc_heap_new _ _, rfl⟩
      case body =>
        rintro l pre ⟨⟨t, cs⟩, hK⟩ a' W' hl ⟨r, hr⟩ ⟨hB1, hpre⟩ ⟨Bx, hBx, bX, rfl⟩ hlt'
        have hK' : k37.K W1 t cs := hK
        obtain ⟨B3, d3, B4, d4, rfl, m3, q3, m4, q4⟩ := k37_open hK'
        have hB0 : Below W0.heap.size W0 W' := hB01.trans (hB1.mono hB01.size)
        have hBw' : Below w.heap.size w W' := hBw1.trans (hB1.mono hBw1.size)
        have x3' : W'.cell? ⟨Bx, 3, none⟩ = some (.slice B3 t.f3.length d3) := by unfold World.cell?; rw [bX]; rfl
        have x7' := below_cell hB0 hS.c7
        have hcon := conHit wr v s Ap cp t.f3 B3 d3 w.heap.size (w.heap.size + 1) W' (Kd.C_below q3 hB1) (Kd.C_below hp hBw') lp (below_cell hB0 hS.c40) (below_cell hB0 hS.c41) (below_cell hB0 hS.c5)
        have b6' : ∀ w', Below W'.heap.size W' w' → Boxed w' (w.heap.size + 1 + 1) 4 (.bool false) := fun w' hb => by
          have h6 := hS.b6
          have h6l := h6.lt
          exact (hb.block _ (by have := hB0.size; omega)).trans ((hB0.block _ h6l).trans h6)
        have kf : ∀ w', Below W'.heap.size W' w' → KeepsFrom W1.heap.size W' w' := fun w' hb => KeepsFrom.of_grownBy (row := none) ⟨hb.os, hb.tape, hb.output, hb.size, fun k hk _ => hb.block k hk⟩ (fun j e => by cases e)
        cases hh : hitT wr v s t with
        | true =>
          rw [show t.f3.any (hitL wr v s) = true from hh] at hcon
          unfold ptr at hcon x7'
          gi_wp2_with ((try refine ⟨trivial, ?_⟩); gi_at_call 24; refine (CallsIn.inRound l (callsIn_wide.2 hcon)).mono ?_; rintro e w' ⟨rfl, hb'⟩; have h6 := b6' w' hb'; have h6c := h6.cell; have h6f := h6.frozen)
          refine ⟨(kf _ hb').trans ((KeepsOthers.setCell _ _ _).from _), ⟨rfl, ⟨(t, _), hK⟩, by simp, hh⟩, h6.set _, ?_, ?_⟩
          · exact (hBw'.trans (hb'.mono hBw'.size)).setCell (p := ⟨w.heap.size + 1 + 1, 0, none⟩) (by simp; omega) _
          · intro D hd
            have h1 := hD1 D hd
            exact (KeepsOthers.setCell _ _ _).same D _ ((hb'.block D (by have := hB1.size; omega)).trans ((hB1.block D (by omega)).trans h1.2.2)) rfl
        | false =>
          rw [show t.f3.any (hitL wr v s) = false from hh] at hcon
          unfold ptr at hcon x7'
          gi_wp2_with ((try refine ⟨trivial, ?_⟩); gi_at_call 24; refine (CallsIn.inRound l (callsIn_wide.2 hcon)).mono ?_; rintro e w' ⟨rfl, hb'⟩; have h6 := b6' w' hb'; have h6c := h6.cell; have h6f := h6.frozen)
          exact ⟨kf _ hb', CK.of_below hB1.size hb', hB1.trans (hb'.mono hB1.size), fun x hx => (List.mem_append.1 hx).elim (hpre x) (fun e => by simp at e; subst e; exact hh)⟩
      case done =>
        rintro D ys W' hDl hys ⟨hB1, hno'⟩ hKd
        have hnone : (partsT bd.f1).any (hitT wr v s) = false := by
          rw [← hys, List.any_map, List.any_eq_false]
          intro x hx
          simp [hno' x hx]
        gi_wp2
        refine ⟨⟨kk + 1, D :: Ds, _, _, _, _, _, _, _, _, ⟨by omega, hB01.trans (hB1.mono hB01.size), ?_, ?_, ?_⟩, rfl⟩, ?_⟩
        · refine List.nodup_cons.mpr ⟨fun hd => ?_, hN⟩
          have := (hD1 D hd).2.1
          omega
        · intro D' hd
          rcases List.mem_cons.mp hd with rfl | hd
          · exact ⟨by omega, hKd⟩
          · have h1 := hD1 D' hd
            exact ⟨h1.1, (hB1.block D' (by omega)).trans h1.2.2⟩
        · intro j b hj hb
          by_cases hjk : j = kk
          · subst hjk
            rw [hrd] at hb
            cases hb
            exact hnone
          · exact hno j b (by omega) hb
        · rw [leftOf_eq _ _ ((kk : Int) + 1) rfl, leftOf_eq _ _ (kk : Int) rfl]
          omega
      case stop =>
        rintro D c pre W' hDl ⟨rest, hrest⟩ ⟨⟨rfl, x, hx, hxh⟩, h6, hBw', hDs⟩ hKd
        have hall : hitE wr v s es = true := by
          refine List.any_eq_true.mpr ⟨bd, List.mem_of_getElem? hrd, List.any_eq_true.mpr ⟨x.1.1, ?_, hxh⟩⟩
          rw [← hrest]
          exact List.mem_append.2 (.inl (List.mem_map.mpr ⟨x, hx, rfl⟩))
        gi_wp2
        refine leavesMarks (n₀ := w.heap.size) (D :: Ds) W' (List.nodup_cons.mpr ⟨fun hd => ?_, hN⟩) (fun D' hd => ?_) (fun W2 hck => ?_)
        · have := (hD1 D hd).2.1
          omega
        · rcases List.mem_cons.mp hd with rfl | hd
          · exact ⟨by omega, hKd⟩
          · exact ⟨(hD1 D' hd).1, hDs D' hd⟩
        · have hc5 := hck.cell h6.cell
          refine ⟨.bool true, ?_, by first | rfl | rw [hall], hBw'.trans hck.1⟩
          simp [results, Try.f10, go_sem, hc5]
    · have hltz : ¬ (kk : Int) < (es.length : Int) := by omega
      have hz := hS.sz
      have h6 : Boxed W (w.heap.size + 1 + 1) 4 (.bool false) := (hB.block _ (by omega)).trans hS.b6
      have h6c := h6.cell
      have h6f := h6.frozen
      have hall : hitE wr v s es = false := by
        refine List.any_eq_false.mpr fun b hb => ?_
        obtain ⟨j, hj⟩ := List.mem_iff_getElem?.mp hb
        rw [hno j b (by have := idx_lt hj; omega) hj]
        simp
      have hBw : Below w.heap.size w W := hS.bel.trans (hB.mono (by omega))
      gi_wp2
      refine leavesMarks (n₀ := w.heap.size) Ds _ hN (fun D' hd => ⟨(hD D' hd).1, (KeepsOthers.setCell _ _ _).same D' _ (hD D' hd).2 rfl⟩) (fun W2 hck => ?_)
      have hc5 := hck.cell (World.cell?_setCell_same' W ⟨w.heap.size + 1 + 1, 0, none⟩ (.bool false) (by rw [h6c]; rfl))
      refine ⟨.bool false, ?_, by first | rfl | rw [hall], (hBw.setCell (p := ⟨w.heap.size + 1 + 1, 0, none⟩) (by simp; omega) _).trans hck.1⟩
      simp [results, Try.f10, go_sem, hc5]

end Go.Proofs.Ytadjekpfehjibaa.PEnv

namespace Go.Proofs.Ytadjekpfehjibaa.PEnv
open Go.RowKit Go.Shelf Go.Proofs.YtadjekpfehjibaaW.PrintWords Go.Proofs.YtadjekpfehjibaaW.PrintLast Go.Proofs.YtadjekpfehjibaaW.PrintMore Go.Proofs.Ytadjekpfehjibaa.PEnvHits
set_option linter.unusedVariables false
set_option linter.unusedSimpArgs false
attribute [local go_sem] Oper.semAt_some

/-- Is a type a reference, or gone? -/
def badT (t : S37) : Bool := decide (t.f0 = 4) || t.f2
def plainT (t : S37) : Bool := !(partsT t).any badT

structure PStart (t0 : S37) (A3 : Option Addr) (c3 : Nat) (A4 : Option Addr) (c4 : Nat) (w W : World) : Prop where
  sz : W.heap.size = w.heap.size + 3
  bel : Below w.heap.size w W
  b2 : Boxed W (w.heap.size + 1) 4 (.bool false)
  b3 : W.heap[w.heap.size + 1 + 1]? = some (.cells #[.int .i64 t0.f0, .bool t0.f1, .bool t0.f2, .slice A3 t0.f3.length c3, .slice A4 t0.f4.length c4] 37)
theorem pStart (t0 : S37) (A3 : Option Addr) (c3 : Nat) (A4 : Option Addr) (c4 : Nat) (w : World) : PStart t0 A3 c3 A4 c4 w (((w.alloc (.cells #[.int .i64 t0.f0, .bool t0.f1, .bool t0.f2, .slice A3 t0.f3.length c3, .slice A4 t0.f4.length c4] 37)).alloc (.cells #[.bool false] 4)).alloc (.cells #[.int .i64 t0.f0, .bool t0.f1, .bool t0.f2, .slice A3 t0.f3.length c3, .slice A4 t0.f4.length c4] 37)) := by
  have b1 : Below w.heap.size w (w.alloc (.cells #[.int .i64 t0.f0, .bool t0.f1, .bool t0.f2, .slice A3 t0.f3.length c3, .slice A4 t0.f4.length c4] 37)) := (Below.refl _ w).alloc (Nat.le_refl _) _
  have z1 : (w.alloc (.cells #[.int .i64 t0.f0, .bool t0.f1, .bool t0.f2, .slice A3 t0.f3.length c3, .slice A4 t0.f4.length c4] 37)).heap.size = w.heap.size + 1 := by simp
  generalize w.alloc (.cells #[.int .i64 t0.f0, .bool t0.f1, .bool t0.f2, .slice A3 t0.f3.length c3, .slice A4 t0.f4.length c4] 37) = w1 at *
  have e2 := World.alloc_heap_new w1 (.cells #[.bool false] 4)
  have b2 : Below w1.heap.size w1 (w1.alloc (.cells #[.bool false] 4)) := (Below.refl _ w1).alloc (Nat.le_refl _) _
  have z2 : (w1.alloc (.cells #[.bool false] 4)).heap.size = w.heap.size + 1 + 1 := by simp [z1]
  generalize w1.alloc (.cells #[.bool false] 4) = w2 at *
  have e3 := World.alloc_heap_new w2 (.cells #[.int .i64 t0.f0, .bool t0.f1, .bool t0.f2, .slice A3 t0.f3.length c3, .slice A4 t0.f4.length c4] 37)
  have b3 : Below w2.heap.size w2 (w2.alloc (.cells #[.int .i64 t0.f0, .bool t0.f1, .bool t0.f2, .slice A3 t0.f3.length c3, .slice A4 t0.f4.length c4] 37)) := (Below.refl _ w2).alloc (Nat.le_refl _) _
  have z3 : (w2.alloc (.cells #[.int .i64 t0.f0, .bool t0.f1, .bool t0.f2, .slice A3 t0.f3.length c3, .slice A4 t0.f4.length c4] 37)).heap.size = w.heap.size + 3 := by simp [z2]
  generalize w2.alloc (.cells #[.int .i64 t0.f0, .bool t0.f1, .bool t0.f2, .slice A3 t0.f3.length c3, .slice A4 t0.f4.length c4] 37) = w3 at *
  rw [z1] at e2
  rw [z2] at e3
  exact ⟨z3, b1.trans ((b2.mono (by omega)).trans (b3.mono (by omega))), (b3.block _ (by omega)).trans e2, e3⟩

def PI (W1 : World) (pre : List (Part W1)) (W' : World) : Prop := Below W1.heap.size W1 W' ∧ ∀ x ∈ pre, badT x.1.1 = false
def PX (w W1 : World) (c : Code) (pre : List (Part W1)) (W' : World) : Prop := (c = .ret ∧ ∃ x ∈ pre, badT x.1.1 = true) ∧ Boxed W' (w.heap.size + 1) 4 (.bool false) ∧ Below w.heap.size w W'

set_option maxRecDepth 100000 in
set_option maxHeartbeats 4000000 in
/-- env.plain, at every type. -/
theorem envPlain (t0 : S37) (A3 : Option Addr) (c3 : Nat) (A4 : Option Addr) (c4 : Nat) (w : World)
    (l3 : t0.f3.length ≤ c3) (g3 : Kd.C k27 w A3 t0.f3.length t0.f3) (l4 : t0.f4.length ≤ c4) (g4 : Kd.C k37 w A4 t0.f4.length t0.f4) :
    Calls Try.prog 44 #[.agg #[.int .i64 t0.f0, .bool t0.f1, .bool t0.f2, .slice A3 t0.f3.length c3, .slice A4 t0.f4.length c4]] w fun e W' => e = .returned (.bool (plainT t0)) ∧ Below w.heap.size w W' := by
  refine (callsIn_wide (n := 9)).1 ?_
  refine callsIn_of_wp_marks Try.func44 rfl trivial ?_ rfl
  simp only [Try.ntmps44, List.size_toArray, List.length_cons, List.length_nil, Nat.reduceAdd, Nat.reduceSub, Array.replicate_succ, Array.replicate_zero, List.push_toArray, List.append_toArray, List.nil_append, List.cons_append]
  gi_wp2_with ((try refine ⟨trivial, ?_⟩); gi_at_call 23; refine (callsIn_wide.2 (parts0 _ _ _ _ _ _ _ _ _ _)).mono ?_; rintro e w' ⟨rfl, rfl⟩)
  have hS := pStart t0 A3 c3 A4 c4 w
  obtain ⟨W1, hW1⟩ : ∃ W1, (((w.alloc (.cells #[.int .i64 t0.f0, .bool t0.f1, .bool t0.f2, .slice A3 t0.f3.length c3, .slice A4 t0.f4.length c4] 37)).alloc (.cells #[.bool false] 4)).alloc (.cells #[.int .i64 t0.f0, .bool t0.f1, .bool t0.f2, .slice A3 t0.f3.length c3, .slice A4 t0.f4.length c4] 37)) = W1 := ⟨_, rfl⟩
  have z : ((w.alloc (.cells #[.int .i64 t0.f0, .bool t0.f1, .bool t0.f2, .slice A3 t0.f3.length c3, .slice A4 t0.f4.length c4] 37)).alloc (.cells #[.bool false] 4)).heap.size = w.heap.size + 1 + 1 := by simp
  try rw [z]
  rw [hW1]
  rw [hW1] at hS
  clear hW1 z
  have hz := hS.sz
  have hBt : ∀ (i : Nat) u, [Value.int .i64 t0.f0, .bool t0.f1, .bool t0.f2, .slice A3 t0.f3.length c3, .slice A4 t0.f4.length c4][i]? = some u → W1.cell? ⟨w.heap.size + 1 + 1, i, none⟩ = some u := by
    intro i u hu
    unfold World.cell?
    rw [hS.b3]
    simpa using hu
  refine wpIn_rangeFunc_ownH (n := 9) rfl (by decide : 1 ≤ 9) (gf := 36) (lb := #[ptr (w.heap.size + 1 + 1)]) rfl trivial (enters_of Try.func36 (by kernel_rfl) rfl)
    (partsStops 8 (w.heap.size + 1 + 1) t0 _ W1 (k37_mk W1 t0 l3 (Kd.C_below g3 hS.bel) l4 (Kd.C_below g4 hS.bel)) hBt) (fun h k => h.trans k) (fun W l o o' hl h hc hw => CK.putObj (Nat.le_refl _) W l o o' hl h hc hw) (Below.refl _ _) (fun _ => rfl)
    (PI W1) (PX w W1)
    (OwnFrom.and (ownFrom_below (Nat.le_refl _) (Nat.le_refl _)) (ownFrom_pure _ (fun (pre : List (Part W1)) => ∀ x ∈ pre, badT x.1.1 = false)))
    (fun c => OwnFrom.and (ownFrom_pure _ (fun (pre : List (Part W1)) => c = .ret ∧ ∃ x ∈ pre, badT x.1.1 = true)) (OwnFrom.and (Own.from (boxed_own _ _ (fun _ => Value.bool false)) _) (ownFrom_below (Nat.le_refl _) (by omega))))
    ⟨Below.refl _ _, by simp⟩
    (fun x a' W' => ∃ Bx, W1.heap.size ≤ Bx ∧ W'.heap[Bx]? = some (.cells x.1.2.toArray 37) ∧ a' = { tmps := #[.agg #[.int .i64 t0.f0, .bool t0.f1, .bool t0.f2, .slice A3 t0.f3.length c3, .slice A4 t0.f4.length c4], .pointer (some ⟨w.heap.size, 0, none⟩), .pointer (some ⟨w.heap.size + 1, 0, none⟩), .pointer (some ⟨Bx, 0, none⟩), .agg #[.int .i64 t0.f0, .bool t0.f1, .bool t0.f2, .slice A3 t0.f3.length c3, .slice A4 t0.f4.length c4], .func (.func 36) #[] #[ptr (w.heap.size + 1 + 1)], .agg x.1.2.toArray, undef, undef, undef, undef, undef, undef, undef], defers := [] })
    (fun x a' _ X Y row hs hg hr => by
      obtain ⟨Bx, h1, h2, h3⟩ := hs
      refine ⟨Bx, h1, (hg.block Bx (Array.getElem?_eq_some_iff.1 h2).1 (fun e => ?_)).trans h2, h3⟩
      obtain ⟨_, o, ho, hc⟩ := hr Bx e.symm
      rw [h2] at ho
      cases ho
      cases hc)
    ?assign ?body ?done ?stop
  case assign =>
    rintro l pre ⟨⟨t, cs⟩, hK⟩ W' K ⟨hB1, hpre⟩ hKa
    have hK' : k37.K W1 t cs := hK
    obtain ⟨B3, d3, B4, d4, rfl, m3, q3, m4, q4⟩ := k37_open hK'
    gi_wp2
    have hbn : Below W'.heap.size W' (W'.alloc (.cells #[.int .i64 t.f0, .bool t.f1, .bool t.f2, .slice B3 t.f3.length d3, .slice B4 t.f4.length d4] 37)) := (Below.refl _ W').alloc (Nat.le_refl _) _
    exact hKa _ _ ((KeepsOthers.alloc _ _).from _) (CK.of_below hB1.size hbn) ⟨hB1.trans (hbn.mono hB1.size), hpre⟩ ⟨W'.heap.size, hB1.size, World.alloc_heap_new _ _, rfl⟩
  case body =>
    rintro l pre ⟨⟨t, cs⟩, hK⟩ a' W' hl ⟨r, hr⟩ ⟨hB1, hpre⟩ ⟨Bx, hBx, bX, rfl⟩ hlt'
    have hK' : k37.K W1 t cs := hK
    obtain ⟨B3, d3, B4, d4, rfl, m3, q3, m4, q4⟩ := k37_open hK'
    have hBw' : Below w.heap.size w W' := hS.bel.trans (hB1.mono (by omega))
    have x0' : W'.cell? ⟨Bx, 0, none⟩ = some (.int .i64 t.f0) := by unfold World.cell?; rw [bX]; rfl
    have x2' : W'.cell? ⟨Bx, 2, none⟩ = some (.bool t.f2) := by unfold World.cell?; rw [bX]; rfl
    have h6 : Boxed W' (w.heap.size + 1) 4 (.bool false) := (hB1.block _ (by omega)).trans hS.b2
    have h6c := h6.cell
    have h6f := h6.frozen
    have yes : badT t = true → KeepsFrom W1.heap.size W' (W'.setCell ⟨w.heap.size + 1, 0, none⟩ (.bool false)) ∧ PX w W1 .ret (pre ++ [(⟨(t, _), hK⟩ : Part W1)]) (W'.setCell ⟨w.heap.size + 1, 0, none⟩ (.bool false)) := fun hb =>
      ⟨(KeepsOthers.setCell _ _ _).from _, ⟨rfl, ⟨(t, _), hK⟩, by simp, hb⟩, h6.set _, hBw'.setCell (p := ⟨w.heap.size + 1, 0, none⟩) (by simp) _⟩
    have no : badT t = false → KeepsFrom W1.heap.size W' W' ∧ CK W1.heap.size W' W' ∧ PI W1 (pre ++ [(⟨(t, _), hK⟩ : Part W1)]) W' := fun hb =>
      ⟨KeepsFrom.refl _ _, CK.of_below hB1.size (Below.refl _ _), hB1, fun x hx => (List.mem_append.1 hx).elim (hpre x) (fun e => by simp at e; subst e; exact hb)⟩
    clear hz
    clear hK'
    by_cases h4 : t.f0 = 4
    · have h4b : (t.f0 == 4) = true := beq_iff_eq.mpr h4
      have hb : badT t = true := by simp [badT, h4]
      clear h4
      gi_wp2
      exact yes hb
    · have h4b : (t.f0 == 4) = false := by simpa using h4
      rcases Bool.eq_false_or_eq_true t.f2 with hg | hg
      · rw [hg] at x2'
        have hb : badT t = true := by simp [badT, hg]
        clear h4 hg
        gi_wp2
        exact yes hb
      · rw [hg] at x2'
        have hb : badT t = false := by simp [badT, h4, hg]
        clear h4 hg
        gi_wp2
        exact no hb
  case done =>
    rintro D ys W' hDl hys ⟨hB1, hno'⟩ hKd
    have h6 : Boxed W' (w.heap.size + 1) 4 (.bool false) := (hB1.block _ (by omega)).trans hS.b2
    have h6c := h6.cell
    have h6f := h6.frozen
    have hall : plainT t0 = true := by
      unfold plainT
      rw [← hys, List.any_map, Bool.not_eq_true', List.any_eq_false]
      intro x hx
      simp [hno' x hx]
    have hBw' : Below w.heap.size w W' := hS.bel.trans (hB1.mono (by omega))
    gi_wp2
    refine leavesMarks (n₀ := w.heap.size) [D] _ (by simp) (fun D' hd => ?_) (fun W2 hck => ?_)
    · obtain rfl : D' = D := by simpa using hd
      exact ⟨by omega, (KeepsOthers.setCell _ _ _).same D' _ hKd rfl⟩
    · have hc5 := hck.cell (World.cell?_setCell_same' W' ⟨w.heap.size + 1, 0, none⟩ (.bool true) (by rw [h6c]; rfl))
      refine ⟨.bool true, ?_, by first | rfl | rw [hall], (hBw'.setCell (p := ⟨w.heap.size + 1, 0, none⟩) (by simp) _).trans hck.1⟩
      simp [results, Try.f44, go_sem, hc5]
  case stop =>
    rintro D c pre W' hDl ⟨rest, hrest⟩ ⟨⟨rfl, x, hx, hxh⟩, h6, hBw'⟩ hKd
    have hall : plainT t0 = false := by
      unfold plainT
      rw [Bool.not_eq_false', List.any_eq_true]
      refine ⟨x.1.1, ?_, hxh⟩
      rw [← hrest]
      exact List.mem_append.2 (.inl (List.mem_map.mpr ⟨x, hx, rfl⟩))
    gi_wp2
    refine leavesMarks (n₀ := w.heap.size) [D] W' (by simp) (fun D' hd => ?_) (fun W2 hck => ?_)
    · obtain rfl : D' = D := by simpa using hd
      exact ⟨by omega, hKd⟩
    · have hc5 := hck.cell h6.cell
      refine ⟨.bool false, ?_, by first | rfl | rw [hall], hBw'.trans hck.1⟩
      simp [results, Try.f44, go_sem, hc5]

end Go.Proofs.Ytadjekpfehjibaa.PEnv
