/- The law's awake, what the document's hit and Hit answer in plain words, and the law EnvHits, walked. -/
import Derived.Test.YtadjekpfehjibaaKk
import Derived.Test.YtadjekpfehjibaaKg
import Derived.Test.YtadjekpfehjibaaKf

namespace Go.Proofs.Ytadjekpfehjibaa.PEnv
open Go.RowKit Go.Shelf Go.Lib Go.Proofs.YtadjekpfehjibaaW.PrintWords Go.Proofs.YtadjekpfehjibaaW.PrintLast Go.Proofs.YtadjekpfehjibaaW.PrintMore Go.Proofs.Ytadjekpfehjibaa.PEnvHits
set_option linter.unusedVariables false
set_option linter.unusedSimpArgs false

theorem C_none {α : Type} (d : Kd α) (w : World) (A : Option Addr) : Kd.C d w A 0 [] := ⟨rfl, Nat.zero_le _, fun h => absurd h (Nat.lt_irrefl 0)⟩
theorem C_one {α : Type} {d : Kd α} {w : World} {b : Nat} {cs : List Value} {x : α} {t : TypeId} {fr : Nat × Nat} (hl : cs.length = d.sz) (hK : d.K w x cs) (hb : w.heap[b]? = some (.cells cs.toArray t fr)) : Kd.C d w (some ⟨b, 0, none⟩) 1 [x] := by
  refine ⟨rfl, by omega, fun _ => ⟨⟨b, 0, none⟩, rfl, fun i y hy => ?_⟩⟩
  have hi : i = 0 := by
    have := (List.getElem?_eq_some_iff.mp hy).1
    simpa using this
  subst hi
  obtain rfl : x = y := by simpa using hy
  refine ⟨cs, hl, hK, fun k u hu => ?_⟩
  rw [Nat.zero_mul, Nat.zero_add, Addr.add_lit]
  unfold World.cell?
  rw [show w.heap[(⟨b, 0 + k, none⟩ : Addr).block]? = _ from hb]
  simpa using hu

/-- The awake law's loan, type and bind. -/
def awX : ByteArray := ⟨#[120]⟩
def awL : S27 := ⟨⟨#[]⟩, ⟨⟨#[120]⟩, []⟩, false⟩
def awK : S37 := ⟨1, false, false, [], []⟩
def awT : S37 := ⟨4, false, false, [awL], [awK]⟩
def awB : S39 := ⟨⟨#[114]⟩, awT⟩

theorem aw_over1 : overB ⟨#[120]⟩ [0] ⟨#[120]⟩ [] = true := by simp [overB, begB]
theorem aw_over2 : overB ⟨#[120]⟩ [0] ⟨#[120]⟩ [1] = false := by simp [overB, begB]
theorem aw_right : rightE [awB] = true := by
  simp [rightE, awB, awT, awL, awK, rightT, rightL, headBad, tailOK, risingB, risingFrom, loanOK, plainHead, plainT, partsT, partsL, badT, ByteArray.toList_eq]
theorem aw_hit (wr : Bool) : hitE wr ⟨#[120]⟩ [] [awB] = wr := by
  cases wr <;> simp [hitE, awB, awT, awL, awK, partsT, partsL, hitT, hitL, overB, begB, ByteArray.toList_eq]
theorem aw_merged0 : mergedL [] [] = [] := (mergedOf_eq ⟨[], List.Perm.refl _, List.Pairwise.nil, rfl⟩).symm
theorem aw_merged1 (l : S27) : mergedL [l] [l] = [l] := (mergedOf_eq ⟨[l, l], List.Perm.refl _, by
  simp [cm_Loan.refl l], by
  simp [compactL, keepL, cm_Loan.refl l]⟩).symm
theorem aw_fits : fitsT awT awT = true := by simp [fitsT, fitsL, awT, awK]
theorem aw_less : lessE [awB] [awB] = true := by
  have h1 : bothE [awB] [awB] = true := by
    unfold bothE
    rw [aw_right]
    simp [all2, bothB, awB, aw_fits]
  have h2 : lessT awT awT = true := by
    simp [lessT, lessL, awT, awK, aw_merged0, aw_merged1]
  unfold lessE
  rw [h1]
  simp [all2, lessB, awB, h2]
theorem aw_small : ∀ k ∈ [awB], SmT k.f1 := by
  intro k hk
  obtain rfl := List.mem_singleton.mp hk
  intro u hu
  simp only [awB, awT, awK, partsT, partsL, List.append_nil, List.mem_cons, List.not_mem_nil, or_false] at hu
  rcases hu with rfl | rfl <;> decide

theorem aw_ov1 (W : World) (b : Nat) (hb : W.heap[b]? = some (.cells #[.int .i64 0] 3 (0, 0))) :
    Calls Try.prog 6 #[.agg #[.string ⟨#[120]⟩, .slice (some ⟨b, 0, none⟩) 1 1], .agg #[.string ⟨#[120]⟩, .slice none 0 0]] W fun e w' => e = .returned (.bool true) ∧ Below W.heap.size W w' := by
  have h := env_Overlap.calls 3 ⟨#[120]⟩ (some ⟨b, 0, none⟩) 1 [0] ⟨#[120]⟩ none 0 [] _ W (C_one (cs := [.int .i64 0]) rfl rfl hb) (Nat.le_refl _) (C_none _ _ _) (Nat.le_refl _) (overlap_f _ _ _ _ (by decide) (by decide) 3 (by decide) (by decide))
  rw [aw_over1] at h
  exact h
theorem aw_ov2 (W : World) (b b' : Nat) (hb : W.heap[b]? = some (.cells #[.int .i64 0] 3 (0, 0))) (hb' : W.heap[b']? = some (.cells #[.int .i64 1] 3 (0, 0))) :
    Calls Try.prog 6 #[.agg #[.string ⟨#[120]⟩, .slice (some ⟨b, 0, none⟩) 1 1], .agg #[.string ⟨#[120]⟩, .slice (some ⟨b', 0, none⟩) 1 1]] W fun e w' => e = .returned (.bool false) ∧ Below W.heap.size W w' := by
  have h := env_Overlap.calls 3 ⟨#[120]⟩ (some ⟨b, 0, none⟩) 1 [0] ⟨#[120]⟩ (some ⟨b', 0, none⟩) 1 [1] _ W (C_one (cs := [.int .i64 0]) rfl rfl hb) (Nat.le_refl _) (C_one (cs := [.int .i64 1]) rfl rfl hb') (Nat.le_refl _) (overlap_f _ _ _ _ (by decide) (by decide) 3 (by decide) (by decide))
  rw [aw_over2] at h
  exact h

theorem aw_rightC (W : World) (b : Nat) (h : Kd.C k39 W (some ⟨b, 0, none⟩) 1 [awB]) : Calls Try.prog 12 #[.slice (some ⟨b, 0, none⟩) 1 1] W fun e w' => e = .returned (.bool true) ∧ Below W.heap.size W w' := by
  have h2 := envRightE [awB] (some ⟨b, 0, none⟩) 1 W h
  rw [aw_right] at h2
  exact h2
theorem aw_hitC (wr : Bool) (W : World) (b : Nat) (h : Kd.C k39 W (some ⟨b, 0, none⟩) 1 [awB]) : Calls Try.prog 10 #[.slice (some ⟨b, 0, none⟩) 1 1, .agg #[.string ⟨#[120]⟩, .slice none 0 0], .bool wr] W fun e w' => e = .returned (.bool wr) ∧ Below W.heap.size W w' := by
  have h2 := envHit wr ⟨#[120]⟩ [] none 0 [awB] (some ⟨b, 0, none⟩) 1 W h (Nat.le_refl _) (C_none _ _ _) (Nat.le_refl _)
  rw [aw_hit] at h2
  exact h2
theorem aw_lessC (W : World) (b : Nat) (h : Kd.C k39 W (some ⟨b, 0, none⟩) 1 [awB]) : Calls Try.prog 13 #[.slice (some ⟨b, 0, none⟩) 1 1, .slice (some ⟨b, 0, none⟩) 1 1] W fun e w' => e = .returned (.bool true) ∧ Below W.heap.size W w' := by
  have h2 := envLessE [awB] [awB] aw_small aw_small (some ⟨b, 0, none⟩) 1 (some ⟨b, 0, none⟩) 1 W h h
  rw [aw_less] at h2
  exact h2

/-- Where awake's own blocks lie. -/
structure Aw (w : World) (b4 : Nat) (W : World) : Prop where
  bel : Below w.heap.size w W
  x0 : W.cell? ⟨w.heap.size, 0, none⟩ = some (.string ⟨#[120]⟩)
  x1 : W.cell? ⟨w.heap.size, 1, none⟩ = some (.slice none 0 0)
  env : Kd.C k39 W (some ⟨b4, 0, none⟩) 1 [awB]

theorem five (w : World) (o0 o1 o2 o3 o4 : Obj) : Below w.heap.size w (((((w.alloc o0).alloc o1).alloc o2).alloc o3).alloc o4) ∧ (((((w.alloc o0).alloc o1).alloc o2).alloc o3).alloc o4).heap[w.heap.size]? = some o0 ∧ (((((w.alloc o0).alloc o1).alloc o2).alloc o3).alloc o4).heap[w.heap.size + 1]? = some o1 ∧
    (((((w.alloc o0).alloc o1).alloc o2).alloc o3).alloc o4).heap[w.heap.size + 1 + 1]? = some o2 ∧ (((((w.alloc o0).alloc o1).alloc o2).alloc o3).alloc o4).heap[w.heap.size + 1 + 1 + 1 + 1]? = some o4 := by
  have s1 : (w.alloc o0).heap.size = w.heap.size + 1 := by simp
  have s2 : ((w.alloc o0).alloc o1).heap.size = w.heap.size + 1 + 1 := by simp
  have s3 : (((w.alloc o0).alloc o1).alloc o2).heap.size = w.heap.size + 1 + 1 + 1 := by simp
  have s4 : ((((w.alloc o0).alloc o1).alloc o2).alloc o3).heap.size = w.heap.size + 1 + 1 + 1 + 1 := by simp
  refine ⟨((((Below.refl _ w).alloc (Nat.le_refl _) _).alloc (by omega) _).alloc (by omega) _).alloc (by omega) _ |>.alloc (by omega) _, ?_, ?_, ?_, ?_⟩
  · rw [heap_alloc_old _ _ (by omega), heap_alloc_old _ _ (by omega), heap_alloc_old _ _ (by omega), heap_alloc_old _ _ (by omega)]
    exact World.alloc_heap_new w o0
  · rw [heap_alloc_old _ _ (by omega), heap_alloc_old _ _ (by omega), heap_alloc_old _ _ (by omega), ← s1]
    exact World.alloc_heap_new _ o1
  · rw [heap_alloc_old _ _ (by omega), heap_alloc_old _ _ (by omega), ← s2]
    exact World.alloc_heap_new _ o2
  · rw [← s4]
    exact World.alloc_heap_new _ o4

theorem two_new (W : World) (o o' : Obj) : ((W.alloc o).alloc o').heap[W.heap.size]? = some o ∧ ((W.alloc o).alloc o').heap[W.heap.size + 1]? = some o' := by
  have s1 : (W.alloc o).heap.size = W.heap.size + 1 := by simp
  refine ⟨?_, ?_⟩
  · rw [heap_alloc_old _ _ (by omega)]
    exact World.alloc_heap_new W o
  · rw [← s1]
    exact World.alloc_heap_new _ o'
theorem two_below {W W' : World} {o o' : Obj} (h : Below ((W.alloc o).alloc o').heap.size ((W.alloc o).alloc o') W') : Below W.heap.size W W' := (((Below.refl _ W).alloc (Nat.le_refl _) o).alloc (by simp) o').trans (h.mono (by simp; omega))
theorem one_below {W W' : World} {o : Obj} (h : Below (W.alloc o).heap.size (W.alloc o) W') : Below W.heap.size W W' := ((Below.refl _ W).alloc (Nat.le_refl _) o).trans (h.mono (by simp))

theorem aw_start (w : World) : Aw w (w.heap.size + 1 + 1 + 1 + 1) (((((w.alloc (.cells #[.string ⟨#[120]⟩, .slice none 0 0] 25)).alloc (.cells #[.string ⟨#[]⟩, .string ⟨#[120]⟩, .slice none 0 0, .bool false] 27)).alloc (.cells #[.int .i64 1, .bool false, .bool false, .slice none 0 0, .slice none 0 0] 37)).alloc (.cells #[.int .i64 4, .bool false, .bool false, .slice (some ⟨w.heap.size + 1, 0, none⟩) 1 1, .slice (some ⟨w.heap.size + 1 + 1, 0, none⟩) 1 1] 37)).alloc (.cells #[.string ⟨#[114]⟩, .int .i64 4, .bool false, .bool false, .slice (some ⟨w.heap.size + 1, 0, none⟩) 1 1, .slice (some ⟨w.heap.size + 1 + 1, 0, none⟩) 1 1] 39)) := by
  obtain ⟨hb, e0, e1, e2, e4⟩ := five w (.cells #[.string ⟨#[120]⟩, .slice none 0 0] 25) (.cells #[.string ⟨#[]⟩, .string ⟨#[120]⟩, .slice none 0 0, .bool false] 27) (.cells #[.int .i64 1, .bool false, .bool false, .slice none 0 0, .slice none 0 0] 37) (.cells #[.int .i64 4, .bool false, .bool false, .slice (some ⟨w.heap.size + 1, 0, none⟩) 1 1, .slice (some ⟨w.heap.size + 1 + 1, 0, none⟩) 1 1] 37) (.cells #[.string ⟨#[114]⟩, .int .i64 4, .bool false, .bool false, .slice (some ⟨w.heap.size + 1, 0, none⟩) 1 1, .slice (some ⟨w.heap.size + 1 + 1, 0, none⟩) 1 1] 39)
  generalize (((((w.alloc (.cells #[.string ⟨#[120]⟩, .slice none 0 0] 25)).alloc (.cells #[.string ⟨#[]⟩, .string ⟨#[120]⟩, .slice none 0 0, .bool false] 27)).alloc (.cells #[.int .i64 1, .bool false, .bool false, .slice none 0 0, .slice none 0 0] 37)).alloc (.cells #[.int .i64 4, .bool false, .bool false, .slice (some ⟨w.heap.size + 1, 0, none⟩) 1 1, .slice (some ⟨w.heap.size + 1 + 1, 0, none⟩) 1 1] 37)).alloc (.cells #[.string ⟨#[114]⟩, .int .i64 4, .bool false, .bool false, .slice (some ⟨w.heap.size + 1, 0, none⟩) 1 1, .slice (some ⟨w.heap.size + 1 + 1, 0, none⟩) 1 1] 39)) = W at *
  refine ⟨hb, by unfold World.cell?; rw [e0]; rfl, by unfold World.cell?; rw [e0]; rfl, ?_⟩
  have hL : Kd.C k27 W (some ⟨w.heap.size + 1, 0, none⟩) 1 [awL] := C_one (cs := [.string ⟨#[]⟩, .string ⟨#[120]⟩, .slice none 0 0, .bool false]) rfl (k27_mk W awL (A2 := none) (c2 := 0) (Nat.le_refl _) (C_none _ _ _)) e1
  have hK : Kd.C k37 W (some ⟨w.heap.size + 1 + 1, 0, none⟩) 1 [awK] := C_one (cs := [.int .i64 1, .bool false, .bool false, .slice none 0 0, .slice none 0 0]) rfl (k37_mk W awK (A3 := none) (c3 := 0) (Nat.le_refl _) (C_none _ _ _) (A4 := none) (c4 := 0) (Nat.le_refl _) (C_none _ _ _)) e2
  exact C_one (cs := [.string ⟨#[114]⟩, .int .i64 4, .bool false, .bool false, .slice (some ⟨w.heap.size + 1, 0, none⟩) 1 1, .slice (some ⟨w.heap.size + 1 + 1, 0, none⟩) 1 1]) rfl (k39_mk W awB (A4 := some ⟨w.heap.size + 1, 0, none⟩) (c4 := 1) (Nat.le_refl _) hL (A5 := some ⟨w.heap.size + 1 + 1, 0, none⟩) (c5 := 1) (Nat.le_refl _) hK) e4
theorem Aw.next {w W W' : World} {b4 : Nat} (h : Aw w b4 W) (hb : Below W.heap.size W W') : Aw w b4 W' := ⟨h.bel.trans (hb.mono h.bel.size), below_cell hb h.x0, below_cell hb h.x1, Kd.C_below h.env hb⟩

set_option maxHeartbeats 4000000 in
theorem awake_any (w : World) : Calls Try.prog 4 #[] w fun e w' => e = .returned (.bool true) ∧ Below w.heap.size w w' := by
  have hA := aw_start w
  obtain ⟨W5, hW5⟩ : ∃ W5, (((((w.alloc (.cells #[.string ⟨#[120]⟩, .slice none 0 0] 25)).alloc (.cells #[.string ⟨#[]⟩, .string ⟨#[120]⟩, .slice none 0 0, .bool false] 27)).alloc (.cells #[.int .i64 1, .bool false, .bool false, .slice none 0 0, .slice none 0 0] 37)).alloc (.cells #[.int .i64 4, .bool false, .bool false, .slice (some ⟨w.heap.size + 1, 0, none⟩) 1 1, .slice (some ⟨w.heap.size + 1 + 1, 0, none⟩) 1 1] 37)).alloc (.cells #[.string ⟨#[114]⟩, .int .i64 4, .bool false, .bool false, .slice (some ⟨w.heap.size + 1, 0, none⟩) 1 1, .slice (some ⟨w.heap.size + 1 + 1, 0, none⟩) 1 1] 39)) = W5 := ⟨_, rfl⟩
  rw [hW5] at hA
  have q0 := hA.x0
  have q1 := hA.x1
  have hA := Aside0.mk hA
  go_enter Try.func4, Try.ntmps4
  go_upto_region 4 with fail
  clear hW5
  generalize w.heap.size + 1 + 1 + 1 + 1 = b4 at *
  have p0 := Go.Lib.cell?_alloc_some (.cells #[.int .i64 0] 3) q0
  have p1 := Go.Lib.cell?_alloc_some (.cells #[.int .i64 0] 3) q1
  have tok1 : True := trivial
  have tok2 : True := trivial
  have tok3 : True := trivial
  have tok4 : True := trivial
  have tok5 : True := trivial
  have tok6 : True := trivial
  go_wp2_with (first
    | (have := tok1; go_at_call 6; refine (aw_ov1 _ _ (World.alloc_heap_new _ _)).mono ?_; rintro e W6 ⟨rfl, hb6⟩; clear tok1; clear p0 p1; have hA' := Aside0.mk (hA.out.next (one_below hb6)); clear hA q0 q1; have hA := hA'; clear hA'; have q0 := hA.out.x0; have q1 := hA.out.x1)
    | (have := tok2; go_at_call 6; refine (aw_ov2 _ _ _ (two_new _ _ _).1 (two_new _ _ _).2).mono ?_; rintro e W7 ⟨rfl, hb7⟩; clear tok2; have hA' := Aside0.mk (hA.out.next (two_below hb7)); clear hA q0 q1; have hA := hA'; clear hA'; have q0 := hA.out.x0; have q1 := hA.out.x1)
    | (have := tok3; go_at_call 12; refine (aw_rightC _ _ hA.out.env).mono ?_; rintro e W8 ⟨rfl, hb8⟩; clear tok3; have hA' := Aside0.mk (hA.out.next (hb8)); clear hA q0 q1; have hA := hA'; clear hA'; have q0 := hA.out.x0; have q1 := hA.out.x1)
    | (have := tok4; go_at_call 10; refine (aw_hitC true _ _ hA.out.env).mono ?_; rintro e W9 ⟨rfl, hb9⟩; clear tok4; have hA' := Aside0.mk (hA.out.next (hb9)); clear hA q0 q1; have hA := hA'; clear hA'; have q0 := hA.out.x0; have q1 := hA.out.x1)
    | (have := tok5; go_at_call 10; refine (aw_hitC false _ _ hA.out.env).mono ?_; rintro e Wa ⟨rfl, hba⟩; clear tok5; have hA' := Aside0.mk (hA.out.next (hba)); clear hA q0 q1; have hA := hA'; clear hA'; have q0 := hA.out.x0; have q1 := hA.out.x1)
    | (have := tok6; go_at_call 13; refine (aw_lessC _ _ hA.out.env).mono ?_; rintro e Wb ⟨rfl, hbb⟩; clear tok6; have hA' := Aside0.mk (hA.out.next (hbb)); clear hA q0 q1; have hA := hA'; clear hA'; have q0 := hA.out.x0; have q1 := hA.out.x1))
  go_ret
  exact ⟨rfl, hA.out.bel⟩

end Go.Proofs.Ytadjekpfehjibaa.PEnv

namespace Go.Proofs.Ytadjekpfehjibaa.PEnv
open Go.RowKit Go.Shelf Go.Proofs.YtadjekpfehjibaaW.PrintWords Go.Proofs.YtadjekpfehjibaaW.PrintLast Go.Proofs.YtadjekpfehjibaaW.PrintMore Go.Proofs.Ytadjekpfehjibaa.PEnvHits
set_option linter.unusedVariables false
set_option linter.unusedSimpArgs false

/-- All lists in a type are as long as lists can be. -/
def TyMax (t : S37) : Prop := ∀ u ∈ partsT t, u.f3.length ≤ 9223372036854775807 ∧ u.f4.length ≤ 9223372036854775807 ∧ ∀ l ∈ u.f3, l.f1.f1.length ≤ 9223372036854775807

theorem mem_partsL (u : S37) : ∀ ts : List S37, u ∈ partsL ts ↔ ∃ k ∈ ts, u ∈ partsT k
  | [] => by simp [partsL]
  | t :: ts => by simp [partsL, mem_partsL u ts]
theorem TyMax.kid {t k : S37} (h : TyMax t) (hk : k ∈ t.f4) : TyMax k := fun u hu => h u (by rw [partsT_eq]; exact List.mem_cons_of_mem _ ((mem_partsL u _).mpr ⟨k, hk, hu⟩))
theorem TyMax.self {t : S37} (h : TyMax t) : t.f3.length ≤ 9223372036854775807 ∧ t.f4.length ≤ 9223372036854775807 ∧ ∀ l ∈ t.f3, l.f1.f1.length ≤ 9223372036854775807 := h t (by rw [partsT_eq]; exact List.mem_cons_self)

theorem loans_max {w : World} {A : Option Addr} {ls : List S27} (h : Kd.C k27 w A ls.length ls) : ∀ l ∈ ls, l.f1.f1.length ≤ 9223372036854775807 := by
  intro l hl
  obtain ⟨i, hi⟩ := List.mem_iff_getElem?.mp hl
  obtain ⟨vs, hv, hK⟩ := els_of_C h
  obtain ⟨cs, _, hk⟩ := hK i l hi
  obtain ⟨A2, c2, _, _, g⟩ := k27_open hk
  exact Kd.C_max g
theorem tyMax_of {w : World} : ∀ (t : S37) (A3 A4 : Option Addr), Kd.C k27 w A3 t.f3.length t.f3 → Kd.C k37 w A4 t.f4.length t.f4 → TyMax t := by
  refine tyInd fun t ih A3 A4 h3 h4 u hu => ?_
  rw [partsT_eq] at hu
  rcases List.mem_cons.mp hu with rfl | hu
  · exact ⟨Kd.C_max h3, Kd.C_max h4, loans_max h3⟩
  · obtain ⟨k, hk, hu⟩ := (mem_partsL u _).mp hu
    obtain ⟨i, hi⟩ := List.mem_iff_getElem?.mp hk
    obtain ⟨vs, hv, hK⟩ := els_of_C h4
    obtain ⟨cs, _, hkk⟩ := hK i k hi
    obtain ⟨B3, c3, B4, c4, _, _, g3, _, g4⟩ := k37_open hkk
    exact ih k hk B3 B4 g3 g4 u hu
/-- All of an environment's types are so. -/
theorem bindsMax {w : World} {A : Option Addr} {es : List S39} (h : Kd.C k39 w A es.length es) : ∀ b ∈ es, TyMax b.f1 := by
  intro b hb
  obtain ⟨i, hi⟩ := List.mem_iff_getElem?.mp hb
  obtain ⟨vs, hv, hK⟩ := els_of_C h
  obtain ⟨cs, _, hk⟩ := hK i b hi
  obtain ⟨A4, c4, A5, c5, _, _, g3, _, g4⟩ := k39_open hk
  exact tyMax_of b.f1 _ _ g3 g4

theorem rd27_at (xs : List S27) (i : Nat) (h : i < xs.length) : rd_T27 xs (i : Int) = xs[i] := by
  simp [rd_T27, List.getD_eq_getElem?_getD, List.getElem?_eq_getElem h]
theorem rd37_at (xs : List S37) (i : Nat) (h : i < xs.length) : rd_T37 xs (i : Int) = xs[i] := by
  simp [rd_T37, List.getD_eq_getElem?_getD, List.getElem?_eq_getElem h]
theorem rd39_at (xs : List S39) (i : Nat) (h : i < xs.length) : rd_T39 xs (i : Int) = xs[i] := by
  simp [rd_T39, List.getD_eq_getElem?_getD, List.getElem?_eq_getElem h]
theorem dropA {α : Type} (xs : List α) (i : Nat) (h : i < xs.length) : xs.drop i = xs[i] :: xs.drop (i + 1) := List.drop_eq_getElem_cons h

/-- What a function with fuel answers as soon as there is enough of it. -/
def Ev {α : Type} (f : Nat → Option α) (r : α) : Prop := ∃ k0, ∀ k, k0 ≤ k → f k = some r
theorem Ev.step {α : Type} {f g : Nat → Option α} {r s : α} (h : Ev g r) (k1 : Nat) (e : ∀ k, k1 ≤ k → g k = some r → f (k + 1) = some s) : Ev f s := by
  obtain ⟨k0, hk⟩ := h
  refine ⟨k0 + k1 + 1, fun k hle => ?_⟩
  obtain ⟨j, rfl⟩ : ∃ j, k = j + 1 := ⟨k - 1, by omega⟩
  exact e j (by omega) (hk j (by omega))
theorem Ev.here {α : Type} {f : Nat → Option α} {r : α} (e : ∀ k, f (k + 1) = some r) : Ev f r := ⟨1, fun k hle => by
  obtain ⟨j, rfl⟩ : ∃ j, k = j + 1 := ⟨k - 1, by omega⟩
  exact e j⟩

section
variable (wr : Bool) (v : ByteArray) (s : List Int) (hs : s.length ≤ 9223372036854775807) (a : Int) (b c : Bool) (ls : List S27) (ts : List S37)

theorem hit_l1 (hm : ts.length ≤ 9223372036854775807)
    (hk : ∀ t ∈ ts, Ev (fun k => lienbookref05_hit.f k t.f0 t.f1 t.f2 t.f3 t.f4 v s wr) ((partsT t).any (hitT wr v s))) : ∀ (n i : Nat), ts.length - i = n → i ≤ ts.length →
    Ev (fun k => lienbookref05_hit.l1 k wr (i : Int) a b c ls ts v s) ((partsL (ts.drop i)).any (hitT wr v s))
  | 0, i, hn, hi => by
    refine Ev.here fun k => ?_
    unfold lienbookref05_hit.l1
    rw [if_neg (by omega), List.drop_eq_nil_of_le (by omega)]
    rfl
  | n + 1, i, hn, hi => by
    have h : i < ts.length := by omega
    obtain ⟨k1, hk1⟩ := hk ts[i] (List.getElem_mem h)
    obtain ⟨k2, hk2⟩ := hit_l1 hm hk n (i + 1) (by omega) (by omega)
    refine ⟨k1 + k2 + 1, fun k hle => ?_⟩
    obtain ⟨j, rfl⟩ : ∃ j, k = j + 1 := ⟨k - 1, by omega⟩
    have e1 := hk1 j (by omega)
    have e2 := hk2 j (by omega)
    simp only at e1 e2 ⊢
    unfold lienbookref05_hit.l1
    rw [if_pos (by omega), if_pos (by omega), rd37_at ts i h, e1, Option.bind_some, wrap_succ i (by omega), e2, dropA ts i h]
    simp only [partsL, List.any_append]
    cases h3 : (partsT ts[i]).any (hitT wr v s)
    · rw [if_neg (by simp), Bool.false_or]
    · rw [if_pos rfl, Bool.true_or]

theorem hit_l0 (hs : s.length ≤ 9223372036854775807) (hm : ls.length ≤ 9223372036854775807) (hl : ∀ l ∈ ls, l.f1.f1.length ≤ 9223372036854775807) (R : Bool)
    (hR : Ev (fun k => lienbookref05_hit.l1 k wr 0 a b c ls ts v s) R) : ∀ (n i : Nat), ls.length - i = n → i ≤ ls.length →
    Ev (fun k => lienbookref05_hit.l0 k wr (i : Int) a b c ls ts v s) ((ls.drop i).any (hitL wr v s) || R)
  | 0, i, hn, hi => by
    refine hR.step 0 fun k _ hk => ?_
    unfold lienbookref05_hit.l0
    rw [if_neg (by omega), List.drop_eq_nil_of_le (by omega), hk]
    rfl
  | n + 1, i, hn, hi => by
    have h : i < ls.length := by omega
    refine (hit_l0 hs hm hl R hR n (i + 1) (by omega) (by omega)).step (ls[i].f1.f1.length + s.length + 1) fun k hk1 hk => ?_
    have ho := refOverlap_f ls[i].f1.f0 ls[i].f1.f1 v s (hl _ (List.getElem_mem h)) hs k (by omega) (by omega)
    have ih : ∀ x, hitL wr v s ls[i] = false → some (((ls.drop (i + 1)).any (hitL wr v s)) || R) = some x → some ((ls.drop i).any (hitL wr v s) || R) = some x := fun x h1 h2 => by
      rw [dropA ls i h, List.any_cons, h1, Bool.false_or]; exact h2
    have it : hitL wr v s ls[i] = true → some true = some ((ls.drop i).any (hitL wr v s) || R) := fun h1 => by
      rw [dropA ls i h, List.any_cons, h1]; rfl
    try simp only at hk
    unfold lienbookref05_hit.l0
    rw [if_pos (by omega), if_pos (by omega), rd27_at ls i h, ho, Option.bind_some, wrap_succ i (by omega), hk]
    unfold hitL at ih it
    by_cases h1 : ls[i].f0.toList = []
    · rw [if_pos h1]
      cases h2 : overB ls[i].f1.f0 ls[i].f1.f1 v s with
      | true =>
        rw [h2] at ih it
        cases wr with
        | true => exact it (by simp [h1])
        | false =>
          rw [if_neg (by simp)]
          cases h3 : ls[i].f2 with
          | true => rw [if_pos rfl, if_pos rfl]; exact it (by simp [h1, h3])
          | false => rw [if_neg (by simp)]; exact (ih _ (by simp [h3]) rfl).symm
      | false =>
        rw [h2] at ih it
        have := (ih _ (by simp) rfl).symm
        simp only [Bool.false_eq_true, if_false]
        split
        · exact this
        · split <;> exact this
    · rw [if_neg h1]
      exact (ih _ (by simp [h1]) rfl).symm
end

theorem hit_f (wr : Bool) (v : ByteArray) (s : List Int) (hs : s.length ≤ 9223372036854775807) : ∀ t, TyMax t → Ev (fun k => lienbookref05_hit.f k t.f0 t.f1 t.f2 t.f3 t.f4 v s wr) ((partsT t).any (hitT wr v s)) := by
  refine tyInd fun t ih hT => ?_
  obtain ⟨m3, m4, ml⟩ := hT.self
  have h1 := hit_l1 wr v s t.f0 t.f1 t.f2 t.f3 t.f4 m4 (fun k hk => ih k hk (hT.kid hk)) _ 0 rfl (by omega)
  have h0 := hit_l0 wr v s t.f0 t.f1 t.f2 t.f3 t.f4 hs m3 ml _ h1 _ 0 rfl (by omega)
  refine Ev.step h0 0 fun k _ hk => ?_
  simp only [List.drop_zero] at hk
  show lienbookref05_hit.l0 k wr 0 t.f0 t.f1 t.f2 t.f3 t.f4 v s = _
  rw [show (0 : Int) = ((0 : Nat) : Int) from rfl, hk, partsT_eq t, List.any_cons]
  rfl

theorem refHit_l (wr : Bool) (v : ByteArray) (s : List Int) (hs : s.length ≤ 9223372036854775807) (es : List S39) (hm : es.length ≤ 9223372036854775807) (he : ∀ b ∈ es, TyMax b.f1) : ∀ (n i : Nat), es.length - i = n → i ≤ es.length →
    Ev (fun k => lienbookref05_Hit.l0 k es wr (i : Int) v s) (hitE wr v s (es.drop i))
  | 0, i, hn, hi => by
    refine Ev.here fun k => ?_
    unfold lienbookref05_Hit.l0
    rw [if_neg (by omega), List.drop_eq_nil_of_le (by omega)]
    rfl
  | n + 1, i, hn, hi => by
    have h : i < es.length := by omega
    obtain ⟨k1, hk1⟩ := hit_f wr v s hs es[i].f1 (he _ (List.getElem_mem h))
    obtain ⟨k2, hk2⟩ := refHit_l wr v s hs es hm he n (i + 1) (by omega) (by omega)
    refine ⟨k1 + k2 + 1, fun k hle => ?_⟩
    obtain ⟨j, rfl⟩ : ∃ j, k = j + 1 := ⟨k - 1, by omega⟩
    have e1 := hk1 j (by omega)
    have e2 := hk2 j (by omega)
    simp only at e1 e2 ⊢
    unfold lienbookref05_Hit.l0
    rw [if_pos (by omega), if_pos (by omega), rd39_at es i h, e1, Option.bind_some, wrap_succ i (by omega), e2, dropA es i h]
    unfold hitE
    rw [List.any_cons]
    cases h3 : (partsT es[i].f1).any (hitT wr v s)
    · rw [if_neg (by simp), Bool.false_or]
    · rw [if_pos rfl, Bool.true_or]
theorem refHit_f (wr : Bool) (v : ByteArray) (s : List Int) (hs : s.length ≤ 9223372036854775807) (es : List S39) (hm : es.length ≤ 9223372036854775807) (he : ∀ b ∈ es, TyMax b.f1) :
    ∃ k, lienbookref05_Hit.f k es v s wr = some (hitE wr v s es) := by
  obtain ⟨k, hk⟩ := refHit_l wr v s hs es hm he _ 0 rfl (by omega)
  exact ⟨k, by have := hk k (Nat.le_refl _); simpa [lienbookref05_Hit.f] using this⟩

section
variable (a : Int) (b c : Bool) (ls : List S27) (ts : List S37)
theorem size_l1 (hm : ts.length ≤ 9223372036854775807) (hk : ∀ t ∈ ts, ∃ r, Ev (fun k => lienbookref05_size.f k t.f0 t.f1 t.f2 t.f3 t.f4) r) : ∀ (n i : Nat) (x : Int), ts.length - i = n → i ≤ ts.length →
    ∃ r, Ev (fun k => lienbookref05_size.l1 k x (i : Int) a b c ls ts) r
  | 0, i, x, hn, hi => by
    refine ⟨x, Ev.here fun k => ?_⟩
    unfold lienbookref05_size.l1
    rw [if_neg (by omega)]
  | n + 1, i, x, hn, hi => by
    have h : i < ts.length := by omega
    obtain ⟨r1, k1, hk1⟩ := hk ts[i] (List.getElem_mem h)
    obtain ⟨r2, k2, hk2⟩ := size_l1 hm hk n (i + 1) (wrap64 (x + r1)) (by omega) (by omega)
    by_cases hx : x ≤ 400
    · refine ⟨r2, k1 + k2 + 1, fun k hle => ?_⟩
      obtain ⟨j, rfl⟩ : ∃ j, k = j + 1 := ⟨k - 1, by omega⟩
      have e1 := hk1 j (by omega)
      have e2 := hk2 j (by omega)
      simp only at e1 e2 ⊢
      unfold lienbookref05_size.l1
      rw [if_pos (by omega), if_pos hx, if_pos (by omega), rd37_at ts i h, e1, Option.bind_some, wrap_succ i (by omega), e2]
    · refine ⟨x, Ev.here fun k => ?_⟩
      unfold lienbookref05_size.l1
      rw [if_pos (by omega), if_neg hx]
theorem size_j1 (h1 : ∀ x, ∃ r, Ev (fun k => lienbookref05_size.l1 k x 0 a b c ls ts) r) (x : Int) : ∃ r, Ev (fun k => lienbookref05_size.j1 k x a b c ls ts) r := by
  obtain ⟨r, hr⟩ := h1 x
  exact ⟨r, hr.step 0 fun k _ hk => by unfold lienbookref05_size.j1; exact hk⟩
theorem size_l0 (hm : ls.length ≤ 9223372036854775807) (h1 : ∀ x, ∃ r, Ev (fun k => lienbookref05_size.j1 k x a b c ls ts) r) : ∀ (n i : Nat) (x : Int), ls.length - i = n → i ≤ ls.length →
    ∃ r, Ev (fun k => lienbookref05_size.l0 k x (i : Int) a b c ls ts) r
  | 0, i, x, hn, hi => by
    obtain ⟨r, hr⟩ := h1 x
    refine ⟨r, hr.step 0 fun k _ hk => ?_⟩
    unfold lienbookref05_size.l0
    rw [if_neg (by omega)]
    exact hk
  | n + 1, i, x, hn, hi => by
    have h : i < ls.length := by omega
    by_cases hx : x ≤ 400
    · obtain ⟨r, hr⟩ := size_l0 hm h1 n (i + 1) (wrap64 ((wrap64 ((wrap64 ((wrap64 (x + 1)) + (wrap64 ((((rd_T27 ls i).f1.f1).length : Int) / 10)))) + (wrap64 ((((rd_T27 ls i).f1.f0).size : Int) / 100)))) + (wrap64 ((((rd_T27 ls i).f0).size : Int) / 100)))) (by omega) (by omega)
      refine ⟨r, hr.step 0 fun k _ hk => ?_⟩
      unfold lienbookref05_size.l0
      rw [if_pos (by omega), if_pos hx, if_pos (by omega), wrap_succ i (by omega)]
      exact hk
    · obtain ⟨r, hr⟩ := h1 x
      refine ⟨r, hr.step 0 fun k _ hk => ?_⟩
      unfold lienbookref05_size.l0
      rw [if_pos (by omega), if_neg hx]
      exact hk
end

theorem size_f : ∀ t, TyMax t → ∃ r, Ev (fun k => lienbookref05_size.f k t.f0 t.f1 t.f2 t.f3 t.f4) r := by
  refine tyInd fun t ih hT => ?_
  obtain ⟨m3, m4, _⟩ := hT.self
  obtain ⟨r, hr⟩ := size_l0 t.f0 t.f1 t.f2 t.f3 t.f4 m3 (size_j1 t.f0 t.f1 t.f2 t.f3 t.f4 (fun x => size_l1 t.f0 t.f1 t.f2 t.f3 t.f4 m4 (fun k hk => ih k hk (hT.kid hk)) _ 0 x rfl (by omega))) _ 0 1 rfl (by omega)
  exact ⟨r, hr.step 0 fun k _ hk => hk⟩
theorem refSize_l (es : List S39) (hm : es.length ≤ 9223372036854775807) (he : ∀ b ∈ es, TyMax b.f1) : ∀ (n i : Nat) (x : Int), es.length - i = n → i ≤ es.length →
    ∃ r, Ev (fun k => lienbookref05_Size.l0 k es x (i : Int)) r
  | 0, i, x, hn, hi => by
    refine ⟨x, Ev.here fun k => ?_⟩
    unfold lienbookref05_Size.l0
    rw [if_neg (by omega)]
  | n + 1, i, x, hn, hi => by
    have h : i < es.length := by omega
    obtain ⟨r1, k1, hk1⟩ := size_f es[i].f1 (he _ (List.getElem_mem h))
    by_cases hx : x ≤ 400
    · obtain ⟨r2, k2, hk2⟩ := refSize_l es hm he n (i + 1) (wrap64 ((wrap64 (x + r1)) + (wrap64 (((es[i].f0).size : Int) / 100)))) (by omega) (by omega)
      refine ⟨r2, k1 + k2 + 1, fun k hle => ?_⟩
      obtain ⟨j, rfl⟩ : ∃ j, k = j + 1 := ⟨k - 1, by omega⟩
      have e1 := hk1 j (by omega)
      have e2 := hk2 j (by omega)
      simp only at e1 e2 ⊢
      unfold lienbookref05_Size.l0
      rw [if_pos (by omega), if_pos hx, if_pos (by omega), rd39_at es i h, e1, Option.bind_some, wrap_succ i (by omega), e2]
    · refine ⟨x, Ev.here fun k => ?_⟩
      unfold lienbookref05_Size.l0
      rw [if_pos (by omega), if_neg hx]
theorem refSize_f (es : List S39) (hm : es.length ≤ 9223372036854775807) (he : ∀ b ∈ es, TyMax b.f1) : ∃ k r, lienbookref05_Size.f k es = some r := by
  obtain ⟨r, k, hk⟩ := refSize_l es hm he _ 0 0 rfl (by omega)
  exact ⟨k, r, hk k (Nat.le_refl _)⟩

end Go.Proofs.Ytadjekpfehjibaa.PEnv

namespace Go.Proofs.Ytadjekpfehjibaa.PEnv
open Go.RowKit Go.Shelf Go.Lib Go.Proofs.YtadjekpfehjibaaW.PrintWords Go.Proofs.YtadjekpfehjibaaW.PrintLast Go.Proofs.YtadjekpfehjibaaW.PrintMore Go.Proofs.Ytadjekpfehjibaa.PEnvHits
set_option linter.unusedVariables false
set_option linter.unusedSimpArgs false

/-- What the law asks of its arguments, in every world behind. -/
structure HitFacts (a b : S27) (es : List S39) (wr : Bool) (A : Option Addr) (c : Nat) (A2 : Option Addr) (c2 : Nat) (B2 : Option Addr) (d2 : Nat) (w : World) : Prop where
  hC : Kd.C k39 w A es.length es
  hc : es.length ≤ c
  ha : Kd.C (Kd.int .i64) w A2 a.f1.f1.length a.f1.f1
  la : a.f1.f1.length ≤ c2
  hb : Kd.C (Kd.int .i64) w B2 b.f1.f1.length b.f1.f1
  lb : b.f1.f1.length ≤ d2
theorem HitFacts.next {a b : S27} {es : List S39} {wr : Bool} {A : Option Addr} {c : Nat} {A2 : Option Addr} {c2 : Nat} {B2 : Option Addr} {d2 : Nat} {w W : World} (h : HitFacts a b es wr A c A2 c2 B2 d2 w) (hb : Below w.heap.size w W) : HitFacts a b es wr A c A2 c2 B2 d2 W :=
  ⟨Kd.C_below h.hC hb, h.hc, Kd.C_below h.ha hb, h.la, Kd.C_below h.hb hb, h.lb⟩

section
variable {a b : S27} {es : List S39} {wr : Bool} {A : Option Addr} {c : Nat} {A2 : Option Addr} {c2 : Nat} {B2 : Option Addr} {d2 : Nat} {W : World} (h : HitFacts a b es wr A c A2 c2 B2 d2 W)
include h
theorem HitFacts.size : ∃ r : Int, ∀ W', Below W.heap.size W W' → Calls Try.prog 5 #[.slice A es.length c] W' fun e w' => e = .returned (.int .i64 r) ∧ Below W'.heap.size W' w' := by
  obtain ⟨k, r, hk⟩ := refSize_f es (Kd.C_max h.hC) (bindsMax h.hC)
  exact ⟨r, fun W' hb => lienbookref05_Size.calls k _ _ es r W' (Kd.C_below h.hC hb) h.hc hk⟩
theorem HitFacts.over : Calls Try.prog 6 #[.agg #[.string a.f1.f0, .slice A2 a.f1.f1.length c2], .agg #[.string b.f1.f0, .slice B2 b.f1.f1.length d2]] W fun e w' => e = .returned (.bool (overB a.f1.f0 a.f1.f1 b.f1.f0 b.f1.f1)) ∧ Below W.heap.size W w' :=
  env_Overlap.calls (a.f1.f1.length + b.f1.f1.length + 1) _ _ _ _ _ _ _ _ _ W h.ha h.la h.hb h.lb (overlap_f _ _ _ _ (Kd.C_max h.ha) (Kd.C_max h.hb) _ (by omega) (by omega))
theorem HitFacts.rover : Calls Try.prog 7 #[.agg #[.string a.f1.f0, .slice A2 a.f1.f1.length c2], .agg #[.string b.f1.f0, .slice B2 b.f1.f1.length d2]] W fun e w' => e = .returned (.bool (overB a.f1.f0 a.f1.f1 b.f1.f0 b.f1.f1)) ∧ Below W.heap.size W w' :=
  lienbookref05_Overlap.calls (a.f1.f1.length + b.f1.f1.length + 1) _ _ _ _ _ _ _ _ _ W h.ha h.la h.hb h.lb (refOverlap_f _ _ _ _ (Kd.C_max h.ha) (Kd.C_max h.hb) _ (by omega) (by omega))
theorem HitFacts.rcmp : Calls Try.prog 9 #[.agg #[.string a.f0, .string a.f1.f0, .slice A2 a.f1.f1.length c2, .bool a.f2], .agg #[.string b.f0, .string b.f1.f0, .slice B2 b.f1.f1.length d2, .bool b.f2]] W fun e w' => e = .returned (.int .i64 (cmpLoan a b)) ∧ Below W.heap.size W w' :=
  lienbookref05_Cmp.calls (2 * a.f1.f1.length + 2 * b.f1.f1.length + 2) _ _ _ _ _ _ _ _ _ _ _ _ _ W h.ha h.la h.hb h.lb (refCmp_f a b (Kd.C_max h.ha) (Kd.C_max h.hb) _ (by omega) (by omega))
theorem HitFacts.rhit : Calls Try.prog 11 #[.slice A es.length c, .agg #[.string a.f1.f0, .slice A2 a.f1.f1.length c2], .bool wr] W fun e w' => e = .returned (.bool (hitE wr a.f1.f0 a.f1.f1 es)) ∧ Below W.heap.size W w' := by
  obtain ⟨k, hk⟩ := refHit_f wr a.f1.f0 a.f1.f1 (Kd.C_max h.ha) es (Kd.C_max h.hC) (bindsMax h.hC)
  exact lienbookref05_Hit.calls k _ _ es _ _ _ _ wr _ W h.hC h.hc h.ha h.la hk
end

set_option maxHeartbeats 8000000 in
theorem envHits_any (a b : S27) (es : List S39) (wr : Bool) (A : Option Addr) (c : Nat) (A2 : Option Addr) (c2 : Nat) (B2 : Option Addr) (d2 : Nat) (w : World) (h : HitFacts a b es wr A c A2 c2 B2 d2 w) :
    Calls Try.prog 3 #[.slice A es.length c, .agg #[.string a.f0, .string a.f1.f0, .slice A2 a.f1.f1.length c2, .bool a.f2], .agg #[.string b.f0, .string b.f1.f0, .slice B2 b.f1.f1.length d2, .bool b.f2], .bool wr] w fun e w' => e = .returned (.bool true) ∧ Below w.heap.size w w' := by
  have hb2 : Below w.heap.size w ((w.alloc (.cells #[.string a.f0, .string a.f1.f0, .slice A2 a.f1.f1.length c2, .bool a.f2] 27)).alloc (.cells #[.string b.f0, .string b.f1.f0, .slice B2 b.f1.f1.length d2, .bool b.f2] 27)) := ((Below.refl _ w).alloc (Nat.le_refl _) _).alloc (by simp) _
  obtain ⟨e0, e1⟩ := two_new w (.cells #[.string a.f0, .string a.f1.f0, .slice A2 a.f1.f1.length c2, .bool a.f2] 27) (.cells #[.string b.f0, .string b.f1.f0, .slice B2 b.f1.f1.length d2, .bool b.f2] 27)
  obtain ⟨W2, hW2⟩ : ∃ W2, ((w.alloc (.cells #[.string a.f0, .string a.f1.f0, .slice A2 a.f1.f1.length c2, .bool a.f2] 27)).alloc (.cells #[.string b.f0, .string b.f1.f0, .slice B2 b.f1.f1.length d2, .bool b.f2] 27)) = W2 := ⟨_, rfl⟩
  rw [hW2] at hb2 e0 e1
  obtain ⟨r, hsize⟩ := (h.next hb2).size
  have hF := Aside0.mk (h.next hb2)
  have hB2 := Aside0.mk hb2
  have hE0 := Aside0.mk e0
  have hE1 := Aside0.mk e1
  have haw := awake_any W2
  clear h hb2 e0 e1
  obtain ⟨g1, hg1⟩ : ∃ g1, decide (r > 400) = g1 := ⟨_, rfl⟩
  have hg1' : decide (400 < r) = g1 := hg1
  obtain ⟨g2, hg2⟩ : ∃ g2, decide (wrap64 ((a.f1.f1.length : Int) + (b.f1.f1.length : Int)) > 400) = g2 := ⟨_, rfl⟩
  have hg2' : decide (400 < wrap64 ((a.f1.f1.length : Int) + (b.f1.f1.length : Int))) = g2 := hg2
  cases g1 with
  | true =>
    clear hg2 hg2'
    go_enter Try.func3, Try.ntmps3
    go_wp2_with (first
      | (go_at_call 4; refine haw.mono ?_; clear haw; rintro e W3 ⟨rfl, hb3⟩; have hs := hsize W3 hb3; clear hsize)
      | (go_at_call 5; refine hs.mono ?_; clear hs; rintro e W4 ⟨rfl, hb4⟩; have hb24 := Aside0.mk (hb3.trans (hb4.mono hb3.size))))
    go_ret
    exact ⟨rfl, hB2.out.trans (hb24.out.mono hB2.out.size)⟩
  | false =>
    cases g2 with
    | true =>
      have n5 := fun W3 (hb3 : Below W2.heap.size W2 W3) => below_cell hb3 (show W2.cell? ⟨w.heap.size, 2, none⟩ = some (.slice A2 a.f1.f1.length c2) by unfold World.cell?; rw [hE0.out]; rfl)
      have n6 := fun W3 (hb3 : Below W2.heap.size W2 W3) => below_cell hb3 (show W2.cell? ⟨w.heap.size + 1, 2, none⟩ = some (.slice B2 b.f1.f1.length d2) by unfold World.cell?; rw [hE1.out]; rfl)
      go_enter Try.func3, Try.ntmps3
      go_wp2_with (first
        | (go_at_call 4; refine haw.mono ?_; clear haw; rintro e W3 ⟨rfl, hb3⟩; have hs := hsize W3 hb3; clear hsize)
        | (go_at_call 5; refine hs.mono ?_; clear hs; rintro e W4 ⟨rfl, hb4⟩; have hb24 := Aside0.mk (hb3.trans (hb4.mono hb3.size)); have n5' := n5 W4 hb24.out; have n6' := n6 W4 hb24.out; clear n5 n6))
      go_ret
      exact ⟨rfl, hB2.out.trans (hb24.out.mono hB2.out.size)⟩
    | false =>
      have n5 := fun W3 (hb3 : Below W2.heap.size W2 W3) => below_cell hb3 (show W2.cell? ⟨w.heap.size, 2, none⟩ = some (.slice A2 a.f1.f1.length c2) by unfold World.cell?; rw [hE0.out]; rfl)
      have n6 := fun W3 (hb3 : Below W2.heap.size W2 W3) => below_cell hb3 (show W2.cell? ⟨w.heap.size + 1, 2, none⟩ = some (.slice B2 b.f1.f1.length d2) by unfold World.cell?; rw [hE1.out]; rfl)
      go_enter Try.func3, Try.ntmps3
      go_wp2_with (first
        | (go_at_call 4; refine haw.mono ?_; clear haw; rintro e W3 ⟨rfl, hb3⟩; have hs := hsize W3 hb3; clear hsize)
        | (go_at_call 5; refine hs.mono ?_; clear hs; rintro e W4 ⟨rfl, hb4⟩; have hb24 := Aside0.mk (hb3.trans (hb4.mono hb3.size)); have n5' := n5 W4 hb24.out; have n6' := n6 W4 hb24.out; clear n5 n6)
        | fail)
      have hF4 := Aside0.mk (hF.out.next hb24.out)
      have m5 : W4.heap[w.heap.size]? = some (.cells #[.string a.f0, .string a.f1.f0, .slice A2 a.f1.f1.length c2, .bool a.f2] 27) := (hb24.out.block _ (Array.getElem?_eq_some_iff.mp hE0.out).1).trans hE0.out
      have m6 : W4.heap[w.heap.size + 1]? = some (.cells #[.string b.f0, .string b.f1.f0, .slice B2 b.f1.f1.length d2, .bool b.f2] 27) := (hb24.out.block _ (Array.getElem?_eq_some_iff.mp hE1.out).1).trans hE1.out
      have hfin := Aside0.mk (hB2.out.trans (hb24.out.mono hB2.out.size))
      clear n5' n6' hb24 hE0 hE1 hB2 hF hb3 hb4
      generalize w.heap.size + 1 = b6 at *
      obtain ⟨b5, hb5⟩ : ∃ b5, w.heap.size = b5 := ⟨_, rfl⟩
      rw [hb5] at m5
      simp only [hb5]
      have k5_0 := fun Wq (h : Below W4.heap.size W4 Wq) => below_cell h (show W4.cell? ⟨b5, 0, none⟩ = _ by unfold World.cell?; rw [m5]; rfl)
      have k5_1 := fun Wq (h : Below W4.heap.size W4 Wq) => below_cell h (show W4.cell? ⟨b5, 1, none⟩ = _ by unfold World.cell?; rw [m5]; rfl)
      have k5_2 := fun Wq (h : Below W4.heap.size W4 Wq) => below_cell h (show W4.cell? ⟨b5, 2, none⟩ = _ by unfold World.cell?; rw [m5]; rfl)
      have k5_3 := fun Wq (h : Below W4.heap.size W4 Wq) => below_cell h (show W4.cell? ⟨b5, 3, none⟩ = _ by unfold World.cell?; rw [m5]; rfl)
      have k6_0 := fun Wq (h : Below W4.heap.size W4 Wq) => below_cell h (show W4.cell? ⟨b6, 0, none⟩ = _ by unfold World.cell?; rw [m6]; rfl)
      have k6_1 := fun Wq (h : Below W4.heap.size W4 Wq) => below_cell h (show W4.cell? ⟨b6, 1, none⟩ = _ by unfold World.cell?; rw [m6]; rfl)
      have k6_2 := fun Wq (h : Below W4.heap.size W4 Wq) => below_cell h (show W4.cell? ⟨b6, 2, none⟩ = _ by unfold World.cell?; rw [m6]; rfl)
      have k6_3 := fun Wq (h : Below W4.heap.size W4 Wq) => below_cell h (show W4.cell? ⟨b6, 3, none⟩ = _ by unfold World.cell?; rw [m6]; rfl)
      have c6 := fun Wq (h : Below W4.heap.size W4 Wq) => ((hF4.out.next h).over).mono (fun e w' q => And.intro q.1 (h.trans (q.2.mono h.size)))
      have c7 := fun Wq (h : Below W4.heap.size W4 Wq) => ((hF4.out.next h).rover).mono (fun e w' q => And.intro q.1 (h.trans (q.2.mono h.size)))
      have c8 := fun Wq (h : Below W4.heap.size W4 Wq) => (envCmp a b A2 c2 B2 d2 Wq (hF4.out.next h).ha hF4.out.la (hF4.out.next h).hb hF4.out.lb).mono (fun e w' q => And.intro q.1 (h.trans (q.2.mono h.size)))
      have c9 := fun Wq (h : Below W4.heap.size W4 Wq) => ((hF4.out.next h).rcmp).mono (fun e w' q => And.intro q.1 (h.trans (q.2.mono h.size)))
      have c10 := fun Wq (h : Below W4.heap.size W4 Wq) => (envHit wr a.f1.f0 a.f1.f1 A2 c2 es A c Wq (hF4.out.next h).hC hF4.out.hc (hF4.out.next h).ha hF4.out.la).mono (fun e w' q => And.intro q.1 (h.trans (q.2.mono h.size)))
      have c11 := fun Wq (h : Below W4.heap.size W4 Wq) => ((hF4.out.next h).rhit).mono (fun e w' q => And.intro q.1 (h.trans (q.2.mono h.size)))
      obtain ⟨ov, hov⟩ : ∃ ov, overB a.f1.f0 a.f1.f1 b.f1.f0 b.f1.f1 = ov := ⟨_, rfl⟩
      obtain ⟨cm, hcm⟩ : ∃ cm, cmpLoan a b = cm := ⟨_, rfl⟩
      obtain ⟨hh, hhh⟩ : ∃ hh, hitE wr a.f1.f0 a.f1.f1 es = hh := ⟨_, rfl⟩
      rw [hov] at c6 c7
      rw [hcm] at c8 c9
      rw [hhh] at c10 c11
      have f6 := enters_of Try.func6 (by kernel_rfl) rfl
      have f7 := enters_of Try.func7 (by kernel_rfl) rfl
      have f8 := enters_of Try.func8 (by kernel_rfl) rfl
      have f9 := enters_of Try.func9 (by kernel_rfl) rfl
      have f10 := enters_of Try.func10 (by kernel_rfl) rfl
      have f11 := enters_of Try.func11 (by kernel_rfl) rfl
      clear hov hcm hhh m5 m6 hg1 hg1' hg2 hg2'
      refine region_cls (fun W' => Below W4.heap.size W4 W') (by kernel_rfl) (by kernel_rfl) (below_drew1 (Below.refl _ W4)) ?_
      go_big_quiet_want
      refine ⟨.pointer (some ⟨b5, 1, none⟩), fun Wq hWq => ?_, ?_⟩
      · have q_k5_0 := k5_0 Wq hWq
        have q_k5_1 := k5_1 Wq hWq
        have q_k5_2 := k5_2 Wq hWq
        have q_k5_3 := k5_3 Wq hWq
        have q_k6_0 := k6_0 Wq hWq
        have q_k6_1 := k6_1 Wq hWq
        have q_k6_2 := k6_2 Wq hWq
        have q_k6_3 := k6_3 Wq hWq
        clear k5_0 k5_1 k5_2 k5_3 k6_0 k6_1 k6_2 k6_3 c6 c7 c8 c9 c10 c11
        unfold Oper.quietAt
        go_simp
      simp only [Act.put, List.setIfInBounds_toArray, List.set_cons_zero, List.set_cons_succ]
      go_big_quiet_on
      go_big_quiet_want
      refine ⟨.agg #[.string a.f1.f0, .slice A2 a.f1.f1.length c2], fun Wq hWq => ?_, ?_⟩
      · have q_k5_0 := k5_0 Wq hWq
        have q_k5_1 := k5_1 Wq hWq
        have q_k5_2 := k5_2 Wq hWq
        have q_k5_3 := k5_3 Wq hWq
        have q_k6_0 := k6_0 Wq hWq
        have q_k6_1 := k6_1 Wq hWq
        have q_k6_2 := k6_2 Wq hWq
        have q_k6_3 := k6_3 Wq hWq
        clear k5_0 k5_1 k5_2 k5_3 k6_0 k6_1 k6_2 k6_3 c6 c7 c8 c9 c10 c11
        unfold Oper.quietAt
        go_simp
      simp only [Act.put, List.setIfInBounds_toArray, List.set_cons_zero, List.set_cons_succ]
      go_big_quiet_on
      go_big_quiet_want
      refine ⟨.pointer (some ⟨b6, 1, none⟩), fun Wq hWq => ?_, ?_⟩
      · have q_k5_0 := k5_0 Wq hWq
        have q_k5_1 := k5_1 Wq hWq
        have q_k5_2 := k5_2 Wq hWq
        have q_k5_3 := k5_3 Wq hWq
        have q_k6_0 := k6_0 Wq hWq
        have q_k6_1 := k6_1 Wq hWq
        have q_k6_2 := k6_2 Wq hWq
        have q_k6_3 := k6_3 Wq hWq
        clear k5_0 k5_1 k5_2 k5_3 k6_0 k6_1 k6_2 k6_3 c6 c7 c8 c9 c10 c11
        unfold Oper.quietAt
        go_simp
      simp only [Act.put, List.setIfInBounds_toArray, List.set_cons_zero, List.set_cons_succ]
      go_big_quiet_on
      go_big_quiet_want
      refine ⟨.agg #[.string b.f1.f0, .slice B2 b.f1.f1.length d2], fun Wq hWq => ?_, ?_⟩
      · have q_k5_0 := k5_0 Wq hWq
        have q_k5_1 := k5_1 Wq hWq
        have q_k5_2 := k5_2 Wq hWq
        have q_k5_3 := k5_3 Wq hWq
        have q_k6_0 := k6_0 Wq hWq
        have q_k6_1 := k6_1 Wq hWq
        have q_k6_2 := k6_2 Wq hWq
        have q_k6_3 := k6_3 Wq hWq
        clear k5_0 k5_1 k5_2 k5_3 k6_0 k6_1 k6_2 k6_3 c6 c7 c8 c9 c10 c11
        unfold Oper.quietAt
        go_simp
      simp only [Act.put, List.setIfInBounds_toArray, List.set_cons_zero, List.set_cons_succ]
      go_big_quiet_on
      go_big_quiet_want
      refine ⟨.bool ov, fun Wq hWq => ?_, ?_⟩
      · have q_c6 := c6 Wq hWq
        clear k5_0 k5_1 k5_2 k5_3 k6_0 k6_1 k6_2 k6_3 c6 c7 c8 c9 c10 c11
        unfold Oper.quietAt
        go_simp
      simp only [Act.put, List.setIfInBounds_toArray, List.set_cons_zero, List.set_cons_succ]
      go_big_quiet_on
      go_big_quiet_want
      refine ⟨.pointer (some ⟨b5, 1, none⟩), fun Wq hWq => ?_, ?_⟩
      · have q_k5_0 := k5_0 Wq hWq
        have q_k5_1 := k5_1 Wq hWq
        have q_k5_2 := k5_2 Wq hWq
        have q_k5_3 := k5_3 Wq hWq
        have q_k6_0 := k6_0 Wq hWq
        have q_k6_1 := k6_1 Wq hWq
        have q_k6_2 := k6_2 Wq hWq
        have q_k6_3 := k6_3 Wq hWq
        clear k5_0 k5_1 k5_2 k5_3 k6_0 k6_1 k6_2 k6_3 c6 c7 c8 c9 c10 c11
        unfold Oper.quietAt
        go_simp
      simp only [Act.put, List.setIfInBounds_toArray, List.set_cons_zero, List.set_cons_succ]
      go_big_quiet_on
      go_big_quiet_want
      refine ⟨.agg #[.string a.f1.f0, .slice A2 a.f1.f1.length c2], fun Wq hWq => ?_, ?_⟩
      · have q_k5_0 := k5_0 Wq hWq
        have q_k5_1 := k5_1 Wq hWq
        have q_k5_2 := k5_2 Wq hWq
        have q_k5_3 := k5_3 Wq hWq
        have q_k6_0 := k6_0 Wq hWq
        have q_k6_1 := k6_1 Wq hWq
        have q_k6_2 := k6_2 Wq hWq
        have q_k6_3 := k6_3 Wq hWq
        clear k5_0 k5_1 k5_2 k5_3 k6_0 k6_1 k6_2 k6_3 c6 c7 c8 c9 c10 c11
        unfold Oper.quietAt
        go_simp
      simp only [Act.put, List.setIfInBounds_toArray, List.set_cons_zero, List.set_cons_succ]
      go_big_quiet_on
      go_big_quiet_want
      refine ⟨.pointer (some ⟨b6, 1, none⟩), fun Wq hWq => ?_, ?_⟩
      · have q_k5_0 := k5_0 Wq hWq
        have q_k5_1 := k5_1 Wq hWq
        have q_k5_2 := k5_2 Wq hWq
        have q_k5_3 := k5_3 Wq hWq
        have q_k6_0 := k6_0 Wq hWq
        have q_k6_1 := k6_1 Wq hWq
        have q_k6_2 := k6_2 Wq hWq
        have q_k6_3 := k6_3 Wq hWq
        clear k5_0 k5_1 k5_2 k5_3 k6_0 k6_1 k6_2 k6_3 c6 c7 c8 c9 c10 c11
        unfold Oper.quietAt
        go_simp
      simp only [Act.put, List.setIfInBounds_toArray, List.set_cons_zero, List.set_cons_succ]
      go_big_quiet_on
      go_big_quiet_want
      refine ⟨.agg #[.string b.f1.f0, .slice B2 b.f1.f1.length d2], fun Wq hWq => ?_, ?_⟩
      · have q_k5_0 := k5_0 Wq hWq
        have q_k5_1 := k5_1 Wq hWq
        have q_k5_2 := k5_2 Wq hWq
        have q_k5_3 := k5_3 Wq hWq
        have q_k6_0 := k6_0 Wq hWq
        have q_k6_1 := k6_1 Wq hWq
        have q_k6_2 := k6_2 Wq hWq
        have q_k6_3 := k6_3 Wq hWq
        clear k5_0 k5_1 k5_2 k5_3 k6_0 k6_1 k6_2 k6_3 c6 c7 c8 c9 c10 c11
        unfold Oper.quietAt
        go_simp
      simp only [Act.put, List.setIfInBounds_toArray, List.set_cons_zero, List.set_cons_succ]
      go_big_quiet_on
      go_big_quiet_want
      refine ⟨.bool ov, fun Wq hWq => ?_, ?_⟩
      · have q_c7 := c7 Wq hWq
        clear k5_0 k5_1 k5_2 k5_3 k6_0 k6_1 k6_2 k6_3 c6 c7 c8 c9 c10 c11
        unfold Oper.quietAt
        go_simp
      simp only [Act.put, List.setIfInBounds_toArray, List.set_cons_zero, List.set_cons_succ]
      go_big_quiet_on
      go_big_quiet_want
      refine ⟨.bool true, fun Wq hWq => ?_, ?_⟩
      · have q_k5_0 := k5_0 Wq hWq
        have q_k5_1 := k5_1 Wq hWq
        have q_k5_2 := k5_2 Wq hWq
        have q_k5_3 := k5_3 Wq hWq
        have q_k6_0 := k6_0 Wq hWq
        have q_k6_1 := k6_1 Wq hWq
        have q_k6_2 := k6_2 Wq hWq
        have q_k6_3 := k6_3 Wq hWq
        clear k5_0 k5_1 k5_2 k5_3 k6_0 k6_1 k6_2 k6_3 c6 c7 c8 c9 c10 c11
        unfold Oper.quietAt
        go_simp
      simp only [Act.put, List.setIfInBounds_toArray, List.set_cons_zero, List.set_cons_succ]
      go_big_quiet_on
      go_big_quiet_want
      refine ⟨.bool true, fun Wq hWq => ?_, ?_⟩
      · have q_k5_0 := k5_0 Wq hWq
        have q_k5_1 := k5_1 Wq hWq
        have q_k5_2 := k5_2 Wq hWq
        have q_k5_3 := k5_3 Wq hWq
        have q_k6_0 := k6_0 Wq hWq
        have q_k6_1 := k6_1 Wq hWq
        have q_k6_2 := k6_2 Wq hWq
        have q_k6_3 := k6_3 Wq hWq
        clear k5_0 k5_1 k5_2 k5_3 k6_0 k6_1 k6_2 k6_3 c6 c7 c8 c9 c10 c11
        unfold Oper.quietAt
        go_simp
      simp only [Act.put, List.setIfInBounds_toArray, List.set_cons_zero, List.set_cons_succ]
      go_big_quiet_on
      go_big_quiet_want
      refine ⟨.agg #[.string a.f0, .string a.f1.f0, .slice A2 a.f1.f1.length c2, .bool a.f2], fun Wq hWq => ?_, ?_⟩
      · have q_k5_0 := k5_0 Wq hWq
        have q_k5_1 := k5_1 Wq hWq
        have q_k5_2 := k5_2 Wq hWq
        have q_k5_3 := k5_3 Wq hWq
        have q_k6_0 := k6_0 Wq hWq
        have q_k6_1 := k6_1 Wq hWq
        have q_k6_2 := k6_2 Wq hWq
        have q_k6_3 := k6_3 Wq hWq
        clear k5_0 k5_1 k5_2 k5_3 k6_0 k6_1 k6_2 k6_3 c6 c7 c8 c9 c10 c11
        unfold Oper.quietAt
        go_simp
      simp only [Act.put, List.setIfInBounds_toArray, List.set_cons_zero, List.set_cons_succ]
      go_big_quiet_on
      go_big_quiet_want
      refine ⟨.agg #[.string b.f0, .string b.f1.f0, .slice B2 b.f1.f1.length d2, .bool b.f2], fun Wq hWq => ?_, ?_⟩
      · have q_k5_0 := k5_0 Wq hWq
        have q_k5_1 := k5_1 Wq hWq
        have q_k5_2 := k5_2 Wq hWq
        have q_k5_3 := k5_3 Wq hWq
        have q_k6_0 := k6_0 Wq hWq
        have q_k6_1 := k6_1 Wq hWq
        have q_k6_2 := k6_2 Wq hWq
        have q_k6_3 := k6_3 Wq hWq
        clear k5_0 k5_1 k5_2 k5_3 k6_0 k6_1 k6_2 k6_3 c6 c7 c8 c9 c10 c11
        unfold Oper.quietAt
        go_simp
      simp only [Act.put, List.setIfInBounds_toArray, List.set_cons_zero, List.set_cons_succ]
      go_big_quiet_on
      go_big_quiet_want
      refine ⟨.int .i64 cm, fun Wq hWq => ?_, ?_⟩
      · have q_c8 := c8 Wq hWq
        clear k5_0 k5_1 k5_2 k5_3 k6_0 k6_1 k6_2 k6_3 c6 c7 c8 c9 c10 c11
        unfold Oper.quietAt
        go_simp
      simp only [Act.put, List.setIfInBounds_toArray, List.set_cons_zero, List.set_cons_succ]
      go_big_quiet_on
      go_big_quiet_want
      refine ⟨.agg #[.string a.f0, .string a.f1.f0, .slice A2 a.f1.f1.length c2, .bool a.f2], fun Wq hWq => ?_, ?_⟩
      · have q_k5_0 := k5_0 Wq hWq
        have q_k5_1 := k5_1 Wq hWq
        have q_k5_2 := k5_2 Wq hWq
        have q_k5_3 := k5_3 Wq hWq
        have q_k6_0 := k6_0 Wq hWq
        have q_k6_1 := k6_1 Wq hWq
        have q_k6_2 := k6_2 Wq hWq
        have q_k6_3 := k6_3 Wq hWq
        clear k5_0 k5_1 k5_2 k5_3 k6_0 k6_1 k6_2 k6_3 c6 c7 c8 c9 c10 c11
        unfold Oper.quietAt
        go_simp
      simp only [Act.put, List.setIfInBounds_toArray, List.set_cons_zero, List.set_cons_succ]
      go_big_quiet_on
      go_big_quiet_want
      refine ⟨.agg #[.string b.f0, .string b.f1.f0, .slice B2 b.f1.f1.length d2, .bool b.f2], fun Wq hWq => ?_, ?_⟩
      · have q_k5_0 := k5_0 Wq hWq
        have q_k5_1 := k5_1 Wq hWq
        have q_k5_2 := k5_2 Wq hWq
        have q_k5_3 := k5_3 Wq hWq
        have q_k6_0 := k6_0 Wq hWq
        have q_k6_1 := k6_1 Wq hWq
        have q_k6_2 := k6_2 Wq hWq
        have q_k6_3 := k6_3 Wq hWq
        clear k5_0 k5_1 k5_2 k5_3 k6_0 k6_1 k6_2 k6_3 c6 c7 c8 c9 c10 c11
        unfold Oper.quietAt
        go_simp
      simp only [Act.put, List.setIfInBounds_toArray, List.set_cons_zero, List.set_cons_succ]
      go_big_quiet_on
      go_big_quiet_want
      refine ⟨.int .i64 cm, fun Wq hWq => ?_, ?_⟩
      · have q_c9 := c9 Wq hWq
        clear k5_0 k5_1 k5_2 k5_3 k6_0 k6_1 k6_2 k6_3 c6 c7 c8 c9 c10 c11
        unfold Oper.quietAt
        go_simp
      simp only [Act.put, List.setIfInBounds_toArray, List.set_cons_zero, List.set_cons_succ]
      go_big_quiet_on
      go_big_quiet_want
      refine ⟨.bool true, fun Wq hWq => ?_, ?_⟩
      · have q_k5_0 := k5_0 Wq hWq
        have q_k5_1 := k5_1 Wq hWq
        have q_k5_2 := k5_2 Wq hWq
        have q_k5_3 := k5_3 Wq hWq
        have q_k6_0 := k6_0 Wq hWq
        have q_k6_1 := k6_1 Wq hWq
        have q_k6_2 := k6_2 Wq hWq
        have q_k6_3 := k6_3 Wq hWq
        clear k5_0 k5_1 k5_2 k5_3 k6_0 k6_1 k6_2 k6_3 c6 c7 c8 c9 c10 c11
        unfold Oper.quietAt
        go_simp
      simp only [Act.put, List.setIfInBounds_toArray, List.set_cons_zero, List.set_cons_succ]
      go_big_quiet_on
      go_big_quiet_want
      refine ⟨.bool true, fun Wq hWq => ?_, ?_⟩
      · have q_k5_0 := k5_0 Wq hWq
        have q_k5_1 := k5_1 Wq hWq
        have q_k5_2 := k5_2 Wq hWq
        have q_k5_3 := k5_3 Wq hWq
        have q_k6_0 := k6_0 Wq hWq
        have q_k6_1 := k6_1 Wq hWq
        have q_k6_2 := k6_2 Wq hWq
        have q_k6_3 := k6_3 Wq hWq
        clear k5_0 k5_1 k5_2 k5_3 k6_0 k6_1 k6_2 k6_3 c6 c7 c8 c9 c10 c11
        unfold Oper.quietAt
        go_simp
      simp only [Act.put, List.setIfInBounds_toArray, List.set_cons_zero, List.set_cons_succ]
      go_big_quiet_on
      go_big_quiet_want
      refine ⟨.bool true, fun Wq hWq => ?_, ?_⟩
      · have q_k5_0 := k5_0 Wq hWq
        have q_k5_1 := k5_1 Wq hWq
        have q_k5_2 := k5_2 Wq hWq
        have q_k5_3 := k5_3 Wq hWq
        have q_k6_0 := k6_0 Wq hWq
        have q_k6_1 := k6_1 Wq hWq
        have q_k6_2 := k6_2 Wq hWq
        have q_k6_3 := k6_3 Wq hWq
        clear k5_0 k5_1 k5_2 k5_3 k6_0 k6_1 k6_2 k6_3 c6 c7 c8 c9 c10 c11
        unfold Oper.quietAt
        go_simp
      simp only [Act.put, List.setIfInBounds_toArray, List.set_cons_zero, List.set_cons_succ]
      go_big_quiet_on
      go_big_quiet_want
      refine ⟨.slice A es.length c, fun Wq hWq => ?_, ?_⟩
      · have q_k5_0 := k5_0 Wq hWq
        have q_k5_1 := k5_1 Wq hWq
        have q_k5_2 := k5_2 Wq hWq
        have q_k5_3 := k5_3 Wq hWq
        have q_k6_0 := k6_0 Wq hWq
        have q_k6_1 := k6_1 Wq hWq
        have q_k6_2 := k6_2 Wq hWq
        have q_k6_3 := k6_3 Wq hWq
        clear k5_0 k5_1 k5_2 k5_3 k6_0 k6_1 k6_2 k6_3 c6 c7 c8 c9 c10 c11
        unfold Oper.quietAt
        go_simp
      simp only [Act.put, List.setIfInBounds_toArray, List.set_cons_zero, List.set_cons_succ]
      go_big_quiet_on
      go_big_quiet_want
      refine ⟨.pointer (some ⟨b5, 1, none⟩), fun Wq hWq => ?_, ?_⟩
      · have q_k5_0 := k5_0 Wq hWq
        have q_k5_1 := k5_1 Wq hWq
        have q_k5_2 := k5_2 Wq hWq
        have q_k5_3 := k5_3 Wq hWq
        have q_k6_0 := k6_0 Wq hWq
        have q_k6_1 := k6_1 Wq hWq
        have q_k6_2 := k6_2 Wq hWq
        have q_k6_3 := k6_3 Wq hWq
        clear k5_0 k5_1 k5_2 k5_3 k6_0 k6_1 k6_2 k6_3 c6 c7 c8 c9 c10 c11
        unfold Oper.quietAt
        go_simp
      simp only [Act.put, List.setIfInBounds_toArray, List.set_cons_zero, List.set_cons_succ]
      go_big_quiet_on
      go_big_quiet_want
      refine ⟨.agg #[.string a.f1.f0, .slice A2 a.f1.f1.length c2], fun Wq hWq => ?_, ?_⟩
      · have q_k5_0 := k5_0 Wq hWq
        have q_k5_1 := k5_1 Wq hWq
        have q_k5_2 := k5_2 Wq hWq
        have q_k5_3 := k5_3 Wq hWq
        have q_k6_0 := k6_0 Wq hWq
        have q_k6_1 := k6_1 Wq hWq
        have q_k6_2 := k6_2 Wq hWq
        have q_k6_3 := k6_3 Wq hWq
        clear k5_0 k5_1 k5_2 k5_3 k6_0 k6_1 k6_2 k6_3 c6 c7 c8 c9 c10 c11
        unfold Oper.quietAt
        go_simp
      simp only [Act.put, List.setIfInBounds_toArray, List.set_cons_zero, List.set_cons_succ]
      go_big_quiet_on
      go_big_quiet_want
      refine ⟨.bool wr, fun Wq hWq => ?_, ?_⟩
      · have q_k5_0 := k5_0 Wq hWq
        have q_k5_1 := k5_1 Wq hWq
        have q_k5_2 := k5_2 Wq hWq
        have q_k5_3 := k5_3 Wq hWq
        have q_k6_0 := k6_0 Wq hWq
        have q_k6_1 := k6_1 Wq hWq
        have q_k6_2 := k6_2 Wq hWq
        have q_k6_3 := k6_3 Wq hWq
        clear k5_0 k5_1 k5_2 k5_3 k6_0 k6_1 k6_2 k6_3 c6 c7 c8 c9 c10 c11
        unfold Oper.quietAt
        go_simp
      simp only [Act.put, List.setIfInBounds_toArray, List.set_cons_zero, List.set_cons_succ]
      go_big_quiet_on
      go_big_quiet_want
      refine ⟨.bool hh, fun Wq hWq => ?_, ?_⟩
      · have q_c10 := c10 Wq hWq
        clear k5_0 k5_1 k5_2 k5_3 k6_0 k6_1 k6_2 k6_3 c6 c7 c8 c9 c10 c11
        unfold Oper.quietAt
        go_simp
      simp only [Act.put, List.setIfInBounds_toArray, List.set_cons_zero, List.set_cons_succ]
      go_big_quiet_on
      go_big_quiet_want
      refine ⟨.slice A es.length c, fun Wq hWq => ?_, ?_⟩
      · have q_k5_0 := k5_0 Wq hWq
        have q_k5_1 := k5_1 Wq hWq
        have q_k5_2 := k5_2 Wq hWq
        have q_k5_3 := k5_3 Wq hWq
        have q_k6_0 := k6_0 Wq hWq
        have q_k6_1 := k6_1 Wq hWq
        have q_k6_2 := k6_2 Wq hWq
        have q_k6_3 := k6_3 Wq hWq
        clear k5_0 k5_1 k5_2 k5_3 k6_0 k6_1 k6_2 k6_3 c6 c7 c8 c9 c10 c11
        unfold Oper.quietAt
        go_simp
      simp only [Act.put, List.setIfInBounds_toArray, List.set_cons_zero, List.set_cons_succ]
      go_big_quiet_on
      go_big_quiet_want
      refine ⟨.pointer (some ⟨b5, 1, none⟩), fun Wq hWq => ?_, ?_⟩
      · have q_k5_0 := k5_0 Wq hWq
        have q_k5_1 := k5_1 Wq hWq
        have q_k5_2 := k5_2 Wq hWq
        have q_k5_3 := k5_3 Wq hWq
        have q_k6_0 := k6_0 Wq hWq
        have q_k6_1 := k6_1 Wq hWq
        have q_k6_2 := k6_2 Wq hWq
        have q_k6_3 := k6_3 Wq hWq
        clear k5_0 k5_1 k5_2 k5_3 k6_0 k6_1 k6_2 k6_3 c6 c7 c8 c9 c10 c11
        unfold Oper.quietAt
        go_simp
      simp only [Act.put, List.setIfInBounds_toArray, List.set_cons_zero, List.set_cons_succ]
      go_big_quiet_on
      go_big_quiet_want
      refine ⟨.agg #[.string a.f1.f0, .slice A2 a.f1.f1.length c2], fun Wq hWq => ?_, ?_⟩
      · have q_k5_0 := k5_0 Wq hWq
        have q_k5_1 := k5_1 Wq hWq
        have q_k5_2 := k5_2 Wq hWq
        have q_k5_3 := k5_3 Wq hWq
        have q_k6_0 := k6_0 Wq hWq
        have q_k6_1 := k6_1 Wq hWq
        have q_k6_2 := k6_2 Wq hWq
        have q_k6_3 := k6_3 Wq hWq
        clear k5_0 k5_1 k5_2 k5_3 k6_0 k6_1 k6_2 k6_3 c6 c7 c8 c9 c10 c11
        unfold Oper.quietAt
        go_simp
      simp only [Act.put, List.setIfInBounds_toArray, List.set_cons_zero, List.set_cons_succ]
      go_big_quiet_on
      go_big_quiet_want
      refine ⟨.bool wr, fun Wq hWq => ?_, ?_⟩
      · have q_k5_0 := k5_0 Wq hWq
        have q_k5_1 := k5_1 Wq hWq
        have q_k5_2 := k5_2 Wq hWq
        have q_k5_3 := k5_3 Wq hWq
        have q_k6_0 := k6_0 Wq hWq
        have q_k6_1 := k6_1 Wq hWq
        have q_k6_2 := k6_2 Wq hWq
        have q_k6_3 := k6_3 Wq hWq
        clear k5_0 k5_1 k5_2 k5_3 k6_0 k6_1 k6_2 k6_3 c6 c7 c8 c9 c10 c11
        unfold Oper.quietAt
        go_simp
      simp only [Act.put, List.setIfInBounds_toArray, List.set_cons_zero, List.set_cons_succ]
      go_big_quiet_on
      go_big_quiet_want
      refine ⟨.bool hh, fun Wq hWq => ?_, ?_⟩
      · have q_c11 := c11 Wq hWq
        clear k5_0 k5_1 k5_2 k5_3 k6_0 k6_1 k6_2 k6_3 c6 c7 c8 c9 c10 c11
        unfold Oper.quietAt
        go_simp
      simp only [Act.put, List.setIfInBounds_toArray, List.set_cons_zero, List.set_cons_succ]
      go_big_quiet_on
      go_big_quiet_want
      refine ⟨.bool true, fun Wq hWq => ?_, ?_⟩
      · have q_k5_0 := k5_0 Wq hWq
        have q_k5_1 := k5_1 Wq hWq
        have q_k5_2 := k5_2 Wq hWq
        have q_k5_3 := k5_3 Wq hWq
        have q_k6_0 := k6_0 Wq hWq
        have q_k6_1 := k6_1 Wq hWq
        have q_k6_2 := k6_2 Wq hWq
        have q_k6_3 := k6_3 Wq hWq
        clear k5_0 k5_1 k5_2 k5_3 k6_0 k6_1 k6_2 k6_3 c6 c7 c8 c9 c10 c11
        unfold Oper.quietAt
        go_simp
      simp only [Act.put, List.setIfInBounds_toArray, List.set_cons_zero, List.set_cons_succ]
      go_big_quiet_on
      go_big_quiet_want
      refine ⟨.bool true, fun Wq hWq => ?_, ?_⟩
      · have q_k5_0 := k5_0 Wq hWq
        have q_k5_1 := k5_1 Wq hWq
        have q_k5_2 := k5_2 Wq hWq
        have q_k5_3 := k5_3 Wq hWq
        have q_k6_0 := k6_0 Wq hWq
        have q_k6_1 := k6_1 Wq hWq
        have q_k6_2 := k6_2 Wq hWq
        have q_k6_3 := k6_3 Wq hWq
        clear k5_0 k5_1 k5_2 k5_3 k6_0 k6_1 k6_2 k6_3 c6 c7 c8 c9 c10 c11
        unfold Oper.quietAt
        go_simp
      simp only [Act.put, List.setIfInBounds_toArray, List.set_cons_zero, List.set_cons_succ]
      go_big_quiet_on
      go_big_quiet_want
      refine ⟨.bool true, fun Wq hWq => ?_, ?_⟩
      · have q_k5_0 := k5_0 Wq hWq
        have q_k5_1 := k5_1 Wq hWq
        have q_k5_2 := k5_2 Wq hWq
        have q_k5_3 := k5_3 Wq hWq
        have q_k6_0 := k6_0 Wq hWq
        have q_k6_1 := k6_1 Wq hWq
        have q_k6_2 := k6_2 Wq hWq
        have q_k6_3 := k6_3 Wq hWq
        clear k5_0 k5_1 k5_2 k5_3 k6_0 k6_1 k6_2 k6_3 c6 c7 c8 c9 c10 c11
        unfold Oper.quietAt
        go_simp
      simp only [Act.put, List.setIfInBounds_toArray, List.set_cons_zero, List.set_cons_succ]
      go_big_quiet_on
      refine wpQuiet_nil ?_
      intro W5 hW5
      clear k5_0 k5_1 k5_2 k5_3 k6_0 k6_1 k6_2 k6_3 c6 c7 c8 c9 c10 c11
      go_wp2 <;> skip
      go_ret
      exact ⟨rfl, hfin.out.trans (hW5.mono hfin.out.size)⟩

end Go.Proofs.Ytadjekpfehjibaa.PEnv
