/- EnvJoins, the texts JJoin0, JJoin1, JRight0, JRight4, JRight, JSame: walks and laws that the card leans on, merged by packj.py. Conditions stand in each theorem. -/
import Derived.Test.YtadjekpfehjibaaGreatDoorKe
import Derived.Test.YtadjekpfehjibaaGreatDoorKa
import Derived.Test.YtadjekpfehjibaaGreatDoorKc
import Derived.BigQuiet
import Derived.Test.YtadjekpfehjibaaGreatDoorKd
set_option linter.unusedVariables false
set_option linter.unusedSimpArgs false
namespace Go.Proofs.YtadjekpfehjibaaGreatDoor.PEnv
open Go.RowKit Go.Shelf Go.Lib Go.Proofs.YtadjekpfehjibaaGreatDoorW.PrintWords Go.Proofs.YtadjekpfehjibaaGreatDoorW.PrintLast Go.Proofs.YtadjekpfehjibaaGreatDoorW.PrintMore Go.Proofs.YtadjekpfehjibaaGreatDoor.PEnvJoins
/-- The blocks that a value may lie in, beside a row v that grows. -/
def OkB (B lo : Nat) (E : Nat → Prop) (v : Value) : Nat → Prop := fun k => (k < B ∨ lo ≤ k) ∧ E k ∧ some k ≠ v.ownBlock
theorem foot_append {P : World → Prop} {B lo : Nat} {E : Nat → Prop} {W W1 : World} {v v1 : Value} (h : Foot P W (OkB B lo E v)) (hg : W.grownBy W1 v.ownBlock) (hat : v1.ownBlock = v.ownBlock ∨ ∃ b, v1.ownBlock = some b ∧ W.heap.size ≤ b) : Foot P W1 (OkB B lo E v1) := by
  refine Foot.mono (Foot.step (Foot.bound h) (fun k hk hlt => hg.block k hlt hk.1.2.2)) (fun k hk => ⟨hk.1.1, hk.1.2.1, ?_⟩)
  rcases hat with hat | ⟨b, hb, hle⟩
  · rw [hat]; exact hk.1.2.2
  · rw [hb]
    intro he
    injection he with he
    have := hk.2
    omega
/-- What holds in front of a round: kk kids are joined. -/
structure JI (B lo b0 b1 rb ob : Nat) (c0 c1 cr : Array Value) (k : Int) (m g : Bool) (X : Option Addr) (L cX : Nat) (ml : List S44) (kk : Nat) (rs : List S31) (W0 : World) (Y : Option Addr) (cY : Nat) (xs : List Value) (W : World) : Prop where
  below : Below lo W0 W
  a0 : W.heap[b0]? = some (.cells c0 31 (0, 0))
  a1 : W.heap[b1]? = some (.cells c1 31 (0, 0))
  ar : W.heap[rb]? = some (.cells cr 31 (0, 0))
  ao : W.heap[ob]? = some (.cells #[.int .i64 k, .bool m, .bool g, .slice X L cX, .slice Y kk cY] 31 (0, 0))
  len : rs.length = kk
  own : W.ownsRow (ob + 1) 31 5 (.slice Y kk cY) kk xs
  loans : Kd.F k44 W (OkB B lo (fun k => k ≠ ob ∧ k ≠ rb) (.slice Y kk cY)) X L ml
  kids : KidsF k31 B lo (fun k => k ≠ ob ∧ k ≠ rb) W (.slice Y kk cY) xs rs
section
variable {B lo b0 b1 rb ob : Nat} {c0 c1 cr : Array Value} {k : Int} {m g : Bool} {X : Option Addr} {L cX : Nat} {ml : List S44} {kk : Nat} {rs : List S31} {W0 : World} {Y : Option Addr} {cY : Nat} {xs : List Value} {W : World}
theorem set_five {W : World} {ob : Nat} {a0 a1 a2 a3 a4 : Value} {T : TypeId} (h : W.heap[ob]? = some (.cells #[a0, a1, a2, a3, a4] T (0, 0))) (v0 v1 v2 v3 v4 : Value) :
    (((((W.setCell ⟨ob, 0, none⟩ v0).setCell ⟨ob, 1, none⟩ v1).setCell ⟨ob, 2, none⟩ v2).setCell ⟨ob, 3, none⟩ v3).setCell ⟨ob, 4, none⟩ v4).heap[ob]? = some (.cells #[v0, v1, v2, v3, v4] T (0, 0)) :=
  blk_set (blk_set (blk_set (blk_set (blk_set h 0 v0) 1 v1) 2 v2) 3 v3) 4 v4
theorem far_five {W : World} {ob k : Nat} (h : k ≠ ob) (v0 v1 v2 v3 v4 : Value) :
    (((((W.setCell ⟨ob, 0, none⟩ v0).setCell ⟨ob, 1, none⟩ v1).setCell ⟨ob, 2, none⟩ v2).setCell ⟨ob, 3, none⟩ v3).setCell ⟨ob, 4, none⟩ v4).heap[k]? = W.heap[k]? := by
  rw [Below.heap_setCell _ _ _ _ h, Below.heap_setCell _ _ _ _ h, Below.heap_setCell _ _ _ _ h, Below.heap_setCell _ _ _ _ h, Below.heap_setCell _ _ _ _ h]
theorem below_five {w W : World} {ob lo : Nat} (h : Below lo w W) (hl : lo ≤ ob) (v0 v1 v2 v3 v4 : Value) :
    Below lo w (((((W.setCell ⟨ob, 0, none⟩ v0).setCell ⟨ob, 1, none⟩ v1).setCell ⟨ob, 2, none⟩ v2).setCell ⟨ob, 3, none⟩ v3).setCell ⟨ob, 4, none⟩ v4) :=
  ((((h.setCell (p := ⟨ob, 0, none⟩) hl v0).setCell (p := ⟨ob, 1, none⟩) hl v1).setCell (p := ⟨ob, 2, none⟩) hl v2).setCell (p := ⟨ob, 3, none⟩) hl v3).setCell (p := ⟨ob, 4, none⟩) hl v4
theorem JI.start {W3 W4 : World} {z0 z1 z2 z3 z4 : Value} (hb3 : Below W0.heap.size W0 W3) (a0 : W3.heap[b0]? = some (.cells c0 31 (0, 0))) (a1 : W3.heap[b1]? = some (.cells c1 31 (0, 0))) (ar : W3.heap[rb]? = some (.cells cr 31 (0, 0))) (hb4 : Below W3.heap.size W3 W4) (hob : W3.heap.size ≤ ob)
    (hobj : W4.heap[ob]? = some (.cells #[z0, z1, z2, z3, z4] 31 (0, 0))) (hBl : B ≤ W0.heap.size) (lr : W0.heap.size ≤ rb) (hF : Kd.F k44 W4 (fun k => (k < B ∨ W3.heap.size ≤ k) ∧ k ≠ ob) X L ml) :
    JI B W0.heap.size b0 b1 rb ob c0 c1 cr k m g X L cX ml 0 [] W0 none 0 [] (((((W4.setCell ⟨ob, 0, none⟩ (.int .i64 k)).setCell ⟨ob, 1, none⟩ (.bool m)).setCell ⟨ob, 2, none⟩ (.bool g)).setCell ⟨ob, 3, none⟩ (.slice X L cX)).setCell ⟨ob, 4, none⟩ (.slice none 0 0)) := by
  have hs := hb3.size
  have far : ∀ (b : Nat) (o : Obj), W3.heap[b]? = some o → (((((W4.setCell ⟨ob, 0, none⟩ (.int .i64 k)).setCell ⟨ob, 1, none⟩ (.bool m)).setCell ⟨ob, 2, none⟩ (.bool g)).setCell ⟨ob, 3, none⟩ (.slice X L cX)).setCell ⟨ob, 4, none⟩ (.slice none 0 0)).heap[b]? = some o := fun b o hb => by
    have := blk_lt hb
    rw [far_five (by omega)]
    exact (hb4.block b this).trans hb
  have hrl := blk_lt ar
  exact {
    below := below_five (hb3.trans (hb4.mono hs)) (by omega) _ _ _ _ _
    a0 := far _ _ a0
    a1 := far _ _ a1
    ar := far _ _ ar
    ao := set_five hobj _ _ _ _ _
    len := rfl
    own := own_nil _ _ _ _
    loans := Kd.F_mono (Foot.step hF fun k hk _ => far_five hk.2 _ _ _ _ _) (fun k hk => ⟨hk.1.imp id (fun h => by omega), ⟨hk.2, by rcases hk.1 with h | h <;> omega⟩, by simp [Value.ownBlock]⟩)
    kids := kids_nil }
theorem JI.mv (h : JI B lo b0 b1 rb ob c0 c1 cr k m g X L cX ml kk rs W0 Y cY xs W) (hlo : lo ≤ W.heap.size) {W1 : World} (hb : Below W.heap.size W W1) : JI B lo b0 b1 rb ob c0 c1 cr k m g X L cX ml kk rs W0 Y cY xs W1 where
  below := h.below.trans (hb.mono hlo)
  a0 := (hb.block _ (blk_lt h.a0)).trans h.a0
  a1 := (hb.block _ (blk_lt h.a1)).trans h.a1
  ar := (hb.block _ (blk_lt h.ar)).trans h.ar
  ao := (hb.block _ (blk_lt h.ao)).trans h.ao
  len := h.len
  own := own_heap h.own fun k hk => hb.block k (own_lt h.own k hk)
  loans := Kd.F_below h.loans hb
  kids := kids_below h.kids hb
theorem JI.step (h : JI B lo b0 b1 rb ob c0 c1 cr k m g X L cX ml kk rs W0 Y cY xs W) (hBl : B ≤ lo) (h0 : b0 < ob) (h1 : b1 < ob) (hr : rb < ob) (l0 : lo ≤ b0) (l1 : lo ≤ b1) (lr : lo ≤ rb)
    {W1 w5 : World} (hb1 : Below W.heap.size W W1) {z : S31} {cs : List Value} (hcs : cs.length = 5) (hz : Kd.FK k31 W1 (fun k => k < B ∨ W.heap.size ≤ k) z cs) {v1 : Value} (ho5 : w5.ownsRow (ob + 1) 31 5 v1 (kk + 1) (xs ++ cs)) (hb5 : Below (ob + 1) W1 w5)
    (hg : W1.grownBy w5 (.slice Y kk cY : Value).ownBlock) (hat : v1.ownBlock = (.slice Y kk cY : Value).ownBlock ∨ ∃ b, v1.ownBlock = some b ∧ W1.heap.size ≤ b) :
    ∃ Y' cY', v1 = .slice Y' (kk + 1) cY' ∧ JI B lo b0 b1 rb ob c0 c1 cr k m g X L cX ml (kk + 1) (rs ++ [z]) W0 Y' cY' (xs ++ cs) (w5.setCell ⟨ob, 4, none⟩ v1) := by
  have hos : ob < W.heap.size := blk_lt h.ao
  obtain ⟨Y', cY', rfl⟩ := own_slice ho5
  have hown : ∀ k, (.slice Y' (kk + 1) cY' : Value).ownBlock = some k → ob + 1 ≤ k := own_base ho5
  have hJ := h.mv (by omega) hb1
  have far : ∀ (b : Nat) (o : Obj), b < ob → W1.heap[b]? = some o → (w5.setCell ⟨ob, 4, none⟩ (.slice Y' (kk + 1) cY')).heap[b]? = some o := fun b o hlt hb => by
    rw [Below.heap_setCell _ _ _ _ (by show b ≠ ob; omega), hb5.block b (by omega)]
    exact hb
  refine ⟨Y', cY', rfl, ?_, far _ _ h0 hJ.a0, far _ _ h1 hJ.a1, far _ _ hr hJ.ar, ?_, by rw [List.length_append, h.len]; rfl, own_setCell ho5 (fun he => ?_) _, ?_, ?_⟩
  · have := (hJ.below.trans (hb5.mono (by omega))).setCell (p := ⟨ob, 4, none⟩) (by show lo ≤ ob; omega) (.slice Y' (kk + 1) cY')
    exact this
  · have ho : w5.heap[ob]? = some (.cells #[.int .i64 k, .bool m, .bool g, .slice X L cX, .slice Y kk cY] 31 (0, 0)) := (hb5.block ob (by omega)).trans hJ.ao
    exact blk_set ho 4 _
  · have := hown ob he.symm
    omega
  · have h2 := foot_append (v1 := .slice Y' (kk + 1) cY') hJ.loans hg hat
    exact Foot.step h2 fun k hk _ => Below.heap_setCell _ _ _ _ hk.2.1.1
  · have h3 := kids_snoc (t := z) (cs := cs) h.kids hb1 (fun k hk => ⟨by omega, by omega⟩) (fun k hk => ⟨by omega, by omega⟩) (own_lt h.own) (fun k hk => by have := own_base h.own k hk; omega) hBl (by omega) hcs hz
    exact kids_step (kids_append h3 hg hat) fun k hk _ => Below.heap_setCell _ _ _ _ hk.1
theorem JI.start2 {W3 : World} (hb3 : Below W0.heap.size W0 W3) (a0 : W3.heap[b0]? = some (.cells c0 31 (0, 0))) (a1 : W3.heap[b1]? = some (.cells c1 31 (0, 0))) (ar : W3.heap[rb]? = some (.cells cr 31 (0, 0))) (hob : W3.heap.size = ob) :
    JI B W0.heap.size b0 b1 rb ob c0 c1 cr k m g none 0 0 [] 0 [] W0 none 0 [] (W3.alloc (.cells #[.int .i64 k, .bool m, .bool g, .slice none 0 0, .slice none 0 0] 31)) := by
  have hb := below_alloc (Below.refl _ W3) (.cells #[.int .i64 k, .bool m, .bool g, .slice none 0 0, .slice none 0 0] 31)
  exact {
    below := hb3.trans (hb.mono hb3.size)
    a0 := (hb.block _ (blk_lt a0)).trans a0
    a1 := (hb.block _ (blk_lt a1)).trans a1
    ar := (hb.block _ (blk_lt ar)).trans ar
    ao := by rw [← hob]; exact World.alloc_heap_new _ _
    len := rfl
    own := own_nil _ _ _ _
    loans := Kd.F_nil _ _ _
    kids := kids_nil }
theorem JI.add (h : JI B lo b0 b1 rb ob c0 c1 cr k m g X L cX ml kk rs W0 Y cY xs W) (hBl : B ≤ lo) (h0 : b0 < ob) (h1 : b1 < ob) (hr : rb < ob) (l0 : lo ≤ b0) (l1 : lo ≤ b1) (lr : lo ≤ rb)
    {W1 : World} (hb1 : Below W.heap.size W W1) {X' : Option Addr} {L' cX' : Nat} {ml' : List S44} (hF : Kd.F k44 W1 (fun j => (OkB B lo (fun k => k ≠ ob ∧ k ≠ rb) (.slice Y kk cY) j ∨ j < B) ∨ W.heap.size ≤ j) X' L' ml') :
    JI B lo b0 b1 rb ob c0 c1 cr k m g X' L' cX' ml' kk rs W0 Y cY xs (W1.setCell ⟨ob, 3, none⟩ (.slice X' L' cX')) := by
  have hos : ob < W.heap.size := blk_lt h.ao
  have hown := own_base h.own
  have hlt := own_lt h.own
  have hJ := h.mv (by omega) hb1
  have far : ∀ (b : Nat) (o : Obj), b < ob → W1.heap[b]? = some o → (W1.setCell ⟨ob, 3, none⟩ (.slice X' L' cX')).heap[b]? = some o := fun b o hlt hb => by
    rw [Below.heap_setCell _ _ _ _ (by show b ≠ ob; omega)]
    exact hb
  exact {
    below := hJ.below.setCell (p := ⟨ob, 3, none⟩) (by show lo ≤ ob; omega) _
    a0 := far _ _ h0 hJ.a0
    a1 := far _ _ h1 hJ.a1
    ar := far _ _ hr hJ.ar
    ao := blk_set hJ.ao 3 _
    len := hJ.len
    own := own_setCell hJ.own (fun he => by have := hown ob he.symm; omega) _
    loans := by
      have hF2 : Kd.F k44 W1 (OkB B lo (fun k => k ≠ ob ∧ k ≠ rb) (.slice Y kk cY)) X' L' ml' := Kd.F_mono hF fun j hj => by
        rcases hj with (hj | hj) | hj
        · exact hj
        · exact ⟨.inl hj, ⟨by omega, by omega⟩, fun he => by have := hown j he.symm; omega⟩
        · exact ⟨.inr (by omega), ⟨by omega, by omega⟩, fun he => by have := hlt j he.symm; omega⟩
      exact Foot.step hF2 fun k hk _ => Below.heap_setCell _ _ _ _ hk.2.1.1
    kids := kids_step hJ.kids fun k hk _ => Below.heap_setCell _ _ _ _ hk.1 }
theorem JI.done (h : JI B lo b0 b1 rb ob c0 c1 cr k m g X L cX ml kk rs W0 Y cY xs W) (hr : rb < ob) (lr : lo ≤ rb) (hX : L ≤ cX) {W' : World} (hm : ∀ k, k ≠ rb → W'.heap[k]? = W.heap[k]?) :
    Kd.FK k31 W' (fun k => k < B ∨ lo ≤ k) ⟨k, m, g, ml, rs⟩ [.int .i64 k, .bool m, .bool g, .slice X L cX, .slice Y kk cY] := by
  have hk := kids_step (W1 := W') h.kids fun k hk _ => hm k hk.2
  have ho : W'.ownsRow (ob + 1) 31 5 (.slice Y kk cY) kk xs := own_heap h.own fun k hk => hm k (by have := own_base h.own k hk; omega)
  have hl := Kd.F_mono (Kd.F_step (W1 := W') h.loans fun k hk _ => hm k hk.2.1.2) (fun k hk => hk.1)
  have e1 := Kd.F_len hl
  have e2 := h.len
  subst e1 e2
  obtain ⟨A, c, he, hc, hf⟩ := kids_done hk (own_weaken ho (by omega))
  cases he
  exact k31_mkF W' _ ⟨k, m, g, ml, rs⟩ hX hl hc hf
end
/-- A callee's word on two right types that fit and lie in w0: it hands back a type that lies there, or in blocks of its own. -/
def JoinWord (f : Nat) (w0 : World) (t : S31) : Prop :=
  rightT t = true → SmT t → ∀ (u : S31), rightT u = true → SmT u → fitsT t u = true → ∀ (A3 : Option Addr) (c3 : Nat) (A4 : Option Addr) (c4 : Nat) (B3 : Option Addr) (d3 : Nat) (B4 : Option Addr) (d4 : Nat) (w : World), Below w0.heap.size w0 w →
    t.f3.length ≤ c3 → Kd.C k44 w0 A3 t.f3.length t.f3 → t.f4.length ≤ c4 → Kd.C k31 w0 A4 t.f4.length t.f4 →
    u.f3.length ≤ d3 → Kd.C k44 w0 B3 u.f3.length u.f3 → u.f4.length ≤ d4 → Kd.C k31 w0 B4 u.f4.length u.f4 →
    Calls Tryz.prog f #[.agg #[.int .i64 t.f0, .bool t.f1, .bool t.f2, .slice A3 t.f3.length c3, .slice A4 t.f4.length c4], .agg #[.int .i64 u.f0, .bool u.f1, .bool u.f2, .slice B3 u.f3.length d3, .slice B4 u.f4.length d4]] w fun e w' =>
      ∃ k m g X L cX Y n cY, e = .returned (.agg #[.int .i64 k, .bool m, .bool g, .slice X L cX, .slice Y n cY]) ∧ Below w.heap.size w w' ∧ Kd.FK k31 w' (fun k => k < w0.heap.size ∨ w.heap.size ≤ k) (joinT t u) [.int .i64 k, .bool m, .bool g, .slice X L cX, .slice Y n cY]
/-- A right type has few kids. -/
theorem right_few {t : S31} (h : rightT t = true) : t.f4.length ≤ 30 := by
  rw [rightT_eq] at h
  simp only [Bool.and_eq_true] at h
  have h2 := h.2
  unfold tailOK at h2
  split at h2
  · simp only [Bool.and_eq_true, decide_eq_true_eq] at h2; omega
  · split at h2
    · simp only [Bool.and_eq_true, decide_eq_true_eq] at h2; omega
    · simp only [Bool.and_eq_true, decide_eq_true_eq] at h2; omega
end Go.Proofs.YtadjekpfehjibaaGreatDoor.PEnv
namespace Go.Proofs.YtadjekpfehjibaaGreatDoor.PEnv
open Go.RowKit Go.Shelf Go.Lib Go.Proofs.YtadjekpfehjibaaGreatDoorW.PrintWords Go.Proofs.YtadjekpfehjibaaGreatDoorW.PrintLast Go.Proofs.YtadjekpfehjibaaGreatDoorW.PrintMore Go.Proofs.YtadjekpfehjibaaGreatDoor.PEnvJoins
set_option maxRecDepth 100000
theorem three_new (w : World) (o0 o1 o2 : Obj) : Below w.heap.size w (((w.alloc o0).alloc o1).alloc o2) ∧ (((w.alloc o0).alloc o1).alloc o2).heap.size = w.heap.size + 3 ∧ (((w.alloc o0).alloc o1).alloc o2).heap[w.heap.size]? = some o0 ∧ (((w.alloc o0).alloc o1).alloc o2).heap[w.heap.size + 1]? = some o1 ∧ (((w.alloc o0).alloc o1).alloc o2).heap[w.heap.size + 1 + 1]? = some o2 := by
  have s1 : (w.alloc o0).heap.size = w.heap.size + 1 := by simp
  have s2 : ((w.alloc o0).alloc o1).heap.size = w.heap.size + 2 := by simp
  refine ⟨(((Below.refl _ w).alloc (Nat.le_refl _) _).alloc (by simp) _).alloc (by omega) _, by simp, ?_, ?_, ?_⟩
  · rw [heap_alloc_old _ _ (by omega), heap_alloc_old _ _ (by omega)]
    exact World.alloc_heap_new w _
  · rw [heap_alloc_old _ _ (by omega), ← s1]
    exact World.alloc_heap_new _ _
  · rw [show w.heap.size + 1 + 1 = ((w.alloc o0).alloc o1).heap.size by omega]
    exact World.alloc_heap_new _ _
theorem take_next {α : Type} {l : List α} {k : Nat} {x : α} (h : l[k]? = some x) : l.take (k + 1) = l.take k ++ [x] := by
  rw [List.take_add_one, h]
  rfl
def ej1_T : Bool × List (List Nat × List Nat) := (true, [([], []), ([0], [0]), ([], []), ([2], [2]), ([], []), ([4], [4]), ([5], [5]), ([6], [6]), ([7, 6], [6, 7]), ([6, 8], [6, 8]), ([], []), ([10], [10]), ([], []), ([12], [12]), ([11, 13, 6], [11, 13]), ([1, 3, 9, 14], [1, 3, 9, 14]), ([], []), ([16, 15, 14, 0, 1, 2, 3, 4, 5, 6, 7, 8, 9, 10, 11, 12, 13, 14, 15, 16], [15, 16])])
def ej1_B : List Nat := [0, 1, 0, 4, 0, 16, 48, 112, 240, 496, 0, 1024, 0, 4096, 15472, 32767, 0, 131071]
theorem ej1_tab : rtab .any (opsOf Tryz.f30 1) = ej1_T := by kernel_rfl
theorem ej1_bits : waitsOk ej1_T.2 ej1_B = true := by kernel_rfl
def ej5_T : Bool × List (List Nat × List Nat) := (true, [([], []), ([0], [0]), ([], []), ([2], [2]), ([], []), ([3, 4], [3, 4]), ([5], [5]), ([], []), ([7], [7]), ([], []), ([8, 9], [8, 9]), ([10], [10]), ([6, 11], [6, 11]), ([12], [12]), ([1, 13, 12], [1, 13]), ([0, 1, 2, 3, 4, 5, 6, 7, 8, 9, 10, 11, 12, 13, 14], []), ([15, 14, 14, 0, 1, 2, 3, 4, 5, 6, 7, 8, 9, 10, 11, 12, 13, 14], [14, 15])])
def ej5_B : List Nat := [0, 1, 0, 4, 0, 28, 60, 0, 128, 0, 896, 1920, 4092, 8188, 16383, 32767, 65535]
theorem ej5_tab : rtab .any (opsOf Tryz.f30 5) = ej5_T := by kernel_rfl
theorem ej5_bits : waitsOk ej5_T.2 ej5_B = true := by kernel_rfl
set_option maxHeartbeats 32000000 in
/-- env.join at two types: what env.merged and its own calls of the kids hand back is joined. -/
theorem envJoinT (w0 : World) (t : S31) (ih : ∀ k ∈ t.f4, JoinWord 30 w0 k) : JoinWord 30 w0 t := by
  intro ht st u hu su hf A3 c3 A4 c4 B3 d3 B4 d4 w hb0 l3 g3 l4 g4 m3 p3 m4 p4
  have hlen := Aside0.mk (all2_length (fits_kids hf))
  have hfew := Aside0.mk (right_few ht)
  have hB0 := Aside0.mk hb0
  have hC4 := Aside0.mk g4
  have hD4 := Aside0.mk p4
  have hT := Aside0.mk (And.intro ht (And.intro st (And.intro hu (And.intro su hf))))
  have hIH := Aside0.mk ih
  obtain ⟨B, hB⟩ : ∃ B, Aside0 (w0.heap.size = B) := ⟨_, ⟨rfl⟩⟩
  have hBw : B ≤ w.heap.size := by rw [← hB.out]; exact hb0.size
  have hmerge : ∀ W, Below w.heap.size w W → Calls Tryz.prog 47 #[.slice A3 t.f3.length c3, .slice B3 u.f3.length d3, .func (.func 48) #[] #[]] W fun e w' => ∃ X cap, e = .returned (.slice X (mergedL t.f3 u.f3).length cap) ∧ Below W.heap.size W w' ∧ (mergedL t.f3 u.f3).length ≤ cap ∧ Kd.F k44 w' (fun k => k < B ∨ W.heap.size ≤ k) X (mergedL t.f3 u.f3).length (mergedL t.f3 u.f3) := fun W hW => by
    have := mergedF t.f3 u.f3 A3 c3 B3 d3 w0 W (hb0.trans (hW.mono hb0.size)) g3 p3 (by have := st.self; have := su.self; omega)
    rw [hB.out] at this
    exact this
  obtain ⟨ml, hml⟩ : ∃ ml, Aside0 (mergedL t.f3 u.f3 = ml) := ⟨_, ⟨rfl⟩⟩
  rw [hml.out] at hmerge
  obtain ⟨L, hL⟩ : ∃ L, Aside0 (ml.length = L) := ⟨_, ⟨rfl⟩⟩
  rw [hL.out] at hmerge
  clear ht st hu su hf l3 g3 l4 g4 m3 p3 m4 p4 hb0 ih
  have h3 := three_new w (.cells #[.int .i64 t.f0, .bool t.f1, .bool t.f2, .slice A3 t.f3.length c3, .slice A4 t.f4.length c4] 31) (.cells #[.int .i64 u.f0, .bool u.f1, .bool u.f2, .slice B3 u.f3.length d3, .slice B4 u.f4.length d4] 31) (.cells #[.int .i64 0, .bool false, .bool false, .slice none 0 0, .slice none 0 0] 31)
  obtain ⟨W2, hW2⟩ : ∃ W2, (((w.alloc (.cells #[.int .i64 t.f0, .bool t.f1, .bool t.f2, .slice A3 t.f3.length c3, .slice A4 t.f4.length c4] 31)).alloc (.cells #[.int .i64 u.f0, .bool u.f1, .bool u.f2, .slice B3 u.f3.length d3, .slice B4 u.f4.length d4] 31)).alloc (.cells #[.int .i64 0, .bool false, .bool false, .slice none 0 0, .slice none 0 0] 31)) = W2 := ⟨_, rfl⟩
  rw [hW2] at h3
  obtain ⟨hb2, hsz2, e0, e1, e2⟩ := h3
  obtain ⟨g, hgg⟩ : ∃ g, Aside0 ((t.f2 || u.f2) = g) := ⟨_, ⟨rfl⟩⟩
  have hg := hgg.out
  have q0 : W2.cell? ⟨w.heap.size, 0, none⟩ = some (.int .i64 t.f0) := (blk_cell e0 0).trans rfl
  have q1 : W2.cell? ⟨w.heap.size, 1, none⟩ = some (.bool t.f1) := (blk_cell e0 1).trans rfl
  have q2 : W2.cell? ⟨w.heap.size, 2, none⟩ = some (.bool t.f2) := (blk_cell e0 2).trans rfl
  have q3 : W2.cell? ⟨w.heap.size, 3, none⟩ = some (.slice A3 t.f3.length c3) := (blk_cell e0 3).trans rfl
  have r2 : W2.cell? ⟨w.heap.size + 1, 2, none⟩ = some (.bool u.f2) := (blk_cell e1 2).trans rfl
  have r3 : W2.cell? ⟨w.heap.size + 1, 3, none⟩ = some (.slice B3 u.f3.length d3) := (blk_cell e1 3).trans rfl
  obtain ⟨t2, ht2⟩ : ∃ t2, Aside0 (t.f2 = t2) := ⟨_, ⟨rfl⟩⟩
  obtain ⟨u2, hu2⟩ : ∃ u2, Aside0 (u.f2 = u2) := ⟨_, ⟨rfl⟩⟩
  go_enter Tryz.func30, Tryz.ntmps30
  go_upto_region 1 with fail
  clear hW2
  rw [ht2.out] at hgg hg q2
  rw [hu2.out] at hgg hg r2
  obtain ⟨b1, hb1⟩ : ∃ b1, w.heap.size + 1 = b1 := ⟨_, rfl⟩
  rw [hb1] at e1 r2 r3 e2
  simp only [hb1]
  obtain ⟨rb, hrb⟩ : ∃ rb, b1 + 1 = rb := ⟨_, rfl⟩
  rw [hrb] at e2
  simp only [hrb]
  obtain ⟨b0, hb0⟩ : ∃ b0, w.heap.size = b0 := ⟨_, rfl⟩
  rw [hb0] at e0 q0 q1 q2 q3
  simp only [hb0]
  have hb01 := Aside0.mk (And.intro hb0 (And.intro hb1 hrb))
  clear hb0 hb1 hrb
  refine start_ (n := 18) (S := fun w' => w'.cell? ⟨b0, 0, none⟩ = some (.int .i64 t.f0) ∧ w'.cell? ⟨b0, 1, none⟩ = some (.bool t.f1) ∧ w'.cell? ⟨b0, 2, none⟩ = some (.bool t2) ∧ w'.cell? ⟨b1, 2, none⟩ = some (.bool u2) ∧ w'.cell? ⟨b0, 3, none⟩ = some (.slice A3 t.f3.length c3) ∧ w'.cell? ⟨b1, 3, none⟩ = some (.slice B3 u.f3.length d3)) (ds := [17]) #[false, false, false, false, false, false, false, false, false, false, false, false, false, false, false, false, false, false] (by kernel_rfl) rfl rfl ⟨q0, q1, q2, r2, q3, r3⟩ (fun hHeld => ?_); refine with_tabW ej1_tab ej1_bits (fun HT_ HW_ => ?_)
  have hb3 := Aside0.mk (below_drew1 hb2)
  have hs3 := Aside0.mk (show W2.drew.heap.size = w.heap.size + 3 from hsz2)
  have e0' := Aside0.mk (show W2.drew.heap[b0]? = _ from e0)
  have e1' := Aside0.mk (show W2.drew.heap[b1]? = _ from e1)
  have e2' := Aside0.mk (show W2.drew.heap[rb]? = _ from e2)
  clear hb2 q0 q1 q2 r2 q3 r3 hsz2 e0 e1 e2
  generalize W2.drew = W3 at hb3 hs3 e0' e1' e2' hHeld ⊢
  refine pure_ (i := 0) (N := some 7) (v := ?_) (a' := ?_) #[true, false, false, false, false, false, false, false, false, false, false, false, false, false, false, false, false, false] rfl rfl (any_of HT_.out (by kernel_rfl)) (fun _ _ _ h => h) (Or.inl ⟨by rfl, ?_⟩) ?_ ?_
  rotate_left
  · intro w'
    go_simp
    with_reducible rfl
  rotate_left
  · simp only [Act.put, List.setIfInBounds_toArray, List.set_cons_zero, List.set_cons_succ, i64_w, i32_w]
    rfl
  refine take_ (i := 1) (N := some 8) (v := ?_) (a' := ?_) #[true, true, false, false, false, false, false, false, false, false, false, false, false, false, false, false, false, false] rfl rfl (take_ofW HT_.out HW_.out (by kernel_rfl)) (fun _ _ _ h => h) (Or.inl ⟨by rfl, ?_⟩) hHeld ?_ ?_
  rotate_left
  · rintro w' ⟨s0, s1, s2, s3, s4, s5⟩
    go_simp
    with_reducible rfl
  rotate_left
  · simp only [Act.put, List.setIfInBounds_toArray, List.set_cons_zero, List.set_cons_succ, i64_w, i32_w]
    rfl
  refine pure_ (i := 2) (N := some 9) (v := ?_) (a' := ?_) #[true, true, true, false, false, false, false, false, false, false, false, false, false, false, false, false, false, false] rfl rfl (any_of HT_.out (by kernel_rfl)) (fun _ _ _ h => h) (Or.inl ⟨by rfl, ?_⟩) ?_ ?_
  rotate_left
  · intro w'
    go_simp
    with_reducible rfl
  rotate_left
  · simp only [Act.put, List.setIfInBounds_toArray, List.set_cons_zero, List.set_cons_succ, i64_w, i32_w]
    rfl
  refine take_ (i := 3) (N := some 10) (v := ?_) (a' := ?_) #[true, true, true, true, false, false, false, false, false, false, false, false, false, false, false, false, false, false] rfl rfl (take_ofW HT_.out HW_.out (by kernel_rfl)) (fun _ _ _ h => h) (Or.inl ⟨by rfl, ?_⟩) hHeld ?_ ?_
  rotate_left
  · rintro w' ⟨s0, s1, s2, s3, s4, s5⟩
    go_simp
    with_reducible rfl
  rotate_left
  · simp only [Act.put, List.setIfInBounds_toArray, List.set_cons_zero, List.set_cons_succ, i64_w, i32_w]
    rfl
  refine pure_ (i := 4) (N := some 11) (v := ?_) (a' := ?_) #[true, true, true, true, true, false, false, false, false, false, false, false, false, false, false, false, false, false] rfl rfl (any_of HT_.out (by kernel_rfl)) (fun _ _ _ h => h) (Or.inl ⟨by rfl, ?_⟩) ?_ ?_
  rotate_left
  · intro w'
    go_simp
    with_reducible rfl
  rotate_left
  · simp only [Act.put, List.setIfInBounds_toArray, List.set_cons_zero, List.set_cons_succ, i64_w, i32_w]
    rfl
  refine take_ (i := 5) (N := some 12) (v := ?_) (a' := ?_) #[true, true, true, true, true, true, false, false, false, false, false, false, false, false, false, false, false, false] rfl rfl (take_ofW HT_.out HW_.out (by kernel_rfl)) (fun _ _ _ h => h) (Or.inl ⟨by rfl, ?_⟩) hHeld ?_ ?_
  rotate_left
  · rintro w' ⟨s0, s1, s2, s3, s4, s5⟩
    go_simp
    with_reducible rfl
  rotate_left
  · simp only [Act.put, List.setIfInBounds_toArray, List.set_cons_zero, List.set_cons_succ, i64_w, i32_w]
    rfl
  refine pure_ (i := 6) (N := some 13) (v := ?_) (a' := ?_) #[true, true, true, true, true, true, true, false, false, false, false, false, false, false, false, false, false, false] rfl rfl (any_of HT_.out (by kernel_rfl)) (fun _ _ _ h => h) (Or.inl ⟨by rfl, ?_⟩) ?_ ?_
  rotate_left
  · intro w'
    go_simp
    with_reducible rfl
  rotate_left
  · simp only [Act.put, List.setIfInBounds_toArray, List.set_cons_zero, List.set_cons_succ, i64_w, i32_w]
    rfl
  refine join_ (σ := Value × Value) 8 #[true, true, true, true, true, true, true, true, true, true, false, false, false, false, false, false, false, false] (fun s => [(14, s.1), (15, s.2), (16, .bool g)]) (fun _ W' => W3 = W') ?cont ?orders
  case orders =>
    intro hJ
    cases t2 with
    | true =>
      obtain rfl : true = g := hg
      refine pure_ (i := 7) (N := some 14) (v := undef) (a' := ?_) #[true, true, true, true, true, true, true, true, false, false, false, false, false, false, false, false, false, false] rfl rfl (any_of HT_.out (by kernel_rfl)) (fun _ _ _ h => h) (Or.inr ⟨by rfl, rfl⟩) ?_ ?_
      rotate_left
      · simp only [Act.put, List.setIfInBounds_toArray, List.set_cons_zero, List.set_cons_succ, i64_w, i32_w]
        rfl
      refine pure_ (i := 8) (N := some 15) (v := undef) (a' := ?_) #[true, true, true, true, true, true, true, true, true, false, false, false, false, false, false, false, false, false] rfl rfl (any_of HT_.out (by kernel_rfl)) (fun _ _ _ h => h) (Or.inr ⟨by rfl, rfl⟩) ?_ ?_
      rotate_left
      · simp only [Act.put, List.setIfInBounds_toArray, List.set_cons_zero, List.set_cons_succ, i64_w, i32_w]
        rfl
      refine pure_ (i := 9) (N := some 16) (v := ?_) (a' := ?_) #[true, true, true, true, true, true, true, true, true, true, false, false, false, false, false, false, false, false] rfl rfl (any_of HT_.out (by kernel_rfl)) (fun _ _ _ h => h) (Or.inl ⟨by rfl, ?_⟩) ?_ ?_
      rotate_left
      · intro w'
        go_simp
        with_reducible rfl
      rotate_left
      · simp only [Act.put, List.setIfInBounds_toArray, List.set_cons_zero, List.set_cons_succ, i64_w, i32_w]
        rfl
      refine norm_ ?_ (hJ (undef, undef) W3 rfl)
      simp only [putAll, Act.put, List.setIfInBounds_toArray, List.set_cons_zero, List.set_cons_succ, i64_w, i32_w]
    | false =>
      obtain rfl : u2 = g := by simpa using hg
      refine pure_ (i := 7) (N := some 14) (v := ?_) (a' := ?_) #[true, true, true, true, true, true, true, true, false, false, false, false, false, false, false, false, false, false] rfl rfl (any_of HT_.out (by kernel_rfl)) (fun _ _ _ h => h) (Or.inl ⟨by rfl, ?_⟩) ?_ ?_
      rotate_left
      · intro w'
        go_simp
        with_reducible rfl
      rotate_left
      · simp only [Act.put, List.setIfInBounds_toArray, List.set_cons_zero, List.set_cons_succ, i64_w, i32_w]
        rfl
      refine take_ (i := 8) (N := some 15) (v := ?_) (a' := ?_) #[true, true, true, true, true, true, true, true, true, false, false, false, false, false, false, false, false, false] rfl rfl (take_ofW HT_.out HW_.out (by kernel_rfl)) (fun _ _ _ h => h) (Or.inl ⟨by rfl, ?_⟩) hHeld ?_ ?_
      rotate_left
      · rintro w' ⟨s0, s1, s2, s3, s4, s5⟩
        go_simp
        with_reducible rfl
      rotate_left
      · simp only [Act.put, List.setIfInBounds_toArray, List.set_cons_zero, List.set_cons_succ, i64_w, i32_w]
        rfl
      refine pure_ (i := 9) (N := some 16) (v := ?_) (a' := ?_) #[true, true, true, true, true, true, true, true, true, true, false, false, false, false, false, false, false, false] rfl rfl (any_of HT_.out (by kernel_rfl)) (fun _ _ _ h => h) (Or.inl ⟨by rfl, ?_⟩) ?_ ?_
      rotate_left
      · intro w'
        go_simp
        with_reducible rfl
      rotate_left
      · simp only [Act.put, List.setIfInBounds_toArray, List.set_cons_zero, List.set_cons_succ, i64_w, i32_w]
        rfl
      refine norm_ ?_ (hJ (.pointer (some ⟨b1, 2, none⟩), .bool u2) W3 rfl)
      simp only [putAll, Act.put, List.setIfInBounds_toArray, List.set_cons_zero, List.set_cons_succ, i64_w, i32_w]
  case cont =>
  rintro ⟨v14, v15⟩ W' rfl
  clear hg
  refine norm_ (a' := ?_) ?_ ?_
  rotate_left
  · simp only [putAll, Act.put, List.setIfInBounds_toArray, List.set_cons_zero, List.set_cons_succ, i64_w, i32_w]
    rfl
  refine pure_ (i := 10) (N := some 17) (v := ?_) (a' := ?_) #[true, true, true, true, true, true, true, true, true, true, true, false, false, false, false, false, false, false] rfl rfl (any_of HT_.out (by kernel_rfl)) (fun _ _ _ h => h) (Or.inl ⟨by rfl, ?_⟩) ?_ ?_
  rotate_left
  · intro w'
    go_simp
    with_reducible rfl
  rotate_left
  · simp only [Act.put, List.setIfInBounds_toArray, List.set_cons_zero, List.set_cons_succ, i64_w, i32_w]
    rfl
  refine take_ (i := 11) (N := some 18) (v := ?_) (a' := ?_) #[true, true, true, true, true, true, true, true, true, true, true, true, false, false, false, false, false, false] rfl rfl (take_ofW HT_.out HW_.out (by kernel_rfl)) (fun _ _ _ h => h) (Or.inl ⟨by rfl, ?_⟩) hHeld ?_ ?_
  rotate_left
  · rintro w' ⟨s0, s1, s2, s3, s4, s5⟩
    go_simp
    with_reducible rfl
  rotate_left
  · simp only [Act.put, List.setIfInBounds_toArray, List.set_cons_zero, List.set_cons_succ, i64_w, i32_w]
    rfl
  refine pure_ (i := 12) (N := some 19) (v := ?_) (a' := ?_) #[true, true, true, true, true, true, true, true, true, true, true, true, true, false, false, false, false, false] rfl rfl (any_of HT_.out (by kernel_rfl)) (fun _ _ _ h => h) (Or.inl ⟨by rfl, ?_⟩) ?_ ?_
  rotate_left
  · intro w'
    go_simp
    with_reducible rfl
  rotate_left
  · simp only [Act.put, List.setIfInBounds_toArray, List.set_cons_zero, List.set_cons_succ, i64_w, i32_w]
    rfl
  refine take_ (i := 13) (N := some 20) (v := ?_) (a' := ?_) #[true, true, true, true, true, true, true, true, true, true, true, true, true, true, false, false, false, false] rfl rfl (take_ofW HT_.out HW_.out (by kernel_rfl)) (fun _ _ _ h => h) (Or.inl ⟨by rfl, ?_⟩) hHeld ?_ ?_
  rotate_left
  · rintro w' ⟨s0, s1, s2, s3, s4, s5⟩
    go_simp
    with_reducible rfl
  rotate_left
  · simp only [Act.put, List.setIfInBounds_toArray, List.set_cons_zero, List.set_cons_succ, i64_w, i32_w]
    rfl
  refine join_ (σ := Option Addr × Nat × Nat) 1 #[true, true, true, true, true, true, true, true, true, true, true, true, true, true, true, true, true, false] (fun s => [(21, .slice s.1 L s.2.1), (22, .agg #[.int .i64 t.f0, .bool t.f1, .bool g, .slice s.1 L s.2.1, .slice none 0 0]), (5, .pointer (some ⟨s.2.2, 0, none⟩))]) (fun s W' => Below W3.heap.size W3 W' ∧ W3.heap.size ≤ s.2.2 ∧ W'.heap[s.2.2]? = some (.cells #[.int .i64 0, .bool false, .bool false, .slice none 0 0, .slice none 0 0] 31 (0, 0)) ∧ L ≤ s.2.1 ∧ Kd.F k44 W' (fun k => (k < B ∨ W3.heap.size ≤ k) ∧ k ≠ s.2.2) s.1 L ml) ?cont ?orders
  case orders =>
    intro hJ
    refine two_ (i := 14) (j := 16) (Ni := some 21) (Nj := some 5) #[true, true, true, true, true, true, true, true, true, true, true, true, true, true, true, false, false, false] #[true, true, true, true, true, true, true, true, true, true, true, true, true, true, false, false, true, false] rfl rfl rfl rfl (two_of HT_.out (by kernel_rfl)) (by decide) (by decide) (fun K hK => ?_) (fun K hK => ?_)
    · refine goes_ Tryz.func47 (by kernel_rfl) rfl #[.slice A3 t.f3.length c3, .slice B3 u.f3.length d3, .func (.func 48) #[] #[]] (by rfl) rfl rfl (by (try simp only [List.map_toArray, List.map_cons, List.map_nil]); first | done | rfl) ?_
      refine (hmerge W3 hb3.out).mono ?_
      rintro e W4 ⟨X, cap, rfl, hb4, hcap, hF⟩
      refine ⟨_, rfl, ?_⟩
      have HB := hb4
      refine hK.out _ _ ⟨below_cell HB hHeld.1, below_cell HB hHeld.2.1, below_cell HB hHeld.2.2.1, below_cell HB hHeld.2.2.2.1, below_cell HB hHeld.2.2.2.2.1, below_cell HB hHeld.2.2.2.2.2⟩ (fun hHeld => ?_)
      clear hK K
      refine norm_ (a' := ?_) ?_ ?_
      rotate_left
      · show Act.put _ (some 21) _ = _
        simp only [Act.put, List.setIfInBounds_toArray, List.set_cons_zero, List.set_cons_succ, i64_w, i32_w]
        rfl
      refine pure_ (i := 15) (N := some 22) (v := ?_) (a' := ?_) #[true, true, true, true, true, true, true, true, true, true, true, true, true, true, true, true, false, false] rfl rfl (any_of HT_.out (by kernel_rfl)) (fun _ _ _ h => h) (Or.inl ⟨by rfl, ?_⟩) ?_ ?_
      rotate_left
      · intro w'
        go_simp
        with_reducible rfl
      rotate_left
      · simp only [Act.put, List.setIfInBounds_toArray, List.set_cons_zero, List.set_cons_succ, i64_w, i32_w]
        rfl
      refine one_ (i := 16) (N := some 5) #[true, true, true, true, true, true, true, true, true, true, true, true, true, true, true, true, true, false] rfl rfl (one_of HT_.out (by kernel_rfl)) (by decide) (fun K hK => ?_)
      refine value_ (v := .pointer (some ⟨W4.heap.size, 0, none⟩)) (w1 := W4.alloc (.cells #[.int .i64 0, .bool false, .bool false, .slice none 0 0, .slice none 0 0] 31)) (by rfl) rfl (by go_simp; first | done | rfl) ?_
      have HB := below_alloc (Below.refl _ W4) (.cells #[.int .i64 0, .bool false, .bool false, .slice none 0 0, .slice none 0 0] 31)
      refine hK.out _ _ ⟨below_cell HB hHeld.1, below_cell HB hHeld.2.1, below_cell HB hHeld.2.2.1, below_cell HB hHeld.2.2.2.1, below_cell HB hHeld.2.2.2.2.1, below_cell HB hHeld.2.2.2.2.2⟩ (fun hHeld => ?_)
      clear hK K
      refine norm_ ?_ (hJ (X, cap, W4.heap.size) _ ⟨hb4.trans (HB.mono hb4.size), hb4.size, World.alloc_heap_new W4 _, hcap, ?_⟩)
      · simp only [putAll, Act.put, List.setIfInBounds_toArray, List.set_cons_zero, List.set_cons_succ, i64_w, i32_w]
      · exact Kd.F_alloc (Kd.F_mono (Kd.F_bound hF) (fun k hk => ⟨hk.1, by have := hk.2; show k ≠ W4.heap.size; omega⟩)) _
    · refine value_ (v := .pointer (some ⟨W3.heap.size, 0, none⟩)) (w1 := W3.alloc (.cells #[.int .i64 0, .bool false, .bool false, .slice none 0 0, .slice none 0 0] 31)) (by rfl) rfl (by go_simp; first | done | rfl) ?_
      have HB := below_alloc (Below.refl _ W3) (.cells #[.int .i64 0, .bool false, .bool false, .slice none 0 0, .slice none 0 0] 31)
      refine hK.out _ _ ⟨below_cell HB hHeld.1, below_cell HB hHeld.2.1, below_cell HB hHeld.2.2.1, below_cell HB hHeld.2.2.2.1, below_cell HB hHeld.2.2.2.2.1, below_cell HB hHeld.2.2.2.2.2⟩ (fun hHeld => ?_)
      clear hK K
      refine norm_ (a' := ?_) ?_ ?_
      rotate_left
      · show Act.put _ (some 5) _ = _
        simp only [Act.put, List.setIfInBounds_toArray, List.set_cons_zero, List.set_cons_succ, i64_w, i32_w]
        rfl
      refine one_ (i := 14) (N := some 21) #[true, true, true, true, true, true, true, true, true, true, true, true, true, true, true, false, true, false] rfl rfl (one_of HT_.out (by kernel_rfl)) (by decide) (fun K hK => ?_)
      refine goes_ Tryz.func47 (by kernel_rfl) rfl #[.slice A3 t.f3.length c3, .slice B3 u.f3.length d3, .func (.func 48) #[] #[]] (by rfl) rfl rfl (by (try simp only [List.map_toArray, List.map_cons, List.map_nil]); first | done | rfl) ?_
      refine (hmerge (W3.alloc (.cells #[.int .i64 0, .bool false, .bool false, .slice none 0 0, .slice none 0 0] 31)) (hb3.out.trans (HB.mono hb3.out.size))).mono ?_
      rintro e W4 ⟨X, cap, rfl, hb4, hcap, hF⟩
      refine ⟨_, rfl, ?_⟩
      have hb34 := HB.trans (hb4.mono HB.size)
      have hnew := (hb4.block W3.heap.size (by simp)).trans (World.alloc_heap_new W3 (.cells #[.int .i64 0, .bool false, .bool false, .slice none 0 0, .slice none 0 0] 31))
      clear HB
      have HB := hb4
      refine hK.out _ _ ⟨below_cell HB hHeld.1, below_cell HB hHeld.2.1, below_cell HB hHeld.2.2.1, below_cell HB hHeld.2.2.2.1, below_cell HB hHeld.2.2.2.2.1, below_cell HB hHeld.2.2.2.2.2⟩ (fun hHeld => ?_)
      clear hK K
      refine norm_ (a' := ?_) ?_ ?_
      rotate_left
      · show Act.put _ (some 21) _ = _
        simp only [Act.put, List.setIfInBounds_toArray, List.set_cons_zero, List.set_cons_succ, i64_w, i32_w]
        rfl
      refine pure_ (i := 15) (N := some 22) (v := ?_) (a' := ?_) #[true, true, true, true, true, true, true, true, true, true, true, true, true, true, true, true, true, false] rfl rfl (any_of HT_.out (by kernel_rfl)) (fun _ _ _ h => h) (Or.inl ⟨by rfl, ?_⟩) ?_ ?_
      rotate_left
      · intro w'
        go_simp
        with_reducible rfl
      rotate_left
      · simp only [Act.put, List.setIfInBounds_toArray, List.set_cons_zero, List.set_cons_succ, i64_w, i32_w]
        rfl
      refine norm_ ?_ (hJ (X, cap, W3.heap.size) _ ⟨hb34, Nat.le_refl _, hnew, hcap, ?_⟩)
      · simp only [putAll, Act.put, List.setIfInBounds_toArray, List.set_cons_zero, List.set_cons_succ, i64_w, i32_w]
      · have hw3 := Nat.le_trans hb3.out.size (Nat.le_refl _)
        have hsa : (W3.alloc (.cells #[.int .i64 0, .bool false, .bool false, .slice none 0 0, .slice none 0 0] 31)).heap.size = W3.heap.size + 1 := by simp
        exact Kd.F_mono hF (fun k hk => ⟨hk.imp id (fun h => by omega), by show k ≠ W3.heap.size; rcases hk with hk | hk <;> omega⟩)
  case cont =>
  rintro ⟨X, cX, ob⟩ W4 ⟨hb4, hob, hobj, hcap, hF⟩
  simp only at hob hobj hcap hF
  have hcap := Aside0.mk hcap
  refine norm_ (a' := ?_) ?_ ?_
  rotate_left
  · simp only [putAll, Act.put, List.setIfInBounds_toArray, List.set_cons_zero, List.set_cons_succ, i64_w, i32_w]
    rfl
  refine last_ (i := 17) (N := none) #[true, true, true, true, true, true, true, true, true, true, true, true, true, true, true, true, true, true] rfl rfl (one_of HT_.out (by kernel_rfl)) (by decide) (fun K hK => ?_)
  have k0 : W4.cell? ⟨ob, 0, none⟩ = some (.int .i64 0) := (blk_cell hobj 0).trans rfl
  have k1 : W4.cell? ⟨ob, 1, none⟩ = some (.bool false) := (blk_cell hobj 1).trans rfl
  have k2 : W4.cell? ⟨ob, 2, none⟩ = some (.bool false) := (blk_cell hobj 2).trans rfl
  have k3 : W4.cell? ⟨ob, 3, none⟩ = some (.slice none 0 0) := (blk_cell hobj 3).trans rfl
  have k4 : W4.cell? ⟨ob, 4, none⟩ = some (.slice none 0 0) := (blk_cell hobj 4).trans rfl
  have kf : ∀ i, W4.frozen? ⟨ob, i, none⟩ = false := fun i => blk_frozen hobj i
  refine skip_ (w1 := (((((W4.setCell ⟨ob, 0, none⟩ (.int .i64 t.f0)).setCell ⟨ob, 1, none⟩ (.bool t.f1)).setCell ⟨ob, 2, none⟩ (.bool g)).setCell ⟨ob, 3, none⟩ (.slice X L cX)).setCell ⟨ob, 4, none⟩ (.slice none 0 0))) (by rfl) rfl (by go_simp) ?_
  have hJ := JI.start (B := B) (k := t.f0) (m := t.f1) (g := g) (X := X) (L := L) (cX := cX) (ml := ml) hb3.out e0'.out e1'.out e2'.out hb4 hob hobj hBw (by have := hb01.out; omega) hF
  have hord := Aside0.mk (show w0.heap.size ≤ w.heap.size ∧ b0 < ob ∧ b1 < ob ∧ rb < ob ∧ w.heap.size ≤ b0 ∧ w.heap.size ≤ b1 ∧ w.heap.size ≤ rb by have := hb01.out; have := hs3.out; have := hB0.out.size; omega)
  rw [← hB.out] at hJ
  refine hK.out _ _ ?_
  clear hK K hHeld hb3 hs3 e0' e1' e2' hb4 hobj hF k0 k1 k2 k3 k4 kf hmerge hBw
  generalize (((((W4.setCell ⟨ob, 0, none⟩ (.int .i64 t.f0)).setCell ⟨ob, 1, none⟩ (.bool t.f1)).setCell ⟨ob, 2, none⟩ (.bool g)).setCell ⟨ob, 3, none⟩ (.slice X L cX)).setCell ⟨ob, 4, none⟩ (.slice none 0 0)) = W5 at hJ ⊢
  refine done_ (done_of HT_.out (by kernel_rfl)) ?_
  have p4 : W5.cell? ⟨b0, 4, none⟩ = some (.slice A4 t.f4.length c4) := (blk_cell hJ.a0 4).trans rfl
  have hJ0 := Aside0.mk hJ
  clear hJ
  go_wp2
  clear p4
  go_loopg [26] t.f4.length (fun gg s26 wr => ∃ kk : Nat, kk ≤ t.f4.length ∧ t.f4.length - kk ≤ gg ∧ s26 = .int .i64 kk ∧ Aside (∃ Y cY xs, JI w0.heap.size w.heap.size b0 b1 rb ob #[.int .i64 t.f0, .bool t.f1, .bool t.f2, .slice A3 t.f3.length c3, .slice A4 t.f4.length c4] #[.int .i64 u.f0, .bool u.f1, .bool u.f2, .slice B3 u.f3.length d3, .slice B4 u.f4.length d4] #[.int .i64 0, .bool false, .bool false, .slice none 0 0, .slice none 0 0] t.f0 t.f1 g X L cX ml kk ((joinL t.f4 u.f4).take kk) w Y cY xs wr))
  case atStart => exact ⟨0, Nat.zero_le _, by omega, rfl, none, 0, [], hJ0.out⟩
  case round =>
    clear hJ0
    obtain ⟨kk, hkk, hg, rfl, hR⟩ := hrel
    obtain ⟨Y, cY, xs, hJ⟩ := hR.out
    have hJ := Aside0.mk hJ
    clear hR
    by_cases hlt : kk < t.f4.length
    · have hbx := Aside0.mk (hB0.out.trans (hJ.out.below.mono hB0.out.size))
      have hltz : (kk : Int) < (t.f4.length : Int) := by omega
      have hlty : kk < u.f4.length := by have := hlen.out; omega
      have hltyz : (kk : Int) < (u.f4.length : Int) := by omega
      obtain ⟨ad, D3, e3, D4, e4, eA, x0, x1, x2, x3, x4, xl3, xg3, xl4, xg4⟩ := at_T31 hC4.out (kk : Int) (by omega) hltz
      subst eA
      obtain ⟨bd, G3, h3, G4, h4, eB, y0, y1, y2, y3, y4, yl3, yg3, yl4, yg4⟩ := at_T31 hD4.out (kk : Int) (by omega) hltyz
      subst eB
      have hrx : t.f4[kk]? = some (rd_T31 t.f4 (kk : Int)) := by rw [rd37_at _ _ hlt]; exact List.getElem?_eq_getElem hlt
      have hry : u.f4[kk]? = some (rd_T31 u.f4 (kk : Int)) := by rw [rd37_at _ _ hlty]; exact List.getElem?_eq_getElem hlty
      simp only [Int.toNat_natCast] at x0 x1 x2 x3 x4 y0 y1 y2 y3 y4
      generalize rd_T31 t.f4 (kk : Int) = x at *
      generalize rd_T31 u.f4 (kk : Int) = y at *
      have hmx := List.mem_of_getElem? hrx
      have hmy := List.mem_of_getElem? hry
      have hkid := Aside0.mk (fun W (hW : Below w0.heap.size w0 W) => hIH.out x hmx (rightT_kids hT.out.1 x hmx) (hT.out.2.1.kid hmx) y (rightT_kids hT.out.2.2.1 y hmy) (hT.out.2.2.2.1.kid hmy) (all2_at (fits_kids hT.out.2.2.2.2) hrx hry) D3 e3 D4 e4 G3 h3 G4 h4 W hW xl3 xg3 xl4 xg4 yl3 yg3 yl4 yg4)
      have hnext := Aside0.mk (take_next (joinL_get t.f4 u.f4 kk x y hrx hry))
      clear xl3 xg3 xl4 xg4 yl3 yg3 yl4 yg4 hrx hry hmx hmy
      replace x0 := below_cell hbx.out x0
      replace x1 := below_cell hbx.out x1
      replace x2 := below_cell hbx.out x2
      replace x3 := below_cell hbx.out x3
      replace x4 := below_cell hbx.out x4
      replace y0 := below_cell hbx.out y0
      replace y1 := below_cell hbx.out y1
      replace y2 := below_cell hbx.out y2
      replace y3 := below_cell hbx.out y3
      replace y4 := below_cell hbx.out y4
      have j4 : wr.cell? ⟨ob, 4, none⟩ = some (.slice Y kk cY) := (blk_cell hJ.out.ao 4).trans rfl
      have p4 : wr.cell? ⟨b0, 4, none⟩ = some (.slice (some ad) t.f4.length c4) := (blk_cell hJ.out.a0 4).trans rfl
      have r4 : wr.cell? ⟨b1, 4, none⟩ = some (.slice (some bd) u.f4.length d4) := (blk_cell hJ.out.a1 4).trans rfl
      have hlo := Aside0.mk (Nat.le_trans hJ.out.below.size (Nat.le_refl _))
      clear hT hIH hC4 hD4 hml hL ht2 hu2 hgg hcap
      go_upto_region 5 with fail
      refine start_ (n := 17) (S := fun w' => w'.cell? ⟨ob, 4, none⟩ = some (.slice Y kk cY) ∧ w'.cell? ⟨b0, 4, none⟩ = some (.slice (some ad) t.f4.length c4) ∧ w'.cell? ⟨b1, 4, none⟩ = some (.slice (some bd) u.f4.length d4) ∧ w'.cell? (ad.add (kk * 5)) = some (.int .i64 x.f0) ∧ w'.cell? ⟨(ad.add (kk * 5)).block, (ad.add (kk * 5)).off + 1, none⟩ = some (.bool x.f1) ∧ w'.cell? ⟨(ad.add (kk * 5)).block, (ad.add (kk * 5)).off + 2, none⟩ = some (.bool x.f2) ∧ w'.cell? ⟨(ad.add (kk * 5)).block, (ad.add (kk * 5)).off + 3, none⟩ = some (.slice D3 x.f3.length e3) ∧ w'.cell? ⟨(ad.add (kk * 5)).block, (ad.add (kk * 5)).off + 4, none⟩ = some (.slice D4 x.f4.length e4) ∧ w'.cell? (bd.add (kk * 5)) = some (.int .i64 y.f0) ∧ w'.cell? ⟨(bd.add (kk * 5)).block, (bd.add (kk * 5)).off + 1, none⟩ = some (.bool y.f1) ∧ w'.cell? ⟨(bd.add (kk * 5)).block, (bd.add (kk * 5)).off + 2, none⟩ = some (.bool y.f2) ∧ w'.cell? ⟨(bd.add (kk * 5)).block, (bd.add (kk * 5)).off + 3, none⟩ = some (.slice G3 y.f3.length h3) ∧ w'.cell? ⟨(bd.add (kk * 5)).block, (bd.add (kk * 5)).off + 4, none⟩ = some (.slice G4 y.f4.length h4)) (ds := [14, 16]) #[false, false, false, false, false, false, false, false, false, false, false, false, false, false, false, false, false] (by kernel_rfl) rfl rfl ⟨j4, p4, r4, x0, x1, x2, x3, x4, y0, y1, y2, y3, y4⟩ (fun hHeld => ?_); refine with_tabW ej5_tab ej5_bits (fun HT_ HW_ => ?_)
      have hJ3 := Aside0.mk (hJ.out.mv hlo.out (below_drew1 (Below.refl _ wr)))
      have hbx := Aside0.mk (below_drew1 hbx.out)
      have hlo3 := Aside0.mk (show w.heap.size ≤ wr.drew.heap.size from hlo.out)
      clear hJ hlo j4 p4 r4 x0 x1 x2 x3 x4 y0 y1 y2 y3 y4
      generalize wr.drew = W3 at hJ3 hbx hlo3 hHeld ⊢
      refine pure_ (i := 0) (N := some 29) (v := ?_) (a' := ?_) #[true, false, false, false, false, false, false, false, false, false, false, false, false, false, false, false, false] rfl rfl (any_of HT_.out (by kernel_rfl)) (fun _ _ _ h => h) (Or.inl ⟨by rfl, ?_⟩) ?_ ?_
      rotate_left
      · intro w'
        go_simp
        with_reducible rfl
      rotate_left
      · simp only [Act.put, List.setIfInBounds_toArray, List.set_cons_zero, List.set_cons_succ, i64_w, i32_w]
        rfl
      refine take_ (i := 1) (N := some 30) (v := ?_) (a' := ?_) #[true, true, false, false, false, false, false, false, false, false, false, false, false, false, false, false, false] rfl rfl (take_ofW HT_.out HW_.out (by kernel_rfl)) (fun _ _ _ h => h) (Or.inl ⟨by rfl, ?_⟩) hHeld ?_ ?_
      rotate_left
      · rintro w' ⟨s0, s1, s2, s3, s4, s5, s6, s7, s8, s9, s10, s11, s12⟩
        go_simp
        with_reducible rfl
      rotate_left
      · simp only [Act.put, List.setIfInBounds_toArray, List.set_cons_zero, List.set_cons_succ, i64_w, i32_w]
        rfl
      refine pure_ (i := 2) (N := some 31) (v := ?_) (a' := ?_) #[true, true, true, false, false, false, false, false, false, false, false, false, false, false, false, false, false] rfl rfl (any_of HT_.out (by kernel_rfl)) (fun _ _ _ h => h) (Or.inl ⟨by rfl, ?_⟩) ?_ ?_
      rotate_left
      · intro w'
        go_simp
        with_reducible rfl
      rotate_left
      · simp only [Act.put, List.setIfInBounds_toArray, List.set_cons_zero, List.set_cons_succ, i64_w, i32_w]
        rfl
      refine take_ (i := 3) (N := some 32) (v := ?_) (a' := ?_) #[true, true, true, true, false, false, false, false, false, false, false, false, false, false, false, false, false] rfl rfl (take_ofW HT_.out HW_.out (by kernel_rfl)) (fun _ _ _ h => h) (Or.inl ⟨by rfl, ?_⟩) hHeld ?_ ?_
      rotate_left
      · rintro w' ⟨s0, s1, s2, s3, s4, s5, s6, s7, s8, s9, s10, s11, s12⟩
        go_simp
        with_reducible rfl
      rotate_left
      · simp only [Act.put, List.setIfInBounds_toArray, List.set_cons_zero, List.set_cons_succ, i64_w, i32_w]
        rfl
      refine pure_ (i := 4) (N := some 33) (v := ?_) (a' := ?_) #[true, true, true, true, true, false, false, false, false, false, false, false, false, false, false, false, false] rfl rfl (any_of HT_.out (by kernel_rfl)) (fun _ _ _ h => h) (Or.inl ⟨by rfl, ?_⟩) ?_ ?_
      rotate_left
      · intro w'
        go_simp
        with_reducible rfl
      rotate_left
      · simp only [Act.put, List.setIfInBounds_toArray, List.set_cons_zero, List.set_cons_succ, i64_w, i32_w]
        rfl
      refine pure_ (i := 5) (N := some 34) (v := ?_) (a' := ?_) #[true, true, true, true, true, true, false, false, false, false, false, false, false, false, false, false, false] rfl rfl (any_of HT_.out (by kernel_rfl)) (fun _ _ _ h => h) (Or.inl ⟨by rfl, ?_⟩) ?_ ?_
      rotate_left
      · intro w'
        go_simp
        with_reducible rfl
      rotate_left
      · simp only [Act.put, List.setIfInBounds_toArray, List.set_cons_zero, List.set_cons_succ, i64_w, i32_w]
        rfl
      refine take_ (i := 6) (N := some 35) (v := ?_) (a' := ?_) #[true, true, true, true, true, true, true, false, false, false, false, false, false, false, false, false, false] rfl rfl (take_ofW HT_.out HW_.out (by kernel_rfl)) (fun _ _ _ h => h) (Or.inl ⟨by rfl, ?_⟩) hHeld ?_ ?_
      rotate_left
      · rintro w' ⟨s0, s1, s2, s3, s4, s5, s6, s7, s8, s9, s10, s11, s12⟩
        go_simp
        with_reducible rfl
      rotate_left
      · simp only [Act.put, List.setIfInBounds_toArray, List.set_cons_zero, List.set_cons_succ, i64_w, i32_w]
        rfl
      refine pure_ (i := 7) (N := some 36) (v := ?_) (a' := ?_) #[true, true, true, true, true, true, true, true, false, false, false, false, false, false, false, false, false] rfl rfl (any_of HT_.out (by kernel_rfl)) (fun _ _ _ h => h) (Or.inl ⟨by rfl, ?_⟩) ?_ ?_
      rotate_left
      · intro w'
        go_simp
        with_reducible rfl
      rotate_left
      · simp only [Act.put, List.setIfInBounds_toArray, List.set_cons_zero, List.set_cons_succ, i64_w, i32_w]
        rfl
      refine take_ (i := 8) (N := some 37) (v := ?_) (a' := ?_) #[true, true, true, true, true, true, true, true, true, false, false, false, false, false, false, false, false] rfl rfl (take_ofW HT_.out HW_.out (by kernel_rfl)) (fun _ _ _ h => h) (Or.inl ⟨by rfl, ?_⟩) hHeld ?_ ?_
      rotate_left
      · rintro w' ⟨s0, s1, s2, s3, s4, s5, s6, s7, s8, s9, s10, s11, s12⟩
        go_simp
        with_reducible rfl
      rotate_left
      · simp only [Act.put, List.setIfInBounds_toArray, List.set_cons_zero, List.set_cons_succ, i64_w, i32_w]
        rfl
      refine pure_ (i := 9) (N := some 38) (v := ?_) (a' := ?_) #[true, true, true, true, true, true, true, true, true, true, false, false, false, false, false, false, false] rfl rfl (any_of HT_.out (by kernel_rfl)) (fun _ _ _ h => h) (Or.inl ⟨by rfl, ?_⟩) ?_ ?_
      rotate_left
      · intro w'
        go_simp
        with_reducible rfl
      rotate_left
      · simp only [Act.put, List.setIfInBounds_toArray, List.set_cons_zero, List.set_cons_succ, i64_w, i32_w]
        rfl
      refine pure_ (i := 10) (N := some 39) (v := ?_) (a' := ?_) #[true, true, true, true, true, true, true, true, true, true, true, false, false, false, false, false, false] rfl rfl (any_of HT_.out (by kernel_rfl)) (fun _ _ _ h => h) (Or.inl ⟨by rfl, ?_⟩) ?_ ?_
      rotate_left
      · intro w'
        go_simp
        with_reducible rfl
      rotate_left
      · simp only [Act.put, List.setIfInBounds_toArray, List.set_cons_zero, List.set_cons_succ, i64_w, i32_w]
        rfl
      refine take_ (i := 11) (N := some 40) (v := ?_) (a' := ?_) #[true, true, true, true, true, true, true, true, true, true, true, true, false, false, false, false, false] rfl rfl (take_ofW HT_.out HW_.out (by kernel_rfl)) (fun _ _ _ h => h) (Or.inl ⟨by rfl, ?_⟩) hHeld ?_ ?_
      rotate_left
      · rintro w' ⟨s0, s1, s2, s3, s4, s5, s6, s7, s8, s9, s10, s11, s12⟩
        go_simp
        with_reducible rfl
      rotate_left
      · simp only [Act.put, List.setIfInBounds_toArray, List.set_cons_zero, List.set_cons_succ, i64_w, i32_w]
        rfl
      refine one_ (i := 12) (N := some 41) #[true, true, true, true, true, true, true, true, true, true, true, true, true, false, false, false, false] rfl rfl (one_of HT_.out (by kernel_rfl)) (by decide) (fun K hK => ?_)
      refine goes_ Tryz.func30 (by kernel_rfl) rfl #[.agg #[.int .i64 x.f0, .bool x.f1, .bool x.f2, .slice D3 x.f3.length e3, .slice D4 x.f4.length e4], .agg #[.int .i64 y.f0, .bool y.f1, .bool y.f2, .slice G3 y.f3.length h3, .slice G4 y.f4.length h4]] (by rfl) rfl rfl (by (try simp only [List.map_toArray, List.map_cons, List.map_nil]); first | done | rfl) ?_
      refine (hkid.out W3 hbx.out).mono ?_
      clear hkid
      rintro e W4 ⟨zk, zm, zg, ZX, zL, zcX, ZY, zn, zcY, rfl, hb4, hFK⟩
      refine ⟨_, rfl, ?_⟩
      have HB := hb4
      refine hK.out _ _ ⟨below_cell HB hHeld.1, below_cell HB hHeld.2.1, below_cell HB hHeld.2.2.1, below_cell HB hHeld.2.2.2.1, below_cell HB hHeld.2.2.2.2.1, below_cell HB hHeld.2.2.2.2.2.1, below_cell HB hHeld.2.2.2.2.2.2.1, below_cell HB hHeld.2.2.2.2.2.2.2.1, below_cell HB hHeld.2.2.2.2.2.2.2.2.1, below_cell HB hHeld.2.2.2.2.2.2.2.2.2.1, below_cell HB hHeld.2.2.2.2.2.2.2.2.2.2.1, below_cell HB hHeld.2.2.2.2.2.2.2.2.2.2.2.1, below_cell HB hHeld.2.2.2.2.2.2.2.2.2.2.2.2⟩ (fun hHeld => ?_)
      clear hK K HB
      refine norm_ (a' := ?_) ?_ ?_
      rotate_left
      · show Act.put _ (some 41) _ = _
        simp only [Act.put, List.setIfInBounds_toArray, List.set_cons_zero, List.set_cons_succ, i64_w, i32_w]
        rfl
      refine one_ (i := 13) (N := some 42) #[true, true, true, true, true, true, true, true, true, true, true, true, true, true, false, false, false] rfl rfl (one_of HT_.out (by kernel_rfl)) (by decide) (fun K hK => ?_)
      refine value_ (v := .slice (some ⟨W4.heap.size, 0, none⟩) 1 1) (w1 := W4.alloc (.cells #[.int .i64 zk, .bool zm, .bool zg, .slice ZX zL zcX, .slice ZY zn zcY] 31)) (by rfl) rfl (by go_simp; first | done | rfl) ?_
      have HB := below_alloc (Below.refl _ W4) (.cells #[.int .i64 zk, .bool zm, .bool zg, .slice ZX zL zcX, .slice ZY zn zcY] 31)
      refine hK.out _ _ ⟨below_cell HB hHeld.1, below_cell HB hHeld.2.1, below_cell HB hHeld.2.2.1, below_cell HB hHeld.2.2.2.1, below_cell HB hHeld.2.2.2.2.1, below_cell HB hHeld.2.2.2.2.2.1, below_cell HB hHeld.2.2.2.2.2.2.1, below_cell HB hHeld.2.2.2.2.2.2.2.1, below_cell HB hHeld.2.2.2.2.2.2.2.2.1, below_cell HB hHeld.2.2.2.2.2.2.2.2.2.1, below_cell HB hHeld.2.2.2.2.2.2.2.2.2.2.1, below_cell HB hHeld.2.2.2.2.2.2.2.2.2.2.2.1, below_cell HB hHeld.2.2.2.2.2.2.2.2.2.2.2.2⟩ (fun hHeld => ?_)
      clear hK K HB
      refine norm_ (a' := ?_) ?_ ?_
      rotate_left
      · show Act.put _ (some 42) _ = _
        simp only [Act.put, List.setIfInBounds_toArray, List.set_cons_zero, List.set_cons_succ, i64_w, i32_w]
        rfl
      refine last_ (i := 14) (N := some 43) #[true, true, true, true, true, true, true, true, true, true, true, true, true, true, true, false, false] rfl rfl (one_of HT_.out (by kernel_rfl)) (by decide) (fun K hK => ?_)
      have hJ4 := hJ3.out.mv hlo3.out hb4
      have hos := blk_lt hJ4.ao
      refine step_append_cells (w0 := W4) (ob + 1) (by rfl) (.tmp 30) (.tmp 42) 29 31 (.agg #[.int .i64 0, .bool false, .bool false, .slice none 0 0, .slice none 0 0]) 5 64 rfl (by first | kernel_rfl | rfl) (by first | kernel_rfl | rfl) rfl (by decide) (by decide) (.slice Y kk cY) kk xs [.int .i64 zk, .bool zm, .bool zg, .slice ZX zL zcX, .slice ZY zn zcY] (by rfl) (by rfl) rfl (by intro v hv; simp only [List.mem_cons, List.not_mem_nil, or_false] at hv; rcases hv with rfl | rfl | rfl | rfl | rfl <;> rfl) hJ4.own (Below.refl _ _) (by omega) (by have := hfew.out; omega) ?_
      intro v1 w5 ho5 hb5 hg5 hat5
      have hb5' : Below (ob + 1) W4 w5 := hb5
      obtain ⟨Y', cY', rfl, hJ6⟩ := hJ3.out.step hord.out.1 hord.out.2.1 hord.out.2.2.1 hord.out.2.2.2.1 hord.out.2.2.2.2.1 hord.out.2.2.2.2.2.1 hord.out.2.2.2.2.2.2 hb4 rfl hFK ho5 hb5 hg5 hat5
      have hJ6 := Aside0.mk hJ6
      have hobj := (hb5.block ob (by omega)).trans hJ4.ao
      clear hJ4 hJ3 hFK ho5 hg5 hat5 hb5
      refine hK.out _ _ ?_
      clear hK K hHeld
      refine norm_ (a' := ?_) ?_ ?_
      rotate_left
      · show Act.put _ (some 43) _ = _
        simp only [Act.put, List.setIfInBounds_toArray, List.set_cons_zero, List.set_cons_succ, i64_w, i32_w]
        rfl
      refine pure_ (i := 15) (N := some 44) (v := ?_) (a' := ?_) #[true, true, true, true, true, true, true, true, true, true, true, true, true, true, true, true, false] rfl rfl (any_of HT_.out (by kernel_rfl)) (fun _ _ _ h => h) (Or.inl ⟨by rfl, ?_⟩) ?_ ?_
      rotate_left
      · intro w'
        go_simp
        with_reducible rfl
      rotate_left
      · simp only [Act.put, List.setIfInBounds_toArray, List.set_cons_zero, List.set_cons_succ, i64_w, i32_w]
        rfl
      refine last_ (i := 16) (N := none) #[true, true, true, true, true, true, true, true, true, true, true, true, true, true, true, true, true] rfl rfl (one_of HT_.out (by kernel_rfl)) (by decide) (fun K hK => ?_)
      have k4 : w5.cell? ⟨ob, 4, none⟩ = some (.slice Y kk cY) := (blk_cell hobj 4).trans rfl
      have kf : w5.frozen? ⟨ob, 4, none⟩ = false := blk_frozen hobj 4
      refine skip_ (w1 := w5.setCell ⟨ob, 4, none⟩ (.slice Y' (kk + 1) cY')) (by rfl) rfl (by go_simp) ?_
      refine hK.out _ _ ?_
      clear hK K k4 kf hobj
      refine done_ (done_of HT_.out (by kernel_rfl)) ?_
      have hbig := hfew.out
      go_wp2
      go_roundg (t.f4.length - (kk + 1))
      case measure => omega
      case rel => exact ⟨kk + 1, by omega, by omega, by go_num, Y', cY', _, by rw [hnext.out]; exact hJ6.out⟩
    · have hlt1 : decide ((kk : Int) < (t.f4.length : Int)) = false := decide_eq_false (by omega)
      have hlt2 : decide (kk < t.f4.length) = false := decide_eq_false hlt
      have hfin := Aside0.mk (show (joinL t.f4 u.f4).take kk = joinL t.f4 u.f4 from List.take_of_length_le (by rw [joinL_length _ _ hlen.out]; omega))
      have k0 : wr.cell? ⟨ob, 0, none⟩ = some (.int .i64 t.f0) := (blk_cell hJ.out.ao 0).trans rfl
      have k1 : wr.cell? ⟨ob, 1, none⟩ = some (.bool t.f1) := (blk_cell hJ.out.ao 1).trans rfl
      have k2 : wr.cell? ⟨ob, 2, none⟩ = some (.bool g) := (blk_cell hJ.out.ao 2).trans rfl
      have k3 : wr.cell? ⟨ob, 3, none⟩ = some (.slice X L cX) := (blk_cell hJ.out.ao 3).trans rfl
      have k4 : wr.cell? ⟨ob, 4, none⟩ = some (.slice Y kk cY) := (blk_cell hJ.out.ao 4).trans rfl
      have p4 : wr.cell? ⟨b0, 4, none⟩ = some (.slice A4 t.f4.length c4) := (blk_cell hJ.out.a0 4).trans rfl
      have n0 : wr.cell? ⟨rb, 0, none⟩ = some (.int .i64 0) := (blk_cell hJ.out.ar 0).trans rfl
      have n1 : wr.cell? ⟨rb, 1, none⟩ = some (.bool false) := (blk_cell hJ.out.ar 1).trans rfl
      have n2 : wr.cell? ⟨rb, 2, none⟩ = some (.bool false) := (blk_cell hJ.out.ar 2).trans rfl
      have n3 : wr.cell? ⟨rb, 3, none⟩ = some (.slice none 0 0) := (blk_cell hJ.out.ar 3).trans rfl
      have n4 : wr.cell? ⟨rb, 4, none⟩ = some (.slice none 0 0) := (blk_cell hJ.out.ar 4).trans rfl
      have nf : ∀ i, wr.frozen? ⟨rb, i, none⟩ = false := fun i => blk_frozen hJ.out.ar i
      have hset := Aside0.mk (set_five hJ.out.ar (.int .i64 t.f0) (.bool t.f1) (.bool g) (.slice X L cX) (.slice Y kk cY))
      have hbf := Aside0.mk (below_five hJ.out.below hord.out.2.2.2.2.2.2 (.int .i64 t.f0) (.bool t.f1) (.bool g) (.slice X L cX) (.slice Y kk cY))
      have hdone := Aside0.mk (hJ.out.done hord.out.2.2.2.1 hord.out.2.2.2.2.2.2 hcap.out (W' := (((((wr.setCell ⟨rb, 0, none⟩ (.int .i64 t.f0)).setCell ⟨rb, 1, none⟩ (.bool t.f1)).setCell ⟨rb, 2, none⟩ (.bool g)).setCell ⟨rb, 3, none⟩ (.slice X L cX)).setCell ⟨rb, 4, none⟩ (.slice Y kk cY))) (fun k hk => far_five hk _ _ _ _ _))
      clear hlt hkk hg hJ
      go_wp2
      generalize (((((wr.setCell ⟨rb, 0, none⟩ (.int .i64 t.f0)).setCell ⟨rb, 1, none⟩ (.bool t.f1)).setCell ⟨rb, 2, none⟩ (.bool g)).setCell ⟨rb, 3, none⟩ (.slice X L cX)).setCell ⟨rb, 4, none⟩ (.slice Y kk cY)) = W9 at hset hbf hdone ⊢
      have z0 : W9.cell? ⟨rb, 0, none⟩ = some (.int .i64 t.f0) := (blk_cell hset.out 0).trans rfl
      have z1 : W9.cell? ⟨rb, 1, none⟩ = some (.bool t.f1) := (blk_cell hset.out 1).trans rfl
      have z2 : W9.cell? ⟨rb, 2, none⟩ = some (.bool g) := (blk_cell hset.out 2).trans rfl
      have z3 : W9.cell? ⟨rb, 3, none⟩ = some (.slice X L cX) := (blk_cell hset.out 3).trans rfl
      have z4 : W9.cell? ⟨rb, 4, none⟩ = some (.slice Y kk cY) := (blk_cell hset.out 4).trans rfl
      (try simp only [Exit.inBlock, Exit.then])
      refine bodyPost_ret (v := .agg #[.int .i64 t.f0, .bool t.f1, .bool g, .slice X L cX, .slice Y kk cY]) (by simp [results, Tryz.results30, go_sem, z0, z1, z2, z3, z4]) rfl ?_
      refine ⟨t.f0, t.f1, g, X, L, cX, Y, kk, cY, rfl, hbf.out, ?_⟩
      · have hd := hdone.out
        rw [hfin.out] at hd
        rw [joinT_eq, ht2.out, hu2.out, hgg.out, hml.out]
        exact hd
/-- env.join, at every two right types that fit and lie in w0. -/
theorem envJoinW (w0 : World) (t : S31) : JoinWord 30 w0 t := tyInd (fun t ih => envJoinT w0 t ih) t
end Go.Proofs.YtadjekpfehjibaaGreatDoor.PEnv
namespace Go.Proofs.YtadjekpfehjibaaGreatDoor.PEnv
open Go.RowKit Go.Shelf Go.Proofs.YtadjekpfehjibaaGreatDoorW.PrintWords Go.Proofs.YtadjekpfehjibaaGreatDoorW.PrintLast Go.Proofs.YtadjekpfehjibaaGreatDoorW.PrintMore Go.Proofs.YtadjekpfehjibaaGreatDoor.PEnvJoins
set_option maxRecDepth 100000
def kidOK : List S31 → Bool
  | [] => true
  | k :: _ => !refsT k && !lostT k
def headR (t : S31) : Bool :=
  if t.f0 = 4 then risingB t.f3 && ((decide (t.f4.length = 1) && kidOK t.f4) && (t.f1 || !t.f2))
  else if t.f1 || decide (0 < t.f3.length) then false
  else if t.f0 = 1 then decide (t.f4.length = 0) && !t.f2
  else if t.f0 = 2 then decide (t.f4.length = 1) && kidOK t.f4
  else if t.f0 = 3 then (decide (2 ≤ t.f4.length) && decide (t.f4.length ≤ 30)) && !t.f2
  else false
mutual
def rrT : S31 → Bool
  | ⟨a, b, c, d, e⟩ => rrL e && headR ⟨a, b, c, d, e⟩
def rrL : List S31 → Bool
  | [] => true
  | t :: ts => rrT t && rrL ts
end
theorem rrL_all : ∀ ts : List S31, rrL ts = ts.all rrT
  | [] => rfl
  | t :: ts => by rw [rrL, rrL_all ts, List.all_cons]
theorem rrT_eq (t : S31) : rrT t = (t.f4.all rrT && headR t) := by
  cases t
  show (rrL _ && _) = _
  rw [rrL_all]
theorem refsC (t : S31) : TyWord 44 refsT t := by
  intro A3 c3 A4 c4 w l3 g3 l4 g4
  obtain ⟨k, hk⟩ := refs_f t (tyMax_of t _ _ g3 g4)
  exact lienbookref05_Refs.calls k _ _ _ _ _ _ _ _ _ _ w g3 l3 g4 l4 (hk k (Nat.le_refl _))
theorem lostC (t : S31) : TyWord 45 lostT t := by
  intro A3 c3 A4 c4 w l3 g3 l4 g4
  obtain ⟨k, hk⟩ := lost_f t (tyMax_of t _ _ g3 g4)
  exact lienbookref05_Lost.calls k _ _ _ _ _ _ _ _ _ _ w g3 l3 g4 l4 (hk k (Nat.le_refl _))
theorem beforeC (a b : S44) (A2 : Option Addr) (c2 : Nat) (B2 : Option Addr) (d2 : Nat) (W : World) (g2 : Kd.C (Kd.int .i64) W A2 a.f1.f1.length a.f1.f1) (l2 : a.f1.f1.length ≤ c2) (h2 : Kd.C (Kd.int .i64) W B2 b.f1.f1.length b.f1.f1) (m2 : b.f1.f1.length ≤ d2) :
    Calls Tryz.prog 43 #[.agg #[.string a.f0, .string a.f1.f0, .slice A2 a.f1.f1.length c2, .bool a.f2], .agg #[.string b.f0, .string b.f1.f0, .slice B2 b.f1.f1.length d2, .bool b.f2]] W fun e W' => e = .returned (.bool (befL a b)) ∧ Below W.heap.size W W' :=
  lienbookref05_before.calls (2 * a.f1.f1.length + 2) _ _ _ _ _ _ _ _ _ _ _ _ _ W g2 l2 h2 m2 (before_f _ _ _ _ _ _ _ _ (Kd.C_max g2) _ (by omega))
theorem addr_add0 (a : Addr) : a.add 0 = a := by simp [Addr.add]
/-- The box of a type, and what lay before. -/
structure RB (w : World) (t : S31) (A3 : Option Addr) (c3 : Nat) (A4 : Option Addr) (c4 : Nat) (W : World) : Prop where
  bel : Below w.heap.size w W
  sz : w.heap.size + 1 ≤ W.heap.size
  blk : W.heap[w.heap.size]? = some (.cells #[.int .i64 t.f0, .bool t.f1, .bool t.f2, .slice A3 t.f3.length c3, .slice A4 t.f4.length c4] 31 (0, 0))
theorem RB.start (w : World) (t : S31) (A3 : Option Addr) (c3 : Nat) (A4 : Option Addr) (c4 : Nat) : RB w t A3 c3 A4 c4 (w.alloc (.cells #[.int .i64 t.f0, .bool t.f1, .bool t.f2, .slice A3 t.f3.length c3, .slice A4 t.f4.length c4] 31)) :=
  ⟨(Below.refl _ w).alloc (Nat.le_refl _) _, by simp, World.alloc_heap_new w _⟩
theorem RB.next {w : World} {t : S31} {A3 : Option Addr} {c3 : Nat} {A4 : Option Addr} {c4 : Nat} {W W' : World} (h : RB w t A3 c3 A4 c4 W) (hb : Below W.heap.size W W') : RB w t A3 c3 A4 c4 W' :=
  ⟨h.bel.trans (hb.mono h.bel.size), Nat.le_trans h.sz hb.size, (hb.block _ h.sz).trans h.blk⟩
theorem RB.cells {w : World} {t : S31} {A3 : Option Addr} {c3 : Nat} {A4 : Option Addr} {c4 : Nat} {W : World} (h : RB w t A3 c3 A4 c4 W) : W.cell? ⟨w.heap.size, 0, none⟩ = some (.int .i64 t.f0) ∧ W.cell? ⟨w.heap.size, 1, none⟩ = some (.bool t.f1) ∧ W.cell? ⟨w.heap.size, 2, none⟩ = some (.bool t.f2) ∧ W.cell? ⟨w.heap.size, 3, none⟩ = some (.slice A3 t.f3.length c3) ∧ W.cell? ⟨w.heap.size, 4, none⟩ = some (.slice A4 t.f4.length c4) := by
  unfold World.cell?
  simp only
  rw [h.blk]
  exact ⟨rfl, rfl, rfl, rfl, rfl⟩
set_option maxHeartbeats 8000000 in
theorem rr_bad1 (t : S31) (ih : ∀ k ∈ t.f4, TyWord 23 rrT k) (k4 : ¬ t.f0 = 4) (k1 : t.f1 = true) : TyWord 23 rrT t := by
  intro A3 c3 A4 c4 w l3 g3 l4 g4
  have hmax := Kd.C_max g4
  have hB := Aside0.mk (RB.start w t A3 c3 A4 c4)
  have K_k4 := Aside0.mk k4
  clear k4
  have K_k1 := Aside0.mk k1
  clear k1
  have hIH := Aside0.mk ih
  have h3 := Aside0.mk g3
  have h4 := Aside0.mk g4
  have m3 := Aside0.mk l3
  have m4 := Aside0.mk l4
  clear ih g3 g4 l3 l4
  go_enter Tryz.func23, Tryz.ntmps23
  go_wp2
  go_loopg [3] t.f4.length (fun gg s3 wr => ∃ kk : Nat, kk ≤ t.f4.length ∧ t.f4.length - kk ≤ gg ∧ s3 = .int .i64 kk ∧ Aside (RB w t A3 c3 A4 c4 wr ∧ ∀ (j : Nat) k, j < kk → t.f4[j]? = some k → rrT k = true))
  case atStart => exact ⟨0, Nat.zero_le _, by omega, rfl, hB.out, fun j k hj => absurd hj (Nat.not_lt_zero _)⟩
  case round =>
    obtain ⟨kk, hkk, hg, rfl, hR⟩ := hrel
    have hR := Aside0.mk hR.out
    obtain ⟨q0, q1, q2, q3, q4⟩ := hR.out.1.cells
    by_cases hlt : kk < t.f4.length
    · have hltz : (kk : Int) < (t.f4.length : Int) := by omega
      obtain ⟨ad, B3, d3, B4, d4, rfl, x0, x1, x2, x3, x4, y3, z3, y4, z4⟩ := at_T31 (Kd.C_below h4.out hR.out.1.bel) (kk : Int) (by omega) hltz
      have hrd : t.f4[kk]? = some (rd_T31 t.f4 (kk : Int)) := by rw [rd37_at _ _ hlt]; exact List.getElem?_eq_getElem hlt
      simp only [Int.toNat_natCast] at x0 x1 x2 x3 x4
      generalize rd_T31 t.f4 (kk : Int) = x at *
      have hc := hIH.out x (List.mem_of_getElem? hrd) B3 d3 B4 d4 wr y3 z3 y4 z4
      have hrd := Aside0.mk hrd
      clear y3 z3 y4 z4
      cases hx : rrT x with
      | false =>
        rw [hx] at hc
        have hall : rrT t = false := by
          rw [rrT_eq]
          have : t.f4.all rrT = false := List.all_eq_false.mpr ⟨x, List.mem_of_getElem? hrd.out, by simp [hx]⟩
          rw [this]
          rfl
        have hx' := Aside0.mk hx
        have hall := Aside0.mk hall
        clear hx
        go_wp2_with (go_at_call 23; refine hc.mono ?_; clear hc; rintro e w' ⟨rfl, hb⟩)
        go_ret
        exact ⟨by rw [hall.out]; rfl, (hR.out.1.next hb).bel⟩
      | true =>
        rw [hx] at hc
        have hx' := Aside0.mk hx
        clear hx
        go_wp2_with (go_at_call 23; refine hc.mono ?_; clear hc; rintro e w' ⟨rfl, hb⟩)
        go_roundg (t.f4.length - (kk + 1))
        case measure => omega
        case rel =>
          refine ⟨kk + 1, by omega, by omega, by go_num, hR.out.1.next hb, fun j k hj hk => ?_⟩
          by_cases e : j = kk
          · subst e
            have := hrd.out
            rw [hk] at this
            cases this
            exact hx'.out
          · exact hR.out.2 j k (by omega) hk
    · have hlt1 : decide ((kk : Int) < (t.f4.length : Int)) = false := decide_eq_false (by omega)
      have hlt2 : decide (kk < t.f4.length) = false := decide_eq_false hlt
      have hkids : t.f4.all rrT = true := List.all_eq_true.mpr fun k hk => by
        obtain ⟨i, hi⟩ := List.mem_iff_getElem?.mp hk
        exact hR.out.2 i k (by have := idx_lt hi; omega) hi
      have hT : rrT t = headR t := by rw [rrT_eq, hkids, Bool.true_and]
      have hT := Aside0.mk hT
      clear hkids hlt
      have k4 := K_k4.out
      have k1 := K_k1.out
      have a1 : (t.f0 == 4) = false := by simpa using k4
      rw [k1] at q1
      have hv : headR t = false := by unfold headR; rw [if_neg k4, k1]; rfl
      have hv := Aside0.mk hv
      clear k4 k1
      go_wp2
      go_ret
      exact ⟨by first | rfl | (rw [hT.out, hv.out]; rfl), hR.out.1.bel⟩
set_option maxHeartbeats 8000000 in
theorem rr_bad2 (t : S31) (ih : ∀ k ∈ t.f4, TyWord 23 rrT k) (k4 : ¬ t.f0 = 4) (k1 : t.f1 = false) (k3 : 0 < t.f3.length) : TyWord 23 rrT t := by
  intro A3 c3 A4 c4 w l3 g3 l4 g4
  have hmax := Kd.C_max g4
  have hB := Aside0.mk (RB.start w t A3 c3 A4 c4)
  have K_k4 := Aside0.mk k4
  clear k4
  have K_k1 := Aside0.mk k1
  clear k1
  have K_k3 := Aside0.mk k3
  clear k3
  have hIH := Aside0.mk ih
  have h3 := Aside0.mk g3
  have h4 := Aside0.mk g4
  have m3 := Aside0.mk l3
  have m4 := Aside0.mk l4
  clear ih g3 g4 l3 l4
  go_enter Tryz.func23, Tryz.ntmps23
  go_wp2
  go_loopg [3] t.f4.length (fun gg s3 wr => ∃ kk : Nat, kk ≤ t.f4.length ∧ t.f4.length - kk ≤ gg ∧ s3 = .int .i64 kk ∧ Aside (RB w t A3 c3 A4 c4 wr ∧ ∀ (j : Nat) k, j < kk → t.f4[j]? = some k → rrT k = true))
  case atStart => exact ⟨0, Nat.zero_le _, by omega, rfl, hB.out, fun j k hj => absurd hj (Nat.not_lt_zero _)⟩
  case round =>
    obtain ⟨kk, hkk, hg, rfl, hR⟩ := hrel
    have hR := Aside0.mk hR.out
    obtain ⟨q0, q1, q2, q3, q4⟩ := hR.out.1.cells
    by_cases hlt : kk < t.f4.length
    · have hltz : (kk : Int) < (t.f4.length : Int) := by omega
      obtain ⟨ad, B3, d3, B4, d4, rfl, x0, x1, x2, x3, x4, y3, z3, y4, z4⟩ := at_T31 (Kd.C_below h4.out hR.out.1.bel) (kk : Int) (by omega) hltz
      have hrd : t.f4[kk]? = some (rd_T31 t.f4 (kk : Int)) := by rw [rd37_at _ _ hlt]; exact List.getElem?_eq_getElem hlt
      simp only [Int.toNat_natCast] at x0 x1 x2 x3 x4
      generalize rd_T31 t.f4 (kk : Int) = x at *
      have hc := hIH.out x (List.mem_of_getElem? hrd) B3 d3 B4 d4 wr y3 z3 y4 z4
      have hrd := Aside0.mk hrd
      clear y3 z3 y4 z4
      cases hx : rrT x with
      | false =>
        rw [hx] at hc
        have hall : rrT t = false := by
          rw [rrT_eq]
          have : t.f4.all rrT = false := List.all_eq_false.mpr ⟨x, List.mem_of_getElem? hrd.out, by simp [hx]⟩
          rw [this]
          rfl
        have hx' := Aside0.mk hx
        have hall := Aside0.mk hall
        clear hx
        go_wp2_with (go_at_call 23; refine hc.mono ?_; clear hc; rintro e w' ⟨rfl, hb⟩)
        go_ret
        exact ⟨by rw [hall.out]; rfl, (hR.out.1.next hb).bel⟩
      | true =>
        rw [hx] at hc
        have hx' := Aside0.mk hx
        clear hx
        go_wp2_with (go_at_call 23; refine hc.mono ?_; clear hc; rintro e w' ⟨rfl, hb⟩)
        go_roundg (t.f4.length - (kk + 1))
        case measure => omega
        case rel =>
          refine ⟨kk + 1, by omega, by omega, by go_num, hR.out.1.next hb, fun j k hj hk => ?_⟩
          by_cases e : j = kk
          · subst e
            have := hrd.out
            rw [hk] at this
            cases this
            exact hx'.out
          · exact hR.out.2 j k (by omega) hk
    · have hlt1 : decide ((kk : Int) < (t.f4.length : Int)) = false := decide_eq_false (by omega)
      have hlt2 : decide (kk < t.f4.length) = false := decide_eq_false hlt
      have hkids : t.f4.all rrT = true := List.all_eq_true.mpr fun k hk => by
        obtain ⟨i, hi⟩ := List.mem_iff_getElem?.mp hk
        exact hR.out.2 i k (by have := idx_lt hi; omega) hi
      have hT : rrT t = headR t := by rw [rrT_eq, hkids, Bool.true_and]
      have hT := Aside0.mk hT
      clear hkids hlt
      have k4 := K_k4.out
      have k1 := K_k1.out
      have k3 := K_k3.out
      have a1 : (t.f0 == 4) = false := by simpa using k4
      rw [k1] at q1
      have a3 : decide ((t.f3.length : Int) > 0) = true := decide_eq_true (by omega)
      have a4 : decide ((0 : Int) < (t.f3.length : Int)) = true := decide_eq_true (by omega)
      have a5 : decide (0 < t.f3.length) = true := decide_eq_true k3
      have hv : headR t = false := by unfold headR; rw [if_neg k4, k1, decide_eq_true k3]; rfl
      have hv := Aside0.mk hv
      clear k4 k1 k3
      go_wp2
      go_ret
      exact ⟨by first | rfl | (rw [hT.out, hv.out]; rfl), hR.out.1.bel⟩
set_option maxHeartbeats 8000000 in
theorem rr_1 (t : S31) (ih : ∀ k ∈ t.f4, TyWord 23 rrT k) (k4 : ¬ t.f0 = 4) (k1 : t.f1 = false) (k3 : t.f3.length = 0) (k0 : t.f0 = 1) : TyWord 23 rrT t := by
  intro A3 c3 A4 c4 w l3 g3 l4 g4
  have hmax := Kd.C_max g4
  have hB := Aside0.mk (RB.start w t A3 c3 A4 c4)
  have K_k4 := Aside0.mk k4
  clear k4
  have K_k1 := Aside0.mk k1
  clear k1
  have K_k3 := Aside0.mk k3
  clear k3
  have K_k0 := Aside0.mk k0
  clear k0
  have hIH := Aside0.mk ih
  have h3 := Aside0.mk g3
  have h4 := Aside0.mk g4
  have m3 := Aside0.mk l3
  have m4 := Aside0.mk l4
  clear ih g3 g4 l3 l4
  go_enter Tryz.func23, Tryz.ntmps23
  go_wp2
  go_loopg [3] t.f4.length (fun gg s3 wr => ∃ kk : Nat, kk ≤ t.f4.length ∧ t.f4.length - kk ≤ gg ∧ s3 = .int .i64 kk ∧ Aside (RB w t A3 c3 A4 c4 wr ∧ ∀ (j : Nat) k, j < kk → t.f4[j]? = some k → rrT k = true))
  case atStart => exact ⟨0, Nat.zero_le _, by omega, rfl, hB.out, fun j k hj => absurd hj (Nat.not_lt_zero _)⟩
  case round =>
    obtain ⟨kk, hkk, hg, rfl, hR⟩ := hrel
    have hR := Aside0.mk hR.out
    obtain ⟨q0, q1, q2, q3, q4⟩ := hR.out.1.cells
    by_cases hlt : kk < t.f4.length
    · have hltz : (kk : Int) < (t.f4.length : Int) := by omega
      obtain ⟨ad, B3, d3, B4, d4, rfl, x0, x1, x2, x3, x4, y3, z3, y4, z4⟩ := at_T31 (Kd.C_below h4.out hR.out.1.bel) (kk : Int) (by omega) hltz
      have hrd : t.f4[kk]? = some (rd_T31 t.f4 (kk : Int)) := by rw [rd37_at _ _ hlt]; exact List.getElem?_eq_getElem hlt
      simp only [Int.toNat_natCast] at x0 x1 x2 x3 x4
      generalize rd_T31 t.f4 (kk : Int) = x at *
      have hc := hIH.out x (List.mem_of_getElem? hrd) B3 d3 B4 d4 wr y3 z3 y4 z4
      have hrd := Aside0.mk hrd
      clear y3 z3 y4 z4
      cases hx : rrT x with
      | false =>
        rw [hx] at hc
        have hall : rrT t = false := by
          rw [rrT_eq]
          have : t.f4.all rrT = false := List.all_eq_false.mpr ⟨x, List.mem_of_getElem? hrd.out, by simp [hx]⟩
          rw [this]
          rfl
        have hx' := Aside0.mk hx
        have hall := Aside0.mk hall
        clear hx
        go_wp2_with (go_at_call 23; refine hc.mono ?_; clear hc; rintro e w' ⟨rfl, hb⟩)
        go_ret
        exact ⟨by rw [hall.out]; rfl, (hR.out.1.next hb).bel⟩
      | true =>
        rw [hx] at hc
        have hx' := Aside0.mk hx
        clear hx
        go_wp2_with (go_at_call 23; refine hc.mono ?_; clear hc; rintro e w' ⟨rfl, hb⟩)
        go_roundg (t.f4.length - (kk + 1))
        case measure => omega
        case rel =>
          refine ⟨kk + 1, by omega, by omega, by go_num, hR.out.1.next hb, fun j k hj hk => ?_⟩
          by_cases e : j = kk
          · subst e
            have := hrd.out
            rw [hk] at this
            cases this
            exact hx'.out
          · exact hR.out.2 j k (by omega) hk
    · have hlt1 : decide ((kk : Int) < (t.f4.length : Int)) = false := decide_eq_false (by omega)
      have hlt2 : decide (kk < t.f4.length) = false := decide_eq_false hlt
      have hkids : t.f4.all rrT = true := List.all_eq_true.mpr fun k hk => by
        obtain ⟨i, hi⟩ := List.mem_iff_getElem?.mp hk
        exact hR.out.2 i k (by have := idx_lt hi; omega) hi
      have hT : rrT t = headR t := by rw [rrT_eq, hkids, Bool.true_and]
      have hT := Aside0.mk hT
      clear hkids hlt
      have k4 := K_k4.out
      have k1 := K_k1.out
      have k3 := K_k3.out
      have k0 := K_k0.out
      have a1 : (t.f0 == 4) = false := by simpa using k4
      rw [k1] at q1
      rw [k3] at q3
      have hv : headR t = (decide (t.f4.length = 0) && !t.f2) := by unfold headR; rw [if_neg k4, k1, k3]; simp [k0]
      have hv := Aside0.mk hv
      rw [k0] at q0
      obtain ⟨g, hg⟩ : ∃ g, decide (t.f4.length = 0) = g := ⟨_, rfl⟩
      have g1 : ((t.f4.length : Int) == 0) = g := by rw [← hg]; by_cases h : t.f4.length = 0 <;> simp [h]
      have g2 : (t.f4.length == 0) = g := by rw [← hg]; by_cases h : t.f4.length = 0 <;> simp [h]
      rw [hg] at hv
      clear k4 k1 k3 k0 hg a1
      cases g with
      | true =>
        go_wp2
        go_ret
        exact ⟨by first | rfl | (rw [hT.out, hv.out]; rfl), hR.out.1.bel⟩
      | false =>
        go_wp2
        go_ret
        exact ⟨by first | rfl | (rw [hT.out, hv.out]; rfl), hR.out.1.bel⟩
set_option maxHeartbeats 8000000 in
theorem rr_3 (t : S31) (ih : ∀ k ∈ t.f4, TyWord 23 rrT k) (k4 : ¬ t.f0 = 4) (k1 : t.f1 = false) (k3 : t.f3.length = 0) (k0 : t.f0 = 3) : TyWord 23 rrT t := by
  intro A3 c3 A4 c4 w l3 g3 l4 g4
  have hmax := Kd.C_max g4
  have hB := Aside0.mk (RB.start w t A3 c3 A4 c4)
  have K_k4 := Aside0.mk k4
  clear k4
  have K_k1 := Aside0.mk k1
  clear k1
  have K_k3 := Aside0.mk k3
  clear k3
  have K_k0 := Aside0.mk k0
  clear k0
  have hIH := Aside0.mk ih
  have h3 := Aside0.mk g3
  have h4 := Aside0.mk g4
  have m3 := Aside0.mk l3
  have m4 := Aside0.mk l4
  clear ih g3 g4 l3 l4
  go_enter Tryz.func23, Tryz.ntmps23
  go_wp2
  go_loopg [3] t.f4.length (fun gg s3 wr => ∃ kk : Nat, kk ≤ t.f4.length ∧ t.f4.length - kk ≤ gg ∧ s3 = .int .i64 kk ∧ Aside (RB w t A3 c3 A4 c4 wr ∧ ∀ (j : Nat) k, j < kk → t.f4[j]? = some k → rrT k = true))
  case atStart => exact ⟨0, Nat.zero_le _, by omega, rfl, hB.out, fun j k hj => absurd hj (Nat.not_lt_zero _)⟩
  case round =>
    obtain ⟨kk, hkk, hg, rfl, hR⟩ := hrel
    have hR := Aside0.mk hR.out
    obtain ⟨q0, q1, q2, q3, q4⟩ := hR.out.1.cells
    by_cases hlt : kk < t.f4.length
    · have hltz : (kk : Int) < (t.f4.length : Int) := by omega
      obtain ⟨ad, B3, d3, B4, d4, rfl, x0, x1, x2, x3, x4, y3, z3, y4, z4⟩ := at_T31 (Kd.C_below h4.out hR.out.1.bel) (kk : Int) (by omega) hltz
      have hrd : t.f4[kk]? = some (rd_T31 t.f4 (kk : Int)) := by rw [rd37_at _ _ hlt]; exact List.getElem?_eq_getElem hlt
      simp only [Int.toNat_natCast] at x0 x1 x2 x3 x4
      generalize rd_T31 t.f4 (kk : Int) = x at *
      have hc := hIH.out x (List.mem_of_getElem? hrd) B3 d3 B4 d4 wr y3 z3 y4 z4
      have hrd := Aside0.mk hrd
      clear y3 z3 y4 z4
      cases hx : rrT x with
      | false =>
        rw [hx] at hc
        have hall : rrT t = false := by
          rw [rrT_eq]
          have : t.f4.all rrT = false := List.all_eq_false.mpr ⟨x, List.mem_of_getElem? hrd.out, by simp [hx]⟩
          rw [this]
          rfl
        have hx' := Aside0.mk hx
        have hall := Aside0.mk hall
        clear hx
        go_wp2_with (go_at_call 23; refine hc.mono ?_; clear hc; rintro e w' ⟨rfl, hb⟩)
        go_ret
        exact ⟨by rw [hall.out]; rfl, (hR.out.1.next hb).bel⟩
      | true =>
        rw [hx] at hc
        have hx' := Aside0.mk hx
        clear hx
        go_wp2_with (go_at_call 23; refine hc.mono ?_; clear hc; rintro e w' ⟨rfl, hb⟩)
        go_roundg (t.f4.length - (kk + 1))
        case measure => omega
        case rel =>
          refine ⟨kk + 1, by omega, by omega, by go_num, hR.out.1.next hb, fun j k hj hk => ?_⟩
          by_cases e : j = kk
          · subst e
            have := hrd.out
            rw [hk] at this
            cases this
            exact hx'.out
          · exact hR.out.2 j k (by omega) hk
    · have hlt1 : decide ((kk : Int) < (t.f4.length : Int)) = false := decide_eq_false (by omega)
      have hlt2 : decide (kk < t.f4.length) = false := decide_eq_false hlt
      have hkids : t.f4.all rrT = true := List.all_eq_true.mpr fun k hk => by
        obtain ⟨i, hi⟩ := List.mem_iff_getElem?.mp hk
        exact hR.out.2 i k (by have := idx_lt hi; omega) hi
      have hT : rrT t = headR t := by rw [rrT_eq, hkids, Bool.true_and]
      have hT := Aside0.mk hT
      clear hkids hlt
      have k4 := K_k4.out
      have k1 := K_k1.out
      have k3 := K_k3.out
      have k0 := K_k0.out
      have a1 : (t.f0 == 4) = false := by simpa using k4
      rw [k1] at q1
      rw [k3] at q3
      have hv : headR t = ((decide (2 ≤ t.f4.length) && decide (t.f4.length ≤ 30)) && !t.f2) := by unfold headR; rw [if_neg k4, k1, k3]; simp [k0]
      have hv := Aside0.mk hv
      rw [k0] at q0
      obtain ⟨g, hg⟩ : ∃ g, decide (2 ≤ t.f4.length) = g := ⟨_, rfl⟩
      obtain ⟨u, hu⟩ : ∃ u, decide (t.f4.length ≤ 30) = u := ⟨_, rfl⟩
      have g1 : decide ((t.f4.length : Int) ≥ 2) = g := by rw [← hg]; exact decide_eq_decide.mpr (by omega)
      have g2 : decide ((2 : Int) ≤ (t.f4.length : Int)) = g := by rw [← hg]; exact decide_eq_decide.mpr (by omega)
      have u1 : decide ((t.f4.length : Int) ≤ 30) = u := by rw [← hu]; exact decide_eq_decide.mpr (by omega)
      rw [hg, hu] at hv
      clear k4 k1 k3 k0 a1
      cases g with
      | true =>
        cases u with
        | true =>
          go_wp2
          go_ret
          exact ⟨by first | rfl | (rw [hT.out, hv.out]; rfl), hR.out.1.bel⟩
        | false =>
          go_wp2
          go_ret
          exact ⟨by first | rfl | (rw [hT.out, hv.out]; rfl), hR.out.1.bel⟩
      | false =>
        go_wp2
        go_ret
        exact ⟨by first | rfl | (rw [hT.out, hv.out]; rfl), hR.out.1.bel⟩
set_option maxHeartbeats 8000000 in
theorem rr_o (t : S31) (ih : ∀ k ∈ t.f4, TyWord 23 rrT k) (k4 : ¬ t.f0 = 4) (k1 : t.f1 = false) (k3 : t.f3.length = 0) (k0 : ¬ t.f0 = 1) (k2 : ¬ t.f0 = 2) (k5 : ¬ t.f0 = 3) : TyWord 23 rrT t := by
  intro A3 c3 A4 c4 w l3 g3 l4 g4
  have hmax := Kd.C_max g4
  have hB := Aside0.mk (RB.start w t A3 c3 A4 c4)
  have K_k4 := Aside0.mk k4
  clear k4
  have K_k1 := Aside0.mk k1
  clear k1
  have K_k3 := Aside0.mk k3
  clear k3
  have K_k0 := Aside0.mk k0
  clear k0
  have K_k2 := Aside0.mk k2
  clear k2
  have K_k5 := Aside0.mk k5
  clear k5
  have hIH := Aside0.mk ih
  have h3 := Aside0.mk g3
  have h4 := Aside0.mk g4
  have m3 := Aside0.mk l3
  have m4 := Aside0.mk l4
  clear ih g3 g4 l3 l4
  go_enter Tryz.func23, Tryz.ntmps23
  go_wp2
  go_loopg [3] t.f4.length (fun gg s3 wr => ∃ kk : Nat, kk ≤ t.f4.length ∧ t.f4.length - kk ≤ gg ∧ s3 = .int .i64 kk ∧ Aside (RB w t A3 c3 A4 c4 wr ∧ ∀ (j : Nat) k, j < kk → t.f4[j]? = some k → rrT k = true))
  case atStart => exact ⟨0, Nat.zero_le _, by omega, rfl, hB.out, fun j k hj => absurd hj (Nat.not_lt_zero _)⟩
  case round =>
    obtain ⟨kk, hkk, hg, rfl, hR⟩ := hrel
    have hR := Aside0.mk hR.out
    obtain ⟨q0, q1, q2, q3, q4⟩ := hR.out.1.cells
    by_cases hlt : kk < t.f4.length
    · have hltz : (kk : Int) < (t.f4.length : Int) := by omega
      obtain ⟨ad, B3, d3, B4, d4, rfl, x0, x1, x2, x3, x4, y3, z3, y4, z4⟩ := at_T31 (Kd.C_below h4.out hR.out.1.bel) (kk : Int) (by omega) hltz
      have hrd : t.f4[kk]? = some (rd_T31 t.f4 (kk : Int)) := by rw [rd37_at _ _ hlt]; exact List.getElem?_eq_getElem hlt
      simp only [Int.toNat_natCast] at x0 x1 x2 x3 x4
      generalize rd_T31 t.f4 (kk : Int) = x at *
      have hc := hIH.out x (List.mem_of_getElem? hrd) B3 d3 B4 d4 wr y3 z3 y4 z4
      have hrd := Aside0.mk hrd
      clear y3 z3 y4 z4
      cases hx : rrT x with
      | false =>
        rw [hx] at hc
        have hall : rrT t = false := by
          rw [rrT_eq]
          have : t.f4.all rrT = false := List.all_eq_false.mpr ⟨x, List.mem_of_getElem? hrd.out, by simp [hx]⟩
          rw [this]
          rfl
        have hx' := Aside0.mk hx
        have hall := Aside0.mk hall
        clear hx
        go_wp2_with (go_at_call 23; refine hc.mono ?_; clear hc; rintro e w' ⟨rfl, hb⟩)
        go_ret
        exact ⟨by rw [hall.out]; rfl, (hR.out.1.next hb).bel⟩
      | true =>
        rw [hx] at hc
        have hx' := Aside0.mk hx
        clear hx
        go_wp2_with (go_at_call 23; refine hc.mono ?_; clear hc; rintro e w' ⟨rfl, hb⟩)
        go_roundg (t.f4.length - (kk + 1))
        case measure => omega
        case rel =>
          refine ⟨kk + 1, by omega, by omega, by go_num, hR.out.1.next hb, fun j k hj hk => ?_⟩
          by_cases e : j = kk
          · subst e
            have := hrd.out
            rw [hk] at this
            cases this
            exact hx'.out
          · exact hR.out.2 j k (by omega) hk
    · have hlt1 : decide ((kk : Int) < (t.f4.length : Int)) = false := decide_eq_false (by omega)
      have hlt2 : decide (kk < t.f4.length) = false := decide_eq_false hlt
      have hkids : t.f4.all rrT = true := List.all_eq_true.mpr fun k hk => by
        obtain ⟨i, hi⟩ := List.mem_iff_getElem?.mp hk
        exact hR.out.2 i k (by have := idx_lt hi; omega) hi
      have hT : rrT t = headR t := by rw [rrT_eq, hkids, Bool.true_and]
      have hT := Aside0.mk hT
      clear hkids hlt
      have k4 := K_k4.out
      have k1 := K_k1.out
      have k3 := K_k3.out
      have k0 := K_k0.out
      have k2 := K_k2.out
      have k5 := K_k5.out
      have a1 : (t.f0 == 4) = false := by simpa using k4
      rw [k1] at q1
      rw [k3] at q3
      have hv : headR t = false := by unfold headR; rw [if_neg k4, k1, k3]; simp [k0, k2, k5]
      have hv := Aside0.mk hv
      have b1 : (t.f0 == 1) = false := by simpa using k0
      have b2 : (t.f0 == 2) = false := by simpa using k2
      have b3 : (t.f0 == 3) = false := by simpa using k5
      clear k4 k1 k3 k0 k2 k5
      go_wp2
      go_ret
      exact ⟨by first | rfl | (rw [hT.out, hv.out]; rfl), hR.out.1.bel⟩
set_option maxHeartbeats 8000000 in
theorem rr_2 (t : S31) (ih : ∀ k ∈ t.f4, TyWord 23 rrT k) (k4 : ¬ t.f0 = 4) (k1 : t.f1 = false) (k3 : t.f3.length = 0) (k0 : t.f0 = 2) : TyWord 23 rrT t := by
  intro A3 c3 A4 c4 w l3 g3 l4 g4
  have hmax := Kd.C_max g4
  have hB := Aside0.mk (RB.start w t A3 c3 A4 c4)
  have K_k4 := Aside0.mk k4
  clear k4
  have K_k1 := Aside0.mk k1
  clear k1
  have K_k3 := Aside0.mk k3
  clear k3
  have K_k0 := Aside0.mk k0
  clear k0
  have hIH := Aside0.mk ih
  have h3 := Aside0.mk g3
  have h4 := Aside0.mk g4
  have m3 := Aside0.mk l3
  have m4 := Aside0.mk l4
  clear ih g3 g4 l3 l4
  go_enter Tryz.func23, Tryz.ntmps23
  go_wp2
  go_loopg [3] t.f4.length (fun gg s3 wr => ∃ kk : Nat, kk ≤ t.f4.length ∧ t.f4.length - kk ≤ gg ∧ s3 = .int .i64 kk ∧ Aside (RB w t A3 c3 A4 c4 wr ∧ ∀ (j : Nat) k, j < kk → t.f4[j]? = some k → rrT k = true))
  case atStart => exact ⟨0, Nat.zero_le _, by omega, rfl, hB.out, fun j k hj => absurd hj (Nat.not_lt_zero _)⟩
  case round =>
    obtain ⟨kk, hkk, hg, rfl, hR⟩ := hrel
    have hR := Aside0.mk hR.out
    obtain ⟨q0, q1, q2, q3, q4⟩ := hR.out.1.cells
    by_cases hlt : kk < t.f4.length
    · have hltz : (kk : Int) < (t.f4.length : Int) := by omega
      obtain ⟨ad, B3, d3, B4, d4, rfl, x0, x1, x2, x3, x4, y3, z3, y4, z4⟩ := at_T31 (Kd.C_below h4.out hR.out.1.bel) (kk : Int) (by omega) hltz
      have hrd : t.f4[kk]? = some (rd_T31 t.f4 (kk : Int)) := by rw [rd37_at _ _ hlt]; exact List.getElem?_eq_getElem hlt
      simp only [Int.toNat_natCast] at x0 x1 x2 x3 x4
      generalize rd_T31 t.f4 (kk : Int) = x at *
      have hc := hIH.out x (List.mem_of_getElem? hrd) B3 d3 B4 d4 wr y3 z3 y4 z4
      have hrd := Aside0.mk hrd
      clear y3 z3 y4 z4
      cases hx : rrT x with
      | false =>
        rw [hx] at hc
        have hall : rrT t = false := by
          rw [rrT_eq]
          have : t.f4.all rrT = false := List.all_eq_false.mpr ⟨x, List.mem_of_getElem? hrd.out, by simp [hx]⟩
          rw [this]
          rfl
        have hx' := Aside0.mk hx
        have hall := Aside0.mk hall
        clear hx
        go_wp2_with (go_at_call 23; refine hc.mono ?_; clear hc; rintro e w' ⟨rfl, hb⟩)
        go_ret
        exact ⟨by rw [hall.out]; rfl, (hR.out.1.next hb).bel⟩
      | true =>
        rw [hx] at hc
        have hx' := Aside0.mk hx
        clear hx
        go_wp2_with (go_at_call 23; refine hc.mono ?_; clear hc; rintro e w' ⟨rfl, hb⟩)
        go_roundg (t.f4.length - (kk + 1))
        case measure => omega
        case rel =>
          refine ⟨kk + 1, by omega, by omega, by go_num, hR.out.1.next hb, fun j k hj hk => ?_⟩
          by_cases e : j = kk
          · subst e
            have := hrd.out
            rw [hk] at this
            cases this
            exact hx'.out
          · exact hR.out.2 j k (by omega) hk
    · have hlt1 : decide ((kk : Int) < (t.f4.length : Int)) = false := decide_eq_false (by omega)
      have hlt2 : decide (kk < t.f4.length) = false := decide_eq_false hlt
      have hkids : t.f4.all rrT = true := List.all_eq_true.mpr fun k hk => by
        obtain ⟨i, hi⟩ := List.mem_iff_getElem?.mp hk
        exact hR.out.2 i k (by have := idx_lt hi; omega) hi
      have hT : rrT t = headR t := by rw [rrT_eq, hkids, Bool.true_and]
      have hT := Aside0.mk hT
      clear hkids hlt
      have k4 := K_k4.out
      have k1 := K_k1.out
      have k3 := K_k3.out
      have k0 := K_k0.out
      have a1 : (t.f0 == 4) = false := by simpa using k4
      rw [k1] at q1
      rw [k3] at q3
      have hv : headR t = (decide (t.f4.length = 1) && kidOK t.f4) := by unfold headR; rw [if_neg k4, k1, k3]; simp [k0]
      have hv := Aside0.mk hv
      rw [k0] at q0
      clear k4 k1 k3 k0 a1
      obtain ⟨g, hg⟩ : ∃ g, decide (t.f4.length = 1) = g := ⟨_, rfl⟩
      have g1 : ((t.f4.length : Int) == 1) = g := by rw [← hg]; by_cases h : t.f4.length = 1 <;> simp [h] <;> omega
      have g2 : (t.f4.length == 1) = g := by rw [← hg]; by_cases h : t.f4.length = 1 <;> simp [h]
      rw [hg] at hv
      cases g with
      | false =>
        clear hg
        go_wp2
        go_ret
        exact ⟨by first | rfl | (rw [hT.out, hv.out]; rfl), hR.out.1.bel⟩
      | true =>
        have n1 := Aside0.mk (of_decide_eq_true hg)
        clear hg
        obtain ⟨ad, B3, d3, B4, d4, eA, x0, x1, x2, x3, x4, y3, z3, y4, z4⟩ := at_T31 (Kd.C_below h4.out hR.out.1.bel) (0 : Int) (by omega) (by have := n1.out; omega)
        subst eA
        have hrd : t.f4 = [rd_T31 t.f4 (0 : Int)] := by
          have h0 : 0 < t.f4.length := by have := n1.out; omega
          have := rd37_at t.f4 0 h0
          rw [show ((0 : Nat) : Int) = 0 from rfl] at this
          rw [this]
          refine List.ext_getElem (by rw [n1.out]; rfl) (fun i h1 h2 => ?_)
          have : i = 0 := by have := n1.out; omega
          subst this
          rfl
        have e0 : ((0 : Int)).toNat * 5 = 0 := rfl
        rw [e0, addr_add0] at x0 x1 x2 x3 x4
        have hk : kidOK t.f4 = (!refsT (rd_T31 t.f4 (0 : Int)) && !lostT (rd_T31 t.f4 (0 : Int))) := by
          conv => lhs; rw [hrd]
          rfl
        rw [hk] at hv
        generalize rd_T31 t.f4 (0 : Int) = x at *
        have hz3 := Aside0.mk z3
        have hz4 := Aside0.mk z4
        have hrc := refsC x B3 d3 B4 d4 wr y3 z3 y4 z4
        have hlc := fun W (hW : Below wr.heap.size wr W) => lostC x B3 d3 B4 d4 W y3 (Kd.C_below hz3.out hW) y4 (Kd.C_below hz4.out hW)
        have n1b : decide ((0 : Int) < (t.f4.length : Int)) = true := decide_eq_true (by have := n1.out; omega)
        have n1c : (0 : Int) < (t.f4.length : Int) := by have := n1.out; omega
        have n1d : 0 < t.f4.length := by have := n1.out; omega
        generalize refsT x = rx at *
        generalize lostT x = lx at *
        have ry := Aside0.mk (And.intro y3 y4)
        clear hrd hk z3 z4 y3 y4
        cases rx with
        | true =>
          go_wp2_with (go_at_call 44; refine hrc.mono ?_; clear hrc; rintro e W2 ⟨rfl, hb2⟩)
          go_ret
          exact ⟨by first | rfl | (rw [hT.out, hv.out]; rfl), (hR.out.1.next hb2).bel⟩
        | false =>
          have hafter := fun W2 (hb2 : Below wr.heap.size wr W2) => (hR.out.1.next hb2).cells
          go_wp2_with (first
            | (go_at_call 44; refine hrc.mono ?_; clear hrc; rintro e W2 ⟨rfl, hb2⟩; have hl2 := hlc W2 hb2; clear hlc; obtain ⟨p0, p1, p2, p3, p4⟩ := hafter W2 hb2; clear hafter; have v0 := below_cell hb2 x0; have v1 := below_cell hb2 x1; have v2 := below_cell hb2 x2; have v3 := below_cell hb2 x3; have v4 := below_cell hb2 x4)
            | (go_at_call 45; refine hl2.mono ?_; clear hl2; rintro e W3 ⟨rfl, hb3⟩))
          go_ret
          exact ⟨by first | rfl | (rw [hT.out, hv.out]; rfl), ((hR.out.1.next hb2).next hb3).bel⟩
end Go.Proofs.YtadjekpfehjibaaGreatDoor.PEnv
namespace Go.Proofs.YtadjekpfehjibaaGreatDoor.PEnv
open Go.RowKit Go.Shelf Go.Proofs.YtadjekpfehjibaaGreatDoorW.PrintWords Go.Proofs.YtadjekpfehjibaaGreatDoorW.PrintLast Go.Proofs.YtadjekpfehjibaaGreatDoorW.PrintMore Go.Proofs.YtadjekpfehjibaaGreatDoor.PEnvJoins
set_option maxRecDepth 100000
set_option maxHeartbeats 8000000 in
theorem rr_4 (t : S31) (ih : ∀ k ∈ t.f4, TyWord 23 rrT k) (k0 : t.f0 = 4) : TyWord 23 rrT t := by
  intro A3 c3 A4 c4 w l3 g3 l4 g4
  have hmax := Kd.C_max g4
  have hB := Aside0.mk (RB.start w t A3 c3 A4 c4)
  have K_k0 := Aside0.mk k0
  clear k0
  have hIH := Aside0.mk ih
  have h3 := Aside0.mk g3
  have h4 := Aside0.mk g4
  have m3 := Aside0.mk l3
  have m4 := Aside0.mk l4
  clear ih g3 g4 l3 l4
  go_enter Tryz.func23, Tryz.ntmps23
  go_wp2
  go_loopg [3] t.f4.length (fun gg s3 wr => ∃ kk : Nat, kk ≤ t.f4.length ∧ t.f4.length - kk ≤ gg ∧ s3 = .int .i64 kk ∧ Aside (RB w t A3 c3 A4 c4 wr ∧ ∀ (j : Nat) k, j < kk → t.f4[j]? = some k → rrT k = true))
  case atStart => exact ⟨0, Nat.zero_le _, by omega, rfl, hB.out, fun j k hj => absurd hj (Nat.not_lt_zero _)⟩
  case round =>
    obtain ⟨kk, hkk, hg, rfl, hR⟩ := hrel
    have hR := Aside0.mk hR.out
    obtain ⟨q0, q1, q2, q3, q4⟩ := hR.out.1.cells
    by_cases hlt : kk < t.f4.length
    · have hltz : (kk : Int) < (t.f4.length : Int) := by omega
      obtain ⟨ad, B3, d3, B4, d4, rfl, x0, x1, x2, x3, x4, y3, z3, y4, z4⟩ := at_T31 (Kd.C_below h4.out hR.out.1.bel) (kk : Int) (by omega) hltz
      have hrd : t.f4[kk]? = some (rd_T31 t.f4 (kk : Int)) := by rw [rd37_at _ _ hlt]; exact List.getElem?_eq_getElem hlt
      simp only [Int.toNat_natCast] at x0 x1 x2 x3 x4
      generalize rd_T31 t.f4 (kk : Int) = x at *
      have hc := hIH.out x (List.mem_of_getElem? hrd) B3 d3 B4 d4 wr y3 z3 y4 z4
      have hrd := Aside0.mk hrd
      clear y3 z3 y4 z4
      cases hx : rrT x with
      | false =>
        rw [hx] at hc
        have hall : rrT t = false := by
          rw [rrT_eq]
          have : t.f4.all rrT = false := List.all_eq_false.mpr ⟨x, List.mem_of_getElem? hrd.out, by simp [hx]⟩
          rw [this]
          rfl
        have hx' := Aside0.mk hx
        have hall := Aside0.mk hall
        clear hx
        go_wp2_with (go_at_call 23; refine hc.mono ?_; clear hc; rintro e w' ⟨rfl, hb⟩)
        go_ret
        exact ⟨by rw [hall.out]; rfl, (hR.out.1.next hb).bel⟩
      | true =>
        rw [hx] at hc
        have hx' := Aside0.mk hx
        clear hx
        go_wp2_with (go_at_call 23; refine hc.mono ?_; clear hc; rintro e w' ⟨rfl, hb⟩)
        go_roundg (t.f4.length - (kk + 1))
        case measure => omega
        case rel =>
          refine ⟨kk + 1, by omega, by omega, by go_num, hR.out.1.next hb, fun j k hj hk => ?_⟩
          by_cases e : j = kk
          · subst e
            have := hrd.out
            rw [hk] at this
            cases this
            exact hx'.out
          · exact hR.out.2 j k (by omega) hk
    · have hlt1 : decide ((kk : Int) < (t.f4.length : Int)) = false := decide_eq_false (by omega)
      have hlt2 : decide (kk < t.f4.length) = false := decide_eq_false hlt
      have hkids : t.f4.all rrT = true := List.all_eq_true.mpr fun k hk => by
        obtain ⟨i, hi⟩ := List.mem_iff_getElem?.mp hk
        exact hR.out.2 i k (by have := idx_lt hi; omega) hi
      have hT : rrT t = headR t := by rw [rrT_eq, hkids, Bool.true_and]
      have hT := Aside0.mk hT
      clear hkids hlt
      have k0 := K_k0.out
      have k4 := Aside0.mk k0
      have a1 : (t.f0 == 4) = true := by rw [k0]; rfl
      rw [k0] at q0
      have hmax3 := Aside0.mk (Kd.C_max h3.out)
      have hkidw := hlt1
      clear k0
      go_wp2
      go_loopg [5] t.f3.length (fun gg s5 wr => ∃ kk : Nat, kk ≤ t.f3.length ∧ t.f3.length - kk ≤ gg ∧ s5 = .int .i64 kk ∧ Aside (RB w t A3 c3 A4 c4 wr ∧ risingB t.f3 = risingFrom (prevAt t.f3 kk) (t.f3.drop kk)))
      case atStart => exact ⟨0, Nat.zero_le _, by omega, rfl, hR.out.1, (by simp [risingB, prevAt] : risingB t.f3 = risingFrom (prevAt t.f3 0) (t.f3.drop 0))⟩
      case round =>
        clear hR q0 q1 q2 q3 q4
        obtain ⟨kk, hkk, hg, rfl, hK⟩ := hrel
        have hK := Aside0.mk hK.out
        obtain ⟨q0, q1, q2, q3, q4⟩ := hK.out.1.cells
        rw [k4.out] at q0
        by_cases hlt : kk < t.f3.length
        · have hltz : (kk : Int) < (t.f3.length : Int) := by omega
          obtain ⟨ad, A2, c2, eA, x0, x1, x2, x3, ll, lg⟩ := at_T44 (Kd.C_below h3.out hK.out.1.bel) (kk : Int) (by omega) hltz
          subst eA
          have hrd : t.f3[kk]? = some (rd_T44 t.f3 (kk : Int)) := by rw [rd27_at _ _ hlt]; exact List.getElem?_eq_getElem hlt
          simp only [Int.toNat_natCast] at x0 x1 x2 x3
          generalize rd_T44 t.f3 (kk : Int) = l at *
          have hdrop : t.f3.drop kk = l :: t.f3.drop (kk + 1) := by
            rw [List.drop_eq_getElem_cons hlt]
            rw [List.getElem?_eq_getElem hlt] at hrd
            rw [Option.some.inj hrd]
          have hnextp : prevAt t.f3 (kk + 1) = some l := by unfold prevAt; rw [if_neg (by omega)]; exact hrd
          have hdrop := Aside0.mk hdrop
          have hnextp := Aside0.mk hnextp
          have hb2 : Below wr.heap.size wr (wr.alloc (.cells #[.string l.f0, .string l.f1.f0, .slice A2 l.f1.f1.length c2, .bool l.f2] 44)) := (Below.refl _ wr).alloc (Nat.le_refl _) _
          have e2 := World.alloc_heap_new wr (.cells #[.string l.f0, .string l.f1.f0, .slice A2 l.f1.f1.length c2, .bool l.f2] 44)
          obtain ⟨W2, hW2⟩ : ∃ W2, (wr.alloc (.cells #[.string l.f0, .string l.f1.f0, .slice A2 l.f1.f1.length c2, .bool l.f2] 44)) = W2 := ⟨_, rfl⟩
          rw [hW2] at hb2 e2
          have hb2 := Aside0.mk hb2
          have hE2 := Aside0.mk e2
          clear e2 hrd
          go_upto_region 12 with fail
          clear hW2
          have kl0 := fun Wq (h : Below W2.heap.size W2 Wq) => below_cell h (show W2.cell? ⟨wr.heap.size, 0, none⟩ = some (.string l.f0) by unfold World.cell?; rw [hE2.out]; rfl)
          have kl1 := fun Wq (h : Below W2.heap.size W2 Wq) => below_cell h (show W2.cell? ⟨wr.heap.size, 1, none⟩ = some (.string l.f1.f0) by unfold World.cell?; rw [hE2.out]; rfl)
          have kl2 := fun Wq (h : Below W2.heap.size W2 Wq) => below_cell h (show W2.cell? ⟨wr.heap.size, 2, none⟩ = some (.slice A2 l.f1.f1.length c2) by unfold World.cell?; rw [hE2.out]; rfl)
          have kl3 := fun Wq (h : Below W2.heap.size W2 Wq) => below_cell h (show W2.cell? ⟨wr.heap.size, 3, none⟩ = some (.bool l.f2) by unfold World.cell?; rw [hE2.out]; rfl)
          have kb3 := fun Wq (h : Below W2.heap.size W2 Wq) => below_cell h (below_cell hb2.out q3)
          by_cases h0 : l.f0.toList = ([] : List UInt8)
          · have n0 : (l.f0.toList == ([] : List UInt8)) = true := beq_iff_eq.mpr h0
            have n0' : (l.f0.toList != ([] : List UInt8)) = false := by simp [h0]
            have hok : loanOK l = true := by simp [loanOK, h0]
            clear h0
            by_cases hp : 0 < kk
            · obtain ⟨jj, hjk⟩ : ∃ jj, jj + 1 = kk := ⟨kk - 1, by omega⟩
              have hltj : (jj : Int) < (t.f3.length : Int) := by omega
              have hw : wrap64 ((kk : Int) - 1) = (jj : Int) := by unfold wrap64; have := hmax3.out; omega
              have hw' : IntKind.i64.wrap ((kk : Int) - 1) = (jj : Int) := by rw [IntKind.wrap_i64]; have := hmax3.out; omega
              obtain ⟨ad', P2, r2, ep, p0, p1, p2, p3, pl, pg⟩ := at_T44 (Kd.C_below h3.out hK.out.1.bel) (jj : Int) (by omega) hltj
              obtain rfl : ad = ad' := Option.some.inj ep
              have hpr : t.f3[jj]? = some (rd_T44 t.f3 (jj : Int)) := by rw [rd27_at _ _ (by omega)]; exact List.getElem?_eq_getElem (by omega)
              simp only [Int.toNat_natCast] at p0 p1 p2 p3
              generalize rd_T44 t.f3 (jj : Int) = p at *
              have hprev : prevAt t.f3 kk = some p := by unfold prevAt; rw [if_neg (by omega), show kk - 1 = jj by omega]; exact hpr
              have kp0 := fun Wq (h : Below W2.heap.size W2 Wq) => below_cell h (below_cell hb2.out p0)
              have kp1 := fun Wq (h : Below W2.heap.size W2 Wq) => below_cell h (below_cell hb2.out p1)
              have kp2 := fun Wq (h : Below W2.heap.size W2 Wq) => below_cell h (below_cell hb2.out p2)
              have kp3 := fun Wq (h : Below W2.heap.size W2 Wq) => below_cell h (below_cell hb2.out p3)
              have cB := fun Wq (h : Below W2.heap.size W2 Wq) => (beforeC p l P2 r2 A2 c2 Wq (Kd.C_below (Kd.C_below pg hb2.out) h) pl (Kd.C_below (Kd.C_below lg hb2.out) h) ll).mono (fun e w' q => And.intro q.1 (h.trans (q.2.mono h.size)))
              have eB := enters_of Tryz.func43 (by kernel_rfl) rfl
              obtain ⟨bb, hbb⟩ : ∃ bb, befL p l = bb := ⟨_, rfl⟩
              rw [hbb] at cB
              have hgood : bb = true → risingB t.f3 = risingFrom (prevAt t.f3 (kk + 1)) (t.f3.drop (kk + 1)) := fun e => by
                rw [hK.out.2, hprev, hdrop.out, hnextp.out]
                have e2 : decide (cmpLoan p l < 0) = true := by rw [← e, ← hbb]; rfl
                simp [risingFrom, hok, e2]
              have hbadf : bb = false → headR t = false := fun e => by
                have e2 : decide (cmpLoan p l < 0) = false := by rw [← e, ← hbb]; rfl
                have : risingB t.f3 = false := by
                  rw [hK.out.2, hprev, hdrop.out]
                  simp [risingFrom, hok, e2]
                unfold headR
                rw [if_pos k4.out, this]
                rfl
              have hp1 : decide ((kk : Int) > 0) = true := decide_eq_true (by omega)
              have hp2 : decide ((0 : Int) < (kk : Int)) = true := decide_eq_true (by omega)
              have hp3 : decide (0 < kk) = true := decide_eq_true hp
              have pgA := Aside0.mk pg
              have plA := Aside0.mk pl
              have hppA := Aside0.mk hprev
              clear p0 p1 p2 p3 pg pl hpr hprev hp ep hbb
              cases bb with
              | false =>
                have hbadv := Aside0.mk (hbadf rfl)
                refine region_cls (fun W' => Below W2.heap.size W2 W') (by kernel_rfl) (by kernel_rfl) (below_drew1 (Below.refl _ W2)) ?_
                go_big_quiet_want
                refine ⟨.pointer (some ⟨wr.heap.size, 0, none⟩), fun Wq hWq => ?_, ?_⟩
                · clear kb3 kl0 kl1 kl2 kl3 kp0 kp1 kp2 kp3 cB
                  unfold Oper.quietAt
                  go_simp
                simp only [Act.put, List.setIfInBounds_toArray, List.set_cons_zero, List.set_cons_succ]
                go_big_quiet_on
                go_big_quiet_want
                refine ⟨.string l.f0, fun Wq hWq => ?_, ?_⟩
                · have q_kl0 := kl0 Wq hWq
                  clear kb3 kl0 kl1 kl2 kl3 kp0 kp1 kp2 kp3 cB
                  unfold Oper.quietAt
                  go_simp
                simp only [Act.put, List.setIfInBounds_toArray, List.set_cons_zero, List.set_cons_succ]
                go_big_quiet_on
                go_big_quiet_want
                refine ⟨.bool false, fun Wq hWq => ?_, ?_⟩
                · clear kb3 kl0 kl1 kl2 kl3 kp0 kp1 kp2 kp3 cB
                  unfold Oper.quietAt
                  go_simp
                simp only [Act.put, List.setIfInBounds_toArray, List.set_cons_zero, List.set_cons_succ]
                go_big_quiet_on
                go_big_quiet_want
                refine ⟨.bool false, fun Wq hWq => ?_, ?_⟩
                · clear kb3 kl0 kl1 kl2 kl3 kp0 kp1 kp2 kp3 cB
                  unfold Oper.quietAt
                  go_simp
                simp only [Act.put, List.setIfInBounds_toArray, List.set_cons_zero, List.set_cons_succ]
                go_big_quiet_on
                go_big_quiet_skip
                go_big_quiet_skip
                go_big_quiet_skip
                go_big_quiet_skip
                go_big_quiet_skip
                go_big_quiet_skip
                go_big_quiet_skip
                go_big_quiet_skip
                go_big_quiet_skip
                go_big_quiet_skip
                go_big_quiet_skip
                go_big_quiet_skip
                go_big_quiet_skip
                go_big_quiet_skip
                go_big_quiet_skip
                go_big_quiet_want
                refine ⟨.bool false, fun Wq hWq => ?_, ?_⟩
                · clear kb3 kl0 kl1 kl2 kl3 kp0 kp1 kp2 kp3 cB
                  unfold Oper.quietAt
                  go_simp
                simp only [Act.put, List.setIfInBounds_toArray, List.set_cons_zero, List.set_cons_succ]
                go_big_quiet_on
                go_big_quiet_want
                refine ⟨.bool false, fun Wq hWq => ?_, ?_⟩
                · clear kb3 kl0 kl1 kl2 kl3 kp0 kp1 kp2 kp3 cB
                  unfold Oper.quietAt
                  go_simp
                simp only [Act.put, List.setIfInBounds_toArray, List.set_cons_zero, List.set_cons_succ]
                go_big_quiet_on
                go_big_quiet_want
                refine ⟨.int .i64 kk, fun Wq hWq => ?_, ?_⟩
                · clear kb3 kl0 kl1 kl2 kl3 kp0 kp1 kp2 kp3 cB
                  unfold Oper.quietAt
                  go_simp
                simp only [Act.put, List.setIfInBounds_toArray, List.set_cons_zero, List.set_cons_succ]
                go_big_quiet_on
                go_big_quiet_want
                refine ⟨.bool true, fun Wq hWq => ?_, ?_⟩
                · clear kb3 kl0 kl1 kl2 kl3 kp0 kp1 kp2 kp3 cB
                  unfold Oper.quietAt
                  go_simp
                simp only [Act.put, List.setIfInBounds_toArray, List.set_cons_zero, List.set_cons_succ]
                go_big_quiet_on
                go_big_quiet_want
                refine ⟨.bool true, fun Wq hWq => ?_, ?_⟩
                · clear kb3 kl0 kl1 kl2 kl3 kp0 kp1 kp2 kp3 cB
                  unfold Oper.quietAt
                  go_simp
                simp only [Act.put, List.setIfInBounds_toArray, List.set_cons_zero, List.set_cons_succ]
                go_big_quiet_on
                go_big_quiet_want
                refine ⟨.pointer (some ⟨w.heap.size, 3, none⟩), fun Wq hWq => ?_, ?_⟩
                · clear kb3 kl0 kl1 kl2 kl3 kp0 kp1 kp2 kp3 cB
                  unfold Oper.quietAt
                  go_simp
                simp only [Act.put, List.setIfInBounds_toArray, List.set_cons_zero, List.set_cons_succ]
                go_big_quiet_on
                go_big_quiet_want
                refine ⟨.slice (some ad) t.f3.length c3, fun Wq hWq => ?_, ?_⟩
                · have q_kb3 := kb3 Wq hWq
                  clear kb3 kl0 kl1 kl2 kl3 kp0 kp1 kp2 kp3 cB
                  unfold Oper.quietAt
                  go_simp
                simp only [Act.put, List.setIfInBounds_toArray, List.set_cons_zero, List.set_cons_succ]
                go_big_quiet_on
                go_big_quiet_want
                refine ⟨.int .i64 kk, fun Wq hWq => ?_, ?_⟩
                · clear kb3 kl0 kl1 kl2 kl3 kp0 kp1 kp2 kp3 cB
                  unfold Oper.quietAt
                  go_simp
                simp only [Act.put, List.setIfInBounds_toArray, List.set_cons_zero, List.set_cons_succ]
                go_big_quiet_on
                go_big_quiet_want
                refine ⟨.int .i64 jj, fun Wq hWq => ?_, ?_⟩
                · clear kb3 kl0 kl1 kl2 kl3 kp0 kp1 kp2 kp3 cB
                  unfold Oper.quietAt
                  go_simp
                simp only [Act.put, List.setIfInBounds_toArray, List.set_cons_zero, List.set_cons_succ]
                go_big_quiet_on
                go_big_quiet_want
                refine ⟨.pointer (some (ad.add (jj * 4))), fun Wq hWq => ?_, ?_⟩
                · clear kb3 kl0 kl1 kl2 kl3 kp0 kp1 kp2 kp3 cB
                  unfold Oper.quietAt
                  go_simp
                simp only [Act.put, List.setIfInBounds_toArray, List.set_cons_zero, List.set_cons_succ]
                go_big_quiet_on
                go_big_quiet_want
                refine ⟨.agg #[.string p.f0, .string p.f1.f0, .slice P2 p.f1.f1.length r2, .bool p.f2], fun Wq hWq => ?_, ?_⟩
                · have q_kp0 := kp0 Wq hWq
                  have q_kp1 := kp1 Wq hWq
                  have q_kp2 := kp2 Wq hWq
                  have q_kp3 := kp3 Wq hWq
                  clear kb3 kl0 kl1 kl2 kl3 kp0 kp1 kp2 kp3 cB
                  unfold Oper.quietAt
                  go_simp
                simp only [Act.put, List.setIfInBounds_toArray, List.set_cons_zero, List.set_cons_succ]
                go_big_quiet_on
                go_big_quiet_want
                refine ⟨.agg #[.string l.f0, .string l.f1.f0, .slice A2 l.f1.f1.length c2, .bool l.f2], fun Wq hWq => ?_, ?_⟩
                · have q_kl0 := kl0 Wq hWq
                  have q_kl1 := kl1 Wq hWq
                  have q_kl2 := kl2 Wq hWq
                  have q_kl3 := kl3 Wq hWq
                  clear kb3 kl0 kl1 kl2 kl3 kp0 kp1 kp2 kp3 cB
                  unfold Oper.quietAt
                  go_simp
                simp only [Act.put, List.setIfInBounds_toArray, List.set_cons_zero, List.set_cons_succ]
                go_big_quiet_on
                go_big_quiet_want
                refine ⟨.bool false, fun Wq hWq => ?_, ?_⟩
                · have q_cB := cB Wq hWq
                  clear kb3 kl0 kl1 kl2 kl3 kp0 kp1 kp2 kp3 cB
                  unfold Oper.quietAt
                  go_simp
                simp only [Act.put, List.setIfInBounds_toArray, List.set_cons_zero, List.set_cons_succ]
                go_big_quiet_on
                go_big_quiet_want
                refine ⟨.bool true, fun Wq hWq => ?_, ?_⟩
                · clear kb3 kl0 kl1 kl2 kl3 kp0 kp1 kp2 kp3 cB
                  unfold Oper.quietAt
                  go_simp
                simp only [Act.put, List.setIfInBounds_toArray, List.set_cons_zero, List.set_cons_succ]
                go_big_quiet_on
                go_big_quiet_want
                refine ⟨.bool true, fun Wq hWq => ?_, ?_⟩
                · clear kb3 kl0 kl1 kl2 kl3 kp0 kp1 kp2 kp3 cB
                  unfold Oper.quietAt
                  go_simp
                simp only [Act.put, List.setIfInBounds_toArray, List.set_cons_zero, List.set_cons_succ]
                go_big_quiet_on
                go_big_quiet_want
                refine ⟨.bool true, fun Wq hWq => ?_, ?_⟩
                · clear kb3 kl0 kl1 kl2 kl3 kp0 kp1 kp2 kp3 cB
                  unfold Oper.quietAt
                  go_simp
                simp only [Act.put, List.setIfInBounds_toArray, List.set_cons_zero, List.set_cons_succ]
                go_big_quiet_on
                refine wpQuiet_nil ?_
                intro W3 hW3
                clear kb3 kl0 kl1 kl2 kl3 kp0 kp1 kp2 kp3 cB
                go_wp2
                go_ret
                exact ⟨by first | rfl | (rw [hT.out, hbadv.out]; rfl), ((hK.out.1.next hb2.out).next hW3).bel⟩
              | true =>
                have hnext := Aside0.mk (hgood rfl)
                refine region_cls (fun W' => Below W2.heap.size W2 W') (by kernel_rfl) (by kernel_rfl) (below_drew1 (Below.refl _ W2)) ?_
                go_big_quiet_want
                refine ⟨.pointer (some ⟨wr.heap.size, 0, none⟩), fun Wq hWq => ?_, ?_⟩
                · clear kb3 kl0 kl1 kl2 kl3 kp0 kp1 kp2 kp3 cB
                  unfold Oper.quietAt
                  go_simp
                simp only [Act.put, List.setIfInBounds_toArray, List.set_cons_zero, List.set_cons_succ]
                go_big_quiet_on
                go_big_quiet_want
                refine ⟨.string l.f0, fun Wq hWq => ?_, ?_⟩
                · have q_kl0 := kl0 Wq hWq
                  clear kb3 kl0 kl1 kl2 kl3 kp0 kp1 kp2 kp3 cB
                  unfold Oper.quietAt
                  go_simp
                simp only [Act.put, List.setIfInBounds_toArray, List.set_cons_zero, List.set_cons_succ]
                go_big_quiet_on
                go_big_quiet_want
                refine ⟨.bool false, fun Wq hWq => ?_, ?_⟩
                · clear kb3 kl0 kl1 kl2 kl3 kp0 kp1 kp2 kp3 cB
                  unfold Oper.quietAt
                  go_simp
                simp only [Act.put, List.setIfInBounds_toArray, List.set_cons_zero, List.set_cons_succ]
                go_big_quiet_on
                go_big_quiet_want
                refine ⟨.bool false, fun Wq hWq => ?_, ?_⟩
                · clear kb3 kl0 kl1 kl2 kl3 kp0 kp1 kp2 kp3 cB
                  unfold Oper.quietAt
                  go_simp
                simp only [Act.put, List.setIfInBounds_toArray, List.set_cons_zero, List.set_cons_succ]
                go_big_quiet_on
                go_big_quiet_skip
                go_big_quiet_skip
                go_big_quiet_skip
                go_big_quiet_skip
                go_big_quiet_skip
                go_big_quiet_skip
                go_big_quiet_skip
                go_big_quiet_skip
                go_big_quiet_skip
                go_big_quiet_skip
                go_big_quiet_skip
                go_big_quiet_skip
                go_big_quiet_skip
                go_big_quiet_skip
                go_big_quiet_skip
                go_big_quiet_want
                refine ⟨.bool false, fun Wq hWq => ?_, ?_⟩
                · clear kb3 kl0 kl1 kl2 kl3 kp0 kp1 kp2 kp3 cB
                  unfold Oper.quietAt
                  go_simp
                simp only [Act.put, List.setIfInBounds_toArray, List.set_cons_zero, List.set_cons_succ]
                go_big_quiet_on
                go_big_quiet_want
                refine ⟨.bool false, fun Wq hWq => ?_, ?_⟩
                · clear kb3 kl0 kl1 kl2 kl3 kp0 kp1 kp2 kp3 cB
                  unfold Oper.quietAt
                  go_simp
                simp only [Act.put, List.setIfInBounds_toArray, List.set_cons_zero, List.set_cons_succ]
                go_big_quiet_on
                go_big_quiet_want
                refine ⟨.int .i64 kk, fun Wq hWq => ?_, ?_⟩
                · clear kb3 kl0 kl1 kl2 kl3 kp0 kp1 kp2 kp3 cB
                  unfold Oper.quietAt
                  go_simp
                simp only [Act.put, List.setIfInBounds_toArray, List.set_cons_zero, List.set_cons_succ]
                go_big_quiet_on
                go_big_quiet_want
                refine ⟨.bool true, fun Wq hWq => ?_, ?_⟩
                · clear kb3 kl0 kl1 kl2 kl3 kp0 kp1 kp2 kp3 cB
                  unfold Oper.quietAt
                  go_simp
                simp only [Act.put, List.setIfInBounds_toArray, List.set_cons_zero, List.set_cons_succ]
                go_big_quiet_on
                go_big_quiet_want
                refine ⟨.bool true, fun Wq hWq => ?_, ?_⟩
                · clear kb3 kl0 kl1 kl2 kl3 kp0 kp1 kp2 kp3 cB
                  unfold Oper.quietAt
                  go_simp
                simp only [Act.put, List.setIfInBounds_toArray, List.set_cons_zero, List.set_cons_succ]
                go_big_quiet_on
                go_big_quiet_want
                refine ⟨.pointer (some ⟨w.heap.size, 3, none⟩), fun Wq hWq => ?_, ?_⟩
                · clear kb3 kl0 kl1 kl2 kl3 kp0 kp1 kp2 kp3 cB
                  unfold Oper.quietAt
                  go_simp
                simp only [Act.put, List.setIfInBounds_toArray, List.set_cons_zero, List.set_cons_succ]
                go_big_quiet_on
                go_big_quiet_want
                refine ⟨.slice (some ad) t.f3.length c3, fun Wq hWq => ?_, ?_⟩
                · have q_kb3 := kb3 Wq hWq
                  clear kb3 kl0 kl1 kl2 kl3 kp0 kp1 kp2 kp3 cB
                  unfold Oper.quietAt
                  go_simp
                simp only [Act.put, List.setIfInBounds_toArray, List.set_cons_zero, List.set_cons_succ]
                go_big_quiet_on
                go_big_quiet_want
                refine ⟨.int .i64 kk, fun Wq hWq => ?_, ?_⟩
                · clear kb3 kl0 kl1 kl2 kl3 kp0 kp1 kp2 kp3 cB
                  unfold Oper.quietAt
                  go_simp
                simp only [Act.put, List.setIfInBounds_toArray, List.set_cons_zero, List.set_cons_succ]
                go_big_quiet_on
                go_big_quiet_want
                refine ⟨.int .i64 jj, fun Wq hWq => ?_, ?_⟩
                · clear kb3 kl0 kl1 kl2 kl3 kp0 kp1 kp2 kp3 cB
                  unfold Oper.quietAt
                  go_simp
                simp only [Act.put, List.setIfInBounds_toArray, List.set_cons_zero, List.set_cons_succ]
                go_big_quiet_on
                go_big_quiet_want
                refine ⟨.pointer (some (ad.add (jj * 4))), fun Wq hWq => ?_, ?_⟩
                · clear kb3 kl0 kl1 kl2 kl3 kp0 kp1 kp2 kp3 cB
                  unfold Oper.quietAt
                  go_simp
                simp only [Act.put, List.setIfInBounds_toArray, List.set_cons_zero, List.set_cons_succ]
                go_big_quiet_on
                go_big_quiet_want
                refine ⟨.agg #[.string p.f0, .string p.f1.f0, .slice P2 p.f1.f1.length r2, .bool p.f2], fun Wq hWq => ?_, ?_⟩
                · have q_kp0 := kp0 Wq hWq
                  have q_kp1 := kp1 Wq hWq
                  have q_kp2 := kp2 Wq hWq
                  have q_kp3 := kp3 Wq hWq
                  clear kb3 kl0 kl1 kl2 kl3 kp0 kp1 kp2 kp3 cB
                  unfold Oper.quietAt
                  go_simp
                simp only [Act.put, List.setIfInBounds_toArray, List.set_cons_zero, List.set_cons_succ]
                go_big_quiet_on
                go_big_quiet_want
                refine ⟨.agg #[.string l.f0, .string l.f1.f0, .slice A2 l.f1.f1.length c2, .bool l.f2], fun Wq hWq => ?_, ?_⟩
                · have q_kl0 := kl0 Wq hWq
                  have q_kl1 := kl1 Wq hWq
                  have q_kl2 := kl2 Wq hWq
                  have q_kl3 := kl3 Wq hWq
                  clear kb3 kl0 kl1 kl2 kl3 kp0 kp1 kp2 kp3 cB
                  unfold Oper.quietAt
                  go_simp
                simp only [Act.put, List.setIfInBounds_toArray, List.set_cons_zero, List.set_cons_succ]
                go_big_quiet_on
                go_big_quiet_want
                refine ⟨.bool true, fun Wq hWq => ?_, ?_⟩
                · have q_cB := cB Wq hWq
                  clear kb3 kl0 kl1 kl2 kl3 kp0 kp1 kp2 kp3 cB
                  unfold Oper.quietAt
                  go_simp
                simp only [Act.put, List.setIfInBounds_toArray, List.set_cons_zero, List.set_cons_succ]
                go_big_quiet_on
                go_big_quiet_want
                refine ⟨.bool false, fun Wq hWq => ?_, ?_⟩
                · clear kb3 kl0 kl1 kl2 kl3 kp0 kp1 kp2 kp3 cB
                  unfold Oper.quietAt
                  go_simp
                simp only [Act.put, List.setIfInBounds_toArray, List.set_cons_zero, List.set_cons_succ]
                go_big_quiet_on
                go_big_quiet_want
                refine ⟨.bool false, fun Wq hWq => ?_, ?_⟩
                · clear kb3 kl0 kl1 kl2 kl3 kp0 kp1 kp2 kp3 cB
                  unfold Oper.quietAt
                  go_simp
                simp only [Act.put, List.setIfInBounds_toArray, List.set_cons_zero, List.set_cons_succ]
                go_big_quiet_on
                go_big_quiet_want
                refine ⟨.bool false, fun Wq hWq => ?_, ?_⟩
                · clear kb3 kl0 kl1 kl2 kl3 kp0 kp1 kp2 kp3 cB
                  unfold Oper.quietAt
                  go_simp
                simp only [Act.put, List.setIfInBounds_toArray, List.set_cons_zero, List.set_cons_succ]
                go_big_quiet_on
                refine wpQuiet_nil ?_
                intro W3 hW3
                clear kb3 kl0 kl1 kl2 kl3 kp0 kp1 kp2 kp3 cB
                have hbig := hmax3.out
                go_wp2
                go_roundg (t.f3.length - (kk + 1))
                case measure => omega
                case rel => exact ⟨kk + 1, by omega, by omega, by go_num, (hK.out.1.next hb2.out).next hW3, hnext.out⟩
            · obtain rfl : kk = 0 := by omega
              have hnext : risingB t.f3 = risingFrom (prevAt t.f3 (0 + 1)) (t.f3.drop (0 + 1)) := by
                have e0 : prevAt t.f3 0 = none := rfl
                rw [hK.out.2, hdrop.out, hnextp.out, e0]
                simp [risingFrom, hok]
              have hnext := Aside0.mk hnext
              have hp1 : decide (((0 : Nat) : Int) > 0) = false := rfl
              refine region_cls (fun W' => Below W2.heap.size W2 W') (by kernel_rfl) (by kernel_rfl) (below_drew1 (Below.refl _ W2)) ?_
              go_big_quiet_want
              refine ⟨.pointer (some ⟨wr.heap.size, 0, none⟩), fun Wq hWq => ?_, ?_⟩
              · clear kb3 kl0 kl1 kl2 kl3
                unfold Oper.quietAt
                go_simp
              simp only [Act.put, List.setIfInBounds_toArray, List.set_cons_zero, List.set_cons_succ]
              go_big_quiet_on
              go_big_quiet_want
              refine ⟨.string l.f0, fun Wq hWq => ?_, ?_⟩
              · have q_kl0 := kl0 Wq hWq
                clear kb3 kl0 kl1 kl2 kl3
                unfold Oper.quietAt
                go_simp
              simp only [Act.put, List.setIfInBounds_toArray, List.set_cons_zero, List.set_cons_succ]
              go_big_quiet_on
              go_big_quiet_want
              refine ⟨.bool false, fun Wq hWq => ?_, ?_⟩
              · clear kb3 kl0 kl1 kl2 kl3
                unfold Oper.quietAt
                go_simp
              simp only [Act.put, List.setIfInBounds_toArray, List.set_cons_zero, List.set_cons_succ]
              go_big_quiet_on
              go_big_quiet_want
              refine ⟨.bool false, fun Wq hWq => ?_, ?_⟩
              · clear kb3 kl0 kl1 kl2 kl3
                unfold Oper.quietAt
                go_simp
              simp only [Act.put, List.setIfInBounds_toArray, List.set_cons_zero, List.set_cons_succ]
              go_big_quiet_on
              go_big_quiet_skip
              go_big_quiet_skip
              go_big_quiet_skip
              go_big_quiet_skip
              go_big_quiet_skip
              go_big_quiet_skip
              go_big_quiet_skip
              go_big_quiet_skip
              go_big_quiet_skip
              go_big_quiet_skip
              go_big_quiet_skip
              go_big_quiet_skip
              go_big_quiet_skip
              go_big_quiet_skip
              go_big_quiet_skip
              go_big_quiet_want
              refine ⟨.bool false, fun Wq hWq => ?_, ?_⟩
              · clear kb3 kl0 kl1 kl2 kl3
                unfold Oper.quietAt
                go_simp
              simp only [Act.put, List.setIfInBounds_toArray, List.set_cons_zero, List.set_cons_succ]
              go_big_quiet_on
              go_big_quiet_want
              refine ⟨.bool false, fun Wq hWq => ?_, ?_⟩
              · clear kb3 kl0 kl1 kl2 kl3
                unfold Oper.quietAt
                go_simp
              simp only [Act.put, List.setIfInBounds_toArray, List.set_cons_zero, List.set_cons_succ]
              go_big_quiet_on
              go_big_quiet_want
              refine ⟨.int .i64 0, fun Wq hWq => ?_, ?_⟩
              · clear kb3 kl0 kl1 kl2 kl3
                unfold Oper.quietAt
                go_simp
              simp only [Act.put, List.setIfInBounds_toArray, List.set_cons_zero, List.set_cons_succ]
              go_big_quiet_on
              go_big_quiet_want
              refine ⟨.bool false, fun Wq hWq => ?_, ?_⟩
              · clear kb3 kl0 kl1 kl2 kl3
                unfold Oper.quietAt
                go_simp
              simp only [Act.put, List.setIfInBounds_toArray, List.set_cons_zero, List.set_cons_succ]
              go_big_quiet_on
              go_big_quiet_want
              refine ⟨.bool false, fun Wq hWq => ?_, ?_⟩
              · clear kb3 kl0 kl1 kl2 kl3
                unfold Oper.quietAt
                go_simp
              simp only [Act.put, List.setIfInBounds_toArray, List.set_cons_zero, List.set_cons_succ]
              go_big_quiet_on
              go_big_quiet_skip
              go_big_quiet_skip
              go_big_quiet_skip
              go_big_quiet_skip
              go_big_quiet_skip
              go_big_quiet_skip
              go_big_quiet_skip
              go_big_quiet_skip
              go_big_quiet_skip
              go_big_quiet_want
              refine ⟨.bool false, fun Wq hWq => ?_, ?_⟩
              · clear kb3 kl0 kl1 kl2 kl3
                unfold Oper.quietAt
                go_simp
              simp only [Act.put, List.setIfInBounds_toArray, List.set_cons_zero, List.set_cons_succ]
              go_big_quiet_on
              go_big_quiet_want
              refine ⟨.bool false, fun Wq hWq => ?_, ?_⟩
              · clear kb3 kl0 kl1 kl2 kl3
                unfold Oper.quietAt
                go_simp
              simp only [Act.put, List.setIfInBounds_toArray, List.set_cons_zero, List.set_cons_succ]
              go_big_quiet_on
              refine wpQuiet_nil ?_
              intro W3 hW3
              clear kb3 kl0 kl1 kl2 kl3
              have hbig := hmax3.out
              go_wp2
              go_roundg (t.f3.length - (0 + 1))
              case measure => omega
              case rel => exact ⟨0 + 1, by omega, by omega, by go_num, (hK.out.1.next hb2.out).next hW3, hnext.out⟩
          · have n0 : (l.f0.toList == ([] : List UInt8)) = false := by simpa using h0
            have n0' : (l.f0.toList != ([] : List UInt8)) = true := by simpa using h0
            cases hm : l.f2 with
            | true =>
              have hok : loanOK l = false := by simp [loanOK, h0, hm]
              have hbadv : headR t = false := by
                have : risingB t.f3 = false := by
                  rw [hK.out.2, hdrop.out]
                  cases prevAt t.f3 kk <;> simp [risingFrom, hok]
                unfold headR
                rw [if_pos k4.out, this]
                rfl
              have hbadv := Aside0.mk hbadv
              rw [hm] at kl3
              clear hok h0 hm
              refine region_cls (fun W' => Below W2.heap.size W2 W') (by kernel_rfl) (by kernel_rfl) (below_drew1 (Below.refl _ W2)) ?_
              go_big_quiet_want
              refine ⟨.pointer (some ⟨wr.heap.size, 0, none⟩), fun Wq hWq => ?_, ?_⟩
              · clear kb3 kl0 kl1 kl2 kl3
                unfold Oper.quietAt
                go_simp
              simp only [Act.put, List.setIfInBounds_toArray, List.set_cons_zero, List.set_cons_succ]
              go_big_quiet_on
              go_big_quiet_want
              refine ⟨.string l.f0, fun Wq hWq => ?_, ?_⟩
              · have q_kl0 := kl0 Wq hWq
                clear kb3 kl0 kl1 kl2 kl3
                unfold Oper.quietAt
                go_simp
              simp only [Act.put, List.setIfInBounds_toArray, List.set_cons_zero, List.set_cons_succ]
              go_big_quiet_on
              go_big_quiet_want
              refine ⟨.bool true, fun Wq hWq => ?_, ?_⟩
              · clear kb3 kl0 kl1 kl2 kl3
                unfold Oper.quietAt
                go_simp
              simp only [Act.put, List.setIfInBounds_toArray, List.set_cons_zero, List.set_cons_succ]
              go_big_quiet_on
              go_big_quiet_want
              refine ⟨.bool true, fun Wq hWq => ?_, ?_⟩
              · clear kb3 kl0 kl1 kl2 kl3
                unfold Oper.quietAt
                go_simp
              simp only [Act.put, List.setIfInBounds_toArray, List.set_cons_zero, List.set_cons_succ]
              go_big_quiet_on
              go_big_quiet_want
              refine ⟨.pointer (some ⟨wr.heap.size, 3, none⟩), fun Wq hWq => ?_, ?_⟩
              · clear kb3 kl0 kl1 kl2 kl3
                unfold Oper.quietAt
                go_simp
              simp only [Act.put, List.setIfInBounds_toArray, List.set_cons_zero, List.set_cons_succ]
              go_big_quiet_on
              go_big_quiet_want
              refine ⟨.bool true, fun Wq hWq => ?_, ?_⟩
              · have q_kl3 := kl3 Wq hWq
                clear kb3 kl0 kl1 kl2 kl3
                unfold Oper.quietAt
                go_simp
              simp only [Act.put, List.setIfInBounds_toArray, List.set_cons_zero, List.set_cons_succ]
              go_big_quiet_on
              go_big_quiet_want
              refine ⟨.bool true, fun Wq hWq => ?_, ?_⟩
              · clear kb3 kl0 kl1 kl2 kl3
                unfold Oper.quietAt
                go_simp
              simp only [Act.put, List.setIfInBounds_toArray, List.set_cons_zero, List.set_cons_succ]
              go_big_quiet_on
              go_big_quiet_skip
              go_big_quiet_skip
              go_big_quiet_skip
              go_big_quiet_skip
              go_big_quiet_want
              refine ⟨.bool true, fun Wq hWq => ?_, ?_⟩
              · clear kb3 kl0 kl1 kl2 kl3
                unfold Oper.quietAt
                go_simp
              simp only [Act.put, List.setIfInBounds_toArray, List.set_cons_zero, List.set_cons_succ]
              go_big_quiet_on
              go_big_quiet_want
              refine ⟨.bool true, fun Wq hWq => ?_, ?_⟩
              · clear kb3 kl0 kl1 kl2 kl3
                unfold Oper.quietAt
                go_simp
              simp only [Act.put, List.setIfInBounds_toArray, List.set_cons_zero, List.set_cons_succ]
              go_big_quiet_on
              go_big_quiet_skip
              go_big_quiet_skip
              go_big_quiet_skip
              go_big_quiet_skip
              go_big_quiet_skip
              go_big_quiet_want
              refine ⟨.bool true, fun Wq hWq => ?_, ?_⟩
              · clear kb3 kl0 kl1 kl2 kl3
                unfold Oper.quietAt
                go_simp
              simp only [Act.put, List.setIfInBounds_toArray, List.set_cons_zero, List.set_cons_succ]
              go_big_quiet_on
              go_big_quiet_want
              refine ⟨.bool true, fun Wq hWq => ?_, ?_⟩
              · clear kb3 kl0 kl1 kl2 kl3
                unfold Oper.quietAt
                go_simp
              simp only [Act.put, List.setIfInBounds_toArray, List.set_cons_zero, List.set_cons_succ]
              go_big_quiet_on
              go_big_quiet_want
              refine ⟨.bool true, fun Wq hWq => ?_, ?_⟩
              · clear kb3 kl0 kl1 kl2 kl3
                unfold Oper.quietAt
                go_simp
              simp only [Act.put, List.setIfInBounds_toArray, List.set_cons_zero, List.set_cons_succ]
              go_big_quiet_on
              go_big_quiet_skip
              go_big_quiet_skip
              go_big_quiet_skip
              go_big_quiet_skip
              go_big_quiet_skip
              go_big_quiet_skip
              go_big_quiet_skip
              go_big_quiet_skip
              go_big_quiet_skip
              go_big_quiet_skip
              go_big_quiet_skip
              go_big_quiet_skip
              go_big_quiet_skip
              go_big_quiet_want
              refine ⟨.bool true, fun Wq hWq => ?_, ?_⟩
              · clear kb3 kl0 kl1 kl2 kl3
                unfold Oper.quietAt
                go_simp
              simp only [Act.put, List.setIfInBounds_toArray, List.set_cons_zero, List.set_cons_succ]
              go_big_quiet_on
              refine wpQuiet_nil ?_
              intro W3 hW3
              clear kb3 kl0 kl1 kl2 kl3
              go_wp2
              go_ret
              exact ⟨by first | rfl | (rw [hT.out, hbadv.out]; rfl), ((hK.out.1.next hb2.out).next hW3).bel⟩
            | false =>
              by_cases hv : l.f1.f0.toList = ([] : List UInt8)
              · have n1 : (l.f1.f0.toList == ([] : List UInt8)) = true := beq_iff_eq.mpr hv
                have n1' : (l.f1.f0.toList != ([] : List UInt8)) = false := by simp [hv]
                by_cases hn : l.f1.f1.length = 0
                · have hok : loanOK l = true := by simp [loanOK, h0, hm, hv, hn]
                  have s1 : decide ((l.f1.f1.length : Int) > 0) = false := decide_eq_false (by omega)
                  have s2 : decide ((0 : Int) < (l.f1.f1.length : Int)) = false := decide_eq_false (by omega)
                  have s3 : decide (0 < l.f1.f1.length) = false := decide_eq_false (by omega)
                  rw [hm] at kl3
                  clear h0 hv hn
                  by_cases hp : 0 < kk
                  · obtain ⟨jj, hjk⟩ : ∃ jj, jj + 1 = kk := ⟨kk - 1, by omega⟩
                    have hltj : (jj : Int) < (t.f3.length : Int) := by omega
                    have hw : wrap64 ((kk : Int) - 1) = (jj : Int) := by unfold wrap64; have := hmax3.out; omega
                    have hw' : IntKind.i64.wrap ((kk : Int) - 1) = (jj : Int) := by rw [IntKind.wrap_i64]; have := hmax3.out; omega
                    obtain ⟨ad', P2, r2, ep, p0, p1, p2, p3, pl, pg⟩ := at_T44 (Kd.C_below h3.out hK.out.1.bel) (jj : Int) (by omega) hltj
                    obtain rfl : ad = ad' := Option.some.inj ep
                    have hpr : t.f3[jj]? = some (rd_T44 t.f3 (jj : Int)) := by rw [rd27_at _ _ (by omega)]; exact List.getElem?_eq_getElem (by omega)
                    simp only [Int.toNat_natCast] at p0 p1 p2 p3
                    generalize rd_T44 t.f3 (jj : Int) = p at *
                    have hprev : prevAt t.f3 kk = some p := by unfold prevAt; rw [if_neg (by omega), show kk - 1 = jj by omega]; exact hpr
                    have kp0 := fun Wq (h : Below W2.heap.size W2 Wq) => below_cell h (below_cell hb2.out p0)
                    have kp1 := fun Wq (h : Below W2.heap.size W2 Wq) => below_cell h (below_cell hb2.out p1)
                    have kp2 := fun Wq (h : Below W2.heap.size W2 Wq) => below_cell h (below_cell hb2.out p2)
                    have kp3 := fun Wq (h : Below W2.heap.size W2 Wq) => below_cell h (below_cell hb2.out p3)
                    have cB := fun Wq (h : Below W2.heap.size W2 Wq) => (beforeC p l P2 r2 A2 c2 Wq (Kd.C_below (Kd.C_below pg hb2.out) h) pl (Kd.C_below (Kd.C_below lg hb2.out) h) ll).mono (fun e w' q => And.intro q.1 (h.trans (q.2.mono h.size)))
                    have eB := enters_of Tryz.func43 (by kernel_rfl) rfl
                    obtain ⟨bb, hbb⟩ : ∃ bb, befL p l = bb := ⟨_, rfl⟩
                    rw [hbb] at cB
                    rw [hm] at cB
                    have hgood : bb = true → risingB t.f3 = risingFrom (prevAt t.f3 (kk + 1)) (t.f3.drop (kk + 1)) := fun e => by
                      rw [hK.out.2, hprev, hdrop.out, hnextp.out]
                      have e2 : decide (cmpLoan p l < 0) = true := by rw [← e, ← hbb]; rfl
                      simp [risingFrom, hok, e2]
                    have hbadf : bb = false → headR t = false := fun e => by
                      have e2 : decide (cmpLoan p l < 0) = false := by rw [← e, ← hbb]; rfl
                      have : risingB t.f3 = false := by
                        rw [hK.out.2, hprev, hdrop.out]
                        simp [risingFrom, hok, e2]
                      unfold headR
                      rw [if_pos k4.out, this]
                      rfl
                    have hp1 : decide ((kk : Int) > 0) = true := decide_eq_true (by omega)
                    have hp2 : decide ((0 : Int) < (kk : Int)) = true := decide_eq_true (by omega)
                    have hp3 : decide (0 < kk) = true := decide_eq_true hp
                    have pgA := Aside0.mk pg
                    have plA := Aside0.mk pl
                    have hppA := Aside0.mk hprev
                    clear hm
                    clear p0 p1 p2 p3 pg pl hpr hprev hp ep hbb
                    cases bb with
                    | false =>
                      have hbadv := Aside0.mk (hbadf rfl)
                      refine region_cls (fun W' => Below W2.heap.size W2 W') (by kernel_rfl) (by kernel_rfl) (below_drew1 (Below.refl _ W2)) ?_
                      go_big_quiet_want
                      refine ⟨.pointer (some ⟨wr.heap.size, 0, none⟩), fun Wq hWq => ?_, ?_⟩
                      · clear kb3 kl0 kl1 kl2 kl3 kp0 kp1 kp2 kp3 cB
                        unfold Oper.quietAt
                        go_simp
                      simp only [Act.put, List.setIfInBounds_toArray, List.set_cons_zero, List.set_cons_succ]
                      go_big_quiet_on
                      go_big_quiet_want
                      refine ⟨.string l.f0, fun Wq hWq => ?_, ?_⟩
                      · have q_kl0 := kl0 Wq hWq
                        clear kb3 kl0 kl1 kl2 kl3 kp0 kp1 kp2 kp3 cB
                        unfold Oper.quietAt
                        go_simp
                      simp only [Act.put, List.setIfInBounds_toArray, List.set_cons_zero, List.set_cons_succ]
                      go_big_quiet_on
                      go_big_quiet_want
                      refine ⟨.bool true, fun Wq hWq => ?_, ?_⟩
                      · clear kb3 kl0 kl1 kl2 kl3 kp0 kp1 kp2 kp3 cB
                        unfold Oper.quietAt
                        go_simp
                      simp only [Act.put, List.setIfInBounds_toArray, List.set_cons_zero, List.set_cons_succ]
                      go_big_quiet_on
                      go_big_quiet_want
                      refine ⟨.bool true, fun Wq hWq => ?_, ?_⟩
                      · clear kb3 kl0 kl1 kl2 kl3 kp0 kp1 kp2 kp3 cB
                        unfold Oper.quietAt
                        go_simp
                      simp only [Act.put, List.setIfInBounds_toArray, List.set_cons_zero, List.set_cons_succ]
                      go_big_quiet_on
                      go_big_quiet_want
                      refine ⟨.pointer (some ⟨wr.heap.size, 3, none⟩), fun Wq hWq => ?_, ?_⟩
                      · clear kb3 kl0 kl1 kl2 kl3 kp0 kp1 kp2 kp3 cB
                        unfold Oper.quietAt
                        go_simp
                      simp only [Act.put, List.setIfInBounds_toArray, List.set_cons_zero, List.set_cons_succ]
                      go_big_quiet_on
                      go_big_quiet_want
                      refine ⟨.bool false, fun Wq hWq => ?_, ?_⟩
                      · have q_kl3 := kl3 Wq hWq
                        clear kb3 kl0 kl1 kl2 kl3 kp0 kp1 kp2 kp3 cB
                        unfold Oper.quietAt
                        go_simp
                      simp only [Act.put, List.setIfInBounds_toArray, List.set_cons_zero, List.set_cons_succ]
                      go_big_quiet_on
                      go_big_quiet_want
                      refine ⟨.bool false, fun Wq hWq => ?_, ?_⟩
                      · clear kb3 kl0 kl1 kl2 kl3 kp0 kp1 kp2 kp3 cB
                        unfold Oper.quietAt
                        go_simp
                      simp only [Act.put, List.setIfInBounds_toArray, List.set_cons_zero, List.set_cons_succ]
                      go_big_quiet_on
                      go_big_quiet_want
                      refine ⟨.pointer (some ⟨wr.heap.size, 1, none⟩), fun Wq hWq => ?_, ?_⟩
                      · clear kb3 kl0 kl1 kl2 kl3 kp0 kp1 kp2 kp3 cB
                        unfold Oper.quietAt
                        go_simp
                      simp only [Act.put, List.setIfInBounds_toArray, List.set_cons_zero, List.set_cons_succ]
                      go_big_quiet_on
                      go_big_quiet_want
                      refine ⟨.pointer (some ⟨wr.heap.size, 1, none⟩), fun Wq hWq => ?_, ?_⟩
                      · clear kb3 kl0 kl1 kl2 kl3 kp0 kp1 kp2 kp3 cB
                        unfold Oper.quietAt
                        go_simp
                      simp only [Act.put, List.setIfInBounds_toArray, List.set_cons_zero, List.set_cons_succ]
                      go_big_quiet_on
                      go_big_quiet_want
                      refine ⟨.string l.f1.f0, fun Wq hWq => ?_, ?_⟩
                      · have q_kl1 := kl1 Wq hWq
                        clear kb3 kl0 kl1 kl2 kl3 kp0 kp1 kp2 kp3 cB
                        unfold Oper.quietAt
                        go_simp
                      simp only [Act.put, List.setIfInBounds_toArray, List.set_cons_zero, List.set_cons_succ]
                      go_big_quiet_on
                      go_big_quiet_want
                      refine ⟨.bool false, fun Wq hWq => ?_, ?_⟩
                      · clear kb3 kl0 kl1 kl2 kl3 kp0 kp1 kp2 kp3 cB
                        unfold Oper.quietAt
                        go_simp
                      simp only [Act.put, List.setIfInBounds_toArray, List.set_cons_zero, List.set_cons_succ]
                      go_big_quiet_on
                      go_big_quiet_want
                      refine ⟨.bool false, fun Wq hWq => ?_, ?_⟩
                      · clear kb3 kl0 kl1 kl2 kl3 kp0 kp1 kp2 kp3 cB
                        unfold Oper.quietAt
                        go_simp
                      simp only [Act.put, List.setIfInBounds_toArray, List.set_cons_zero, List.set_cons_succ]
                      go_big_quiet_on
                      go_big_quiet_want
                      refine ⟨.bool false, fun Wq hWq => ?_, ?_⟩
                      · clear kb3 kl0 kl1 kl2 kl3 kp0 kp1 kp2 kp3 cB
                        unfold Oper.quietAt
                        go_simp
                      simp only [Act.put, List.setIfInBounds_toArray, List.set_cons_zero, List.set_cons_succ]
                      go_big_quiet_on
                      go_big_quiet_want
                      refine ⟨.pointer (some ⟨wr.heap.size, 1, none⟩), fun Wq hWq => ?_, ?_⟩
                      · clear kb3 kl0 kl1 kl2 kl3 kp0 kp1 kp2 kp3 cB
                        unfold Oper.quietAt
                        go_simp
                      simp only [Act.put, List.setIfInBounds_toArray, List.set_cons_zero, List.set_cons_succ]
                      go_big_quiet_on
                      go_big_quiet_want
                      refine ⟨.pointer (some ⟨wr.heap.size, 2, none⟩), fun Wq hWq => ?_, ?_⟩
                      · clear kb3 kl0 kl1 kl2 kl3 kp0 kp1 kp2 kp3 cB
                        unfold Oper.quietAt
                        go_simp
                      simp only [Act.put, List.setIfInBounds_toArray, List.set_cons_zero, List.set_cons_succ]
                      go_big_quiet_on
                      go_big_quiet_want
                      refine ⟨.slice A2 l.f1.f1.length c2, fun Wq hWq => ?_, ?_⟩
                      · have q_kl2 := kl2 Wq hWq
                        clear kb3 kl0 kl1 kl2 kl3 kp0 kp1 kp2 kp3 cB
                        unfold Oper.quietAt
                        go_simp
                      simp only [Act.put, List.setIfInBounds_toArray, List.set_cons_zero, List.set_cons_succ]
                      go_big_quiet_on
                      go_big_quiet_want
                      refine ⟨.int .i64 l.f1.f1.length, fun Wq hWq => ?_, ?_⟩
                      · clear kb3 kl0 kl1 kl2 kl3 kp0 kp1 kp2 kp3 cB
                        unfold Oper.quietAt
                        go_simp
                      simp only [Act.put, List.setIfInBounds_toArray, List.set_cons_zero, List.set_cons_succ]
                      go_big_quiet_on
                      go_big_quiet_want
                      refine ⟨.bool false, fun Wq hWq => ?_, ?_⟩
                      · clear kb3 kl0 kl1 kl2 kl3 kp0 kp1 kp2 kp3 cB
                        unfold Oper.quietAt
                        go_simp
                      simp only [Act.put, List.setIfInBounds_toArray, List.set_cons_zero, List.set_cons_succ]
                      go_big_quiet_on
                      go_big_quiet_want
                      refine ⟨.bool false, fun Wq hWq => ?_, ?_⟩
                      · clear kb3 kl0 kl1 kl2 kl3 kp0 kp1 kp2 kp3 cB
                        unfold Oper.quietAt
                        go_simp
                      simp only [Act.put, List.setIfInBounds_toArray, List.set_cons_zero, List.set_cons_succ]
                      go_big_quiet_on
                      go_big_quiet_want
                      refine ⟨.bool false, fun Wq hWq => ?_, ?_⟩
                      · clear kb3 kl0 kl1 kl2 kl3 kp0 kp1 kp2 kp3 cB
                        unfold Oper.quietAt
                        go_simp
                      simp only [Act.put, List.setIfInBounds_toArray, List.set_cons_zero, List.set_cons_succ]
                      go_big_quiet_on
                      go_big_quiet_want
                      refine ⟨.bool false, fun Wq hWq => ?_, ?_⟩
                      · clear kb3 kl0 kl1 kl2 kl3 kp0 kp1 kp2 kp3 cB
                        unfold Oper.quietAt
                        go_simp
                      simp only [Act.put, List.setIfInBounds_toArray, List.set_cons_zero, List.set_cons_succ]
                      go_big_quiet_on
                      go_big_quiet_want
                      refine ⟨.int .i64 kk, fun Wq hWq => ?_, ?_⟩
                      · clear kb3 kl0 kl1 kl2 kl3 kp0 kp1 kp2 kp3 cB
                        unfold Oper.quietAt
                        go_simp
                      simp only [Act.put, List.setIfInBounds_toArray, List.set_cons_zero, List.set_cons_succ]
                      go_big_quiet_on
                      go_big_quiet_want
                      refine ⟨.bool true, fun Wq hWq => ?_, ?_⟩
                      · clear kb3 kl0 kl1 kl2 kl3 kp0 kp1 kp2 kp3 cB
                        unfold Oper.quietAt
                        go_simp
                      simp only [Act.put, List.setIfInBounds_toArray, List.set_cons_zero, List.set_cons_succ]
                      go_big_quiet_on
                      go_big_quiet_want
                      refine ⟨.bool true, fun Wq hWq => ?_, ?_⟩
                      · clear kb3 kl0 kl1 kl2 kl3 kp0 kp1 kp2 kp3 cB
                        unfold Oper.quietAt
                        go_simp
                      simp only [Act.put, List.setIfInBounds_toArray, List.set_cons_zero, List.set_cons_succ]
                      go_big_quiet_on
                      go_big_quiet_want
                      refine ⟨.pointer (some ⟨w.heap.size, 3, none⟩), fun Wq hWq => ?_, ?_⟩
                      · clear kb3 kl0 kl1 kl2 kl3 kp0 kp1 kp2 kp3 cB
                        unfold Oper.quietAt
                        go_simp
                      simp only [Act.put, List.setIfInBounds_toArray, List.set_cons_zero, List.set_cons_succ]
                      go_big_quiet_on
                      go_big_quiet_want
                      refine ⟨.slice (some ad) t.f3.length c3, fun Wq hWq => ?_, ?_⟩
                      · have q_kb3 := kb3 Wq hWq
                        clear kb3 kl0 kl1 kl2 kl3 kp0 kp1 kp2 kp3 cB
                        unfold Oper.quietAt
                        go_simp
                      simp only [Act.put, List.setIfInBounds_toArray, List.set_cons_zero, List.set_cons_succ]
                      go_big_quiet_on
                      go_big_quiet_want
                      refine ⟨.int .i64 kk, fun Wq hWq => ?_, ?_⟩
                      · clear kb3 kl0 kl1 kl2 kl3 kp0 kp1 kp2 kp3 cB
                        unfold Oper.quietAt
                        go_simp
                      simp only [Act.put, List.setIfInBounds_toArray, List.set_cons_zero, List.set_cons_succ]
                      go_big_quiet_on
                      go_big_quiet_want
                      refine ⟨.int .i64 jj, fun Wq hWq => ?_, ?_⟩
                      · clear kb3 kl0 kl1 kl2 kl3 kp0 kp1 kp2 kp3 cB
                        unfold Oper.quietAt
                        go_simp
                      simp only [Act.put, List.setIfInBounds_toArray, List.set_cons_zero, List.set_cons_succ]
                      go_big_quiet_on
                      go_big_quiet_want
                      refine ⟨.pointer (some (ad.add (jj * 4))), fun Wq hWq => ?_, ?_⟩
                      · clear kb3 kl0 kl1 kl2 kl3 kp0 kp1 kp2 kp3 cB
                        unfold Oper.quietAt
                        go_simp
                      simp only [Act.put, List.setIfInBounds_toArray, List.set_cons_zero, List.set_cons_succ]
                      go_big_quiet_on
                      go_big_quiet_want
                      refine ⟨.agg #[.string p.f0, .string p.f1.f0, .slice P2 p.f1.f1.length r2, .bool p.f2], fun Wq hWq => ?_, ?_⟩
                      · have q_kp0 := kp0 Wq hWq
                        have q_kp1 := kp1 Wq hWq
                        have q_kp2 := kp2 Wq hWq
                        have q_kp3 := kp3 Wq hWq
                        clear kb3 kl0 kl1 kl2 kl3 kp0 kp1 kp2 kp3 cB
                        unfold Oper.quietAt
                        go_simp
                      simp only [Act.put, List.setIfInBounds_toArray, List.set_cons_zero, List.set_cons_succ]
                      go_big_quiet_on
                      go_big_quiet_want
                      refine ⟨.agg #[.string l.f0, .string l.f1.f0, .slice A2 l.f1.f1.length c2, .bool false], fun Wq hWq => ?_, ?_⟩
                      · have q_kl0 := kl0 Wq hWq
                        have q_kl1 := kl1 Wq hWq
                        have q_kl2 := kl2 Wq hWq
                        have q_kl3 := kl3 Wq hWq
                        clear kb3 kl0 kl1 kl2 kl3 kp0 kp1 kp2 kp3 cB
                        unfold Oper.quietAt
                        go_simp
                      simp only [Act.put, List.setIfInBounds_toArray, List.set_cons_zero, List.set_cons_succ]
                      go_big_quiet_on
                      go_big_quiet_want
                      refine ⟨.bool false, fun Wq hWq => ?_, ?_⟩
                      · have q_cB := cB Wq hWq
                        clear kb3 kl0 kl1 kl2 kl3 kp0 kp1 kp2 kp3 cB
                        unfold Oper.quietAt
                        go_simp
                      simp only [Act.put, List.setIfInBounds_toArray, List.set_cons_zero, List.set_cons_succ]
                      go_big_quiet_on
                      go_big_quiet_want
                      refine ⟨.bool true, fun Wq hWq => ?_, ?_⟩
                      · clear kb3 kl0 kl1 kl2 kl3 kp0 kp1 kp2 kp3 cB
                        unfold Oper.quietAt
                        go_simp
                      simp only [Act.put, List.setIfInBounds_toArray, List.set_cons_zero, List.set_cons_succ]
                      go_big_quiet_on
                      go_big_quiet_want
                      refine ⟨.bool true, fun Wq hWq => ?_, ?_⟩
                      · clear kb3 kl0 kl1 kl2 kl3 kp0 kp1 kp2 kp3 cB
                        unfold Oper.quietAt
                        go_simp
                      simp only [Act.put, List.setIfInBounds_toArray, List.set_cons_zero, List.set_cons_succ]
                      go_big_quiet_on
                      go_big_quiet_want
                      refine ⟨.bool true, fun Wq hWq => ?_, ?_⟩
                      · clear kb3 kl0 kl1 kl2 kl3 kp0 kp1 kp2 kp3 cB
                        unfold Oper.quietAt
                        go_simp
                      simp only [Act.put, List.setIfInBounds_toArray, List.set_cons_zero, List.set_cons_succ]
                      go_big_quiet_on
                      refine wpQuiet_nil ?_
                      intro W3 hW3
                      clear kb3 kl0 kl1 kl2 kl3 kp0 kp1 kp2 kp3 cB
                      go_wp2
                      go_ret
                      exact ⟨by first | rfl | (rw [hT.out, hbadv.out]; rfl), ((hK.out.1.next hb2.out).next hW3).bel⟩
                    | true =>
                      have hnext := Aside0.mk (hgood rfl)
                      refine region_cls (fun W' => Below W2.heap.size W2 W') (by kernel_rfl) (by kernel_rfl) (below_drew1 (Below.refl _ W2)) ?_
                      go_big_quiet_want
                      refine ⟨.pointer (some ⟨wr.heap.size, 0, none⟩), fun Wq hWq => ?_, ?_⟩
                      · clear kb3 kl0 kl1 kl2 kl3 kp0 kp1 kp2 kp3 cB
                        unfold Oper.quietAt
                        go_simp
                      simp only [Act.put, List.setIfInBounds_toArray, List.set_cons_zero, List.set_cons_succ]
                      go_big_quiet_on
                      go_big_quiet_want
                      refine ⟨.string l.f0, fun Wq hWq => ?_, ?_⟩
                      · have q_kl0 := kl0 Wq hWq
                        clear kb3 kl0 kl1 kl2 kl3 kp0 kp1 kp2 kp3 cB
                        unfold Oper.quietAt
                        go_simp
                      simp only [Act.put, List.setIfInBounds_toArray, List.set_cons_zero, List.set_cons_succ]
                      go_big_quiet_on
                      go_big_quiet_want
                      refine ⟨.bool true, fun Wq hWq => ?_, ?_⟩
                      · clear kb3 kl0 kl1 kl2 kl3 kp0 kp1 kp2 kp3 cB
                        unfold Oper.quietAt
                        go_simp
                      simp only [Act.put, List.setIfInBounds_toArray, List.set_cons_zero, List.set_cons_succ]
                      go_big_quiet_on
                      go_big_quiet_want
                      refine ⟨.bool true, fun Wq hWq => ?_, ?_⟩
                      · clear kb3 kl0 kl1 kl2 kl3 kp0 kp1 kp2 kp3 cB
                        unfold Oper.quietAt
                        go_simp
                      simp only [Act.put, List.setIfInBounds_toArray, List.set_cons_zero, List.set_cons_succ]
                      go_big_quiet_on
                      go_big_quiet_want
                      refine ⟨.pointer (some ⟨wr.heap.size, 3, none⟩), fun Wq hWq => ?_, ?_⟩
                      · clear kb3 kl0 kl1 kl2 kl3 kp0 kp1 kp2 kp3 cB
                        unfold Oper.quietAt
                        go_simp
                      simp only [Act.put, List.setIfInBounds_toArray, List.set_cons_zero, List.set_cons_succ]
                      go_big_quiet_on
                      go_big_quiet_want
                      refine ⟨.bool false, fun Wq hWq => ?_, ?_⟩
                      · have q_kl3 := kl3 Wq hWq
                        clear kb3 kl0 kl1 kl2 kl3 kp0 kp1 kp2 kp3 cB
                        unfold Oper.quietAt
                        go_simp
                      simp only [Act.put, List.setIfInBounds_toArray, List.set_cons_zero, List.set_cons_succ]
                      go_big_quiet_on
                      go_big_quiet_want
                      refine ⟨.bool false, fun Wq hWq => ?_, ?_⟩
                      · clear kb3 kl0 kl1 kl2 kl3 kp0 kp1 kp2 kp3 cB
                        unfold Oper.quietAt
                        go_simp
                      simp only [Act.put, List.setIfInBounds_toArray, List.set_cons_zero, List.set_cons_succ]
                      go_big_quiet_on
                      go_big_quiet_want
                      refine ⟨.pointer (some ⟨wr.heap.size, 1, none⟩), fun Wq hWq => ?_, ?_⟩
                      · clear kb3 kl0 kl1 kl2 kl3 kp0 kp1 kp2 kp3 cB
                        unfold Oper.quietAt
                        go_simp
                      simp only [Act.put, List.setIfInBounds_toArray, List.set_cons_zero, List.set_cons_succ]
                      go_big_quiet_on
                      go_big_quiet_want
                      refine ⟨.pointer (some ⟨wr.heap.size, 1, none⟩), fun Wq hWq => ?_, ?_⟩
                      · clear kb3 kl0 kl1 kl2 kl3 kp0 kp1 kp2 kp3 cB
                        unfold Oper.quietAt
                        go_simp
                      simp only [Act.put, List.setIfInBounds_toArray, List.set_cons_zero, List.set_cons_succ]
                      go_big_quiet_on
                      go_big_quiet_want
                      refine ⟨.string l.f1.f0, fun Wq hWq => ?_, ?_⟩
                      · have q_kl1 := kl1 Wq hWq
                        clear kb3 kl0 kl1 kl2 kl3 kp0 kp1 kp2 kp3 cB
                        unfold Oper.quietAt
                        go_simp
                      simp only [Act.put, List.setIfInBounds_toArray, List.set_cons_zero, List.set_cons_succ]
                      go_big_quiet_on
                      go_big_quiet_want
                      refine ⟨.bool false, fun Wq hWq => ?_, ?_⟩
                      · clear kb3 kl0 kl1 kl2 kl3 kp0 kp1 kp2 kp3 cB
                        unfold Oper.quietAt
                        go_simp
                      simp only [Act.put, List.setIfInBounds_toArray, List.set_cons_zero, List.set_cons_succ]
                      go_big_quiet_on
                      go_big_quiet_want
                      refine ⟨.bool false, fun Wq hWq => ?_, ?_⟩
                      · clear kb3 kl0 kl1 kl2 kl3 kp0 kp1 kp2 kp3 cB
                        unfold Oper.quietAt
                        go_simp
                      simp only [Act.put, List.setIfInBounds_toArray, List.set_cons_zero, List.set_cons_succ]
                      go_big_quiet_on
                      go_big_quiet_want
                      refine ⟨.bool false, fun Wq hWq => ?_, ?_⟩
                      · clear kb3 kl0 kl1 kl2 kl3 kp0 kp1 kp2 kp3 cB
                        unfold Oper.quietAt
                        go_simp
                      simp only [Act.put, List.setIfInBounds_toArray, List.set_cons_zero, List.set_cons_succ]
                      go_big_quiet_on
                      go_big_quiet_want
                      refine ⟨.pointer (some ⟨wr.heap.size, 1, none⟩), fun Wq hWq => ?_, ?_⟩
                      · clear kb3 kl0 kl1 kl2 kl3 kp0 kp1 kp2 kp3 cB
                        unfold Oper.quietAt
                        go_simp
                      simp only [Act.put, List.setIfInBounds_toArray, List.set_cons_zero, List.set_cons_succ]
                      go_big_quiet_on
                      go_big_quiet_want
                      refine ⟨.pointer (some ⟨wr.heap.size, 2, none⟩), fun Wq hWq => ?_, ?_⟩
                      · clear kb3 kl0 kl1 kl2 kl3 kp0 kp1 kp2 kp3 cB
                        unfold Oper.quietAt
                        go_simp
                      simp only [Act.put, List.setIfInBounds_toArray, List.set_cons_zero, List.set_cons_succ]
                      go_big_quiet_on
                      go_big_quiet_want
                      refine ⟨.slice A2 l.f1.f1.length c2, fun Wq hWq => ?_, ?_⟩
                      · have q_kl2 := kl2 Wq hWq
                        clear kb3 kl0 kl1 kl2 kl3 kp0 kp1 kp2 kp3 cB
                        unfold Oper.quietAt
                        go_simp
                      simp only [Act.put, List.setIfInBounds_toArray, List.set_cons_zero, List.set_cons_succ]
                      go_big_quiet_on
                      go_big_quiet_want
                      refine ⟨.int .i64 l.f1.f1.length, fun Wq hWq => ?_, ?_⟩
                      · clear kb3 kl0 kl1 kl2 kl3 kp0 kp1 kp2 kp3 cB
                        unfold Oper.quietAt
                        go_simp
                      simp only [Act.put, List.setIfInBounds_toArray, List.set_cons_zero, List.set_cons_succ]
                      go_big_quiet_on
                      go_big_quiet_want
                      refine ⟨.bool false, fun Wq hWq => ?_, ?_⟩
                      · clear kb3 kl0 kl1 kl2 kl3 kp0 kp1 kp2 kp3 cB
                        unfold Oper.quietAt
                        go_simp
                      simp only [Act.put, List.setIfInBounds_toArray, List.set_cons_zero, List.set_cons_succ]
                      go_big_quiet_on
                      go_big_quiet_want
                      refine ⟨.bool false, fun Wq hWq => ?_, ?_⟩
                      · clear kb3 kl0 kl1 kl2 kl3 kp0 kp1 kp2 kp3 cB
                        unfold Oper.quietAt
                        go_simp
                      simp only [Act.put, List.setIfInBounds_toArray, List.set_cons_zero, List.set_cons_succ]
                      go_big_quiet_on
                      go_big_quiet_want
                      refine ⟨.bool false, fun Wq hWq => ?_, ?_⟩
                      · clear kb3 kl0 kl1 kl2 kl3 kp0 kp1 kp2 kp3 cB
                        unfold Oper.quietAt
                        go_simp
                      simp only [Act.put, List.setIfInBounds_toArray, List.set_cons_zero, List.set_cons_succ]
                      go_big_quiet_on
                      go_big_quiet_want
                      refine ⟨.bool false, fun Wq hWq => ?_, ?_⟩
                      · clear kb3 kl0 kl1 kl2 kl3 kp0 kp1 kp2 kp3 cB
                        unfold Oper.quietAt
                        go_simp
                      simp only [Act.put, List.setIfInBounds_toArray, List.set_cons_zero, List.set_cons_succ]
                      go_big_quiet_on
                      go_big_quiet_want
                      refine ⟨.int .i64 kk, fun Wq hWq => ?_, ?_⟩
                      · clear kb3 kl0 kl1 kl2 kl3 kp0 kp1 kp2 kp3 cB
                        unfold Oper.quietAt
                        go_simp
                      simp only [Act.put, List.setIfInBounds_toArray, List.set_cons_zero, List.set_cons_succ]
                      go_big_quiet_on
                      go_big_quiet_want
                      refine ⟨.bool true, fun Wq hWq => ?_, ?_⟩
                      · clear kb3 kl0 kl1 kl2 kl3 kp0 kp1 kp2 kp3 cB
                        unfold Oper.quietAt
                        go_simp
                      simp only [Act.put, List.setIfInBounds_toArray, List.set_cons_zero, List.set_cons_succ]
                      go_big_quiet_on
                      go_big_quiet_want
                      refine ⟨.bool true, fun Wq hWq => ?_, ?_⟩
                      · clear kb3 kl0 kl1 kl2 kl3 kp0 kp1 kp2 kp3 cB
                        unfold Oper.quietAt
                        go_simp
                      simp only [Act.put, List.setIfInBounds_toArray, List.set_cons_zero, List.set_cons_succ]
                      go_big_quiet_on
                      go_big_quiet_want
                      refine ⟨.pointer (some ⟨w.heap.size, 3, none⟩), fun Wq hWq => ?_, ?_⟩
                      · clear kb3 kl0 kl1 kl2 kl3 kp0 kp1 kp2 kp3 cB
                        unfold Oper.quietAt
                        go_simp
                      simp only [Act.put, List.setIfInBounds_toArray, List.set_cons_zero, List.set_cons_succ]
                      go_big_quiet_on
                      go_big_quiet_want
                      refine ⟨.slice (some ad) t.f3.length c3, fun Wq hWq => ?_, ?_⟩
                      · have q_kb3 := kb3 Wq hWq
                        clear kb3 kl0 kl1 kl2 kl3 kp0 kp1 kp2 kp3 cB
                        unfold Oper.quietAt
                        go_simp
                      simp only [Act.put, List.setIfInBounds_toArray, List.set_cons_zero, List.set_cons_succ]
                      go_big_quiet_on
                      go_big_quiet_want
                      refine ⟨.int .i64 kk, fun Wq hWq => ?_, ?_⟩
                      · clear kb3 kl0 kl1 kl2 kl3 kp0 kp1 kp2 kp3 cB
                        unfold Oper.quietAt
                        go_simp
                      simp only [Act.put, List.setIfInBounds_toArray, List.set_cons_zero, List.set_cons_succ]
                      go_big_quiet_on
                      go_big_quiet_want
                      refine ⟨.int .i64 jj, fun Wq hWq => ?_, ?_⟩
                      · clear kb3 kl0 kl1 kl2 kl3 kp0 kp1 kp2 kp3 cB
                        unfold Oper.quietAt
                        go_simp
                      simp only [Act.put, List.setIfInBounds_toArray, List.set_cons_zero, List.set_cons_succ]
                      go_big_quiet_on
                      go_big_quiet_want
                      refine ⟨.pointer (some (ad.add (jj * 4))), fun Wq hWq => ?_, ?_⟩
                      · clear kb3 kl0 kl1 kl2 kl3 kp0 kp1 kp2 kp3 cB
                        unfold Oper.quietAt
                        go_simp
                      simp only [Act.put, List.setIfInBounds_toArray, List.set_cons_zero, List.set_cons_succ]
                      go_big_quiet_on
                      go_big_quiet_want
                      refine ⟨.agg #[.string p.f0, .string p.f1.f0, .slice P2 p.f1.f1.length r2, .bool p.f2], fun Wq hWq => ?_, ?_⟩
                      · have q_kp0 := kp0 Wq hWq
                        have q_kp1 := kp1 Wq hWq
                        have q_kp2 := kp2 Wq hWq
                        have q_kp3 := kp3 Wq hWq
                        clear kb3 kl0 kl1 kl2 kl3 kp0 kp1 kp2 kp3 cB
                        unfold Oper.quietAt
                        go_simp
                      simp only [Act.put, List.setIfInBounds_toArray, List.set_cons_zero, List.set_cons_succ]
                      go_big_quiet_on
                      go_big_quiet_want
                      refine ⟨.agg #[.string l.f0, .string l.f1.f0, .slice A2 l.f1.f1.length c2, .bool false], fun Wq hWq => ?_, ?_⟩
                      · have q_kl0 := kl0 Wq hWq
                        have q_kl1 := kl1 Wq hWq
                        have q_kl2 := kl2 Wq hWq
                        have q_kl3 := kl3 Wq hWq
                        clear kb3 kl0 kl1 kl2 kl3 kp0 kp1 kp2 kp3 cB
                        unfold Oper.quietAt
                        go_simp
                      simp only [Act.put, List.setIfInBounds_toArray, List.set_cons_zero, List.set_cons_succ]
                      go_big_quiet_on
                      go_big_quiet_want
                      refine ⟨.bool true, fun Wq hWq => ?_, ?_⟩
                      · have q_cB := cB Wq hWq
                        clear kb3 kl0 kl1 kl2 kl3 kp0 kp1 kp2 kp3 cB
                        unfold Oper.quietAt
                        go_simp
                      simp only [Act.put, List.setIfInBounds_toArray, List.set_cons_zero, List.set_cons_succ]
                      go_big_quiet_on
                      go_big_quiet_want
                      refine ⟨.bool false, fun Wq hWq => ?_, ?_⟩
                      · clear kb3 kl0 kl1 kl2 kl3 kp0 kp1 kp2 kp3 cB
                        unfold Oper.quietAt
                        go_simp
                      simp only [Act.put, List.setIfInBounds_toArray, List.set_cons_zero, List.set_cons_succ]
                      go_big_quiet_on
                      go_big_quiet_want
                      refine ⟨.bool false, fun Wq hWq => ?_, ?_⟩
                      · clear kb3 kl0 kl1 kl2 kl3 kp0 kp1 kp2 kp3 cB
                        unfold Oper.quietAt
                        go_simp
                      simp only [Act.put, List.setIfInBounds_toArray, List.set_cons_zero, List.set_cons_succ]
                      go_big_quiet_on
                      go_big_quiet_want
                      refine ⟨.bool false, fun Wq hWq => ?_, ?_⟩
                      · clear kb3 kl0 kl1 kl2 kl3 kp0 kp1 kp2 kp3 cB
                        unfold Oper.quietAt
                        go_simp
                      simp only [Act.put, List.setIfInBounds_toArray, List.set_cons_zero, List.set_cons_succ]
                      go_big_quiet_on
                      refine wpQuiet_nil ?_
                      intro W3 hW3
                      clear kb3 kl0 kl1 kl2 kl3 kp0 kp1 kp2 kp3 cB
                      have hbig := hmax3.out
                      go_wp2
                      go_roundg (t.f3.length - (kk + 1))
                      case measure => omega
                      case rel => exact ⟨kk + 1, by omega, by omega, by go_num, (hK.out.1.next hb2.out).next hW3, hnext.out⟩
                  · obtain rfl : kk = 0 := by omega
                    have hnext : risingB t.f3 = risingFrom (prevAt t.f3 (0 + 1)) (t.f3.drop (0 + 1)) := by
                      have e0 : prevAt t.f3 0 = none := rfl
                      rw [hK.out.2, hdrop.out, hnextp.out, e0]
                      simp [risingFrom, hok]
                    have hnext := Aside0.mk hnext
                    have hp1 : decide (((0 : Nat) : Int) > 0) = false := rfl
                    refine region_cls (fun W' => Below W2.heap.size W2 W') (by kernel_rfl) (by kernel_rfl) (below_drew1 (Below.refl _ W2)) ?_
                    go_big_quiet_want
                    refine ⟨.pointer (some ⟨wr.heap.size, 0, none⟩), fun Wq hWq => ?_, ?_⟩
                    · clear kb3 kl0 kl1 kl2 kl3
                      unfold Oper.quietAt
                      go_simp
                    simp only [Act.put, List.setIfInBounds_toArray, List.set_cons_zero, List.set_cons_succ]
                    go_big_quiet_on
                    go_big_quiet_want
                    refine ⟨.string l.f0, fun Wq hWq => ?_, ?_⟩
                    · have q_kl0 := kl0 Wq hWq
                      clear kb3 kl0 kl1 kl2 kl3
                      unfold Oper.quietAt
                      go_simp
                    simp only [Act.put, List.setIfInBounds_toArray, List.set_cons_zero, List.set_cons_succ]
                    go_big_quiet_on
                    go_big_quiet_want
                    refine ⟨.bool true, fun Wq hWq => ?_, ?_⟩
                    · clear kb3 kl0 kl1 kl2 kl3
                      unfold Oper.quietAt
                      go_simp
                    simp only [Act.put, List.setIfInBounds_toArray, List.set_cons_zero, List.set_cons_succ]
                    go_big_quiet_on
                    go_big_quiet_want
                    refine ⟨.bool true, fun Wq hWq => ?_, ?_⟩
                    · clear kb3 kl0 kl1 kl2 kl3
                      unfold Oper.quietAt
                      go_simp
                    simp only [Act.put, List.setIfInBounds_toArray, List.set_cons_zero, List.set_cons_succ]
                    go_big_quiet_on
                    go_big_quiet_want
                    refine ⟨.pointer (some ⟨wr.heap.size, 3, none⟩), fun Wq hWq => ?_, ?_⟩
                    · clear kb3 kl0 kl1 kl2 kl3
                      unfold Oper.quietAt
                      go_simp
                    simp only [Act.put, List.setIfInBounds_toArray, List.set_cons_zero, List.set_cons_succ]
                    go_big_quiet_on
                    go_big_quiet_want
                    refine ⟨.bool false, fun Wq hWq => ?_, ?_⟩
                    · have q_kl3 := kl3 Wq hWq
                      clear kb3 kl0 kl1 kl2 kl3
                      unfold Oper.quietAt
                      go_simp
                    simp only [Act.put, List.setIfInBounds_toArray, List.set_cons_zero, List.set_cons_succ]
                    go_big_quiet_on
                    go_big_quiet_want
                    refine ⟨.bool false, fun Wq hWq => ?_, ?_⟩
                    · clear kb3 kl0 kl1 kl2 kl3
                      unfold Oper.quietAt
                      go_simp
                    simp only [Act.put, List.setIfInBounds_toArray, List.set_cons_zero, List.set_cons_succ]
                    go_big_quiet_on
                    go_big_quiet_want
                    refine ⟨.pointer (some ⟨wr.heap.size, 1, none⟩), fun Wq hWq => ?_, ?_⟩
                    · clear kb3 kl0 kl1 kl2 kl3
                      unfold Oper.quietAt
                      go_simp
                    simp only [Act.put, List.setIfInBounds_toArray, List.set_cons_zero, List.set_cons_succ]
                    go_big_quiet_on
                    go_big_quiet_want
                    refine ⟨.pointer (some ⟨wr.heap.size, 1, none⟩), fun Wq hWq => ?_, ?_⟩
                    · clear kb3 kl0 kl1 kl2 kl3
                      unfold Oper.quietAt
                      go_simp
                    simp only [Act.put, List.setIfInBounds_toArray, List.set_cons_zero, List.set_cons_succ]
                    go_big_quiet_on
                    go_big_quiet_want
                    refine ⟨.string l.f1.f0, fun Wq hWq => ?_, ?_⟩
                    · have q_kl1 := kl1 Wq hWq
                      clear kb3 kl0 kl1 kl2 kl3
                      unfold Oper.quietAt
                      go_simp
                    simp only [Act.put, List.setIfInBounds_toArray, List.set_cons_zero, List.set_cons_succ]
                    go_big_quiet_on
                    go_big_quiet_want
                    refine ⟨.bool false, fun Wq hWq => ?_, ?_⟩
                    · clear kb3 kl0 kl1 kl2 kl3
                      unfold Oper.quietAt
                      go_simp
                    simp only [Act.put, List.setIfInBounds_toArray, List.set_cons_zero, List.set_cons_succ]
                    go_big_quiet_on
                    go_big_quiet_want
                    refine ⟨.bool false, fun Wq hWq => ?_, ?_⟩
                    · clear kb3 kl0 kl1 kl2 kl3
                      unfold Oper.quietAt
                      go_simp
                    simp only [Act.put, List.setIfInBounds_toArray, List.set_cons_zero, List.set_cons_succ]
                    go_big_quiet_on
                    go_big_quiet_want
                    refine ⟨.bool false, fun Wq hWq => ?_, ?_⟩
                    · clear kb3 kl0 kl1 kl2 kl3
                      unfold Oper.quietAt
                      go_simp
                    simp only [Act.put, List.setIfInBounds_toArray, List.set_cons_zero, List.set_cons_succ]
                    go_big_quiet_on
                    go_big_quiet_want
                    refine ⟨.pointer (some ⟨wr.heap.size, 1, none⟩), fun Wq hWq => ?_, ?_⟩
                    · clear kb3 kl0 kl1 kl2 kl3
                      unfold Oper.quietAt
                      go_simp
                    simp only [Act.put, List.setIfInBounds_toArray, List.set_cons_zero, List.set_cons_succ]
                    go_big_quiet_on
                    go_big_quiet_want
                    refine ⟨.pointer (some ⟨wr.heap.size, 2, none⟩), fun Wq hWq => ?_, ?_⟩
                    · clear kb3 kl0 kl1 kl2 kl3
                      unfold Oper.quietAt
                      go_simp
                    simp only [Act.put, List.setIfInBounds_toArray, List.set_cons_zero, List.set_cons_succ]
                    go_big_quiet_on
                    go_big_quiet_want
                    refine ⟨.slice A2 l.f1.f1.length c2, fun Wq hWq => ?_, ?_⟩
                    · have q_kl2 := kl2 Wq hWq
                      clear kb3 kl0 kl1 kl2 kl3
                      unfold Oper.quietAt
                      go_simp
                    simp only [Act.put, List.setIfInBounds_toArray, List.set_cons_zero, List.set_cons_succ]
                    go_big_quiet_on
                    go_big_quiet_want
                    refine ⟨.int .i64 l.f1.f1.length, fun Wq hWq => ?_, ?_⟩
                    · clear kb3 kl0 kl1 kl2 kl3
                      unfold Oper.quietAt
                      go_simp
                    simp only [Act.put, List.setIfInBounds_toArray, List.set_cons_zero, List.set_cons_succ]
                    go_big_quiet_on
                    go_big_quiet_want
                    refine ⟨.bool false, fun Wq hWq => ?_, ?_⟩
                    · clear kb3 kl0 kl1 kl2 kl3
                      unfold Oper.quietAt
                      go_simp
                    simp only [Act.put, List.setIfInBounds_toArray, List.set_cons_zero, List.set_cons_succ]
                    go_big_quiet_on
                    go_big_quiet_want
                    refine ⟨.bool false, fun Wq hWq => ?_, ?_⟩
                    · clear kb3 kl0 kl1 kl2 kl3
                      unfold Oper.quietAt
                      go_simp
                    simp only [Act.put, List.setIfInBounds_toArray, List.set_cons_zero, List.set_cons_succ]
                    go_big_quiet_on
                    go_big_quiet_want
                    refine ⟨.bool false, fun Wq hWq => ?_, ?_⟩
                    · clear kb3 kl0 kl1 kl2 kl3
                      unfold Oper.quietAt
                      go_simp
                    simp only [Act.put, List.setIfInBounds_toArray, List.set_cons_zero, List.set_cons_succ]
                    go_big_quiet_on
                    go_big_quiet_want
                    refine ⟨.bool false, fun Wq hWq => ?_, ?_⟩
                    · clear kb3 kl0 kl1 kl2 kl3
                      unfold Oper.quietAt
                      go_simp
                    simp only [Act.put, List.setIfInBounds_toArray, List.set_cons_zero, List.set_cons_succ]
                    go_big_quiet_on
                    go_big_quiet_want
                    refine ⟨.int .i64 0, fun Wq hWq => ?_, ?_⟩
                    · clear kb3 kl0 kl1 kl2 kl3
                      unfold Oper.quietAt
                      go_simp
                    simp only [Act.put, List.setIfInBounds_toArray, List.set_cons_zero, List.set_cons_succ]
                    go_big_quiet_on
                    go_big_quiet_want
                    refine ⟨.bool false, fun Wq hWq => ?_, ?_⟩
                    · clear kb3 kl0 kl1 kl2 kl3
                      unfold Oper.quietAt
                      go_simp
                    simp only [Act.put, List.setIfInBounds_toArray, List.set_cons_zero, List.set_cons_succ]
                    go_big_quiet_on
                    go_big_quiet_want
                    refine ⟨.bool false, fun Wq hWq => ?_, ?_⟩
                    · clear kb3 kl0 kl1 kl2 kl3
                      unfold Oper.quietAt
                      go_simp
                    simp only [Act.put, List.setIfInBounds_toArray, List.set_cons_zero, List.set_cons_succ]
                    go_big_quiet_on
                    go_big_quiet_skip
                    go_big_quiet_skip
                    go_big_quiet_skip
                    go_big_quiet_skip
                    go_big_quiet_skip
                    go_big_quiet_skip
                    go_big_quiet_skip
                    go_big_quiet_skip
                    go_big_quiet_skip
                    go_big_quiet_want
                    refine ⟨.bool false, fun Wq hWq => ?_, ?_⟩
                    · clear kb3 kl0 kl1 kl2 kl3
                      unfold Oper.quietAt
                      go_simp
                    simp only [Act.put, List.setIfInBounds_toArray, List.set_cons_zero, List.set_cons_succ]
                    go_big_quiet_on
                    go_big_quiet_want
                    refine ⟨.bool false, fun Wq hWq => ?_, ?_⟩
                    · clear kb3 kl0 kl1 kl2 kl3
                      unfold Oper.quietAt
                      go_simp
                    simp only [Act.put, List.setIfInBounds_toArray, List.set_cons_zero, List.set_cons_succ]
                    go_big_quiet_on
                    refine wpQuiet_nil ?_
                    intro W3 hW3
                    clear kb3 kl0 kl1 kl2 kl3
                    have hbig := hmax3.out
                    go_wp2
                    go_roundg (t.f3.length - (0 + 1))
                    case measure => omega
                    case rel => exact ⟨0 + 1, by omega, by omega, by go_num, (hK.out.1.next hb2.out).next hW3, hnext.out⟩
                · have hok : loanOK l = false := by simp [loanOK, h0, hv, hn]
                  have s1 : decide ((l.f1.f1.length : Int) > 0) = true := decide_eq_true (by omega)
                  have s2 : decide ((0 : Int) < (l.f1.f1.length : Int)) = true := decide_eq_true (by omega)
                  have s3 : decide (0 < l.f1.f1.length) = true := decide_eq_true (by omega)
                  have hbadv : headR t = false := by
                    have : risingB t.f3 = false := by
                      rw [hK.out.2, hdrop.out]
                      cases prevAt t.f3 kk <;> simp [risingFrom, hok]
                    unfold headR
                    rw [if_pos k4.out, this]
                    rfl
                  have hbadv := Aside0.mk hbadv
                  rw [hm] at kl3
                  clear hok h0 hv hn hm
                  refine region_cls (fun W' => Below W2.heap.size W2 W') (by kernel_rfl) (by kernel_rfl) (below_drew1 (Below.refl _ W2)) ?_
                  go_big_quiet_want
                  refine ⟨.pointer (some ⟨wr.heap.size, 0, none⟩), fun Wq hWq => ?_, ?_⟩
                  · clear kb3 kl0 kl1 kl2 kl3
                    unfold Oper.quietAt
                    go_simp
                  simp only [Act.put, List.setIfInBounds_toArray, List.set_cons_zero, List.set_cons_succ]
                  go_big_quiet_on
                  go_big_quiet_want
                  refine ⟨.string l.f0, fun Wq hWq => ?_, ?_⟩
                  · have q_kl0 := kl0 Wq hWq
                    clear kb3 kl0 kl1 kl2 kl3
                    unfold Oper.quietAt
                    go_simp
                  simp only [Act.put, List.setIfInBounds_toArray, List.set_cons_zero, List.set_cons_succ]
                  go_big_quiet_on
                  go_big_quiet_want
                  refine ⟨.bool true, fun Wq hWq => ?_, ?_⟩
                  · clear kb3 kl0 kl1 kl2 kl3
                    unfold Oper.quietAt
                    go_simp
                  simp only [Act.put, List.setIfInBounds_toArray, List.set_cons_zero, List.set_cons_succ]
                  go_big_quiet_on
                  go_big_quiet_want
                  refine ⟨.bool true, fun Wq hWq => ?_, ?_⟩
                  · clear kb3 kl0 kl1 kl2 kl3
                    unfold Oper.quietAt
                    go_simp
                  simp only [Act.put, List.setIfInBounds_toArray, List.set_cons_zero, List.set_cons_succ]
                  go_big_quiet_on
                  go_big_quiet_want
                  refine ⟨.pointer (some ⟨wr.heap.size, 3, none⟩), fun Wq hWq => ?_, ?_⟩
                  · clear kb3 kl0 kl1 kl2 kl3
                    unfold Oper.quietAt
                    go_simp
                  simp only [Act.put, List.setIfInBounds_toArray, List.set_cons_zero, List.set_cons_succ]
                  go_big_quiet_on
                  go_big_quiet_want
                  refine ⟨.bool false, fun Wq hWq => ?_, ?_⟩
                  · have q_kl3 := kl3 Wq hWq
                    clear kb3 kl0 kl1 kl2 kl3
                    unfold Oper.quietAt
                    go_simp
                  simp only [Act.put, List.setIfInBounds_toArray, List.set_cons_zero, List.set_cons_succ]
                  go_big_quiet_on
                  go_big_quiet_want
                  refine ⟨.bool false, fun Wq hWq => ?_, ?_⟩
                  · clear kb3 kl0 kl1 kl2 kl3
                    unfold Oper.quietAt
                    go_simp
                  simp only [Act.put, List.setIfInBounds_toArray, List.set_cons_zero, List.set_cons_succ]
                  go_big_quiet_on
                  go_big_quiet_want
                  refine ⟨.pointer (some ⟨wr.heap.size, 1, none⟩), fun Wq hWq => ?_, ?_⟩
                  · clear kb3 kl0 kl1 kl2 kl3
                    unfold Oper.quietAt
                    go_simp
                  simp only [Act.put, List.setIfInBounds_toArray, List.set_cons_zero, List.set_cons_succ]
                  go_big_quiet_on
                  go_big_quiet_want
                  refine ⟨.pointer (some ⟨wr.heap.size, 1, none⟩), fun Wq hWq => ?_, ?_⟩
                  · clear kb3 kl0 kl1 kl2 kl3
                    unfold Oper.quietAt
                    go_simp
                  simp only [Act.put, List.setIfInBounds_toArray, List.set_cons_zero, List.set_cons_succ]
                  go_big_quiet_on
                  go_big_quiet_want
                  refine ⟨.string l.f1.f0, fun Wq hWq => ?_, ?_⟩
                  · have q_kl1 := kl1 Wq hWq
                    clear kb3 kl0 kl1 kl2 kl3
                    unfold Oper.quietAt
                    go_simp
                  simp only [Act.put, List.setIfInBounds_toArray, List.set_cons_zero, List.set_cons_succ]
                  go_big_quiet_on
                  go_big_quiet_want
                  refine ⟨.bool false, fun Wq hWq => ?_, ?_⟩
                  · clear kb3 kl0 kl1 kl2 kl3
                    unfold Oper.quietAt
                    go_simp
                  simp only [Act.put, List.setIfInBounds_toArray, List.set_cons_zero, List.set_cons_succ]
                  go_big_quiet_on
                  go_big_quiet_want
                  refine ⟨.bool false, fun Wq hWq => ?_, ?_⟩
                  · clear kb3 kl0 kl1 kl2 kl3
                    unfold Oper.quietAt
                    go_simp
                  simp only [Act.put, List.setIfInBounds_toArray, List.set_cons_zero, List.set_cons_succ]
                  go_big_quiet_on
                  go_big_quiet_want
                  refine ⟨.bool false, fun Wq hWq => ?_, ?_⟩
                  · clear kb3 kl0 kl1 kl2 kl3
                    unfold Oper.quietAt
                    go_simp
                  simp only [Act.put, List.setIfInBounds_toArray, List.set_cons_zero, List.set_cons_succ]
                  go_big_quiet_on
                  go_big_quiet_want
                  refine ⟨.pointer (some ⟨wr.heap.size, 1, none⟩), fun Wq hWq => ?_, ?_⟩
                  · clear kb3 kl0 kl1 kl2 kl3
                    unfold Oper.quietAt
                    go_simp
                  simp only [Act.put, List.setIfInBounds_toArray, List.set_cons_zero, List.set_cons_succ]
                  go_big_quiet_on
                  go_big_quiet_want
                  refine ⟨.pointer (some ⟨wr.heap.size, 2, none⟩), fun Wq hWq => ?_, ?_⟩
                  · clear kb3 kl0 kl1 kl2 kl3
                    unfold Oper.quietAt
                    go_simp
                  simp only [Act.put, List.setIfInBounds_toArray, List.set_cons_zero, List.set_cons_succ]
                  go_big_quiet_on
                  go_big_quiet_want
                  refine ⟨.slice A2 l.f1.f1.length c2, fun Wq hWq => ?_, ?_⟩
                  · have q_kl2 := kl2 Wq hWq
                    clear kb3 kl0 kl1 kl2 kl3
                    unfold Oper.quietAt
                    go_simp
                  simp only [Act.put, List.setIfInBounds_toArray, List.set_cons_zero, List.set_cons_succ]
                  go_big_quiet_on
                  go_big_quiet_want
                  refine ⟨.int .i64 l.f1.f1.length, fun Wq hWq => ?_, ?_⟩
                  · clear kb3 kl0 kl1 kl2 kl3
                    unfold Oper.quietAt
                    go_simp
                  simp only [Act.put, List.setIfInBounds_toArray, List.set_cons_zero, List.set_cons_succ]
                  go_big_quiet_on
                  go_big_quiet_want
                  refine ⟨.bool true, fun Wq hWq => ?_, ?_⟩
                  · clear kb3 kl0 kl1 kl2 kl3
                    unfold Oper.quietAt
                    go_simp
                  simp only [Act.put, List.setIfInBounds_toArray, List.set_cons_zero, List.set_cons_succ]
                  go_big_quiet_on
                  go_big_quiet_want
                  refine ⟨.bool true, fun Wq hWq => ?_, ?_⟩
                  · clear kb3 kl0 kl1 kl2 kl3
                    unfold Oper.quietAt
                    go_simp
                  simp only [Act.put, List.setIfInBounds_toArray, List.set_cons_zero, List.set_cons_succ]
                  go_big_quiet_on
                  go_big_quiet_want
                  refine ⟨.bool true, fun Wq hWq => ?_, ?_⟩
                  · clear kb3 kl0 kl1 kl2 kl3
                    unfold Oper.quietAt
                    go_simp
                  simp only [Act.put, List.setIfInBounds_toArray, List.set_cons_zero, List.set_cons_succ]
                  go_big_quiet_on
                  go_big_quiet_want
                  refine ⟨.bool true, fun Wq hWq => ?_, ?_⟩
                  · clear kb3 kl0 kl1 kl2 kl3
                    unfold Oper.quietAt
                    go_simp
                  simp only [Act.put, List.setIfInBounds_toArray, List.set_cons_zero, List.set_cons_succ]
                  go_big_quiet_on
                  go_big_quiet_skip
                  go_big_quiet_skip
                  go_big_quiet_skip
                  go_big_quiet_skip
                  go_big_quiet_skip
                  go_big_quiet_skip
                  go_big_quiet_skip
                  go_big_quiet_skip
                  go_big_quiet_skip
                  go_big_quiet_skip
                  go_big_quiet_skip
                  go_big_quiet_skip
                  go_big_quiet_skip
                  go_big_quiet_want
                  refine ⟨.bool true, fun Wq hWq => ?_, ?_⟩
                  · clear kb3 kl0 kl1 kl2 kl3
                    unfold Oper.quietAt
                    go_simp
                  simp only [Act.put, List.setIfInBounds_toArray, List.set_cons_zero, List.set_cons_succ]
                  go_big_quiet_on
                  refine wpQuiet_nil ?_
                  intro W3 hW3
                  clear kb3 kl0 kl1 kl2 kl3
                  go_wp2
                  go_ret
                  exact ⟨by first | rfl | (rw [hT.out, hbadv.out]; rfl), ((hK.out.1.next hb2.out).next hW3).bel⟩
              · have n1 : (l.f1.f0.toList == ([] : List UInt8)) = false := by simpa using hv
                have n1' : (l.f1.f0.toList != ([] : List UInt8)) = true := by simpa using hv
                have hok : loanOK l = false := by simp [loanOK, h0, hv]
                have hbadv : headR t = false := by
                  have : risingB t.f3 = false := by
                    rw [hK.out.2, hdrop.out]
                    cases prevAt t.f3 kk <;> simp [risingFrom, hok]
                  unfold headR
                  rw [if_pos k4.out, this]
                  rfl
                have hbadv := Aside0.mk hbadv
                rw [hm] at kl3
                clear hok h0 hv hm
                refine region_cls (fun W' => Below W2.heap.size W2 W') (by kernel_rfl) (by kernel_rfl) (below_drew1 (Below.refl _ W2)) ?_
                go_big_quiet_want
                refine ⟨.pointer (some ⟨wr.heap.size, 0, none⟩), fun Wq hWq => ?_, ?_⟩
                · clear kb3 kl0 kl1 kl2 kl3
                  unfold Oper.quietAt
                  go_simp
                simp only [Act.put, List.setIfInBounds_toArray, List.set_cons_zero, List.set_cons_succ]
                go_big_quiet_on
                go_big_quiet_want
                refine ⟨.string l.f0, fun Wq hWq => ?_, ?_⟩
                · have q_kl0 := kl0 Wq hWq
                  clear kb3 kl0 kl1 kl2 kl3
                  unfold Oper.quietAt
                  go_simp
                simp only [Act.put, List.setIfInBounds_toArray, List.set_cons_zero, List.set_cons_succ]
                go_big_quiet_on
                go_big_quiet_want
                refine ⟨.bool true, fun Wq hWq => ?_, ?_⟩
                · clear kb3 kl0 kl1 kl2 kl3
                  unfold Oper.quietAt
                  go_simp
                simp only [Act.put, List.setIfInBounds_toArray, List.set_cons_zero, List.set_cons_succ]
                go_big_quiet_on
                go_big_quiet_want
                refine ⟨.bool true, fun Wq hWq => ?_, ?_⟩
                · clear kb3 kl0 kl1 kl2 kl3
                  unfold Oper.quietAt
                  go_simp
                simp only [Act.put, List.setIfInBounds_toArray, List.set_cons_zero, List.set_cons_succ]
                go_big_quiet_on
                go_big_quiet_want
                refine ⟨.pointer (some ⟨wr.heap.size, 3, none⟩), fun Wq hWq => ?_, ?_⟩
                · clear kb3 kl0 kl1 kl2 kl3
                  unfold Oper.quietAt
                  go_simp
                simp only [Act.put, List.setIfInBounds_toArray, List.set_cons_zero, List.set_cons_succ]
                go_big_quiet_on
                go_big_quiet_want
                refine ⟨.bool false, fun Wq hWq => ?_, ?_⟩
                · have q_kl3 := kl3 Wq hWq
                  clear kb3 kl0 kl1 kl2 kl3
                  unfold Oper.quietAt
                  go_simp
                simp only [Act.put, List.setIfInBounds_toArray, List.set_cons_zero, List.set_cons_succ]
                go_big_quiet_on
                go_big_quiet_want
                refine ⟨.bool false, fun Wq hWq => ?_, ?_⟩
                · clear kb3 kl0 kl1 kl2 kl3
                  unfold Oper.quietAt
                  go_simp
                simp only [Act.put, List.setIfInBounds_toArray, List.set_cons_zero, List.set_cons_succ]
                go_big_quiet_on
                go_big_quiet_want
                refine ⟨.pointer (some ⟨wr.heap.size, 1, none⟩), fun Wq hWq => ?_, ?_⟩
                · clear kb3 kl0 kl1 kl2 kl3
                  unfold Oper.quietAt
                  go_simp
                simp only [Act.put, List.setIfInBounds_toArray, List.set_cons_zero, List.set_cons_succ]
                go_big_quiet_on
                go_big_quiet_want
                refine ⟨.pointer (some ⟨wr.heap.size, 1, none⟩), fun Wq hWq => ?_, ?_⟩
                · clear kb3 kl0 kl1 kl2 kl3
                  unfold Oper.quietAt
                  go_simp
                simp only [Act.put, List.setIfInBounds_toArray, List.set_cons_zero, List.set_cons_succ]
                go_big_quiet_on
                go_big_quiet_want
                refine ⟨.string l.f1.f0, fun Wq hWq => ?_, ?_⟩
                · have q_kl1 := kl1 Wq hWq
                  clear kb3 kl0 kl1 kl2 kl3
                  unfold Oper.quietAt
                  go_simp
                simp only [Act.put, List.setIfInBounds_toArray, List.set_cons_zero, List.set_cons_succ]
                go_big_quiet_on
                go_big_quiet_want
                refine ⟨.bool true, fun Wq hWq => ?_, ?_⟩
                · clear kb3 kl0 kl1 kl2 kl3
                  unfold Oper.quietAt
                  go_simp
                simp only [Act.put, List.setIfInBounds_toArray, List.set_cons_zero, List.set_cons_succ]
                go_big_quiet_on
                go_big_quiet_want
                refine ⟨.bool true, fun Wq hWq => ?_, ?_⟩
                · clear kb3 kl0 kl1 kl2 kl3
                  unfold Oper.quietAt
                  go_simp
                simp only [Act.put, List.setIfInBounds_toArray, List.set_cons_zero, List.set_cons_succ]
                go_big_quiet_on
                go_big_quiet_want
                refine ⟨.bool true, fun Wq hWq => ?_, ?_⟩
                · clear kb3 kl0 kl1 kl2 kl3
                  unfold Oper.quietAt
                  go_simp
                simp only [Act.put, List.setIfInBounds_toArray, List.set_cons_zero, List.set_cons_succ]
                go_big_quiet_on
                go_big_quiet_skip
                go_big_quiet_skip
                go_big_quiet_skip
                go_big_quiet_skip
                go_big_quiet_skip
                go_big_quiet_want
                refine ⟨.bool true, fun Wq hWq => ?_, ?_⟩
                · clear kb3 kl0 kl1 kl2 kl3
                  unfold Oper.quietAt
                  go_simp
                simp only [Act.put, List.setIfInBounds_toArray, List.set_cons_zero, List.set_cons_succ]
                go_big_quiet_on
                go_big_quiet_want
                refine ⟨.bool true, fun Wq hWq => ?_, ?_⟩
                · clear kb3 kl0 kl1 kl2 kl3
                  unfold Oper.quietAt
                  go_simp
                simp only [Act.put, List.setIfInBounds_toArray, List.set_cons_zero, List.set_cons_succ]
                go_big_quiet_on
                go_big_quiet_want
                refine ⟨.bool true, fun Wq hWq => ?_, ?_⟩
                · clear kb3 kl0 kl1 kl2 kl3
                  unfold Oper.quietAt
                  go_simp
                simp only [Act.put, List.setIfInBounds_toArray, List.set_cons_zero, List.set_cons_succ]
                go_big_quiet_on
                go_big_quiet_skip
                go_big_quiet_skip
                go_big_quiet_skip
                go_big_quiet_skip
                go_big_quiet_skip
                go_big_quiet_skip
                go_big_quiet_skip
                go_big_quiet_skip
                go_big_quiet_skip
                go_big_quiet_skip
                go_big_quiet_skip
                go_big_quiet_skip
                go_big_quiet_skip
                go_big_quiet_want
                refine ⟨.bool true, fun Wq hWq => ?_, ?_⟩
                · clear kb3 kl0 kl1 kl2 kl3
                  unfold Oper.quietAt
                  go_simp
                simp only [Act.put, List.setIfInBounds_toArray, List.set_cons_zero, List.set_cons_succ]
                go_big_quiet_on
                refine wpQuiet_nil ?_
                intro W3 hW3
                clear kb3 kl0 kl1 kl2 kl3
                go_wp2
                go_ret
                exact ⟨by first | rfl | (rw [hT.out, hbadv.out]; rfl), ((hK.out.1.next hb2.out).next hW3).bel⟩
        · have hltf1 : decide ((kk : Int) < (t.f3.length : Int)) = false := decide_eq_false (by omega)
          have hltf2 : decide (kk < t.f3.length) = false := decide_eq_false hlt
          have hris : risingB t.f3 = true := by rw [hK.out.2, List.drop_eq_nil_of_le (by omega)]; exact risingFrom_nil _
          have hv : headR t = ((decide (t.f4.length = 1) && kidOK t.f4) && (t.f1 || !t.f2)) := by unfold headR; rw [if_pos k4.out, hris, Bool.true_and]
          have hv := Aside0.mk hv
          have hR : Aside0 (RB w t A3 c3 A4 c4 wr ∧ True) := ⟨hK.out.1, trivial⟩
          clear hris hlt
          obtain ⟨g, hg⟩ : ∃ g, decide (t.f4.length = 1) = g := ⟨_, rfl⟩
          have g1 : ((t.f4.length : Int) == 1) = g := by rw [← hg]; by_cases h : t.f4.length = 1 <;> simp [h] <;> omega
          have g2 : (t.f4.length == 1) = g := by rw [← hg]; by_cases h : t.f4.length = 1 <;> simp [h]
          rw [hg] at hv
          cases g with
          | false =>
            clear hg
            go_wp2
            go_ret
            exact ⟨by first | rfl | (rw [hT.out, hv.out]; rfl), hR.out.1.bel⟩
          | true =>
            have n1 := Aside0.mk (of_decide_eq_true hg)
            clear hg
            obtain ⟨ad, B3, d3, B4, d4, eA, x0, x1, x2, x3, x4, y3, z3, y4, z4⟩ := at_T31 (Kd.C_below h4.out hR.out.1.bel) (0 : Int) (by omega) (by have := n1.out; omega)
            subst eA
            have hrd : t.f4 = [rd_T31 t.f4 (0 : Int)] := by
              have h0 : 0 < t.f4.length := by have := n1.out; omega
              have := rd37_at t.f4 0 h0
              rw [show ((0 : Nat) : Int) = 0 from rfl] at this
              rw [this]
              refine List.ext_getElem (by rw [n1.out]; rfl) (fun i h1 h2 => ?_)
              have : i = 0 := by have := n1.out; omega
              subst this
              rfl
            have e0 : ((0 : Int)).toNat * 5 = 0 := rfl
            rw [e0, addr_add0] at x0 x1 x2 x3 x4
            have hk : kidOK t.f4 = (!refsT (rd_T31 t.f4 (0 : Int)) && !lostT (rd_T31 t.f4 (0 : Int))) := by
              conv => lhs; rw [hrd]
              rfl
            rw [hk] at hv
            generalize rd_T31 t.f4 (0 : Int) = x at *
            have hz3 := Aside0.mk z3
            have hz4 := Aside0.mk z4
            have hrc := refsC x B3 d3 B4 d4 wr y3 z3 y4 z4
            have hlc := fun W (hW : Below wr.heap.size wr W) => lostC x B3 d3 B4 d4 W y3 (Kd.C_below hz3.out hW) y4 (Kd.C_below hz4.out hW)
            have n1b : decide ((0 : Int) < (t.f4.length : Int)) = true := decide_eq_true (by have := n1.out; omega)
            have n1c : (0 : Int) < (t.f4.length : Int) := by have := n1.out; omega
            have n1d : 0 < t.f4.length := by have := n1.out; omega
            generalize refsT x = rx at *
            generalize lostT x = lx at *
            have ry := Aside0.mk (And.intro y3 y4)
            clear hrd hk z3 z4 y3 y4
            cases rx with
            | true =>
              go_wp2_with (go_at_call 44; refine hrc.mono ?_; clear hrc; rintro e W2 ⟨rfl, hb2⟩)
              go_ret
              exact ⟨by first | rfl | (rw [hT.out, hv.out]; rfl), (hR.out.1.next hb2).bel⟩
            | false =>
              have hafter := fun W2 (hb2 : Below wr.heap.size wr W2) => (hR.out.1.next hb2).cells
              cases lx with
              | true =>
                go_wp2_with (first
                  | (go_at_call 44; refine hrc.mono ?_; clear hrc; rintro e W2 ⟨rfl, hb2⟩; have hl2 := hlc W2 hb2; clear hlc; obtain ⟨p0, p1, p2, p3, p4⟩ := hafter W2 hb2; clear hafter; have v0 := below_cell hb2 x0; have v1 := below_cell hb2 x1; have v2 := below_cell hb2 x2; have v3 := below_cell hb2 x3; have v4 := below_cell hb2 x4)
                  | (go_at_call 45; refine hl2.mono ?_; clear hl2; rintro e W3 ⟨rfl, hb3⟩))
                go_ret
                exact ⟨by first | rfl | (rw [hT.out, hv.out]; rfl), ((hR.out.1.next hb2).next hb3).bel⟩
              | false =>
                have hafter2 := fun W2 (hb2 : Below wr.heap.size wr W2) => (hR.out.1.next hb2).cells
                cases hm : t.f1 with
                | true =>
                  rw [hm] at hafter2 hafter hv
                  go_wp2_with (first
                    | (go_at_call 44; refine hrc.mono ?_; clear hrc; rintro e W2 ⟨rfl, hb2⟩; have hl2 := hlc W2 hb2; clear hlc; obtain ⟨p0, p1, p2, p3, p4⟩ := hafter W2 hb2; clear hafter; have v0 := below_cell hb2 x0; have v1 := below_cell hb2 x1; have v2 := below_cell hb2 x2; have v3 := below_cell hb2 x3; have v4 := below_cell hb2 x4)
                    | (go_at_call 45; refine hl2.mono ?_; clear hl2; rintro e W3 ⟨rfl, hb3⟩; obtain ⟨o0, o1, o2, o3, o4⟩ := hafter2 W3 (hb2.trans (hb3.mono hb2.size)); clear hafter2))
                  go_ret
                  exact ⟨by first | rfl | (rw [hT.out, hv.out]; rfl), ((hR.out.1.next hb2).next hb3).bel⟩
                | false =>
                  rw [hm] at hafter2 hafter hv
                  go_wp2_with (first
                    | (go_at_call 44; refine hrc.mono ?_; clear hrc; rintro e W2 ⟨rfl, hb2⟩; have hl2 := hlc W2 hb2; clear hlc; obtain ⟨p0, p1, p2, p3, p4⟩ := hafter W2 hb2; clear hafter; have v0 := below_cell hb2 x0; have v1 := below_cell hb2 x1; have v2 := below_cell hb2 x2; have v3 := below_cell hb2 x3; have v4 := below_cell hb2 x4)
                    | (go_at_call 45; refine hl2.mono ?_; clear hl2; rintro e W3 ⟨rfl, hb3⟩; obtain ⟨o0, o1, o2, o3, o4⟩ := hafter2 W3 (hb2.trans (hb3.mono hb2.size)); clear hafter2))
                  go_ret
                  exact ⟨by first | rfl | (rw [hT.out, hv.out]; rfl), ((hR.out.1.next hb2).next hb3).bel⟩
end Go.Proofs.YtadjekpfehjibaaGreatDoor.PEnv
namespace Go.Proofs.YtadjekpfehjibaaGreatDoor.PEnv
open Go.RowKit Go.Shelf Go.Proofs.YtadjekpfehjibaaGreatDoorW.PrintWords Go.Proofs.YtadjekpfehjibaaGreatDoorW.PrintLast Go.Proofs.YtadjekpfehjibaaGreatDoorW.PrintMore Go.Proofs.YtadjekpfehjibaaGreatDoor.PEnvJoins
set_option maxRecDepth 100000
theorem refRightTy (t : S31) : TyWord 23 rrT t := by
  revert t
  refine tyInd fun t ih => ?_
  by_cases k4 : t.f0 = 4
  · exact rr_4 t ih k4
  · cases k1 : t.f1 with
    | true => exact rr_bad1 t ih k4 k1
    | false =>
      by_cases k3 : 0 < t.f3.length
      · exact rr_bad2 t ih k4 k1 k3
      · have k3 : t.f3.length = 0 := by omega
        by_cases a : t.f0 = 1
        · exact rr_1 t ih k4 k1 k3 a
        · by_cases b : t.f0 = 2
          · exact rr_2 t ih k4 k1 k3 b
          · by_cases c : t.f0 = 3
            · exact rr_3 t ih k4 k1 k3 c
            · exact rr_o t ih k4 k1 k3 a b c
theorem any_or {α : Type} (p q : α → Bool) : ∀ l : List α, (l.any p || l.any q) = l.any (fun x => p x || q x)
  | [] => rfl
  | x :: l => by
    simp only [List.any_cons]
    rw [← any_or p q l]
    cases p x <;> cases q x <;> cases l.any p <;> cases l.any q <;> rfl
theorem kidOK_plain (l : List S31) : kidOK l = plainHead l := by
  cases l with
  | nil => rfl
  | cons k ks =>
    show (!refsT k && !lostT k) = !(partsT k).any badT
    unfold refsT lostT
    rw [← Bool.not_or, any_or]
    congr 2
theorem rr_eq : ∀ t, rrT t = rightT t := by
  refine tyInd fun t ih => ?_
  rw [rrT_eq, rightT_eq, rightL_all]
  have e : t.f4.all rrT = t.f4.all rightT := by
    rw [Bool.eq_iff_iff, List.all_eq_true, List.all_eq_true]
    exact ⟨fun h k hk => by rw [← ih k hk]; exact h k hk, fun h k hk => by rw [ih k hk]; exact h k hk⟩
  rw [e]
  unfold headR headBad tailOK
  rw [kidOK_plain]
  by_cases k4 : t.f0 = 4
  · rw [if_pos k4, if_neg (show ¬ t.f0 = 1 by omega), if_neg (show ¬ t.f0 = 3 by omega), decide_eq_true k4]
    cases t.f4.all rightT <;> cases risingB t.f3 <;> cases decide (t.f4.length = 1) <;> cases plainHead t.f4 <;> cases t.f1 <;> cases t.f2 <;> rfl
  · rw [if_neg k4, decide_eq_false k4]
    by_cases k3 : t.f3 = []
    · have hr : risingB t.f3 = true := by rw [k3]; rfl
      have h0 : decide (0 < t.f3.length) = false := by rw [k3]; rfl
      rw [hr, h0]
      by_cases a : t.f0 = 1
      · rw [if_pos a, if_pos a]
        cases t.f4.all rightT <;> cases t.f1 <;> cases decide (t.f4.length = 0) <;> cases t.f2 <;> rfl
      · rw [if_neg a, if_neg a]
        by_cases b : t.f0 = 2
        · rw [if_pos b, if_neg (show ¬ t.f0 = 3 by omega), decide_eq_true b]
          cases t.f4.all rightT <;> cases t.f1 <;> cases decide (t.f4.length = 1) <;> cases plainHead t.f4 <;> cases t.f2 <;> rfl
        · rw [if_neg b, decide_eq_false b]
          by_cases c : t.f0 = 3
          · rw [if_pos c, if_pos c]
            cases t.f4.all rightT <;> cases t.f1 <;> cases decide (2 ≤ t.f4.length) <;> cases decide (t.f4.length ≤ 30) <;> cases t.f2 <;> rfl
          · rw [if_neg c, if_neg c]
            cases t.f4.all rightT <;> cases t.f1 <;> cases decide (t.f4.length = 1) <;> cases plainHead t.f4 <;> cases t.f2 <;> rfl
    · have h0 : decide (0 < t.f3.length) = true := decide_eq_true (by
        cases h : t.f3 with
        | nil => exact absurd h k3
        | cons x xs => simp)
      rw [h0]
      cases t.f4.all rightT <;> cases t.f1 <;> cases risingB t.f3 <;> rfl
set_option maxHeartbeats 8000000 in
/-- The document's Right. -/
theorem refRight (es : List S33) (A : Option Addr) (c : Nat) (w : World) (hC : Kd.C k33 w A es.length es) :
    Calls Tryz.prog 7 #[.slice A es.length c] w fun e w' => e = .returned (.bool (rightE es)) ∧ Below w.heap.size w w' := by
  have hmax := Kd.C_max hC
  have hC := Aside0.mk hC
  have hans : rightE es = es.all (fun b => rrT b.f1) := by
    unfold rightE
    congr 1
    exact funext fun b => (rr_eq b.f1).symm
  rw [hans]
  clear hans
  go_enter Tryz.func7, Tryz.ntmps7
  go_wp2
  go_loopg [3] es.length (fun gg s3 wr => ∃ kk : Nat, kk ≤ es.length ∧ es.length - kk ≤ gg ∧ s3 = .int .i64 kk ∧ Aside (Below w.heap.size w wr ∧ ∀ (j : Nat) b, j < kk → es[j]? = some b → rrT b.f1 = true))
  case atStart => exact ⟨0, Nat.zero_le _, by omega, rfl, Below.refl _ _, fun j k hj => absurd hj (Nat.not_lt_zero _)⟩
  case round =>
    obtain ⟨kk, hkk, hg, rfl, hR⟩ := hrel
    have hR := Aside0.mk hR.out
    by_cases hlt : kk < es.length
    · have hltz : (kk : Int) < (es.length : Int) := by omega
      obtain ⟨ad, B3, d3, B4, d4, rfl, x0, x1, x2, x3, x4, x5, y3, z3, y4, z4⟩ := at_T33 (Kd.C_below hC.out hR.out.1) (kk : Int) (by omega) hltz
      have hrd : es[kk]? = some (rd_T33 es (kk : Int)) := by rw [rd39_at _ _ hlt]; exact List.getElem?_eq_getElem hlt
      simp only [Int.toNat_natCast] at x0 x1 x2 x3 x4 x5
      generalize rd_T33 es (kk : Int) = x at *
      have hc := refRightTy x.f1 B3 d3 B4 d4 wr y3 z3 y4 z4
      have hrd := Aside0.mk hrd
      clear y3 z3 y4 z4
      cases hx : rrT x.f1 with
      | false =>
        rw [hx] at hc
        have hall : es.all (fun b => rrT b.f1) = false := List.all_eq_false.mpr ⟨x, List.mem_of_getElem? hrd.out, by simp [hx]⟩
        have hall := Aside0.mk hall
        clear hx
        go_wp2_with (go_at_call 23; refine hc.mono ?_; clear hc; rintro e w' ⟨rfl, hb⟩)
        go_ret
        exact ⟨by rw [hall.out]; rfl, hR.out.1.trans (hb.mono hR.out.1.size)⟩
      | true =>
        rw [hx] at hc
        have hx' := Aside0.mk hx
        clear hx
        go_wp2_with (go_at_call 23; refine hc.mono ?_; clear hc; rintro e w' ⟨rfl, hb⟩)
        go_roundg (es.length - (kk + 1))
        case measure => omega
        case rel =>
          refine ⟨kk + 1, by omega, by omega, by go_num, hR.out.1.trans (hb.mono hR.out.1.size), fun j b hj hk => ?_⟩
          by_cases e : j = kk
          · subst e
            have := hrd.out
            rw [hk] at this
            cases this
            exact hx'.out
          · exact hR.out.2 j b (by omega) hk
    · have hlt1 : decide ((kk : Int) < (es.length : Int)) = false := decide_eq_false (by omega)
      have hlt2 : decide (kk < es.length) = false := decide_eq_false hlt
      have hall : es.all (fun b => rrT b.f1) = true := List.all_eq_true.mpr fun b hb => by
        obtain ⟨i, hi⟩ := List.mem_iff_getElem?.mp hb
        exact hR.out.2 i b (by have := idx_lt hi; omega) hi
      have hall := Aside0.mk hall
      clear hlt
      go_wp2
      go_ret
      exact ⟨by rw [hall.out]; rfl, hR.out.1⟩
end Go.Proofs.YtadjekpfehjibaaGreatDoor.PEnv
namespace Go.Proofs.YtadjekpfehjibaaGreatDoor.PEnv
open Go.RowKit Go.Shelf Go.Lib Go.Proofs.YtadjekpfehjibaaGreatDoorW.PrintWords Go.Proofs.YtadjekpfehjibaaGreatDoorW.PrintLast Go.Proofs.YtadjekpfehjibaaGreatDoorW.PrintMore Go.Proofs.YtadjekpfehjibaaGreatDoor.PEnvJoins
set_option maxRecDepth 100000
theorem new_two (w : World) (o0 o1 : Obj) : Below w.heap.size w ((w.alloc o0).alloc o1) ∧ ((w.alloc o0).alloc o1).heap[w.heap.size]? = some o0 ∧ ((w.alloc o0).alloc o1).heap[w.heap.size + 1]? = some o1 := by
  have s1 : (w.alloc o0).heap.size = w.heap.size + 1 := by simp
  refine ⟨((Below.refl _ w).alloc (Nat.le_refl _) _).alloc (by omega) _, ?_, ?_⟩
  · exact (show ((w.alloc o0).alloc o1).heap[w.heap.size]? = (w.alloc o0).heap[w.heap.size]? from by first | exact heap_alloc_old _ _ _ (by omega) | exact heap_alloc_old _ _ (by omega)).trans (World.alloc_heap_new w _)
  · rw [← s1]
    exact World.alloc_heap_new _ _
/-- A callee's word on a type that lies in two places. -/
def SameWord (f : Nat) (t : S31) : Prop := ∀ (A3 : Option Addr) (c3 : Nat) (A4 : Option Addr) (c4 : Nat) (B3 : Option Addr) (d3 : Nat) (B4 : Option Addr) (d4 : Nat) (w : World),
    t.f3.length ≤ c3 → Kd.C k44 w A3 t.f3.length t.f3 → t.f4.length ≤ c4 → Kd.C k31 w A4 t.f4.length t.f4 → t.f3.length ≤ d3 → Kd.C k44 w B3 t.f3.length t.f3 → t.f4.length ≤ d4 → Kd.C k31 w B4 t.f4.length t.f4 →
    Calls Tryz.prog f #[.agg #[.int .i64 t.f0, .bool t.f1, .bool t.f2, .slice A3 t.f3.length c3, .slice A4 t.f4.length c4], .agg #[.int .i64 t.f0, .bool t.f1, .bool t.f2, .slice B3 t.f3.length d3, .slice B4 t.f4.length d4]] w fun e w' => e = .returned (.bool true) ∧ Below w.heap.size w w'
theorem sameLoanC (x : S44) (D2 : Option Addr) (e2 : Nat) (G2 : Option Addr) (h2 : Nat) (W : World) (l2 : x.f1.f1.length ≤ e2) (g2 : Kd.C (Kd.int .i64) W D2 x.f1.f1.length x.f1.f1) (m2 : x.f1.f1.length ≤ h2) (p2 : Kd.C (Kd.int .i64) W G2 x.f1.f1.length x.f1.f1) :
    Calls Tryz.prog 54 #[.agg #[.string x.f0, .string x.f1.f0, .slice D2 x.f1.f1.length e2, .bool x.f2], .agg #[.string x.f0, .string x.f1.f0, .slice G2 x.f1.f1.length h2, .bool x.f2]] W fun e W' => e = .returned (.bool true) ∧ Below W.heap.size W W' :=
  lienbookref05_SameLoan.calls (x.f1.f1.length + 1) _ _ _ _ _ _ _ _ _ _ _ _ _ W g2 l2 p2 m2 (by rw [sameLoan_f x x (Kd.C_max g2) _ (by omega), (sameL_iff x x).mpr rfl])
set_option maxHeartbeats 16000000 in
theorem sameTyT (t : S31) (ih : ∀ k ∈ t.f4, SameWord 32 k) : SameWord 32 t := by
  intro A3 c3 A4 c4 B3 d3 B4 d4 w l3 g3 l4 g4 m3 p3 m4 p4
  have hmx := Aside0.mk (And.intro (Kd.C_max g3) (Kd.C_max g4))
  have hn := new_two w (.cells #[.int .i64 t.f0, .bool t.f1, .bool t.f2, .slice A3 t.f3.length c3, .slice A4 t.f4.length c4] 31) (.cells #[.int .i64 t.f0, .bool t.f1, .bool t.f2, .slice B3 t.f3.length d3, .slice B4 t.f4.length d4] 31)
  obtain ⟨W2, hW2⟩ : ∃ W2, (w.alloc (.cells #[.int .i64 t.f0, .bool t.f1, .bool t.f2, .slice A3 t.f3.length c3, .slice A4 t.f4.length c4] 31)).alloc (.cells #[.int .i64 t.f0, .bool t.f1, .bool t.f2, .slice B3 t.f3.length d3, .slice B4 t.f4.length d4] 31) = W2 := ⟨_, rfl⟩
  rw [hW2] at hn
  obtain ⟨hb2, e0, e1⟩ := hn
  replace ih := Aside0.mk ih
  replace g3 := Aside0.mk g3
  replace g4 := Aside0.mk g4
  replace p3 := Aside0.mk p3
  replace p4 := Aside0.mk p4
  have eL := enters_of Tryz.func54 (by kernel_rfl) rfl
  have eT := enters_of Tryz.func32 (by kernel_rfl) rfl
  clear l3 l4 m3 m4
  have z0 : W2.cell? ⟨w.heap.size, 0, none⟩ = some (.int .i64 t.f0) := (blk_cell e0 0).trans rfl
  have z1 : W2.cell? ⟨w.heap.size, 1, none⟩ = some (.bool t.f1) := (blk_cell e0 1).trans rfl
  have z2 : W2.cell? ⟨w.heap.size, 2, none⟩ = some (.bool t.f2) := (blk_cell e0 2).trans rfl
  have z3 : W2.cell? ⟨w.heap.size, 3, none⟩ = some (.slice A3 t.f3.length c3) := (blk_cell e0 3).trans rfl
  have z4 : W2.cell? ⟨w.heap.size, 4, none⟩ = some (.slice A4 t.f4.length c4) := (blk_cell e0 4).trans rfl
  have y0 : W2.cell? ⟨w.heap.size + 1, 0, none⟩ = some (.int .i64 t.f0) := (blk_cell e1 0).trans rfl
  have y1 : W2.cell? ⟨w.heap.size + 1, 1, none⟩ = some (.bool t.f1) := (blk_cell e1 1).trans rfl
  have y2 : W2.cell? ⟨w.heap.size + 1, 2, none⟩ = some (.bool t.f2) := (blk_cell e1 2).trans rfl
  have y3 : W2.cell? ⟨w.heap.size + 1, 3, none⟩ = some (.slice B3 t.f3.length d3) := (blk_cell e1 3).trans rfl
  have y4 : W2.cell? ⟨w.heap.size + 1, 4, none⟩ = some (.slice B4 t.f4.length d4) := (blk_cell e1 4).trans rfl
  go_enter Tryz.func32, Tryz.ntmps32
  go_upto_region 1 with fail
  obtain ⟨b0, hb0⟩ : ∃ b0, w.heap.size = b0 := ⟨_, rfl⟩
  rw [hb0] at z0 y0 z1 y1 z2 y2 z3 y3 z4 y4
  simp only [hb0]
  clear e0 e1 hW2
  replace hb2 := Aside0.mk hb2
  replace hb0 := Aside0.mk hb0
  go_wp2
  clear z0 z1 z2 y0 y1 y2
  replace z3 := Aside0.mk z3
  replace z4 := Aside0.mk z4
  replace y3 := Aside0.mk y3
  replace y4 := Aside0.mk y4
  go_loopg [5] t.f3.length (fun gg s5 wr => ∃ kk : Nat, kk ≤ t.f3.length ∧ t.f3.length - kk ≤ gg ∧ s5 = .int .i64 kk ∧ Aside (Below W2.heap.size W2 wr))
  case atStart => exact ⟨0, Nat.zero_le _, by omega, rfl, Below.refl _ W2⟩
  case round =>
    obtain ⟨kk, hkk, hgg, rfl, hR⟩ := hrel
    replace hR := Aside0.mk hR.out
    by_cases hlt : kk < t.f3.length
    · have hltz : (kk : Int) < (t.f3.length : Int) := by omega
      have hbw := Aside0.mk (hb2.out.trans (hR.out.mono hb2.out.size))
      obtain ⟨ad, D2, e2, eA, u0, u1, u2, u3, ul, ug⟩ := at_T44 (Kd.C_below g3.out hbw.out) (kk : Int) (by omega) hltz
      subst eA
      obtain ⟨bd, G2, h2, eB, v0, v1, v2, v3, vl, vg⟩ := at_T44 (Kd.C_below p3.out hbw.out) (kk : Int) (by omega) hltz
      subst eB
      simp only [Int.toNat_natCast] at u0 u1 u2 u3 v0 v1 v2 v3
      generalize rd_T44 t.f3 (kk : Int) = x at *
      have cF := Aside0.mk (fun W (h : Below wr.heap.size wr W) => (sameLoanC x D2 e2 G2 h2 W ul (Kd.C_below ug h) vl (Kd.C_below vg h)).mono (fun e w' q => And.intro q.1 (h.trans (q.2.mono h.size))))
      have x0 := Aside0.mk (fun W (h : Below wr.heap.size wr W) => below_cell h u0)
      have x1 := Aside0.mk (fun W (h : Below wr.heap.size wr W) => below_cell h u1)
      have x2 := Aside0.mk (fun W (h : Below wr.heap.size wr W) => below_cell h u2)
      have x3 := Aside0.mk (fun W (h : Below wr.heap.size wr W) => below_cell h u3)
      have w0 := Aside0.mk (fun W (h : Below wr.heap.size wr W) => below_cell h v0)
      have w1 := Aside0.mk (fun W (h : Below wr.heap.size wr W) => below_cell h v1)
      have w2 := Aside0.mk (fun W (h : Below wr.heap.size wr W) => below_cell h v2)
      have w3 := Aside0.mk (fun W (h : Below wr.heap.size wr W) => below_cell h v3)
      clear u0 u1 u2 u3 v0 v1 v2 v3 ul ug vl vg
      have q3 := below_cell hR.out z3.out
      go_upto_region 6 with fail
      clear q3
      have j := Aside0.mk (fun W (h : Below wr.heap.size wr W) => below_cell h (below_cell hR.out z3.out))
      have o := Aside0.mk (fun W (h : Below wr.heap.size wr W) => below_cell h (below_cell hR.out y3.out))
      refine region_cls (fun W => Below wr.heap.size wr W) (by kernel_rfl) (by kernel_rfl) (below_drew1 (Below.refl _ wr)) ?_
      go_big_quiet_want; refine ⟨.pointer (some ⟨b0, 3, none⟩), fun W h => by unfold Oper.quietAt; go_simp, ?_⟩; simp only [pz]; go_big_quiet_on
      go_big_quiet_want; refine ⟨.slice (some ad) t.f3.length c3, fun W h => by have a0 := j.out W h; unfold Oper.quietAt; go_simp, ?_⟩; simp only [pz]; go_big_quiet_on
      go_big_quiet_want; refine ⟨.int .i64 kk, fun W h => by unfold Oper.quietAt; go_simp, ?_⟩; simp only [pz]; go_big_quiet_on
      go_big_quiet_want; refine ⟨.pointer (some (ad.add (kk * 4))), fun W h => by unfold Oper.quietAt; go_simp, ?_⟩; simp only [pz]; go_big_quiet_on
      go_big_quiet_want; refine ⟨.agg #[.string x.f0, .string x.f1.f0, .slice D2 x.f1.f1.length e2, .bool x.f2], fun W h => by have a0 := x0.out W h; have a1 := x1.out W h; have a2 := x2.out W h; have a3 := x3.out W h; unfold Oper.quietAt; go_simp, ?_⟩; simp only [pz]; go_big_quiet_on
      go_big_quiet_want; refine ⟨.pointer (some ⟨b0 + 1, 3, none⟩), fun W h => by unfold Oper.quietAt; go_simp, ?_⟩; simp only [pz]; go_big_quiet_on
      go_big_quiet_want; refine ⟨.slice (some bd) t.f3.length d3, fun W h => by have a0 := o.out W h; unfold Oper.quietAt; go_simp, ?_⟩; simp only [pz]; go_big_quiet_on
      go_big_quiet_want; refine ⟨.int .i64 kk, fun W h => by unfold Oper.quietAt; go_simp, ?_⟩; simp only [pz]; go_big_quiet_on
      go_big_quiet_want; refine ⟨.pointer (some (bd.add (kk * 4))), fun W h => by unfold Oper.quietAt; go_simp, ?_⟩; simp only [pz]; go_big_quiet_on
      go_big_quiet_want; refine ⟨.agg #[.string x.f0, .string x.f1.f0, .slice G2 x.f1.f1.length h2, .bool x.f2], fun W h => by have a0 := w0.out W h; have a1 := w1.out W h; have a2 := w2.out W h; have a3 := w3.out W h; unfold Oper.quietAt; go_simp, ?_⟩; simp only [pz]; go_big_quiet_on
      go_big_quiet_want; refine ⟨.bool true, fun W h => by have a0 := cF.out W h; unfold Oper.quietAt; go_simp, ?_⟩; simp only [pz]; go_big_quiet_on
      go_big_quiet_want; refine ⟨.bool false, fun W h => by unfold Oper.quietAt; go_simp, ?_⟩; simp only [pz]; go_big_quiet_on
      refine wpQuiet_nil ?_
      intro W3 hW3
      have hbig := hmx.out
      go_wp2
      go_roundg (t.f3.length - (kk + 1))
      case measure => omega
      case rel => exact ⟨kk + 1, by omega, by omega, by go_num, hR.out.trans (hW3.mono hR.out.size)⟩
    · have n1 : decide ((kk : Int) < (t.f3.length : Int)) = false := decide_eq_false (by omega)
      have n2 : decide (kk < t.f3.length) = false := decide_eq_false hlt
      have q3 := below_cell hR.out z3.out
      clear hlt
      go_wp2
      clear q3
      go_loopg [6] t.f4.length (fun gg s6 wr => ∃ kk : Nat, kk ≤ t.f4.length ∧ t.f4.length - kk ≤ gg ∧ s6 = .int .i64 kk ∧ Aside (Below W2.heap.size W2 wr))
      case atStart => exact ⟨0, Nat.zero_le _, by omega, rfl, hR.out⟩
      case round =>
        obtain ⟨kk, hkk, hgg, rfl, hR⟩ := hrel
        replace hR := Aside0.mk hR.out
        by_cases hlt : kk < t.f4.length
        · have hltz : (kk : Int) < (t.f4.length : Int) := by omega
          have hbw := Aside0.mk (hb2.out.trans (hR.out.mono hb2.out.size))
          obtain ⟨ad, D3, e3, D4, e4, eA, u0, u1, u2, u3, u4, ul3, ug3, ul4, ug4⟩ := at_T31 (Kd.C_below g4.out hbw.out) (kk : Int) (by omega) hltz
          subst eA
          obtain ⟨bd, G3, h3, G4, h4, eB, v0, v1, v2, v3, v4, vl3, vg3, vl4, vg4⟩ := at_T31 (Kd.C_below p4.out hbw.out) (kk : Int) (by omega) hltz
          subst eB
          have hrd : t.f4[kk]? = some (rd_T31 t.f4 (kk : Int)) := by rw [rd37_at _ _ hlt]; exact List.getElem?_eq_getElem hlt
          simp only [Int.toNat_natCast] at u0 u1 u2 u3 u4 v0 v1 v2 v3 v4
          generalize rd_T31 t.f4 (kk : Int) = x at *
          have cF := Aside0.mk (fun W (h : Below wr.heap.size wr W) => (ih.out x (List.mem_of_getElem? hrd) D3 e3 D4 e4 G3 h3 G4 h4 W ul3 (Kd.C_below ug3 h) ul4 (Kd.C_below ug4 h) vl3 (Kd.C_below vg3 h) vl4 (Kd.C_below vg4 h)).mono (fun e w' q => And.intro q.1 (h.trans (q.2.mono h.size))))
          have x0 := Aside0.mk (fun W (h : Below wr.heap.size wr W) => below_cell h u0)
          have x1 := Aside0.mk (fun W (h : Below wr.heap.size wr W) => below_cell h u1)
          have x2 := Aside0.mk (fun W (h : Below wr.heap.size wr W) => below_cell h u2)
          have x3 := Aside0.mk (fun W (h : Below wr.heap.size wr W) => below_cell h u3)
          have x4 := Aside0.mk (fun W (h : Below wr.heap.size wr W) => below_cell h u4)
          have w0 := Aside0.mk (fun W (h : Below wr.heap.size wr W) => below_cell h v0)
          have w1 := Aside0.mk (fun W (h : Below wr.heap.size wr W) => below_cell h v1)
          have w2 := Aside0.mk (fun W (h : Below wr.heap.size wr W) => below_cell h v2)
          have w3 := Aside0.mk (fun W (h : Below wr.heap.size wr W) => below_cell h v3)
          have w4 := Aside0.mk (fun W (h : Below wr.heap.size wr W) => below_cell h v4)
          clear hrd u0 u1 u2 u3 u4 v0 v1 v2 v3 v4 ul3 ug3 ul4 ug4 vl3 vg3 vl4 vg4
          have q4 := below_cell hR.out z4.out
          go_upto_region 11 with fail
          clear q4
          have j := Aside0.mk (fun W (h : Below wr.heap.size wr W) => below_cell h (below_cell hR.out z4.out))
          have o := Aside0.mk (fun W (h : Below wr.heap.size wr W) => below_cell h (below_cell hR.out y4.out))
          refine region_cls (fun W => Below wr.heap.size wr W) (by kernel_rfl) (by kernel_rfl) (below_drew1 (Below.refl _ wr)) ?_
          go_big_quiet_want; refine ⟨.pointer (some ⟨b0, 4, none⟩), fun W h => by unfold Oper.quietAt; go_simp, ?_⟩; simp only [pz]; go_big_quiet_on
          go_big_quiet_want; refine ⟨.slice (some ad) t.f4.length c4, fun W h => by have a0 := j.out W h; unfold Oper.quietAt; go_simp, ?_⟩; simp only [pz]; go_big_quiet_on
          go_big_quiet_want; refine ⟨.int .i64 kk, fun W h => by unfold Oper.quietAt; go_simp, ?_⟩; simp only [pz]; go_big_quiet_on
          go_big_quiet_want; refine ⟨.pointer (some (ad.add (kk * 5))), fun W h => by unfold Oper.quietAt; go_simp, ?_⟩; simp only [pz]; go_big_quiet_on
          go_big_quiet_want; refine ⟨.agg #[.int .i64 x.f0, .bool x.f1, .bool x.f2, .slice D3 x.f3.length e3, .slice D4 x.f4.length e4], fun W h => by have a0 := x0.out W h; have a1 := x1.out W h; have a2 := x2.out W h; have a3 := x3.out W h; have a4 := x4.out W h; unfold Oper.quietAt; go_simp, ?_⟩; simp only [pz]; go_big_quiet_on
          go_big_quiet_want; refine ⟨.pointer (some ⟨b0 + 1, 4, none⟩), fun W h => by unfold Oper.quietAt; go_simp, ?_⟩; simp only [pz]; go_big_quiet_on
          go_big_quiet_want; refine ⟨.slice (some bd) t.f4.length d4, fun W h => by have a0 := o.out W h; unfold Oper.quietAt; go_simp, ?_⟩; simp only [pz]; go_big_quiet_on
          go_big_quiet_want; refine ⟨.int .i64 kk, fun W h => by unfold Oper.quietAt; go_simp, ?_⟩; simp only [pz]; go_big_quiet_on
          go_big_quiet_want; refine ⟨.pointer (some (bd.add (kk * 5))), fun W h => by unfold Oper.quietAt; go_simp, ?_⟩; simp only [pz]; go_big_quiet_on
          go_big_quiet_want; refine ⟨.agg #[.int .i64 x.f0, .bool x.f1, .bool x.f2, .slice G3 x.f3.length h3, .slice G4 x.f4.length h4], fun W h => by have a0 := w0.out W h; have a1 := w1.out W h; have a2 := w2.out W h; have a3 := w3.out W h; have a4 := w4.out W h; unfold Oper.quietAt; go_simp, ?_⟩; simp only [pz]; go_big_quiet_on
          go_big_quiet_want; refine ⟨.bool true, fun W h => by have a0 := cF.out W h; unfold Oper.quietAt; go_simp, ?_⟩; simp only [pz]; go_big_quiet_on
          go_big_quiet_want; refine ⟨.bool false, fun W h => by unfold Oper.quietAt; go_simp, ?_⟩; simp only [pz]; go_big_quiet_on
          refine wpQuiet_nil ?_
          intro W3 hW3
          have hbig := hmx.out
          go_wp2
          go_roundg (t.f4.length - (kk + 1))
          case measure => omega
          case rel => exact ⟨kk + 1, by omega, by omega, by go_num, hR.out.trans (hW3.mono hR.out.size)⟩
        · have n1 : decide ((kk : Int) < (t.f4.length : Int)) = false := decide_eq_false (by omega)
          have n2 : decide (kk < t.f4.length) = false := decide_eq_false hlt
          have q4 := below_cell hR.out z4.out
          clear hlt
          go_wp2
          go_ret
          exact ⟨rfl, (hb2.out.trans (hR.out.mono hb2.out.size))⟩
/-- The document's SameTy, of a type that lies in two places. -/
theorem sameTyW (t : S31) : SameWord 32 t := tyInd (fun t ih => sameTyT t ih) t
set_option maxHeartbeats 8000000 in
/-- The document's Same, of two environments that read alike. -/
theorem sameC (es : List S33) (A : Option Addr) (c : Nat) (B : Option Addr) (d : Nat) (w : World) (hc : es.length ≤ c) (hd : es.length ≤ d) (hC : Kd.C k33 w A es.length es) (hD : Kd.C k33 w B es.length es) :
    Calls Tryz.prog 15 #[.slice A es.length c, .slice B es.length d] w fun e w' => e = .returned (.bool true) ∧ Below w.heap.size w w' := by
  have hmx := Aside0.mk (Kd.C_max hC)
  have eT := enters_of Tryz.func32 (by kernel_rfl) rfl
  replace hC := Aside0.mk hC
  replace hD := Aside0.mk hD
  go_enter Tryz.func15, Tryz.ntmps15
  go_wp2
  go_loopg [5] es.length (fun gg s5 wr => ∃ kk : Nat, kk ≤ es.length ∧ es.length - kk ≤ gg ∧ s5 = .int .i64 kk ∧ Aside (Below w.heap.size w wr))
  case atStart => exact ⟨0, Nat.zero_le _, by omega, rfl, Below.refl _ _⟩
  case round =>
    obtain ⟨kk, hkk, hgg, rfl, hR⟩ := hrel
    replace hR := Aside0.mk hR.out
    by_cases hlt : kk < es.length
    · have hltz : (kk : Int) < (es.length : Int) := by omega
      obtain ⟨ad, D3, e3, D4, e4, eA, u0, u1, u2, u3, u4, u5, ul3, ug3, ul4, ug4⟩ := at_T33 (Kd.C_below hC.out hR.out) (kk : Int) (by omega) hltz
      subst eA
      obtain ⟨bd, G3, h3, G4, h4, eB, v0, v1, v2, v3, v4, v5, vl3, vg3, vl4, vg4⟩ := at_T33 (Kd.C_below hD.out hR.out) (kk : Int) (by omega) hltz
      subst eB
      simp only [Int.toNat_natCast] at u0 u1 u2 u3 u4 u5 v0 v1 v2 v3 v4 v5
      generalize rd_T33 es (kk : Int) = x at *
      have cF := Aside0.mk (fun W (h : Below wr.heap.size wr W) => (sameTyW x.f1 D3 e3 D4 e4 G3 h3 G4 h4 W ul3 (Kd.C_below ug3 h) ul4 (Kd.C_below ug4 h) vl3 (Kd.C_below vg3 h) vl4 (Kd.C_below vg4 h)).mono (fun e w' q => And.intro q.1 (h.trans (q.2.mono h.size))))
      have x0 := Aside0.mk (fun W (h : Below wr.heap.size wr W) => below_cell h u0)
      have x1 := Aside0.mk (fun W (h : Below wr.heap.size wr W) => below_cell h u1)
      have x2 := Aside0.mk (fun W (h : Below wr.heap.size wr W) => below_cell h u2)
      have x3 := Aside0.mk (fun W (h : Below wr.heap.size wr W) => below_cell h u3)
      have x4 := Aside0.mk (fun W (h : Below wr.heap.size wr W) => below_cell h u4)
      have x5 := Aside0.mk (fun W (h : Below wr.heap.size wr W) => below_cell h u5)
      have w0 := Aside0.mk (fun W (h : Below wr.heap.size wr W) => below_cell h v0)
      have w1 := Aside0.mk (fun W (h : Below wr.heap.size wr W) => below_cell h v1)
      have w2 := Aside0.mk (fun W (h : Below wr.heap.size wr W) => below_cell h v2)
      have w3 := Aside0.mk (fun W (h : Below wr.heap.size wr W) => below_cell h v3)
      have w4 := Aside0.mk (fun W (h : Below wr.heap.size wr W) => below_cell h v4)
      have w5 := Aside0.mk (fun W (h : Below wr.heap.size wr W) => below_cell h v5)
      clear u0 u1 u2 u3 u4 u5 v0 v1 v2 v3 v4 v5 ul3 ug3 ul4 ug4 vl3 vg3 vl4 vg4
      go_upto_region 6 with fail
      refine region_cls (fun W => Below wr.heap.size wr W) (by kernel_rfl) (by kernel_rfl) (below_drew1 (Below.refl _ wr)) ?_
      go_big_quiet_want; refine ⟨.slice (some ad) es.length c, fun W h => by unfold Oper.quietAt; go_simp, ?_⟩; simp only [pz]; go_big_quiet_on
      go_big_quiet_want; refine ⟨.int .i64 kk, fun W h => by unfold Oper.quietAt; go_simp, ?_⟩; simp only [pz]; go_big_quiet_on
      go_big_quiet_want; refine ⟨.pointer (some (ad.add (kk * 6))), fun W h => by unfold Oper.quietAt; go_simp, ?_⟩; simp only [pz]; go_big_quiet_on
      go_big_quiet_want; refine ⟨.pointer (some (ad.add (kk * 6))), fun W h => by unfold Oper.quietAt; go_simp, ?_⟩; simp only [pz]; go_big_quiet_on
      go_big_quiet_want; refine ⟨.string x.f0, fun W h => by have a0 := x0.out W h; unfold Oper.quietAt; go_simp, ?_⟩; simp only [pz]; go_big_quiet_on
      go_big_quiet_want; refine ⟨.slice (some bd) es.length d, fun W h => by unfold Oper.quietAt; go_simp, ?_⟩; simp only [pz]; go_big_quiet_on
      go_big_quiet_want; refine ⟨.int .i64 kk, fun W h => by unfold Oper.quietAt; go_simp, ?_⟩; simp only [pz]; go_big_quiet_on
      go_big_quiet_want; refine ⟨.pointer (some (bd.add (kk * 6))), fun W h => by unfold Oper.quietAt; go_simp, ?_⟩; simp only [pz]; go_big_quiet_on
      go_big_quiet_want; refine ⟨.pointer (some (bd.add (kk * 6))), fun W h => by unfold Oper.quietAt; go_simp, ?_⟩; simp only [pz]; go_big_quiet_on
      go_big_quiet_want; refine ⟨.string x.f0, fun W h => by have a0 := w0.out W h; unfold Oper.quietAt; go_simp, ?_⟩; simp only [pz]; go_big_quiet_on
      go_big_quiet_want; refine ⟨.bool false, fun W h => by unfold Oper.quietAt; go_simp, ?_⟩; simp only [pz]; go_big_quiet_on
      go_big_quiet_want; refine ⟨.bool false, fun W h => by unfold Oper.quietAt; go_simp, ?_⟩; simp only [pz]; go_big_quiet_on
      go_big_quiet_want; refine ⟨.slice (some ad) es.length c, fun W h => by unfold Oper.quietAt; go_simp, ?_⟩; simp only [pz]; go_big_quiet_on
      go_big_quiet_want; refine ⟨.int .i64 kk, fun W h => by unfold Oper.quietAt; go_simp, ?_⟩; simp only [pz]; go_big_quiet_on
      go_big_quiet_want; refine ⟨.pointer (some (ad.add (kk * 6))), fun W h => by unfold Oper.quietAt; go_simp, ?_⟩; simp only [pz]; go_big_quiet_on
      go_big_quiet_want; refine ⟨.pointer (some ⟨(ad.add (kk * 6)).block, (ad.add (kk * 6)).off + 1, none⟩), fun W h => by unfold Oper.quietAt; go_simp, ?_⟩; simp only [pz]; go_big_quiet_on
      go_big_quiet_want; refine ⟨.agg #[.int .i64 x.f1.f0, .bool x.f1.f1, .bool x.f1.f2, .slice D3 x.f1.f3.length e3, .slice D4 x.f1.f4.length e4], fun W h => by have a0 := x1.out W h; have a1 := x2.out W h; have a2 := x3.out W h; have a3 := x4.out W h; have a4 := x5.out W h; unfold Oper.quietAt; go_simp, ?_⟩; simp only [pz]; go_big_quiet_on
      go_big_quiet_want; refine ⟨.slice (some bd) es.length d, fun W h => by unfold Oper.quietAt; go_simp, ?_⟩; simp only [pz]; go_big_quiet_on
      go_big_quiet_want; refine ⟨.int .i64 kk, fun W h => by unfold Oper.quietAt; go_simp, ?_⟩; simp only [pz]; go_big_quiet_on
      go_big_quiet_want; refine ⟨.pointer (some (bd.add (kk * 6))), fun W h => by unfold Oper.quietAt; go_simp, ?_⟩; simp only [pz]; go_big_quiet_on
      go_big_quiet_want; refine ⟨.pointer (some ⟨(bd.add (kk * 6)).block, (bd.add (kk * 6)).off + 1, none⟩), fun W h => by unfold Oper.quietAt; go_simp, ?_⟩; simp only [pz]; go_big_quiet_on
      go_big_quiet_want; refine ⟨.agg #[.int .i64 x.f1.f0, .bool x.f1.f1, .bool x.f1.f2, .slice G3 x.f1.f3.length h3, .slice G4 x.f1.f4.length h4], fun W h => by have a0 := w1.out W h; have a1 := w2.out W h; have a2 := w3.out W h; have a3 := w4.out W h; have a4 := w5.out W h; unfold Oper.quietAt; go_simp, ?_⟩; simp only [pz]; go_big_quiet_on
      go_big_quiet_want; refine ⟨.bool true, fun W h => by have a0 := cF.out W h; unfold Oper.quietAt; go_simp, ?_⟩; simp only [pz]; go_big_quiet_on
      go_big_quiet_want; refine ⟨.bool false, fun W h => by unfold Oper.quietAt; go_simp, ?_⟩; simp only [pz]; go_big_quiet_on
      go_big_quiet_want; refine ⟨.bool false, fun W h => by unfold Oper.quietAt; go_simp, ?_⟩; simp only [pz]; go_big_quiet_on
      refine wpQuiet_nil ?_
      intro W3 hW3
      have hbig := hmx.out
      go_wp2
      go_roundg (es.length - (kk + 1))
      case measure => omega
      case rel => exact ⟨kk + 1, by omega, by omega, by go_num, hR.out.trans (hW3.mono hR.out.size)⟩
    · have n1 : decide ((kk : Int) < (es.length : Int)) = false := decide_eq_false (by omega)
      have n2 : decide (kk < es.length) = false := decide_eq_false hlt
      clear hlt
      go_wp2
      go_ret
      exact ⟨rfl, hR.out⟩
end Go.Proofs.YtadjekpfehjibaaGreatDoor.PEnv
