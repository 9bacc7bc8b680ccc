/- EnvJoins, the texts JFits, JAdd, JLessTy, JBoth, JJoin2, JJoin3, JTy, JTy2, EAwake, ELaw5b: walks and laws that the card leans on, merged by packj.py. Conditions stand in each theorem. -/
import Derived.Test.YtadjekpfehjibaaGreatDoorKf
import Derived.Test.YtadjekpfehjibaaGreatDoorKe
import Derived.Test.YtadjekpfehjibaaGreatDoorKd
import Derived.Test.YtadjekpfehjibaaGreatDoorKc
set_option linter.unusedVariables false
set_option linter.unusedSimpArgs false
namespace Go.Proofs.YtadjekpfehjibaaGreatDoor.PEnv
open Go.RowKit Go.Shelf Go.Lib Go.Proofs.YtadjekpfehjibaaGreatDoorW.PrintWords Go.Proofs.YtadjekpfehjibaaGreatDoorW.PrintLast Go.Proofs.YtadjekpfehjibaaGreatDoorW.PrintMore Go.Proofs.YtadjekpfehjibaaGreatDoor.PEnvJoins
set_option maxRecDepth 100000
set_option maxHeartbeats 16000000 in
theorem refFitsT (t : S31) (ih : ∀ k ∈ t.f4, Ty2Word 11 fitsT k) : Ty2Word 11 fitsT t := by
  intro u A3 c3 A4 c4 B3 d3 B4 d4 w l3 g3 l4 g4 m3 p3 m4 p4
  have hmx := Aside0.mk (Kd.C_max g4)
  have eT := enters_of Tryz.func11 (by kernel_rfl) rfl
  have hn := new_two w (.cells #[.int .i64 t.f0, .bool t.f1, .bool t.f2, .slice A3 t.f3.length c3, .slice A4 t.f4.length c4] 31) (.cells #[.int .i64 u.f0, .bool u.f1, .bool u.f2, .slice B3 u.f3.length d3, .slice B4 u.f4.length d4] 31)
  obtain ⟨W2, hW2⟩ : ∃ W2, (w.alloc (.cells #[.int .i64 t.f0, .bool t.f1, .bool t.f2, .slice A3 t.f3.length c3, .slice A4 t.f4.length c4] 31)).alloc (.cells #[.int .i64 u.f0, .bool u.f1, .bool u.f2, .slice B3 u.f3.length d3, .slice B4 u.f4.length d4] 31) = W2 := ⟨_, rfl⟩
  rw [hW2] at hn
  obtain ⟨hb2, e0, e1⟩ := hn
  have z0 : W2.cell? ⟨w.heap.size, 0, none⟩ = some (.int .i64 t.f0) := (blk_cell e0 0).trans rfl
  have z1 : W2.cell? ⟨w.heap.size, 1, none⟩ = some (.bool t.f1) := (blk_cell e0 1).trans rfl
  have z2 : W2.cell? ⟨w.heap.size, 2, none⟩ = some (.bool t.f2) := (blk_cell e0 2).trans rfl
  have z3 : W2.cell? ⟨w.heap.size, 3, none⟩ = some (.slice A3 t.f3.length c3) := (blk_cell e0 3).trans rfl
  have z4 : W2.cell? ⟨w.heap.size, 4, none⟩ = some (.slice A4 t.f4.length c4) := (blk_cell e0 4).trans rfl
  have y0 : W2.cell? ⟨w.heap.size + 1, 0, none⟩ = some (.int .i64 u.f0) := (blk_cell e1 0).trans rfl
  have y1 : W2.cell? ⟨w.heap.size + 1, 1, none⟩ = some (.bool u.f1) := (blk_cell e1 1).trans rfl
  have y2 : W2.cell? ⟨w.heap.size + 1, 2, none⟩ = some (.bool u.f2) := (blk_cell e1 2).trans rfl
  have y3 : W2.cell? ⟨w.heap.size + 1, 3, none⟩ = some (.slice B3 u.f3.length d3) := (blk_cell e1 3).trans rfl
  have y4 : W2.cell? ⟨w.heap.size + 1, 4, none⟩ = some (.slice B4 u.f4.length d4) := (blk_cell e1 4).trans rfl
  replace ih := Aside0.mk ih
  replace g3 := Aside0.mk g3
  replace g4 := Aside0.mk g4
  replace p3 := Aside0.mk p3
  replace p4 := Aside0.mk p4
  clear l3 l4 m3 m4
  rw [fitsT_eq]
  by_cases h0 : t.f0 = u.f0
  · have n0 : (t.f0 != u.f0) = false := by simp [h0]
    have n0' : (t.f0 == u.f0) = true := by simp [h0]
    have k0 := Aside0.mk (show decide (t.f0 = u.f0) = true from decide_eq_true h0)
    clear h0
    by_cases h1 : t.f1 = u.f1
    · have n1 : (t.f1 != u.f1) = false := by simp [h1]
      have n1' : (t.f1 == u.f1) = true := by simp [h1]
      have k1 := Aside0.mk n1'
      clear h1
      by_cases hl : t.f4.length = u.f4.length
      · have n2 : ((t.f4.length : Int) != (u.f4.length : Int)) = false := by simp [hl]
        have n2' : (t.f4.length != u.f4.length) = false := by simp [hl]
        have n3 : ((t.f4.length : Int) == (u.f4.length : Int)) = true := by simp [hl]
        replace hl := Aside0.mk hl
        go_enter Tryz.func11, Tryz.ntmps11
        go_upto_region 1 with fail
        obtain ⟨b0, hb0⟩ : ∃ b0, w.heap.size = b0 := ⟨_, rfl⟩
        rw [hb0] at z0 y0 z1 y1 z2 y2 z3 y3 z4 y4
        simp only [hb0]
        clear e0 e1 hW2
        replace hb2 := Aside0.mk hb2
        replace hb0 := Aside0.mk hb0
        go_wp2
        clear n0 n0' n1 n1' n2 n2' n3 z0 z1 z2 y0 y1 y2
        replace z4 := Aside0.mk z4
        replace y4 := Aside0.mk y4
        go_loopg [5] t.f4.length (fun gg s5 wr => ∃ kk : Nat, kk ≤ t.f4.length ∧ t.f4.length - kk ≤ gg ∧ s5 = .int .i64 kk ∧ Aside (Below W2.heap.size W2 wr ∧ ∀ (j : Nat) p q, j < kk → t.f4[j]? = some p → u.f4[j]? = some q → fitsT p q = true))
        case atStart => exact ⟨0, Nat.zero_le _, by omega, rfl, Below.refl _ W2, fun j p q hj => absurd hj (Nat.not_lt_zero _)⟩
        case round =>
          obtain ⟨kk, hkk, hgg, rfl, hR⟩ := hrel
          replace hR := Aside0.mk hR.out
          by_cases hlt : kk < t.f4.length
          · have hltz : (kk : Int) < (t.f4.length : Int) := by omega
            have hlty : kk < u.f4.length := by have := hl.out; omega
            have hltyz : (kk : Int) < (u.f4.length : Int) := by omega
            have hbw := Aside0.mk (hb2.out.trans (hR.out.1.mono hb2.out.size))
            obtain ⟨ad, D3, e3, D4, e4, eA, u0, u1, u2, u3, u4, ul3, ug3, ul4, ug4⟩ := at_T31 (Kd.C_below g4.out hbw.out) (kk : Int) (by omega) hltz
            subst eA
            obtain ⟨bd, G3, h3, G4, h4, eB, v0, v1, v2, v3, v4, vl3, vg3, vl4, vg4⟩ := at_T31 (Kd.C_below p4.out hbw.out) (kk : Int) (by omega) hltyz
            subst eB
            have hrx : t.f4[kk]? = some (rd_T31 t.f4 (kk : Int)) := by rw [rd37_at _ _ hlt]; exact List.getElem?_eq_getElem hlt
            have hry : u.f4[kk]? = some (rd_T31 u.f4 (kk : Int)) := by rw [rd37_at _ _ hlty]; exact List.getElem?_eq_getElem hlty
            simp only [Int.toNat_natCast] at u0 u1 u2 u3 u4 v0 v1 v2 v3 v4
            generalize rd_T31 t.f4 (kk : Int) = x at *
            generalize rd_T31 u.f4 (kk : Int) = y at *
            have cF := fun W (h : Below wr.heap.size wr W) => (ih.out x (List.mem_of_getElem? hrx) y D3 e3 D4 e4 G3 h3 G4 h4 W ul3 (Kd.C_below ug3 h) ul4 (Kd.C_below ug4 h) vl3 (Kd.C_below vg3 h) vl4 (Kd.C_below vg4 h)).mono (fun e w' q => And.intro q.1 (h.trans (q.2.mono h.size)))
            have x0 := Aside0.mk (fun W (h : Below wr.heap.size wr W) => below_cell h u0)
            have x1 := Aside0.mk (fun W (h : Below wr.heap.size wr W) => below_cell h u1)
            have x2 := Aside0.mk (fun W (h : Below wr.heap.size wr W) => below_cell h u2)
            have x3 := Aside0.mk (fun W (h : Below wr.heap.size wr W) => below_cell h u3)
            have x4 := Aside0.mk (fun W (h : Below wr.heap.size wr W) => below_cell h u4)
            have w0 := Aside0.mk (fun W (h : Below wr.heap.size wr W) => below_cell h v0)
            have w1 := Aside0.mk (fun W (h : Below wr.heap.size wr W) => below_cell h v1)
            have w2 := Aside0.mk (fun W (h : Below wr.heap.size wr W) => below_cell h v2)
            have w3 := Aside0.mk (fun W (h : Below wr.heap.size wr W) => below_cell h v3)
            have w4 := Aside0.mk (fun W (h : Below wr.heap.size wr W) => below_cell h v4)
            clear u0 u1 u2 u3 u4 v0 v1 v2 v3 v4 ul3 ug3 ul4 ug4 vl3 vg3 vl4 vg4
            have q4 := below_cell hR.out.1 z4.out
            go_upto_region 6 with fail
            clear q4
            have j := Aside0.mk (fun W (h : Below wr.heap.size wr W) => below_cell h (below_cell hR.out.1 z4.out))
            have o := Aside0.mk (fun W (h : Below wr.heap.size wr W) => below_cell h (below_cell hR.out.1 y4.out))
            cases hff : fitsT x y with
            | true =>
              rw [hff] at cF
              have hnext := Aside0.mk (show ∀ (j : Nat) p q, j < kk + 1 → t.f4[j]? = some p → u.f4[j]? = some q → fitsT p q = true from fun j p q hj hp hq => by
                by_cases e : j = kk
                · subst e
                  rw [hrx] at hp
                  rw [hry] at hq
                  cases hp
                  cases hq
                  exact hff
                · exact hR.out.2 j p q (by omega) hp hq)
              clear hrx hry hff
              replace cF := Aside0.mk cF
              refine region_cls (fun W => Below wr.heap.size wr W) (by kernel_rfl) (by kernel_rfl) (below_drew1 (Below.refl _ wr)) ?_
              go_big_quiet_want; refine ⟨.pointer (some ⟨b0, 4, none⟩), fun W h => by unfold Oper.quietAt; go_simp, ?_⟩; simp only [pz]; go_big_quiet_on
              go_big_quiet_want; refine ⟨.slice (some ad) t.f4.length c4, fun W h => by have a0 := j.out W h; unfold Oper.quietAt; go_simp, ?_⟩; simp only [pz]; go_big_quiet_on
              go_big_quiet_want; refine ⟨.int .i64 kk, fun W h => by unfold Oper.quietAt; go_simp, ?_⟩; simp only [pz]; go_big_quiet_on
              go_big_quiet_want; refine ⟨.pointer (some (ad.add (kk * 5))), fun W h => by unfold Oper.quietAt; go_simp, ?_⟩; simp only [pz]; go_big_quiet_on
              go_big_quiet_want; refine ⟨.agg #[.int .i64 x.f0, .bool x.f1, .bool x.f2, .slice D3 x.f3.length e3, .slice D4 x.f4.length e4], fun W h => by have a0 := x0.out W h; have a1 := x1.out W h; have a2 := x2.out W h; have a3 := x3.out W h; have a4 := x4.out W h; unfold Oper.quietAt; go_simp, ?_⟩; simp only [pz]; go_big_quiet_on
              go_big_quiet_want; refine ⟨.pointer (some ⟨b0 + 1, 4, none⟩), fun W h => by unfold Oper.quietAt; go_simp, ?_⟩; simp only [pz]; go_big_quiet_on
              go_big_quiet_want; refine ⟨.slice (some bd) u.f4.length d4, fun W h => by have a0 := o.out W h; unfold Oper.quietAt; go_simp, ?_⟩; simp only [pz]; go_big_quiet_on
              go_big_quiet_want; refine ⟨.int .i64 kk, fun W h => by unfold Oper.quietAt; go_simp, ?_⟩; simp only [pz]; go_big_quiet_on
              go_big_quiet_want; refine ⟨.pointer (some (bd.add (kk * 5))), fun W h => by unfold Oper.quietAt; go_simp, ?_⟩; simp only [pz]; go_big_quiet_on
              go_big_quiet_want; refine ⟨.agg #[.int .i64 y.f0, .bool y.f1, .bool y.f2, .slice G3 y.f3.length h3, .slice G4 y.f4.length h4], fun W h => by have a0 := w0.out W h; have a1 := w1.out W h; have a2 := w2.out W h; have a3 := w3.out W h; have a4 := w4.out W h; unfold Oper.quietAt; go_simp, ?_⟩; simp only [pz]; go_big_quiet_on
              go_big_quiet_want; refine ⟨.bool true, fun W h => by have a0 := cF.out W h; unfold Oper.quietAt; go_simp, ?_⟩; simp only [pz]; go_big_quiet_on
              go_big_quiet_want; refine ⟨.bool false, fun W h => by unfold Oper.quietAt; go_simp, ?_⟩; simp only [pz]; go_big_quiet_on
              refine wpQuiet_nil ?_
              intro W3 hW3
              have hbig := hmx.out
              go_wp2
              go_roundg (t.f4.length - (kk + 1))
              case measure => omega
              case rel => exact ⟨kk + 1, by omega, by omega, by go_num, hR.out.1.trans (hW3.mono hR.out.1.size), hnext.out⟩
            | false =>
              rw [hff] at cF
              have hall := Aside0.mk (all2_false hrx hry hff)
              clear hrx hry hff
              replace cF := Aside0.mk cF
              refine region_cls (fun W => Below wr.heap.size wr W) (by kernel_rfl) (by kernel_rfl) (below_drew1 (Below.refl _ wr)) ?_
              go_big_quiet_want; refine ⟨.pointer (some ⟨b0, 4, none⟩), fun W h => by unfold Oper.quietAt; go_simp, ?_⟩; simp only [pz]; go_big_quiet_on
              go_big_quiet_want; refine ⟨.slice (some ad) t.f4.length c4, fun W h => by have a0 := j.out W h; unfold Oper.quietAt; go_simp, ?_⟩; simp only [pz]; go_big_quiet_on
              go_big_quiet_want; refine ⟨.int .i64 kk, fun W h => by unfold Oper.quietAt; go_simp, ?_⟩; simp only [pz]; go_big_quiet_on
              go_big_quiet_want; refine ⟨.pointer (some (ad.add (kk * 5))), fun W h => by unfold Oper.quietAt; go_simp, ?_⟩; simp only [pz]; go_big_quiet_on
              go_big_quiet_want; refine ⟨.agg #[.int .i64 x.f0, .bool x.f1, .bool x.f2, .slice D3 x.f3.length e3, .slice D4 x.f4.length e4], fun W h => by have a0 := x0.out W h; have a1 := x1.out W h; have a2 := x2.out W h; have a3 := x3.out W h; have a4 := x4.out W h; unfold Oper.quietAt; go_simp, ?_⟩; simp only [pz]; go_big_quiet_on
              go_big_quiet_want; refine ⟨.pointer (some ⟨b0 + 1, 4, none⟩), fun W h => by unfold Oper.quietAt; go_simp, ?_⟩; simp only [pz]; go_big_quiet_on
              go_big_quiet_want; refine ⟨.slice (some bd) u.f4.length d4, fun W h => by have a0 := o.out W h; unfold Oper.quietAt; go_simp, ?_⟩; simp only [pz]; go_big_quiet_on
              go_big_quiet_want; refine ⟨.int .i64 kk, fun W h => by unfold Oper.quietAt; go_simp, ?_⟩; simp only [pz]; go_big_quiet_on
              go_big_quiet_want; refine ⟨.pointer (some (bd.add (kk * 5))), fun W h => by unfold Oper.quietAt; go_simp, ?_⟩; simp only [pz]; go_big_quiet_on
              go_big_quiet_want; refine ⟨.agg #[.int .i64 y.f0, .bool y.f1, .bool y.f2, .slice G3 y.f3.length h3, .slice G4 y.f4.length h4], fun W h => by have a0 := w0.out W h; have a1 := w1.out W h; have a2 := w2.out W h; have a3 := w3.out W h; have a4 := w4.out W h; unfold Oper.quietAt; go_simp, ?_⟩; simp only [pz]; go_big_quiet_on
              go_big_quiet_want; refine ⟨.bool false, fun W h => by have a0 := cF.out W h; unfold Oper.quietAt; go_simp, ?_⟩; simp only [pz]; go_big_quiet_on
              go_big_quiet_want; refine ⟨.bool true, fun W h => by unfold Oper.quietAt; go_simp, ?_⟩; simp only [pz]; go_big_quiet_on
              refine wpQuiet_nil ?_
              intro W3 hW3
              go_wp2
              go_ret
              exact ⟨by rw [k0.out, k1.out, hall.out]; rfl, hb2.out.trans ((hR.out.1.trans (hW3.mono hR.out.1.size)).mono hb2.out.size)⟩
          · have n1 : decide ((kk : Int) < (t.f4.length : Int)) = false := decide_eq_false (by omega)
            have n2 : decide (kk < t.f4.length) = false := decide_eq_false hlt
            have q4 := below_cell hR.out.1 z4.out
            have hall := Aside0.mk (all2_true hl.out fun j p q hp hq => hR.out.2 j p q (by have := idx_lt hp; omega) hp hq)
            clear hlt
            go_wp2
            go_ret
            exact ⟨by rw [k0.out, k1.out, hall.out]; rfl, hb2.out.trans (hR.out.1.mono hb2.out.size)⟩
      · have n2 : ((t.f4.length : Int) != (u.f4.length : Int)) = true := by simp; omega
        have n2' : (t.f4.length != u.f4.length) = true := by simpa using hl
        have n3 : ((t.f4.length : Int) == (u.f4.length : Int)) = false := by simp; omega
        have hall := Aside0.mk (all2_len (p := fitsT) hl)
        clear hl eT
        go_enter Tryz.func11, Tryz.ntmps11
        go_wp2
        go_ret
        exact ⟨by rw [hall.out, Bool.and_false]; rfl, hb2⟩
    · have n1 : (t.f1 != u.f1) = true := by simpa using h1
      have n1' : (t.f1 == u.f1) = false := by simpa using h1
      have k1 := Aside0.mk n1'
      clear h1 eT
      go_enter Tryz.func11, Tryz.ntmps11
      go_wp2
      go_ret
      exact ⟨by rw [k1.out, Bool.and_false, Bool.false_and]; rfl, hb2⟩
  · have n0 : (t.f0 != u.f0) = true := by simpa using h0
    have n0' : (t.f0 == u.f0) = false := by simpa using h0
    have k0 := Aside0.mk (show decide (t.f0 = u.f0) = false from decide_eq_false h0)
    clear h0 eT
    go_enter Tryz.func11, Tryz.ntmps11
    go_wp2
    go_ret
    exact ⟨by rw [k0.out, Bool.false_and, Bool.false_and]; rfl, hb2⟩
/-- The document's Fits, at every two types. -/
theorem refFitsC (t : S31) : Ty2Word 11 fitsT t := tyInd (fun t ih => refFitsT t ih) t
end Go.Proofs.YtadjekpfehjibaaGreatDoor.PEnv
namespace Go.Proofs.YtadjekpfehjibaaGreatDoor.PEnv
open Go.RowKit Go.Shelf Go.Lib Go.Proofs.YtadjekpfehjibaaGreatDoorW.PrintWords Go.Proofs.YtadjekpfehjibaaGreatDoorW.PrintLast Go.Proofs.YtadjekpfehjibaaGreatDoorW.PrintMore Go.Proofs.YtadjekpfehjibaaGreatDoor.PEnvJoins
set_option maxRecDepth 100000
/-- A loan put in front of the first that is not less. -/
def insL : List S44 → S44 → List S44
  | [], x => [x]
  | y :: l, x => if befL y x = true then y :: insL l x else x :: y :: l
def addL (l : List S44) (x : S44) : List S44 := if hasL l x = true then l else insL l x
theorem insL_mem (x z : S44) : ∀ l, z ∈ insL l x ↔ z = x ∨ z ∈ l
  | [] => by simp [insL]
  | y :: l => by
    rw [insL]
    split
    · rw [List.mem_cons, insL_mem x z l, List.mem_cons]
      constructor
      · rintro (h | h | h) <;> simp [h]
      · rintro (h | h | h) <;> simp [h]
    · rw [List.mem_cons]
theorem insL_rises (x : S44) : ∀ l, Rises l → ¬ x ∈ l → Rises (insL l x)
  | [], _, _ => by simp [insL, Rises]
  | y :: l, h, hx => by
    unfold Rises at h
    rw [List.pairwise_cons] at h
    rw [insL]
    have hne : y ≠ x := fun e => hx (by rw [e]; exact List.mem_cons_self)
    split
    · rename_i hb
      refine List.pairwise_cons.mpr ⟨fun z hz => ?_, insL_rises x l h.2 fun hm => hx (List.mem_cons_of_mem _ hm)⟩
      rcases (insL_mem x z l).mp hz with rfl | hz
      · exact of_decide_eq_true hb
      · exact h.1 z hz
    · rename_i hb
      have hlt : cmpLoan x y < 0 := by
        rcases lt_or hne with h1 | h1
        · exact absurd (decide_eq_true h1) hb
        · exact h1
      refine List.pairwise_cons.mpr ⟨fun z hz => ?_, List.pairwise_cons.mpr h⟩
      rcases List.mem_cons.mp hz with rfl | hz
      · exact hlt
      · exact lt_trans' hlt (h.1 z hz)
theorem insL_length (x : S44) : ∀ l, (insL l x).length = l.length + 1
  | [] => rfl
  | y :: l => by
    rw [insL]
    split
    · rw [List.length_cons, insL_length x l, List.length_cons]
    · rfl
theorem addL_mem (l : List S44) (x z : S44) : z ∈ addL l x ↔ z = x ∨ z ∈ l := by
  unfold addL
  split
  · rename_i h
    have := (hasL_iff l x).mp h
    constructor
    · exact .inr
    · rintro (rfl | h)
      · exact this
      · exact h
  · exact insL_mem x z l
theorem addL_rises {l : List S44} (h : Rises l) (x : S44) : Rises (addL l x) := by
  unfold addL
  split
  · exact h
  · rename_i hx
    exact insL_rises x l h fun hm => hx ((hasL_iff l x).mpr hm)
theorem addL_length (l : List S44) (x : S44) : (addL l x).length ≤ l.length + 1 := by
  unfold addL
  split
  · omega
  · rw [insL_length]; omega
def addAll (l ms : List S44) : List S44 := ms.foldl addL l
theorem addAll_spec : ∀ (ms l : List S44), Rises l → Rises (addAll l ms) ∧ (∀ z, z ∈ addAll l ms ↔ z ∈ l ∨ z ∈ ms) ∧ (addAll l ms).length ≤ l.length + ms.length
  | [], l, h => ⟨h, fun z => by simp [addAll], Nat.le_refl _⟩
  | m :: ms, l, h => by
    obtain ⟨h1, h2, h3⟩ := addAll_spec ms (addL l m) (addL_rises h m)
    refine ⟨h1, fun z => (h2 z).trans ?_, ?_⟩
    · rw [addL_mem, List.mem_cons]
      constructor
      · rintro ((h | h) | h) <;> simp [h]
      · rintro (h | h | h) <;> simp [h]
    · have := addL_length l m
      show (addAll (addL l m) ms).length ≤ _
      rw [List.length_cons]
      omega
theorem addAll_merged (ls ms : List S44) : addAll (addAll [] ls) ms = mergedL ls ms := by
  obtain ⟨a1, a2, _⟩ := addAll_spec ls [] List.Pairwise.nil
  obtain ⟨b1, b2, _⟩ := addAll_spec ms _ a1
  obtain ⟨m1, m2⟩ := merged_spec ls ms
  exact rises_eq b1 m1 fun x => by
    rw [b2, a2, m2]
    simp
theorem addAll_take (l ms : List S44) (i : Nat) (x : S44) (h : ms[i]? = some x) : addAll l (ms.take (i + 1)) = addL (addAll l (ms.take i)) x := by
  unfold addAll
  rw [List.take_add_one, h, List.foldl_append]
  rfl
theorem insL_drop (x : S44) : ∀ (l : List S44) (i : Nat), i ≤ l.length → (∀ (j : Nat) y, j < i → l[j]? = some y → befL y x = true) → insL l x = l.take i ++ insL (l.drop i) x
  | l, 0, _, _ => by simp
  | [], i + 1, h, _ => absurd h (by simp)
  | y :: l, i + 1, h, hb => by
    rw [insL, if_pos (hb 0 y (by omega) rfl), List.take_succ_cons, List.drop_succ_cons, List.cons_append, insL_drop x l i (by simpa using h) fun j z hj hz => hb (j + 1) z (by omega) (by simpa using hz)]
/-- What a row that is only read leads to lies where it may. -/
theorem F_els {α : Type} {d : Kd α} {W : World} {P : Nat → Prop} {A : Option Addr} {n : Nat} {xs : List α} (hs : 0 < d.sz) (hF : Kd.F d W P A n xs) :
    ∃ vs, Els d.sz W A n vs ∧ ∀ (i : Nat) (x : α), xs[i]? = some x → ∃ cs, vs[i]? = some cs ∧ cs.length = d.sz ∧ Kd.FK d W P x cs := by
  obtain ⟨vs, hv, hK⟩ := els_of_C hF.now
  refine ⟨vs, hv, fun i x hx => ?_⟩
  obtain ⟨cs, hc, hk⟩ := hK i x hx
  have hl := hv.2.2.1 i cs hc
  refine ⟨cs, hc, hl, fun W' hW => ?_⟩
  have hi : i < n := by have := idx_lt hx; have := hF.now.1; omega
  obtain ⟨ad, rfl, hcell⟩ := hv.2.2.2 (by omega)
  have hblk : ∀ k, (ad.add k).block = ad.block := fun k => by unfold Addr.add; split <;> rfl
  have hP : P ad.block := by
    by_cases h : P ad.block
    · exact h
    · obtain ⟨W1, h1, h2⟩ := Kd.emptied W ad.block
      obtain ⟨_, _, hc1⟩ := hF W1 fun k hk _ => h1 k fun e => h (by rw [← e]; exact hk)
      obtain ⟨ad', e, hc2⟩ := hc1 (by omega)
      cases e
      obtain ⟨c2, hl2, _, hu⟩ := hc2 i x hx
      have := hu 0 (c2[0]'(by omega)) (by rw [List.getElem?_eq_getElem])
      rw [h2 _ (hblk _)] at this
      cases this
  obtain ⟨_, _, hc1⟩ := hF W' hW
  obtain ⟨ad', e, hc2⟩ := hc1 (by omega)
  cases e
  obtain ⟨c2, hl2, hk2, hu⟩ := hc2 i x hx
  have : c2 = cs := by
    refine List.ext_getElem? fun j => ?_
    rcases Nat.lt_or_ge j d.sz with hj | hj
    · have a1 := hu j (c2[j]'(by omega)) (by rw [List.getElem?_eq_getElem])
      have a2 := hcell i cs hc j (cs[j]'(by omega)) (by rw [List.getElem?_eq_getElem])
      have hb : (ad.add (i * d.sz + j)).block < W.heap.size := World.block_lt_of_cell? W _ a2
      rw [World.cell?_of_block (hW _ (by rw [hblk]; exact hP) hb), a2] at a1
      rw [List.getElem?_eq_getElem (by omega), List.getElem?_eq_getElem (by omega)]
      exact a1.symm
    · rw [List.getElem?_eq_none (by omega), List.getElem?_eq_none (by omega)]
  rw [← this]
  exact hk2
theorem addA_add (a : Addr) (i j : Nat) : (a.add i).add j = a.add (i + j) := by
  unfold Addr.add
  by_cases hi : i = 0 <;> by_cases hj : j = 0 <;> simp [hi, hj, Nat.add_assoc]
theorem addA_zero (a : Addr) : a.add 0 = a := by simp [Addr.add]
theorem dropL {α : Type} {l : List α} {i : Nat} {x : α} (h : l[i]? = some x) : l.drop i = x :: l.drop (i + 1) := by
  obtain ⟨hi, rfl⟩ := List.getElem?_eq_some_iff.mp h
  exact List.drop_eq_getElem_cons hi
theorem wpList_append_ty {P : Program} {w w1 : World} {v : Value} {ops : Array Oper} {rest : List Oper} {o : Oper} {a : Act} {Q : Exit → Act → World → Prop} (hg : o.guard = none) (s x : Operand) (t : TypeId)
    (hop : o.op = Op.call { callee := Callee.builtin Builtin.append, args := #[s, x], argTypes := #[t, t] }) (vs vx : Value) (hs : a.eval s = vs) (hx : a.eval x = vx) (hrun : (Builtin.append_ #[t, t] o.type #[vs, vx]).run P w = .ok v w1)
    (h : wpList P ops Q rest (a.put o.dst v) w1) : wpList P ops Q (o :: rest) a w := by
  refine wpList_plain hg fun K hK' => ?_
  unfold Oper.wp
  simp [execOp, hop, resolve, invoke, builtin, hs, hx, hrun, Result.andThen]
  exact hK' _ _ h
theorem append_any (W : World) (lo : Nat) (v : Value) (n : Nat) (xs : List Value) (hown : W.ownsRow lo 44 4 v n xs) (A : Option Addr) (m c : Nat) (news : List Value) (hl : news.length = m * 4) (hA : 0 < m → ∃ ad, A = some ad ∧ ∀ j u, news[j]? = some u → W.cell? (ad.add j) = some u) (h1 : ∀ u ∈ news, u.oneCell' = true) (hb : n + m ≤ 1099511627777) (hlo : lo ≤ W.heap.size) :
    ∃ v1 w1, (Builtin.append_ #[28, 28] 28 #[v, .slice A m c]).run Tryz.prog W = .ok v1 w1 ∧ w1.ownsRow lo 44 4 v1 (n + m) (xs ++ news) ∧ Below lo W w1 := by
  by_cases hm : 0 < m
  · obtain ⟨ad, rfl, hc⟩ := hA hm
    obtain ⟨v1, w1, h1, h2, h3, _, _⟩ := run_append_own_at (P := Tryz.prog) (w := W) lo 28 28 44 Tryz.t44 (.agg #[.string ⟨#[]⟩, .string ⟨#[]⟩, .slice none 0 0, .bool false]) 4 64 (by first | kernel_rfl | rfl) (by first | kernel_rfl | rfl) (by first | kernel_rfl | rfl) (by first | kernel_rfl | rfl) (by first | kernel_rfl | rfl) rfl (by decide) v n xs hown ad m c news hl hc h1 (by unfold maxLen; omega) (by omega) hlo
    exact ⟨v1, w1, h1, h2, (Below.refl lo W).grown h3 hlo (own_base hown)⟩
  · obtain rfl : m = 0 := by omega
    obtain rfl : news = [] := List.length_eq_zero_iff.mp (by omega)
    obtain ⟨B, cB, rfl, hle⟩ : ∃ B cB, v = .slice B n cB ∧ n ≤ cB := by
      rcases hown.2 with ⟨rfl, rfl⟩ | ⟨g, cap, cur, rfl, _, _, hc, _⟩
      · exact ⟨none, 0, rfl, Nat.le_refl _⟩
      · exact ⟨_, cap, rfl, hc⟩
    exact ⟨_, W, appNothing W _ B n cB hle A c, by rw [List.append_nil]; exact hown, Below.refl _ _⟩
theorem reps_lists {α : Type} {R : α → List Value → Prop} {sz : Nat} : ∀ (ps : List α) (cs : List (List Value)), ps.length = cs.length → (∀ (j : Nat) p c, ps[j]? = some p → cs[j]? = some c → R p c ∧ c.length = sz) → Reps R sz ps cs.flatten
  | [], [], _, _ => Reps.none _ _
  | [], _ :: _, h, _ => by cases h
  | _ :: _, [], h, _ => by cases h
  | p :: ps, c :: cs, h, hR => by
    obtain ⟨h1, h2⟩ := hR 0 p c rfl rfl
    have ih := reps_lists ps cs (by simpa using h) fun j p c hp hc => hR (j + 1) p c (by simpa using hp) (by simpa using hc)
    refine ⟨by rw [List.flatten_cons, List.length_append, ih.1, h2, List.length_cons, Nat.add_mul, Nat.one_mul, Nat.add_comm], fun j q hq => ?_⟩
    cases j with
    | zero =>
      obtain rfl : p = q := by simpa using hq
      rw [Nat.zero_mul, List.drop_zero, List.flatten_cons, ← h2, List.take_left]
      exact h1
    | succ j =>
      have := ih.2 j q (by simpa using hq)
      rw [List.flatten_cons, show (j + 1) * sz = c.length + j * sz by rw [h2, Nat.add_mul, Nat.one_mul, Nat.add_comm], ← List.drop_drop, List.drop_left]
      exact this
theorem els_part {W : World} {A : Option Addr} {n : Nat} {vs : List (List Value)} (hv : Els 4 W A n vs) (i m : Nat) (hi : i + m ≤ n) : ((vs.drop i).take m).flatten.length = m * 4 ∧ (0 < m → ∃ ad, A = some ad ∧ ∀ j u, ((vs.drop i).take m).flatten[j]? = some u → W.cell? ((ad.add (i * 4)).add j) = some u) := by
  have hR := reps_lists (R := fun (i : Nat) (c : List Value) => vs[i]? = some c) (sz := 4) (List.range' i m) ((vs.drop i).take m) (by rw [List.length_range', List.length_take, List.length_drop, hv.1]; omega) fun j p c hp hc => by
    have hj : j < m := by have := idx_lt hp; rwa [List.length_range'] at this
    rw [List.getElem?_range' hj] at hp
    rw [List.getElem?_take, if_pos hj, List.getElem?_drop] at hc
    cases hp
    exact ⟨by simpa using hc, hv.2.2.1 _ _ hc⟩
  refine ⟨by rw [hR.1, List.length_range'], fun hm => ?_⟩
  obtain ⟨ad, rfl, hc⟩ := hv.2.2.2 (by omega)
  refine ⟨ad, rfl, fun j u hu => ?_⟩
  have hj : j < m * 4 := by have := idx_lt hu; rw [hR.1, List.length_range'] at this; exact this
  have hp := hR.2 (j / 4) (i + j / 4) (by rw [List.getElem?_range' (by omega)]; simp)
  have := hc _ _ hp (j % 4) u (by
    rw [List.getElem?_take, if_pos (by omega), List.getElem?_drop]
    rw [show j / 4 * 4 + j % 4 = j by omega]
    exact hu)
  rw [addA_add, show i * 4 + j = (i + j / 4) * 4 + j % 4 by omega]
  exact this
theorem hasC (l : List S44) (X : Option Addr) (cX : Nat) (hX : l.length ≤ cX) (x : S44) (A2 : Option Addr) (c2 : Nat) (l2 : x.f1.f1.length ≤ c2) (w : World) (hC : Kd.C k44 w X l.length l) (g2 : Kd.C (Kd.int .i64) w A2 x.f1.f1.length x.f1.f1) :
    Calls Tryz.prog 49 #[.slice X l.length cX, .agg #[.string x.f0, .string x.f1.f0, .slice A2 x.f1.f1.length c2, .bool x.f2]] w fun e w' => e = .returned (.bool (hasL l x)) ∧ Below w.heap.size w w' := by
  obtain ⟨k, hk⟩ := has_f l x (Kd.C_max hC) (loans_max hC)
  exact lienbookref05_Has.calls k _ _ _ _ _ _ _ _ _ _ w hC hX g2 l2 (hk k (Nat.le_refl _))
theorem befC (a b : S44) (A2 : Option Addr) (c2 : Nat) (B2 : Option Addr) (d2 : Nat) (W : World) (g2 : Kd.C (Kd.int .i64) W A2 a.f1.f1.length a.f1.f1) (l2 : a.f1.f1.length ≤ c2) (h2 : Kd.C (Kd.int .i64) W B2 b.f1.f1.length b.f1.f1) (m2 : b.f1.f1.length ≤ d2) :
    Calls Tryz.prog 43 #[.agg #[.string a.f0, .string a.f1.f0, .slice A2 a.f1.f1.length c2, .bool a.f2], .agg #[.string b.f0, .string b.f1.f0, .slice B2 b.f1.f1.length d2, .bool b.f2]] W fun e W' => e = .returned (.bool (befL a b)) ∧ Below W.heap.size W W' :=
  lienbookref05_before.calls (2 * a.f1.f1.length + 2) _ _ _ _ _ _ _ _ _ _ _ _ _ W g2 l2 h2 m2 (before_f _ _ _ _ _ _ _ _ (Kd.C_max g2) _ (by omega))
set_option maxHeartbeats 16000000 in
/-- The document's Add, walked. -/
theorem addC (w0 w : World) (hb : Below w0.heap.size w0 w) (l : List S44) (X : Option Addr) (cX : Nat) (hX : l.length ≤ cX) {P : Nat → Prop} (hF : Kd.F k44 w P X l.length l) (hm : l.length ≤ 1099511627776) (x : S44) (A2 : Option Addr) (c2 : Nat) (l2 : x.f1.f1.length ≤ c2) (g2 : Kd.C (Kd.int .i64) w0 A2 x.f1.f1.length x.f1.f1) :
    Calls Tryz.prog 55 #[.slice X l.length cX, .agg #[.string x.f0, .string x.f1.f0, .slice A2 x.f1.f1.length c2, .bool x.f2]] w fun e w' => ∃ X' c', e = .returned (.slice X' (addL l x).length c') ∧ Below w.heap.size w w' ∧ (addL l x).length ≤ c' ∧ Kd.F k44 w' (fun k => (P k ∨ k < w0.heap.size) ∨ w.heap.size ≤ k) X' (addL l x).length (addL l x) := by
  have hC := hF.now
  have hb1 := below_alloc (Below.refl _ w) (.cells #[.string x.f0, .string x.f1.f0, .slice A2 x.f1.f1.length c2, .bool x.f2] 44)
  have e0 := World.alloc_heap_new w (.cells #[.string x.f0, .string x.f1.f0, .slice A2 x.f1.f1.length c2, .bool x.f2] 44)
  have h1 := hasC l X cX hX x A2 c2 l2 _ (Kd.C_below hC hb1) (Kd.C_below (Kd.C_below g2 hb) hb1)
  obtain ⟨W1, hW1⟩ : ∃ W1, w.alloc (.cells #[.string x.f0, .string x.f1.f0, .slice A2 x.f1.f1.length c2, .bool x.f2] 44) = W1 := ⟨_, rfl⟩
  rw [hW1] at h1 hb1 e0
  have j0 : W1.cell? ⟨w.heap.size, 0, none⟩ = some (.string x.f0) := (blk_cell e0 0).trans rfl
  have j1 : W1.cell? ⟨w.heap.size, 1, none⟩ = some (.string x.f1.f0) := (blk_cell e0 1).trans rfl
  have j2 : W1.cell? ⟨w.heap.size, 2, none⟩ = some (.slice A2 x.f1.f1.length c2) := (blk_cell e0 2).trans rfl
  have j3 : W1.cell? ⟨w.heap.size, 3, none⟩ = some (.bool x.f2) := (blk_cell e0 3).trans rfl
  unfold addL
  cases hh : hasL l x with
  | true =>
    rw [hh] at h1
    rw [if_pos rfl]
    replace hF := Aside0.mk hF
    clear hh e0 hC
    go_enter Tryz.func55, Tryz.ntmps55
    go_wp2_with (go_at_call 49; refine h1.mono ?_; clear h1; rintro e w2 ⟨rfl, hb2⟩)
    go_ret
    have hb3 := hb1.trans (hb2.mono hb1.size)
    exact ⟨X, cX, rfl, hb3, hX, Kd.F_mono (Kd.F_below hF.out hb3) fun k hk => .inl (.inl hk)⟩
  | false =>
    rw [hh] at h1
    rw [if_neg (by decide), insL_length]
    clear hh
    replace hb := Aside0.mk hb
    replace g2 := Aside0.mk g2
    replace hC := Aside0.mk hC
    replace hF := Aside0.mk hF
    replace hm := Aside0.mk hm
    have eB := enters_of Tryz.func43 (by kernel_rfl) rfl
    clear e0
    go_enter Tryz.func55, Tryz.ntmps55
    go_upto_block 0 with (go_at_call 49; refine h1.mono ?_; clear h1; rintro e w2 ⟨rfl, hb2⟩)
    obtain ⟨gb, hgb⟩ : ∃ gb, w.heap.size = gb := ⟨_, rfl⟩
    rw [hgb] at j0 j1 j2 j3
    simp only [hgb]
    replace j0 := Aside0.mk j0
    replace j1 := Aside0.mk j1
    replace j2 := Aside0.mk j2
    replace j3 := Aside0.mk j3
    replace hgb := Aside0.mk hgb
    clear hW1
    replace hb1 := Aside0.mk hb1
    replace hb2 := Aside0.mk hb2
    go_cut [5] from 11 to 24 (fun s5 wx => ∃ kk : Nat, kk ≤ l.length ∧ s5 = .int .i64 kk ∧ Aside0 (Below W1.heap.size W1 wx ∧ insL l x = l.take kk ++ x :: l.drop kk))
    case first =>
      go_wp2_with fail
      go_loopg [5] l.length (fun gg s5 wr => ∃ kk : Nat, kk ≤ l.length ∧ l.length - kk ≤ gg ∧ s5 = .int .i64 kk ∧ Aside (Below W1.heap.size W1 wr ∧ ∀ (j : Nat) y, j < kk → l[j]? = some y → befL y x = true))
      case atStart => exact ⟨0, Nat.zero_le _, by omega, rfl, hb2.out, fun j y hj => absurd hj (Nat.not_lt_zero _)⟩
      case round =>
        clear hb2
        obtain ⟨kk, hkk, hgg, rfl, hR⟩ := hrel
        replace hR := Aside0.mk hR.out
        have x0 := Aside0.mk (fun W (h : Below wr.heap.size wr W) => below_cell h (below_cell hR.out.1 j0.out))
        have x1 := Aside0.mk (fun W (h : Below wr.heap.size wr W) => below_cell h (below_cell hR.out.1 j1.out))
        have x2 := Aside0.mk (fun W (h : Below wr.heap.size wr W) => below_cell h (below_cell hR.out.1 j2.out))
        have x3 := Aside0.mk (fun W (h : Below wr.heap.size wr W) => below_cell h (below_cell hR.out.1 j3.out))
        have hbw := Aside0.mk (hb1.out.trans (hR.out.1.mono hb1.out.size))
        by_cases hlt : kk < l.length
        · have hltz : (kk : Int) < (l.length : Int) := by omega
          obtain ⟨ad, D2, e2, eA, u0, u1, u2, u3, ul, ug⟩ := at_T44 (Kd.C_below hC.out hbw.out) (kk : Int) (by omega) hltz
          subst eA
          have hrd : l[kk]? = some (rd_T44 l (kk : Int)) := by rw [rd27_at _ _ hlt]; exact List.getElem?_eq_getElem hlt
          simp only [Int.toNat_natCast] at u0 u1 u2 u3
          generalize rd_T44 l (kk : Int) = y at *
          replace hrd := Aside0.mk hrd
          have cF := Aside0.mk (fun W (h : Below wr.heap.size wr W) => (befC y x D2 e2 A2 c2 W (Kd.C_below ug h) ul (Kd.C_below (Kd.C_below (Kd.C_below g2.out hb.out) hbw.out) h) l2).mono (fun e w' q => And.intro q.1 (h.trans (q.2.mono h.size))))
          have y0 := Aside0.mk (fun W (h : Below wr.heap.size wr W) => below_cell h u0)
          have y1 := Aside0.mk (fun W (h : Below wr.heap.size wr W) => below_cell h u1)
          have y2 := Aside0.mk (fun W (h : Below wr.heap.size wr W) => below_cell h u2)
          have y3 := Aside0.mk (fun W (h : Below wr.heap.size wr W) => below_cell h u3)
          clear u0 u1 u2 u3 ul ug
          go_upto_region 4 with fail
          cases hbe : befL y x with
          | true =>
            rw [hbe] at cF
            replace hbe := Aside0.mk hbe
            refine region_cls (fun W => Below wr.heap.size wr W) (by kernel_rfl) (by kernel_rfl) (below_drew1 (Below.refl _ wr)) ?_
            go_big_quiet_want; refine ⟨.int .i64 kk, fun W h => by unfold Oper.quietAt; go_simp, ?_⟩; simp only [pz]; go_big_quiet_on
            go_big_quiet_want; refine ⟨.slice (some ad) l.length cX, fun W h => by unfold Oper.quietAt; go_simp, ?_⟩; simp only [pz]; go_big_quiet_on
            go_big_quiet_want; refine ⟨.int .i64 l.length, fun W h => by unfold Oper.quietAt; go_simp, ?_⟩; simp only [pz]; go_big_quiet_on
            go_big_quiet_want; refine ⟨.bool true, fun W h => by unfold Oper.quietAt; go_simp, ?_⟩; simp only [pz]; go_big_quiet_on
            go_big_quiet_want; refine ⟨.bool true, fun W h => by unfold Oper.quietAt; go_simp, ?_⟩; simp only [pz]; go_big_quiet_on
            go_big_quiet_want; refine ⟨.slice (some ad) l.length cX, fun W h => by unfold Oper.quietAt; go_simp, ?_⟩; simp only [pz]; go_big_quiet_on
            go_big_quiet_want; refine ⟨.int .i64 kk, fun W h => by unfold Oper.quietAt; go_simp, ?_⟩; simp only [pz]; go_big_quiet_on
            go_big_quiet_want; refine ⟨.pointer (some (ad.add (kk * 4))), fun W h => by unfold Oper.quietAt; go_simp, ?_⟩; simp only [pz]; go_big_quiet_on
            go_big_quiet_want; refine ⟨.agg #[.string y.f0, .string y.f1.f0, .slice D2 y.f1.f1.length e2, .bool y.f2], fun W h => by have a0 := y0.out W h; have a1 := y1.out W h; have a2 := y2.out W h; have a3 := y3.out W h; unfold Oper.quietAt; go_simp, ?_⟩; simp only [pz]; go_big_quiet_on
            go_big_quiet_want; refine ⟨.agg #[.string x.f0, .string x.f1.f0, .slice A2 x.f1.f1.length c2, .bool x.f2], fun W h => by have a0 := x0.out W h; have a1 := x1.out W h; have a2 := x2.out W h; have a3 := x3.out W h; unfold Oper.quietAt; go_simp, ?_⟩; simp only [pz]; go_big_quiet_on
            go_big_quiet_want; refine ⟨.bool true, fun W h => by have a0 := cF.out W h; unfold Oper.quietAt; go_simp, ?_⟩; simp only [pz]; go_big_quiet_on
            go_big_quiet_want; refine ⟨.bool true, fun W h => by unfold Oper.quietAt; go_simp, ?_⟩; simp only [pz]; go_big_quiet_on
            refine wpQuiet_nil ?_
            intro W3 hW3
            have hbig := hm.out
            go_wp2
            go_roundg (l.length - (kk + 1))
            case measure => omega
            case rel =>
              refine ⟨kk + 1, by omega, by omega, by go_num, hR.out.1.trans (hW3.mono hR.out.1.size), fun j z hj hz => ?_⟩
              rcases Nat.lt_or_ge j kk with h1 | h1
              · exact hR.out.2 j z h1 hz
              · obtain rfl : j = kk := by omega
                rw [hrd.out] at hz
                cases hz
                exact hbe.out
          | false =>
            rw [hbe] at cF
            replace hbe := Aside0.mk hbe
            refine region_cls (fun W => Below wr.heap.size wr W) (by kernel_rfl) (by kernel_rfl) (below_drew1 (Below.refl _ wr)) ?_
            go_big_quiet_want; refine ⟨.int .i64 kk, fun W h => by unfold Oper.quietAt; go_simp, ?_⟩; simp only [pz]; go_big_quiet_on
            go_big_quiet_want; refine ⟨.slice (some ad) l.length cX, fun W h => by unfold Oper.quietAt; go_simp, ?_⟩; simp only [pz]; go_big_quiet_on
            go_big_quiet_want; refine ⟨.int .i64 l.length, fun W h => by unfold Oper.quietAt; go_simp, ?_⟩; simp only [pz]; go_big_quiet_on
            go_big_quiet_want; refine ⟨.bool true, fun W h => by unfold Oper.quietAt; go_simp, ?_⟩; simp only [pz]; go_big_quiet_on
            go_big_quiet_want; refine ⟨.bool true, fun W h => by unfold Oper.quietAt; go_simp, ?_⟩; simp only [pz]; go_big_quiet_on
            go_big_quiet_want; refine ⟨.slice (some ad) l.length cX, fun W h => by unfold Oper.quietAt; go_simp, ?_⟩; simp only [pz]; go_big_quiet_on
            go_big_quiet_want; refine ⟨.int .i64 kk, fun W h => by unfold Oper.quietAt; go_simp, ?_⟩; simp only [pz]; go_big_quiet_on
            go_big_quiet_want; refine ⟨.pointer (some (ad.add (kk * 4))), fun W h => by unfold Oper.quietAt; go_simp, ?_⟩; simp only [pz]; go_big_quiet_on
            go_big_quiet_want; refine ⟨.agg #[.string y.f0, .string y.f1.f0, .slice D2 y.f1.f1.length e2, .bool y.f2], fun W h => by have a0 := y0.out W h; have a1 := y1.out W h; have a2 := y2.out W h; have a3 := y3.out W h; unfold Oper.quietAt; go_simp, ?_⟩; simp only [pz]; go_big_quiet_on
            go_big_quiet_want; refine ⟨.agg #[.string x.f0, .string x.f1.f0, .slice A2 x.f1.f1.length c2, .bool x.f2], fun W h => by have a0 := x0.out W h; have a1 := x1.out W h; have a2 := x2.out W h; have a3 := x3.out W h; unfold Oper.quietAt; go_simp, ?_⟩; simp only [pz]; go_big_quiet_on
            go_big_quiet_want; refine ⟨.bool false, fun W h => by have a0 := cF.out W h; unfold Oper.quietAt; go_simp, ?_⟩; simp only [pz]; go_big_quiet_on
            go_big_quiet_want; refine ⟨.bool false, fun W h => by unfold Oper.quietAt; go_simp, ?_⟩; simp only [pz]; go_big_quiet_on
            refine wpQuiet_nil ?_
            intro W3 hW3
            go_wp2
            go_meet
            case rel =>
              refine ⟨kk, hkk, rfl, ⟨hR.out.1.trans (hW3.mono hR.out.1.size), ?_⟩⟩
              rw [insL_drop x l kk hkk hR.out.2, dropL hrd.out, insL, hbe.out, if_neg (by decide)]
        · obtain rfl : kk = l.length := by omega
          have n1 : decide ((l.length : Int) < (l.length : Int)) = false := decide_eq_false (by omega)
          have n2 : decide (l.length < l.length) = false := decide_eq_false (by omega)
          go_upto_region 4 with fail
          refine region_cls (fun W => Below wr.heap.size wr W) (by kernel_rfl) (by kernel_rfl) (below_drew1 (Below.refl _ wr)) ?_
          go_big_quiet_want; refine ⟨.int .i64 l.length, fun W h => by unfold Oper.quietAt; go_simp, ?_⟩; simp only [pz]; go_big_quiet_on
          go_big_quiet_want; refine ⟨.slice X l.length cX, fun W h => by unfold Oper.quietAt; go_simp, ?_⟩; simp only [pz]; go_big_quiet_on
          go_big_quiet_want; refine ⟨.int .i64 l.length, fun W h => by unfold Oper.quietAt; go_simp, ?_⟩; simp only [pz]; go_big_quiet_on
          go_big_quiet_want; refine ⟨.bool false, fun W h => by unfold Oper.quietAt; go_simp, ?_⟩; simp only [pz]; go_big_quiet_on
          go_big_quiet_want; refine ⟨.bool false, fun W h => by unfold Oper.quietAt; go_simp, ?_⟩; simp only [pz]; go_big_quiet_on
          go_big_quiet_skip
          go_big_quiet_skip
          go_big_quiet_skip
          go_big_quiet_skip
          go_big_quiet_skip
          go_big_quiet_skip
          go_big_quiet_want; refine ⟨.bool false, fun W h => by unfold Oper.quietAt; go_simp, ?_⟩; simp only [pz]; go_big_quiet_on
          refine wpQuiet_nil ?_
          intro W3 hW3
          go_wp2
          go_meet
          case rel =>
            refine ⟨l.length, Nat.le_refl _, rfl, ⟨hR.out.1.trans (hW3.mono hR.out.1.size), ?_⟩⟩
            rw [insL_drop x l l.length (Nat.le_refl _) hR.out.2, List.drop_length]
            rfl
    case rest =>
      obtain ⟨kk, hkk, rfl, hcut⟩ := hcut
      clear hb2 eB
      have hbc := hb1.out.trans (hcut.out.1.mono hb1.out.size)
      obtain ⟨vs, hv, hK⟩ := F_els (by decide) hF.out
      have hv2 := hv.below hbc
      have hone : ∀ i m, ∀ u ∈ ((vs.drop i).take m).flatten, u.oneCell' = true := fun i m u hu => by
        obtain ⟨cs, hcs, hu⟩ := List.mem_flatten.mp hu
        obtain ⟨j, hj⟩ := List.mem_iff_getElem?.mp (List.mem_of_mem_drop (List.mem_of_mem_take hcs))
        obtain ⟨y, hy⟩ : ∃ y, l[j]? = some y := ⟨_, List.getElem?_eq_getElem (by have := idx_lt hj; rw [hv.1] at this; exact this)⟩
        obtain ⟨c', h1, _, h2⟩ := hK j y hy
        rw [hj] at h1
        cases h1
        exact k44.K_one h2.now u hu
      have hm' := hm.out
      obtain ⟨p1, p2⟩ := els_part hv2 0 kk (by omega)
      have hlo : W1.heap.size ≤ wc.heap.size := hcut.out.1.size
      obtain ⟨v1, w1, hap1, own1, hB1⟩ := append_any wc W1.heap.size (.slice none 0 0) 0 [] (own_nil _ _ _ _) X kk cX _ p1 (fun h => by obtain ⟨ad, e, hc⟩ := p2 h; exact ⟨ad, e, fun j u hu => by have := hc j u hu; rw [Nat.zero_mul, addA_zero] at this; exact this⟩) (hone 0 kk) (by omega) hlo
      have hB1a : Below W1.heap.size wc (w1.alloc (.cells #[.string x.f0, .string x.f1.f0, .slice A2 x.f1.f1.length c2, .bool x.f2] 44)) := hB1.trans ((Below.refl _ _).alloc (Nat.le_trans hlo hB1.size) _)
      obtain ⟨v2, w2, hap2, own2, hB2⟩ := append_any (w1.alloc (.cells #[.string x.f0, .string x.f1.f0, .slice A2 x.f1.f1.length c2, .bool x.f2] 44)) W1.heap.size v1 (0 + kk) _ (own1.alloc _) (some ⟨w1.heap.size, 0, none⟩) 1 1 [.string x.f0, .string x.f1.f0, .slice A2 x.f1.f1.length c2, .bool x.f2] rfl (fun _ => ⟨_, rfl, fun j u hu => by
          rw [add_at, Nat.zero_add, blk_cell (World.alloc_heap_new w1 _)]
          simpa using hu⟩) (by intro u hu; simp only [List.mem_cons, List.not_mem_nil, or_false] at hu; rcases hu with rfl | rfl | rfl | rfl <;> rfl) (by omega) (Nat.le_trans hlo hB1a.size)
      have hB2a := hB1a.trans hB2
      have hv3 := hv.below (hb1.out.trans ((hcut.out.1.trans hB2a).mono hb1.out.size))
      obtain ⟨r1, r2⟩ := els_part hv3 kk (l.length - kk) (by omega)
      obtain ⟨v3, w3, hap3, own3, hB3⟩ := append_any w2 W1.heap.size v2 (0 + kk + 1) _ own2 (if cX = kk then X else X.map (·.add (kk * 4))) (l.length - kk) (cX - kk) _ r1 (fun h => by obtain ⟨ad, rfl, hc⟩ := r2 h; rw [if_neg (by omega)]; exact ⟨_, rfl, hc⟩) (hone kk _) (by omega) (Nat.le_trans hlo hB2a.size)
      have hB3a := hb1.out.trans ((hcut.out.1.trans (hB2a.trans hB3)).mono hb1.out.size)
      have hres : ∃ X' c', v3 = .slice X' (l.length + 1) c' ∧ l.length + 1 ≤ c' ∧ Kd.F k44 w3 (fun k => (P k ∨ k < w0.heap.size) ∨ w.heap.size ≤ k) X' (l.length + 1) (insL l x) := by
        have hlen : (insL l x).length = l.length + 1 := insL_length x l
        have hR : ∀ W', (∀ k, ((P k ∨ k < w0.heap.size) ∨ w.heap.size ≤ k) → k < w3.heap.size → W'.heap[k]? = w3.heap[k]?) → Reps (fun t cs => k44.K W' t cs) 4 (insL l x) (([] ++ ((vs.drop 0).take kk).flatten) ++ [.string x.f0, .string x.f1.f0, .slice A2 x.f1.f1.length c2, .bool x.f2] ++ ((vs.drop kk).take (l.length - kk)).flatten) := fun W' hW => by
          have old : ∀ k, k < w.heap.size → (P k ∨ k < w0.heap.size) → W'.heap[k]? = w.heap[k]? := fun k hk hP => (hW k (.inl hP) (Nat.lt_of_lt_of_le hk hB3a.size)).trans (hB3a.block k hk)
          rw [hcut.out.2, List.nil_append, List.drop_zero, List.append_assoc, List.take_of_length_le (l := vs.drop kk) (by rw [List.length_drop, hv.1]; omega), show [.string x.f0, .string x.f1.f0, .slice A2 x.f1.f1.length c2, .bool x.f2] ++ (vs.drop kk).flatten = ([.string x.f0, .string x.f1.f0, .slice A2 x.f1.f1.length c2, .bool x.f2] :: vs.drop kk).flatten from by rw [List.flatten_cons], ← List.flatten_append]
          refine reps_lists _ _ (by simp [hv.1]) fun j p c hp hc => ?_
          have hlt : (l.take kk).length = (vs.take kk).length := by simp [hv.1]
          have one : ∀ (i : Nat) p c, l[i]? = some p → vs[i]? = some c → k44.K W' p c ∧ c.length = 4 := fun i p c hp hc => by
            obtain ⟨c', h1, h2, h3⟩ := hK i p hp
            rw [hc] at h1
            cases h1
            exact ⟨h3 W' fun k hk hlt => old k hlt (.inl hk), h2⟩
          rcases Nat.lt_or_ge j (l.take kk).length with hj | hj
          · rw [List.getElem?_append_left hj] at hp
            rw [List.getElem?_append_left (by omega)] at hc
            have hjk : j < kk := by rw [List.length_take] at hj; omega
            rw [List.getElem?_take, if_pos hjk] at hp hc
            exact one j p c hp hc
          · rw [List.getElem?_append_right hj] at hp
            rw [List.getElem?_append_right (by omega), ← hlt] at hc
            cases hjj : j - (l.take kk).length with
            | zero =>
              rw [hjj] at hp hc
              cases hp
              cases hc
              exact ⟨k44_mk W' x l2 (Kd.Heap.C (Kd.heap_int _) (fun k hk => (old k (Nat.lt_of_lt_of_le hk hb.out.size) (.inr hk)).trans (hb.out.block k hk)) g2.out), rfl⟩
            | succ i =>
              rw [hjj, List.getElem?_cons_succ, List.getElem?_drop] at hp hc
              exact one _ p c hp hc
        have e1 : 0 + kk + 1 + (l.length - kk) = (insL l x).length := by rw [hlen]; omega
        rw [e1] at own3
        have own3 := own_weaken own3 hb1.out.size
        obtain ⟨A, c, rfl, hr⟩ := own_reads_row own3 (hR w3 fun _ _ _ => rfl) rfl
        rw [hlen] at own3 ⊢
        refine ⟨A, c, rfl, ?_, fun W' hW => ?_⟩
        · rcases own3.2 with ⟨a1, a2⟩ | ⟨g, cap, cur, a1, _, _, hc, _⟩
          · injection a1 with a3 a4 a5
            omega
          · injection a1 with a3 a4 a5
            omega
        · have ho2 := own_heap (W1 := W') own3 fun k hk => hW k (.inr (own_base own3 k hk)) (own_lt own3 k hk)
          obtain ⟨A', c', he, hr2⟩ := own_reads_row ho2 (hR W' hW) hlen
          injection he with a3 a4 a5
          rw [a3]
          exact hr2
      obtain ⟨X', c', hv3', hc', hF'⟩ := hres
      have hres := Aside0.mk (And.intro hB3a (And.intro hc' hF'))
      rw [hv3'] at hap3
      have hc1 := cut_to (P := Tryz.prog) 28 44 .i64 Tryz.underlying28 (i := Tryz.t44) (by first | kernel_rfl | rfl) X l.length cX (kk : Int) (by omega) (by omega) hX
      have hc3 := cut_from (P := Tryz.prog) 28 44 .i64 Tryz.underlying28 (i := Tryz.t44) (by first | kernel_rfl | rfl) 4 (by first | kernel_rfl | rfl) X l.length cX (kk : Int) (by omega) (by omega)
      simp only [Int.toNat_natCast] at hc1 hc3
      have k0 := below_cell (hcut.out.1.trans hB1) j0.out
      have k1 := below_cell (hcut.out.1.trans hB1) j1.out
      have k2 := below_cell (hcut.out.1.trans hB1) j2.out
      have k3 := below_cell (hcut.out.1.trans hB1) j3.out
      clear hv hK hv2 hone hm' p1 p2 hlo own1 hB1 hB1a own2 hB2 hB2a hv3 r1 r2 own3 hB3 hB3a hF' hc' hbc hv3' hcut
      go_wp2_with (first
        | (at_builtin; refine wpList_append_ty rfl _ _ 28 rfl _ _ rfl rfl hap1 ?_; clear hap1)
        | (at_builtin; refine wpList_append_ty rfl _ _ 28 rfl _ _ rfl rfl hap2 ?_; clear hap2)
        | (at_builtin; refine wpList_append_ty rfl _ _ 28 rfl _ _ rfl rfl hap3 ?_; clear hap3))
      all_goals go_ret
      all_goals exact ⟨X', c', rfl, hres.out.1, hres.out.2.1, hres.out.2.2⟩
end Go.Proofs.YtadjekpfehjibaaGreatDoor.PEnv
namespace Go.Proofs.YtadjekpfehjibaaGreatDoor.PEnv
open Go.RowKit Go.Shelf Go.Lib Go.Proofs.YtadjekpfehjibaaGreatDoorW.PrintWords Go.Proofs.YtadjekpfehjibaaGreatDoorW.PrintLast Go.Proofs.YtadjekpfehjibaaGreatDoorW.PrintMore Go.Proofs.YtadjekpfehjibaaGreatDoor.PEnvJoins
set_option maxRecDepth 100000
/-- A callee's word on two types that fit. -/
def LessWord (f : Nat) (t : S31) : Prop := ∀ (u : S31), fitsT t u = true → ∀ (A3 : Option Addr) (c3 : Nat) (A4 : Option Addr) (c4 : Nat) (B3 : Option Addr) (d3 : Nat) (B4 : Option Addr) (d4 : Nat) (w : World),
    t.f3.length ≤ c3 → Kd.C k44 w A3 t.f3.length t.f3 → t.f4.length ≤ c4 → Kd.C k31 w A4 t.f4.length t.f4 → u.f3.length ≤ d3 → Kd.C k44 w B3 u.f3.length u.f3 → u.f4.length ≤ d4 → Kd.C k31 w B4 u.f4.length u.f4 →
    Calls Tryz.prog f #[.agg #[.int .i64 t.f0, .bool t.f1, .bool t.f2, .slice A3 t.f3.length c3, .slice A4 t.f4.length c4], .agg #[.int .i64 u.f0, .bool u.f1, .bool u.f2, .slice B3 u.f3.length d3, .slice B4 u.f4.length d4]] w fun e w' => e = .returned (.bool (lessR t u)) ∧ Below w.heap.size w w'
set_option maxHeartbeats 16000000 in
theorem refLessT (t : S31) (ih : ∀ k ∈ t.f4, LessWord 28 k) : LessWord 28 t := by
  intro u hft A3 c3 A4 c4 B3 d3 B4 d4 w l3 g3 l4 g4 m3 p3 m4 p4
  have hmx := Aside0.mk (Kd.C_max g4)
  have hmx3 := Aside0.mk (Kd.C_max g3)
  have hkf : all2 fitsT t.f4 u.f4 = true := by
    rw [fitsT_eq] at hft
    simp only [Bool.and_eq_true] at hft
    exact hft.2
  have hl := Aside0.mk (all2_length hkf)
  replace hkf := Aside0.mk hkf
  have eT := enters_of Tryz.func28 (by kernel_rfl) rfl
  have eH := enters_of Tryz.func49 (by kernel_rfl) rfl
  have hn := new_two w (.cells #[.int .i64 t.f0, .bool t.f1, .bool t.f2, .slice A3 t.f3.length c3, .slice A4 t.f4.length c4] 31) (.cells #[.int .i64 u.f0, .bool u.f1, .bool u.f2, .slice B3 u.f3.length d3, .slice B4 u.f4.length d4] 31)
  obtain ⟨W2, hW2⟩ : ∃ W2, (w.alloc (.cells #[.int .i64 t.f0, .bool t.f1, .bool t.f2, .slice A3 t.f3.length c3, .slice A4 t.f4.length c4] 31)).alloc (.cells #[.int .i64 u.f0, .bool u.f1, .bool u.f2, .slice B3 u.f3.length d3, .slice B4 u.f4.length d4] 31) = W2 := ⟨_, rfl⟩
  rw [hW2] at hn
  obtain ⟨hb2, e0, e1⟩ := hn
  have z0 : W2.cell? ⟨w.heap.size, 0, none⟩ = some (.int .i64 t.f0) := (blk_cell e0 0).trans rfl
  have z1 : W2.cell? ⟨w.heap.size, 1, none⟩ = some (.bool t.f1) := (blk_cell e0 1).trans rfl
  have z2 : W2.cell? ⟨w.heap.size, 2, none⟩ = some (.bool t.f2) := (blk_cell e0 2).trans rfl
  have z3 : W2.cell? ⟨w.heap.size, 3, none⟩ = some (.slice A3 t.f3.length c3) := (blk_cell e0 3).trans rfl
  have z4 : W2.cell? ⟨w.heap.size, 4, none⟩ = some (.slice A4 t.f4.length c4) := (blk_cell e0 4).trans rfl
  have y0 : W2.cell? ⟨w.heap.size + 1, 0, none⟩ = some (.int .i64 u.f0) := (blk_cell e1 0).trans rfl
  have y1 : W2.cell? ⟨w.heap.size + 1, 1, none⟩ = some (.bool u.f1) := (blk_cell e1 1).trans rfl
  have y2 : W2.cell? ⟨w.heap.size + 1, 2, none⟩ = some (.bool u.f2) := (blk_cell e1 2).trans rfl
  have y3 : W2.cell? ⟨w.heap.size + 1, 3, none⟩ = some (.slice B3 u.f3.length d3) := (blk_cell e1 3).trans rfl
  have y4 : W2.cell? ⟨w.heap.size + 1, 4, none⟩ = some (.slice B4 u.f4.length d4) := (blk_cell e1 4).trans rfl
  replace ih := Aside0.mk ih
  replace g3 := Aside0.mk g3
  replace g4 := Aside0.mk g4
  replace p3 := Aside0.mk p3
  replace p4 := Aside0.mk p4
  replace m3 := Aside0.mk m3
  clear l3 l4 m4 hft
  rw [lessR_eq]
  go_enter Tryz.func28, Tryz.ntmps28
  go_upto_region 1 with fail
  obtain ⟨b0, hb0⟩ : ∃ b0, w.heap.size = b0 := ⟨_, rfl⟩
  rw [hb0] at z0 y0 z1 y1 z2 y2 z3 y3 z4 y4
  simp only [hb0]
  clear e0 e1 hW2
  replace hb2 := Aside0.mk hb2
  replace hb0 := Aside0.mk hb0
  replace z2 := Aside0.mk z2
  replace y2 := Aside0.mk y2
  replace z3 := Aside0.mk z3
  replace y3 := Aside0.mk y3
  replace z4 := Aside0.mk z4
  replace y4 := Aside0.mk y4
  clear z0 z1 y0 y1
  go_wp2
  go_loopg [5] t.f3.length (fun gg s5 wr => ∃ kk : Nat, kk ≤ t.f3.length ∧ t.f3.length - kk ≤ gg ∧ s5 = .int .i64 kk ∧ Aside (Below W2.heap.size W2 wr ∧ ∀ (j : Nat) p, j < kk → t.f3[j]? = some p → hasL u.f3 p = true))
  case atStart => exact ⟨0, Nat.zero_le _, by omega, rfl, Below.refl _ W2, fun j p hj => absurd hj (Nat.not_lt_zero _)⟩
  case round =>
    obtain ⟨kk, hkk, hgg, rfl, hR⟩ := hrel
    replace hR := Aside0.mk hR.out
    by_cases hlt : kk < t.f3.length
    · have hltz : (kk : Int) < (t.f3.length : Int) := by omega
      have hbw := Aside0.mk (hb2.out.trans (hR.out.1.mono hb2.out.size))
      obtain ⟨ad, D2, e2, eA, u0, u1, u2, u3, ul, ug⟩ := at_T44 (Kd.C_below g3.out hbw.out) (kk : Int) (by omega) hltz
      subst eA
      have hrx : t.f3[kk]? = some (rd_T44 t.f3 (kk : Int)) := by rw [rd27_at _ _ hlt]; exact List.getElem?_eq_getElem hlt
      simp only [Int.toNat_natCast] at u0 u1 u2 u3
      generalize rd_T44 t.f3 (kk : Int) = x at *
      have cF := fun W (h : Below wr.heap.size wr W) => (hasC u.f3 B3 d3 m3.out x D2 e2 ul W (Kd.C_below (Kd.C_below p3.out hbw.out) h) (Kd.C_below ug h)).mono (fun e w' q => And.intro q.1 (h.trans (q.2.mono h.size)))
      have x0 := Aside0.mk (fun W (h : Below wr.heap.size wr W) => below_cell h u0)
      have x1 := Aside0.mk (fun W (h : Below wr.heap.size wr W) => below_cell h u1)
      have x2 := Aside0.mk (fun W (h : Below wr.heap.size wr W) => below_cell h u2)
      have x3 := Aside0.mk (fun W (h : Below wr.heap.size wr W) => below_cell h u3)
      clear u0 u1 u2 u3 ul ug
      have q3 := below_cell hR.out.1 z3.out
      go_upto_region 4 with fail
      clear q3
      have j := Aside0.mk (fun W (h : Below wr.heap.size wr W) => below_cell h (below_cell hR.out.1 z3.out))
      have o := Aside0.mk (fun W (h : Below wr.heap.size wr W) => below_cell h (below_cell hR.out.1 y3.out))
      cases hff : hasL u.f3 x with
      | true =>
        rw [hff] at cF
        have hnext := Aside0.mk (show ∀ (j : Nat) p, j < kk + 1 → t.f3[j]? = some p → hasL u.f3 p = true from fun j p hj hp => by
          by_cases e : j = kk
          · subst e
            rw [hrx] at hp
            cases hp
            exact hff
          · exact hR.out.2 j p (by omega) hp)
        clear hrx hff
        replace cF := Aside0.mk cF
        refine region_cls (fun W => Below wr.heap.size wr W) (by kernel_rfl) (by kernel_rfl) (below_drew1 (Below.refl _ wr)) ?_
        go_big_quiet_want; refine ⟨.pointer (some ⟨b0 + 1, 3, none⟩), fun W h => by unfold Oper.quietAt; go_simp, ?_⟩; simp only [pz]; go_big_quiet_on
        go_big_quiet_want; refine ⟨.slice B3 u.f3.length d3, fun W h => by have a0 := o.out W h; unfold Oper.quietAt; go_simp, ?_⟩; simp only [pz]; go_big_quiet_on
        go_big_quiet_want; refine ⟨.pointer (some ⟨b0, 3, none⟩), fun W h => by unfold Oper.quietAt; go_simp, ?_⟩; simp only [pz]; go_big_quiet_on
        go_big_quiet_want; refine ⟨.slice (some ad) t.f3.length c3, fun W h => by have a0 := j.out W h; unfold Oper.quietAt; go_simp, ?_⟩; simp only [pz]; go_big_quiet_on
        go_big_quiet_want; refine ⟨.int .i64 kk, fun W h => by unfold Oper.quietAt; go_simp, ?_⟩; simp only [pz]; go_big_quiet_on
        go_big_quiet_want; refine ⟨.pointer (some (ad.add (kk * 4))), fun W h => by unfold Oper.quietAt; go_simp, ?_⟩; simp only [pz]; go_big_quiet_on
        go_big_quiet_want; refine ⟨.agg #[.string x.f0, .string x.f1.f0, .slice D2 x.f1.f1.length e2, .bool x.f2], fun W h => by have a0 := x0.out W h; have a1 := x1.out W h; have a2 := x2.out W h; have a3 := x3.out W h; unfold Oper.quietAt; go_simp, ?_⟩; simp only [pz]; go_big_quiet_on
        go_big_quiet_want; refine ⟨.bool true, fun W h => by have a0 := cF.out W h; unfold Oper.quietAt; go_simp, ?_⟩; simp only [pz]; go_big_quiet_on
        go_big_quiet_want; refine ⟨.bool false, fun W h => by unfold Oper.quietAt; go_simp, ?_⟩; simp only [pz]; go_big_quiet_on
        refine wpQuiet_nil ?_
        intro W3 hW3
        have hbig := hmx3.out
        go_wp2
        go_roundg (t.f3.length - (kk + 1))
        case measure => omega
        case rel => exact ⟨kk + 1, by omega, by omega, by go_num, hR.out.1.trans (hW3.mono hR.out.1.size), hnext.out⟩
      | false =>
        rw [hff] at cF
        have hall := Aside0.mk (show (t.f3.all fun x => hasL u.f3 x) = false from by
          refine Bool.eq_false_iff.mpr fun h => ?_
          have := List.all_eq_true.mp h x (List.mem_of_getElem? hrx)
          rw [hff] at this
          cases this)
        clear hrx hff
        replace cF := Aside0.mk cF
        refine region_cls (fun W => Below wr.heap.size wr W) (by kernel_rfl) (by kernel_rfl) (below_drew1 (Below.refl _ wr)) ?_
        go_big_quiet_want; refine ⟨.pointer (some ⟨b0 + 1, 3, none⟩), fun W h => by unfold Oper.quietAt; go_simp, ?_⟩; simp only [pz]; go_big_quiet_on
        go_big_quiet_want; refine ⟨.slice B3 u.f3.length d3, fun W h => by have a0 := o.out W h; unfold Oper.quietAt; go_simp, ?_⟩; simp only [pz]; go_big_quiet_on
        go_big_quiet_want; refine ⟨.pointer (some ⟨b0, 3, none⟩), fun W h => by unfold Oper.quietAt; go_simp, ?_⟩; simp only [pz]; go_big_quiet_on
        go_big_quiet_want; refine ⟨.slice (some ad) t.f3.length c3, fun W h => by have a0 := j.out W h; unfold Oper.quietAt; go_simp, ?_⟩; simp only [pz]; go_big_quiet_on
        go_big_quiet_want; refine ⟨.int .i64 kk, fun W h => by unfold Oper.quietAt; go_simp, ?_⟩; simp only [pz]; go_big_quiet_on
        go_big_quiet_want; refine ⟨.pointer (some (ad.add (kk * 4))), fun W h => by unfold Oper.quietAt; go_simp, ?_⟩; simp only [pz]; go_big_quiet_on
        go_big_quiet_want; refine ⟨.agg #[.string x.f0, .string x.f1.f0, .slice D2 x.f1.f1.length e2, .bool x.f2], fun W h => by have a0 := x0.out W h; have a1 := x1.out W h; have a2 := x2.out W h; have a3 := x3.out W h; unfold Oper.quietAt; go_simp, ?_⟩; simp only [pz]; go_big_quiet_on
        go_big_quiet_want; refine ⟨.bool false, fun W h => by have a0 := cF.out W h; unfold Oper.quietAt; go_simp, ?_⟩; simp only [pz]; go_big_quiet_on
        go_big_quiet_want; refine ⟨.bool true, fun W h => by unfold Oper.quietAt; go_simp, ?_⟩; simp only [pz]; go_big_quiet_on
        refine wpQuiet_nil ?_
        intro W3 hW3
        go_wp2
        go_ret
        exact ⟨by rw [hall.out]; rfl, hb2.out.trans ((hR.out.1.trans (hW3.mono hR.out.1.size)).mono hb2.out.size)⟩
    · have n1 : decide ((kk : Int) < (t.f3.length : Int)) = false := decide_eq_false (by omega)
      have n2 : decide (kk < t.f3.length) = false := decide_eq_false hlt
      have q3 := below_cell hR.out.1 z3.out
      have hal := Aside0.mk (show (t.f3.all fun x => hasL u.f3 x) = true from List.all_eq_true.mpr fun x hx => by
        obtain ⟨j, hj⟩ := List.mem_iff_getElem?.mp hx
        exact hR.out.2 j x (by have := idx_lt hj; omega) hj)
      clear hlt
      go_wp2
      clear n1 n2 q3
      go_loopg [6] t.f4.length (fun gg s6 wr => ∃ kk : Nat, kk ≤ t.f4.length ∧ t.f4.length - kk ≤ gg ∧ s6 = .int .i64 kk ∧ Aside (Below W2.heap.size W2 wr ∧ ∀ (j : Nat) p q, j < kk → t.f4[j]? = some p → u.f4[j]? = some q → lessR p q = true))
      case atStart => exact ⟨0, Nat.zero_le _, by omega, rfl, hR.out.1, fun j p q hj => absurd hj (Nat.not_lt_zero _)⟩
      case round =>
        obtain ⟨kk, hkk, hgg, rfl, hR⟩ := hrel
        replace hR := Aside0.mk hR.out
        by_cases hlt : kk < t.f4.length
        · have hltz : (kk : Int) < (t.f4.length : Int) := by omega
          have hlty : kk < u.f4.length := by have := hl.out; omega
          have hltyz : (kk : Int) < (u.f4.length : Int) := by omega
          have hbw := Aside0.mk (hb2.out.trans (hR.out.1.mono hb2.out.size))
          obtain ⟨ad, D3, e3, D4, e4, eA, u0, u1, u2, u3, u4, ul3, ug3, ul4, ug4⟩ := at_T31 (Kd.C_below g4.out hbw.out) (kk : Int) (by omega) hltz
          subst eA
          obtain ⟨bd, G3, h3, G4, h4, eB, v0, v1, v2, v3, v4, vl3, vg3, vl4, vg4⟩ := at_T31 (Kd.C_below p4.out hbw.out) (kk : Int) (by omega) hltyz
          subst eB
          have hrx : t.f4[kk]? = some (rd_T31 t.f4 (kk : Int)) := by rw [rd37_at _ _ hlt]; exact List.getElem?_eq_getElem hlt
          have hry : u.f4[kk]? = some (rd_T31 u.f4 (kk : Int)) := by rw [rd37_at _ _ hlty]; exact List.getElem?_eq_getElem hlty
          simp only [Int.toNat_natCast] at u0 u1 u2 u3 u4 v0 v1 v2 v3 v4
          generalize rd_T31 t.f4 (kk : Int) = x at *
          generalize rd_T31 u.f4 (kk : Int) = y at *
          have cF := fun W (h : Below wr.heap.size wr W) => (ih.out x (List.mem_of_getElem? hrx) y (all2_at hkf.out hrx hry) D3 e3 D4 e4 G3 h3 G4 h4 W ul3 (Kd.C_below ug3 h) ul4 (Kd.C_below ug4 h) vl3 (Kd.C_below vg3 h) vl4 (Kd.C_below vg4 h)).mono (fun e w' q => And.intro q.1 (h.trans (q.2.mono h.size)))
          have x0 := Aside0.mk (fun W (h : Below wr.heap.size wr W) => below_cell h u0)
          have x1 := Aside0.mk (fun W (h : Below wr.heap.size wr W) => below_cell h u1)
          have x2 := Aside0.mk (fun W (h : Below wr.heap.size wr W) => below_cell h u2)
          have x3 := Aside0.mk (fun W (h : Below wr.heap.size wr W) => below_cell h u3)
          have x4 := Aside0.mk (fun W (h : Below wr.heap.size wr W) => below_cell h u4)
          have w0 := Aside0.mk (fun W (h : Below wr.heap.size wr W) => below_cell h v0)
          have w1 := Aside0.mk (fun W (h : Below wr.heap.size wr W) => below_cell h v1)
          have w2 := Aside0.mk (fun W (h : Below wr.heap.size wr W) => below_cell h v2)
          have w3 := Aside0.mk (fun W (h : Below wr.heap.size wr W) => below_cell h v3)
          have w4 := Aside0.mk (fun W (h : Below wr.heap.size wr W) => below_cell h v4)
          clear u0 u1 u2 u3 u4 v0 v1 v2 v3 v4 ul3 ug3 ul4 ug4 vl3 vg3 vl4 vg4
          have q4 := below_cell hR.out.1 z4.out
          go_upto_region 9 with fail
          clear q4
          have j := Aside0.mk (fun W (h : Below wr.heap.size wr W) => below_cell h (below_cell hR.out.1 z4.out))
          have o := Aside0.mk (fun W (h : Below wr.heap.size wr W) => below_cell h (below_cell hR.out.1 y4.out))
          cases hff : lessR x y with
          | true =>
            rw [hff] at cF
            have hnext := Aside0.mk (show ∀ (j : Nat) p q, j < kk + 1 → t.f4[j]? = some p → u.f4[j]? = some q → lessR p q = true from fun j p q hj hp hq => by
              by_cases e : j = kk
              · subst e
                rw [hrx] at hp
                rw [hry] at hq
                cases hp
                cases hq
                exact hff
              · exact hR.out.2 j p q (by omega) hp hq)
            clear hrx hry hff
            replace cF := Aside0.mk cF
            refine region_cls (fun W => Below wr.heap.size wr W) (by kernel_rfl) (by kernel_rfl) (below_drew1 (Below.refl _ wr)) ?_
            go_big_quiet_want; refine ⟨.pointer (some ⟨b0, 4, none⟩), fun W h => by unfold Oper.quietAt; go_simp, ?_⟩; simp only [pz]; go_big_quiet_on
            go_big_quiet_want; refine ⟨.slice (some ad) t.f4.length c4, fun W h => by have a0 := j.out W h; unfold Oper.quietAt; go_simp, ?_⟩; simp only [pz]; go_big_quiet_on
            go_big_quiet_want; refine ⟨.int .i64 kk, fun W h => by unfold Oper.quietAt; go_simp, ?_⟩; simp only [pz]; go_big_quiet_on
            go_big_quiet_want; refine ⟨.pointer (some (ad.add (kk * 5))), fun W h => by unfold Oper.quietAt; go_simp, ?_⟩; simp only [pz]; go_big_quiet_on
            go_big_quiet_want; refine ⟨.agg #[.int .i64 x.f0, .bool x.f1, .bool x.f2, .slice D3 x.f3.length e3, .slice D4 x.f4.length e4], fun W h => by have a0 := x0.out W h; have a1 := x1.out W h; have a2 := x2.out W h; have a3 := x3.out W h; have a4 := x4.out W h; unfold Oper.quietAt; go_simp, ?_⟩; simp only [pz]; go_big_quiet_on
            go_big_quiet_want; refine ⟨.pointer (some ⟨b0 + 1, 4, none⟩), fun W h => by unfold Oper.quietAt; go_simp, ?_⟩; simp only [pz]; go_big_quiet_on
            go_big_quiet_want; refine ⟨.slice (some bd) u.f4.length d4, fun W h => by have a0 := o.out W h; unfold Oper.quietAt; go_simp, ?_⟩; simp only [pz]; go_big_quiet_on
            go_big_quiet_want; refine ⟨.int .i64 kk, fun W h => by unfold Oper.quietAt; go_simp, ?_⟩; simp only [pz]; go_big_quiet_on
            go_big_quiet_want; refine ⟨.pointer (some (bd.add (kk * 5))), fun W h => by unfold Oper.quietAt; go_simp, ?_⟩; simp only [pz]; go_big_quiet_on
            go_big_quiet_want; refine ⟨.agg #[.int .i64 y.f0, .bool y.f1, .bool y.f2, .slice G3 y.f3.length h3, .slice G4 y.f4.length h4], fun W h => by have a0 := w0.out W h; have a1 := w1.out W h; have a2 := w2.out W h; have a3 := w3.out W h; have a4 := w4.out W h; unfold Oper.quietAt; go_simp, ?_⟩; simp only [pz]; go_big_quiet_on
            go_big_quiet_want; refine ⟨.bool true, fun W h => by have a0 := cF.out W h; unfold Oper.quietAt; go_simp, ?_⟩; simp only [pz]; go_big_quiet_on
            go_big_quiet_want; refine ⟨.bool false, fun W h => by unfold Oper.quietAt; go_simp, ?_⟩; simp only [pz]; go_big_quiet_on
            refine wpQuiet_nil ?_
            intro W3 hW3
            have hbig := hmx.out
            go_wp2
            go_roundg (t.f4.length - (kk + 1))
            case measure => omega
            case rel => exact ⟨kk + 1, by omega, by omega, by go_num, hR.out.1.trans (hW3.mono hR.out.1.size), hnext.out⟩
          | false =>
            rw [hff] at cF
            have hall := Aside0.mk (all2_false hrx hry hff)
            clear hrx hry hff
            replace cF := Aside0.mk cF
            refine region_cls (fun W => Below wr.heap.size wr W) (by kernel_rfl) (by kernel_rfl) (below_drew1 (Below.refl _ wr)) ?_
            go_big_quiet_want; refine ⟨.pointer (some ⟨b0, 4, none⟩), fun W h => by unfold Oper.quietAt; go_simp, ?_⟩; simp only [pz]; go_big_quiet_on
            go_big_quiet_want; refine ⟨.slice (some ad) t.f4.length c4, fun W h => by have a0 := j.out W h; unfold Oper.quietAt; go_simp, ?_⟩; simp only [pz]; go_big_quiet_on
            go_big_quiet_want; refine ⟨.int .i64 kk, fun W h => by unfold Oper.quietAt; go_simp, ?_⟩; simp only [pz]; go_big_quiet_on
            go_big_quiet_want; refine ⟨.pointer (some (ad.add (kk * 5))), fun W h => by unfold Oper.quietAt; go_simp, ?_⟩; simp only [pz]; go_big_quiet_on
            go_big_quiet_want; refine ⟨.agg #[.int .i64 x.f0, .bool x.f1, .bool x.f2, .slice D3 x.f3.length e3, .slice D4 x.f4.length e4], fun W h => by have a0 := x0.out W h; have a1 := x1.out W h; have a2 := x2.out W h; have a3 := x3.out W h; have a4 := x4.out W h; unfold Oper.quietAt; go_simp, ?_⟩; simp only [pz]; go_big_quiet_on
            go_big_quiet_want; refine ⟨.pointer (some ⟨b0 + 1, 4, none⟩), fun W h => by unfold Oper.quietAt; go_simp, ?_⟩; simp only [pz]; go_big_quiet_on
            go_big_quiet_want; refine ⟨.slice (some bd) u.f4.length d4, fun W h => by have a0 := o.out W h; unfold Oper.quietAt; go_simp, ?_⟩; simp only [pz]; go_big_quiet_on
            go_big_quiet_want; refine ⟨.int .i64 kk, fun W h => by unfold Oper.quietAt; go_simp, ?_⟩; simp only [pz]; go_big_quiet_on
            go_big_quiet_want; refine ⟨.pointer (some (bd.add (kk * 5))), fun W h => by unfold Oper.quietAt; go_simp, ?_⟩; simp only [pz]; go_big_quiet_on
            go_big_quiet_want; refine ⟨.agg #[.int .i64 y.f0, .bool y.f1, .bool y.f2, .slice G3 y.f3.length h3, .slice G4 y.f4.length h4], fun W h => by have a0 := w0.out W h; have a1 := w1.out W h; have a2 := w2.out W h; have a3 := w3.out W h; have a4 := w4.out W h; unfold Oper.quietAt; go_simp, ?_⟩; simp only [pz]; go_big_quiet_on
            go_big_quiet_want; refine ⟨.bool false, fun W h => by have a0 := cF.out W h; unfold Oper.quietAt; go_simp, ?_⟩; simp only [pz]; go_big_quiet_on
            go_big_quiet_want; refine ⟨.bool true, fun W h => by unfold Oper.quietAt; go_simp, ?_⟩; simp only [pz]; go_big_quiet_on
            refine wpQuiet_nil ?_
            intro W3 hW3
            go_wp2
            go_ret
            exact ⟨by rw [hal.out, hall.out]; rfl, hb2.out.trans ((hR.out.1.trans (hW3.mono hR.out.1.size)).mono hb2.out.size)⟩
        · have n1 : decide ((kk : Int) < (t.f4.length : Int)) = false := decide_eq_false (by omega)
          have n2 : decide (kk < t.f4.length) = false := decide_eq_false hlt
          have q4 := below_cell hR.out.1 z4.out
          have hall := Aside0.mk (all2_true hl.out fun j p q hp hq => hR.out.2 j p q (by have := idx_lt hp; omega) hp hq)
          clear hlt
          have q2 := below_cell hR.out.1 z2.out
          have r2 := below_cell hR.out.1 y2.out
          obtain ⟨t2, ht2⟩ : ∃ t2, t.f2 = t2 := ⟨_, rfl⟩
          obtain ⟨v2, hu2⟩ : ∃ v2, u.f2 = v2 := ⟨_, rfl⟩
          rw [ht2] at q2 ⊢
          rw [hu2] at r2 ⊢
          replace ht2 := Aside0.mk ht2
          replace hu2 := Aside0.mk hu2
          cases t2 <;> cases v2 <;> go_wp2 <;> go_ret
          all_goals exact ⟨by rw [hal.out, hall.out, ht2.out, hu2.out]; rfl, hb2.out.trans (hR.out.1.mono hb2.out.size)⟩
/-- The document's lessTy, at every two types that fit. -/
theorem refLessW (t : S31) : LessWord 28 t := tyInd (fun t ih => refLessT t ih) t
end Go.Proofs.YtadjekpfehjibaaGreatDoor.PEnv
namespace Go.Proofs.YtadjekpfehjibaaGreatDoor.PEnv
open Go.RowKit Go.Shelf Go.Proofs.YtadjekpfehjibaaGreatDoorW.PrintWords Go.Proofs.YtadjekpfehjibaaGreatDoorW.PrintLast Go.Proofs.YtadjekpfehjibaaGreatDoorW.PrintMore Go.Proofs.YtadjekpfehjibaaGreatDoor.PEnvJoins
set_option maxRecDepth 100000
set_option maxHeartbeats 8000000 in
/-- The document's Both. -/
theorem refBoth (xs ys : List S33) (A : Option Addr) (c : Nat) (B : Option Addr) (d : Nat) (w : World) (hC : Kd.C k33 w A xs.length xs) (hD : Kd.C k33 w B ys.length ys) :
    Calls Tryz.prog 13 #[.slice A xs.length c, .slice B ys.length d] w fun e w' => e = .returned (.bool (bothE xs ys)) ∧ Below w.heap.size w w' := by
  have hmax := Aside0.mk (Kd.C_max hC)
  have eF := enters_of Tryz.func11 (by kernel_rfl) rfl
  have r1 := refRight xs A c w hC
  have r2 : ∀ W, Below w.heap.size w W → Calls Tryz.prog 7 #[.slice B ys.length d] W fun e w' => e = .returned (.bool (rightE ys)) ∧ Below W.heap.size W w' := fun W hW => refRight ys B d W (Kd.C_below hD hW)
  have hf : bothE xs ys = ((rightE xs && rightE ys) && all2 bothB xs ys) := rfl
  rw [hf]
  clear hf
  have hC := Aside0.mk hC
  have hD := Aside0.mk hD
  cases h1 : rightE xs with
  | false =>
    rw [h1] at r1
    clear h1 r2
    go_enter Tryz.func13, Tryz.ntmps13
    go_wp2_with (go_at_call 7; refine r1.mono ?_; clear r1; rintro e w1 ⟨rfl, hb1⟩)
    go_ret
    exact ⟨rfl, hb1⟩
  | true =>
    rw [h1] at r1
    clear h1
    cases h2 : rightE ys with
    | false =>
      rw [h2] at r2
      clear h2
      go_enter Tryz.func13, Tryz.ntmps13
      go_wp2_with (first
        | (go_at_call 7; refine r1.mono ?_; clear r1; rintro e w1 ⟨rfl, hb1⟩; have r2' := r2 w1 hb1; clear r2)
        | (go_at_call 7; refine r2'.mono ?_; clear r2'; rintro e w2 ⟨rfl, hb2⟩))
      go_ret
      exact ⟨rfl, hb1.trans (hb2.mono hb1.size)⟩
    | true =>
      rw [h2] at r2
      clear h2
      by_cases hlen : xs.length = ys.length
      · have l1 : ((xs.length : Int) != (ys.length : Int)) = false := by rw [hlen]; simp
        have l2 : (xs.length != ys.length) = false := by rw [hlen]; simp
        have l3 : ((xs.length : Int) == (ys.length : Int)) = true := by rw [hlen]; simp
        have hlen' := Aside0.mk hlen
        clear hlen
        go_enter Tryz.func13, Tryz.ntmps13
        go_wp2_with (first
          | (go_at_call 7; refine r1.mono ?_; clear r1; rintro e w1 ⟨rfl, hb1⟩; have r2' := r2 w1 hb1; clear r2)
          | (go_at_call 7; refine r2'.mono ?_; clear r2'; rintro e w2 ⟨rfl, hb2⟩; have hb12 := Aside0.mk (hb1.trans (hb2.mono hb1.size)); clear hb1 hb2))
        clear l1 l2 l3
        go_loopg [5] xs.length (fun gg s5 wr => ∃ kk : Nat, kk ≤ xs.length ∧ xs.length - kk ≤ gg ∧ s5 = .int .i64 kk ∧ Aside (Below w.heap.size w wr ∧ ∀ (j : Nat) p q, j < kk → xs[j]? = some p → ys[j]? = some q → bothB p q = true))
        case atStart => exact ⟨0, Nat.zero_le _, by omega, rfl, hb12.out, fun j p q hj => absurd hj (Nat.not_lt_zero _)⟩
        case round =>
          obtain ⟨kk, hkk, hg, rfl, hR⟩ := hrel
          have hR := Aside0.mk hR.out
          by_cases hlt : kk < xs.length
          · have hlty : kk < ys.length := by have := hlen'.out; omega
            have hltz : (kk : Int) < (xs.length : Int) := by omega
            have hltyz : (kk : Int) < (ys.length : Int) := by omega
            obtain ⟨ad, B4, d4, B5, d5, eA, x0, x1, x2, x3, x4, x5, xl4, xg4, xl5, xg5⟩ := at_T33 (Kd.C_below hC.out hR.out.1) (kk : Int) (by omega) hltz
            subst eA
            obtain ⟨bd, E4, e4, E5, e5, eB, y0, y1, y2, y3, y4, y5, yl4, yg4, yl5, yg5⟩ := at_T33 (Kd.C_below hD.out hR.out.1) (kk : Int) (by omega) hltyz
            subst eB
            have hrx : xs[kk]? = some (rd_T33 xs (kk : Int)) := by rw [rd39_at _ _ hlt]; exact List.getElem?_eq_getElem hlt
            have hry : ys[kk]? = some (rd_T33 ys (kk : Int)) := by rw [rd39_at _ _ hlty]; exact List.getElem?_eq_getElem hlty
            simp only [Int.toNat_natCast] at x0 x1 x2 x3 x4 x5 y0 y1 y2 y3 y4 y5
            generalize rd_T33 xs (kk : Int) = x at *
            generalize rd_T33 ys (kk : Int) = y at *
            have kx0 := fun Wq (h : Below wr.heap.size wr Wq) => below_cell h x0
            have kx1 := fun Wq (h : Below wr.heap.size wr Wq) => below_cell h x1
            have kx2 := fun Wq (h : Below wr.heap.size wr Wq) => below_cell h x2
            have kx3 := fun Wq (h : Below wr.heap.size wr Wq) => below_cell h x3
            have kx4 := fun Wq (h : Below wr.heap.size wr Wq) => below_cell h x4
            have kx5 := fun Wq (h : Below wr.heap.size wr Wq) => below_cell h x5
            have ky0 := fun Wq (h : Below wr.heap.size wr Wq) => below_cell h y0
            have ky1 := fun Wq (h : Below wr.heap.size wr Wq) => below_cell h y1
            have ky2 := fun Wq (h : Below wr.heap.size wr Wq) => below_cell h y2
            have ky3 := fun Wq (h : Below wr.heap.size wr Wq) => below_cell h y3
            have ky4 := fun Wq (h : Below wr.heap.size wr Wq) => below_cell h y4
            have ky5 := fun Wq (h : Below wr.heap.size wr Wq) => below_cell h y5
            have cF := fun Wq (h : Below wr.heap.size wr Wq) => (refFitsC x.f1 y.f1 B4 d4 B5 d5 E4 e4 E5 e5 Wq xl4 (Kd.C_below xg4 h) xl5 (Kd.C_below xg5 h) yl4 (Kd.C_below yg4 h) yl5 (Kd.C_below yg5 h)).mono (fun e w' q => And.intro q.1 (h.trans (q.2.mono h.size)))
            by_cases hn : x.f0.toList = y.f0.toList
            · have n1 : (x.f0.toList == y.f0.toList) = true := beq_iff_eq.mpr hn
              have n2 : (x.f0.toList != y.f0.toList) = false := by simp [hn]
              cases hff : fitsT x.f1 y.f1 with
              | true =>
                rw [hff] at cF
                have hnext : ∀ (j : Nat) p q, j < kk + 1 → xs[j]? = some p → ys[j]? = some q → bothB p q = true := fun j p q hj hp hq => by
                  by_cases e : j = kk
                  · subst e
                    rw [hrx] at hp
                    rw [hry] at hq
                    cases hp
                    cases hq
                    exact by unfold bothB; rw [decide_eq_true hn, hff]; rfl
                  · exact hR.out.2 j p q (by omega) hp hq
                have hnext := Aside0.mk hnext
                clear hn hff hrx hry x0 x1 x2 x3 x4 x5 y0 y1 y2 y3 y4 y5 xg4 xg5 yg4 yg5 xl4 xl5 yl4 yl5
                go_wp2_with fail
                refine region_cls (fun W' => Below wr.heap.size wr W') (by kernel_rfl) (by kernel_rfl) (below_drew1 (Below.refl _ wr)) ?_
                go_big_quiet_want
                refine ⟨.slice (some ad) xs.length c, fun Wq hWq => ?_, ?_⟩
                · clear kx0 kx1 kx2 kx3 kx4 kx5 ky0 ky1 ky2 ky3 ky4 ky5 cF
                  unfold Oper.quietAt
                  go_simp
                simp only [Act.put, List.setIfInBounds_toArray, List.set_cons_zero, List.set_cons_succ]
                go_big_quiet_on
                go_big_quiet_want
                refine ⟨.int .i64 kk, fun Wq hWq => ?_, ?_⟩
                · clear kx0 kx1 kx2 kx3 kx4 kx5 ky0 ky1 ky2 ky3 ky4 ky5 cF
                  unfold Oper.quietAt
                  go_simp
                simp only [Act.put, List.setIfInBounds_toArray, List.set_cons_zero, List.set_cons_succ]
                go_big_quiet_on
                go_big_quiet_want
                refine ⟨.pointer (some (ad.add (kk * 6))), fun Wq hWq => ?_, ?_⟩
                · clear kx0 kx1 kx2 kx3 kx4 kx5 ky0 ky1 ky2 ky3 ky4 ky5 cF
                  unfold Oper.quietAt
                  go_simp
                simp only [Act.put, List.setIfInBounds_toArray, List.set_cons_zero, List.set_cons_succ]
                go_big_quiet_on
                go_big_quiet_want
                refine ⟨.pointer (some (ad.add (kk * 6))), fun Wq hWq => ?_, ?_⟩
                · clear kx0 kx1 kx2 kx3 kx4 kx5 ky0 ky1 ky2 ky3 ky4 ky5 cF
                  unfold Oper.quietAt
                  go_simp
                simp only [Act.put, List.setIfInBounds_toArray, List.set_cons_zero, List.set_cons_succ]
                go_big_quiet_on
                go_big_quiet_want
                refine ⟨.string x.f0, fun Wq hWq => ?_, ?_⟩
                · have q_kx0 := kx0 Wq hWq
                  clear kx0 kx1 kx2 kx3 kx4 kx5 ky0 ky1 ky2 ky3 ky4 ky5 cF
                  unfold Oper.quietAt
                  go_simp
                simp only [Act.put, List.setIfInBounds_toArray, List.set_cons_zero, List.set_cons_succ]
                go_big_quiet_on
                go_big_quiet_want
                refine ⟨.slice (some bd) ys.length d, fun Wq hWq => ?_, ?_⟩
                · clear kx0 kx1 kx2 kx3 kx4 kx5 ky0 ky1 ky2 ky3 ky4 ky5 cF
                  unfold Oper.quietAt
                  go_simp
                simp only [Act.put, List.setIfInBounds_toArray, List.set_cons_zero, List.set_cons_succ]
                go_big_quiet_on
                go_big_quiet_want
                refine ⟨.int .i64 kk, fun Wq hWq => ?_, ?_⟩
                · clear kx0 kx1 kx2 kx3 kx4 kx5 ky0 ky1 ky2 ky3 ky4 ky5 cF
                  unfold Oper.quietAt
                  go_simp
                simp only [Act.put, List.setIfInBounds_toArray, List.set_cons_zero, List.set_cons_succ]
                go_big_quiet_on
                go_big_quiet_want
                refine ⟨.pointer (some (bd.add (kk * 6))), fun Wq hWq => ?_, ?_⟩
                · clear kx0 kx1 kx2 kx3 kx4 kx5 ky0 ky1 ky2 ky3 ky4 ky5 cF
                  unfold Oper.quietAt
                  go_simp
                simp only [Act.put, List.setIfInBounds_toArray, List.set_cons_zero, List.set_cons_succ]
                go_big_quiet_on
                go_big_quiet_want
                refine ⟨.pointer (some (bd.add (kk * 6))), fun Wq hWq => ?_, ?_⟩
                · clear kx0 kx1 kx2 kx3 kx4 kx5 ky0 ky1 ky2 ky3 ky4 ky5 cF
                  unfold Oper.quietAt
                  go_simp
                simp only [Act.put, List.setIfInBounds_toArray, List.set_cons_zero, List.set_cons_succ]
                go_big_quiet_on
                go_big_quiet_want
                refine ⟨.string y.f0, fun Wq hWq => ?_, ?_⟩
                · have q_ky0 := ky0 Wq hWq
                  clear kx0 kx1 kx2 kx3 kx4 kx5 ky0 ky1 ky2 ky3 ky4 ky5 cF
                  unfold Oper.quietAt
                  go_simp
                simp only [Act.put, List.setIfInBounds_toArray, List.set_cons_zero, List.set_cons_succ]
                go_big_quiet_on
                go_big_quiet_want
                refine ⟨.bool false, fun Wq hWq => ?_, ?_⟩
                · clear kx0 kx1 kx2 kx3 kx4 kx5 ky0 ky1 ky2 ky3 ky4 ky5 cF
                  unfold Oper.quietAt
                  go_simp
                simp only [Act.put, List.setIfInBounds_toArray, List.set_cons_zero, List.set_cons_succ]
                go_big_quiet_on
                go_big_quiet_want
                refine ⟨.bool false, fun Wq hWq => ?_, ?_⟩
                · clear kx0 kx1 kx2 kx3 kx4 kx5 ky0 ky1 ky2 ky3 ky4 ky5 cF
                  unfold Oper.quietAt
                  go_simp
                simp only [Act.put, List.setIfInBounds_toArray, List.set_cons_zero, List.set_cons_succ]
                go_big_quiet_on
                go_big_quiet_want
                refine ⟨.slice (some ad) xs.length c, fun Wq hWq => ?_, ?_⟩
                · clear kx0 kx1 kx2 kx3 kx4 kx5 ky0 ky1 ky2 ky3 ky4 ky5 cF
                  unfold Oper.quietAt
                  go_simp
                simp only [Act.put, List.setIfInBounds_toArray, List.set_cons_zero, List.set_cons_succ]
                go_big_quiet_on
                go_big_quiet_want
                refine ⟨.int .i64 kk, fun Wq hWq => ?_, ?_⟩
                · clear kx0 kx1 kx2 kx3 kx4 kx5 ky0 ky1 ky2 ky3 ky4 ky5 cF
                  unfold Oper.quietAt
                  go_simp
                simp only [Act.put, List.setIfInBounds_toArray, List.set_cons_zero, List.set_cons_succ]
                go_big_quiet_on
                go_big_quiet_want
                refine ⟨.pointer (some (ad.add (kk * 6))), fun Wq hWq => ?_, ?_⟩
                · clear kx0 kx1 kx2 kx3 kx4 kx5 ky0 ky1 ky2 ky3 ky4 ky5 cF
                  unfold Oper.quietAt
                  go_simp
                simp only [Act.put, List.setIfInBounds_toArray, List.set_cons_zero, List.set_cons_succ]
                go_big_quiet_on
                go_big_quiet_want
                refine ⟨.pointer (some ⟨(ad.add (kk * 6)).block, (ad.add (kk * 6)).off + 1, none⟩), fun Wq hWq => ?_, ?_⟩
                · clear kx0 kx1 kx2 kx3 kx4 kx5 ky0 ky1 ky2 ky3 ky4 ky5 cF
                  unfold Oper.quietAt
                  go_simp
                simp only [Act.put, List.setIfInBounds_toArray, List.set_cons_zero, List.set_cons_succ]
                go_big_quiet_on
                go_big_quiet_want
                refine ⟨.agg #[.int .i64 x.f1.f0, .bool x.f1.f1, .bool x.f1.f2, .slice B4 x.f1.f3.length d4, .slice B5 x.f1.f4.length d5], fun Wq hWq => ?_, ?_⟩
                · have q_kx1 := kx1 Wq hWq
                  have q_kx2 := kx2 Wq hWq
                  have q_kx3 := kx3 Wq hWq
                  have q_kx4 := kx4 Wq hWq
                  have q_kx5 := kx5 Wq hWq
                  clear kx0 kx1 kx2 kx3 kx4 kx5 ky0 ky1 ky2 ky3 ky4 ky5 cF
                  unfold Oper.quietAt
                  go_simp
                simp only [Act.put, List.setIfInBounds_toArray, List.set_cons_zero, List.set_cons_succ]
                go_big_quiet_on
                go_big_quiet_want
                refine ⟨.slice (some bd) ys.length d, fun Wq hWq => ?_, ?_⟩
                · clear kx0 kx1 kx2 kx3 kx4 kx5 ky0 ky1 ky2 ky3 ky4 ky5 cF
                  unfold Oper.quietAt
                  go_simp
                simp only [Act.put, List.setIfInBounds_toArray, List.set_cons_zero, List.set_cons_succ]
                go_big_quiet_on
                go_big_quiet_want
                refine ⟨.int .i64 kk, fun Wq hWq => ?_, ?_⟩
                · clear kx0 kx1 kx2 kx3 kx4 kx5 ky0 ky1 ky2 ky3 ky4 ky5 cF
                  unfold Oper.quietAt
                  go_simp
                simp only [Act.put, List.setIfInBounds_toArray, List.set_cons_zero, List.set_cons_succ]
                go_big_quiet_on
                go_big_quiet_want
                refine ⟨.pointer (some (bd.add (kk * 6))), fun Wq hWq => ?_, ?_⟩
                · clear kx0 kx1 kx2 kx3 kx4 kx5 ky0 ky1 ky2 ky3 ky4 ky5 cF
                  unfold Oper.quietAt
                  go_simp
                simp only [Act.put, List.setIfInBounds_toArray, List.set_cons_zero, List.set_cons_succ]
                go_big_quiet_on
                go_big_quiet_want
                refine ⟨.pointer (some ⟨(bd.add (kk * 6)).block, (bd.add (kk * 6)).off + 1, none⟩), fun Wq hWq => ?_, ?_⟩
                · clear kx0 kx1 kx2 kx3 kx4 kx5 ky0 ky1 ky2 ky3 ky4 ky5 cF
                  unfold Oper.quietAt
                  go_simp
                simp only [Act.put, List.setIfInBounds_toArray, List.set_cons_zero, List.set_cons_succ]
                go_big_quiet_on
                go_big_quiet_want
                refine ⟨.agg #[.int .i64 y.f1.f0, .bool y.f1.f1, .bool y.f1.f2, .slice E4 y.f1.f3.length e4, .slice E5 y.f1.f4.length e5], fun Wq hWq => ?_, ?_⟩
                · have q_ky1 := ky1 Wq hWq
                  have q_ky2 := ky2 Wq hWq
                  have q_ky3 := ky3 Wq hWq
                  have q_ky4 := ky4 Wq hWq
                  have q_ky5 := ky5 Wq hWq
                  clear kx0 kx1 kx2 kx3 kx4 kx5 ky0 ky1 ky2 ky3 ky4 ky5 cF
                  unfold Oper.quietAt
                  go_simp
                simp only [Act.put, List.setIfInBounds_toArray, List.set_cons_zero, List.set_cons_succ]
                go_big_quiet_on
                go_big_quiet_want
                refine ⟨.bool true, fun Wq hWq => ?_, ?_⟩
                · have q_cF := cF Wq hWq
                  clear kx0 kx1 kx2 kx3 kx4 kx5 ky0 ky1 ky2 ky3 ky4 ky5 cF
                  unfold Oper.quietAt
                  go_simp
                simp only [Act.put, List.setIfInBounds_toArray, List.set_cons_zero, List.set_cons_succ]
                go_big_quiet_on
                go_big_quiet_want
                refine ⟨.bool false, fun Wq hWq => ?_, ?_⟩
                · clear kx0 kx1 kx2 kx3 kx4 kx5 ky0 ky1 ky2 ky3 ky4 ky5 cF
                  unfold Oper.quietAt
                  go_simp
                simp only [Act.put, List.setIfInBounds_toArray, List.set_cons_zero, List.set_cons_succ]
                go_big_quiet_on
                go_big_quiet_want
                refine ⟨.bool false, fun Wq hWq => ?_, ?_⟩
                · clear kx0 kx1 kx2 kx3 kx4 kx5 ky0 ky1 ky2 ky3 ky4 ky5 cF
                  unfold Oper.quietAt
                  go_simp
                simp only [Act.put, List.setIfInBounds_toArray, List.set_cons_zero, List.set_cons_succ]
                go_big_quiet_on
                refine wpQuiet_nil ?_
                intro W3 hW3
                clear kx0 kx1 kx2 kx3 kx4 kx5 ky0 ky1 ky2 ky3 ky4 ky5 cF
                have hbig := hmax.out
                go_wp2
                go_roundg (xs.length - (kk + 1))
                case measure => omega
                case rel => exact ⟨kk + 1, by omega, by omega, by go_num, hR.out.1.trans (hW3.mono hR.out.1.size), hnext.out⟩
              | false =>
                rw [hff] at cF
                have hall : all2 bothB xs ys = false := all2_false hrx hry (by unfold bothB; rw [decide_eq_true hn, hff]; rfl)
                have hall := Aside0.mk hall
                clear hn hff hrx hry x0 x1 x2 x3 x4 x5 y0 y1 y2 y3 y4 y5 xg4 xg5 yg4 yg5 xl4 xl5 yl4 yl5
                go_wp2_with fail
                refine region_cls (fun W' => Below wr.heap.size wr W') (by kernel_rfl) (by kernel_rfl) (below_drew1 (Below.refl _ wr)) ?_
                go_big_quiet_want
                refine ⟨.slice (some ad) xs.length c, fun Wq hWq => ?_, ?_⟩
                · clear kx0 kx1 kx2 kx3 kx4 kx5 ky0 ky1 ky2 ky3 ky4 ky5 cF
                  unfold Oper.quietAt
                  go_simp
                simp only [Act.put, List.setIfInBounds_toArray, List.set_cons_zero, List.set_cons_succ]
                go_big_quiet_on
                go_big_quiet_want
                refine ⟨.int .i64 kk, fun Wq hWq => ?_, ?_⟩
                · clear kx0 kx1 kx2 kx3 kx4 kx5 ky0 ky1 ky2 ky3 ky4 ky5 cF
                  unfold Oper.quietAt
                  go_simp
                simp only [Act.put, List.setIfInBounds_toArray, List.set_cons_zero, List.set_cons_succ]
                go_big_quiet_on
                go_big_quiet_want
                refine ⟨.pointer (some (ad.add (kk * 6))), fun Wq hWq => ?_, ?_⟩
                · clear kx0 kx1 kx2 kx3 kx4 kx5 ky0 ky1 ky2 ky3 ky4 ky5 cF
                  unfold Oper.quietAt
                  go_simp
                simp only [Act.put, List.setIfInBounds_toArray, List.set_cons_zero, List.set_cons_succ]
                go_big_quiet_on
                go_big_quiet_want
                refine ⟨.pointer (some (ad.add (kk * 6))), fun Wq hWq => ?_, ?_⟩
                · clear kx0 kx1 kx2 kx3 kx4 kx5 ky0 ky1 ky2 ky3 ky4 ky5 cF
                  unfold Oper.quietAt
                  go_simp
                simp only [Act.put, List.setIfInBounds_toArray, List.set_cons_zero, List.set_cons_succ]
                go_big_quiet_on
                go_big_quiet_want
                refine ⟨.string x.f0, fun Wq hWq => ?_, ?_⟩
                · have q_kx0 := kx0 Wq hWq
                  clear kx0 kx1 kx2 kx3 kx4 kx5 ky0 ky1 ky2 ky3 ky4 ky5 cF
                  unfold Oper.quietAt
                  go_simp
                simp only [Act.put, List.setIfInBounds_toArray, List.set_cons_zero, List.set_cons_succ]
                go_big_quiet_on
                go_big_quiet_want
                refine ⟨.slice (some bd) ys.length d, fun Wq hWq => ?_, ?_⟩
                · clear kx0 kx1 kx2 kx3 kx4 kx5 ky0 ky1 ky2 ky3 ky4 ky5 cF
                  unfold Oper.quietAt
                  go_simp
                simp only [Act.put, List.setIfInBounds_toArray, List.set_cons_zero, List.set_cons_succ]
                go_big_quiet_on
                go_big_quiet_want
                refine ⟨.int .i64 kk, fun Wq hWq => ?_, ?_⟩
                · clear kx0 kx1 kx2 kx3 kx4 kx5 ky0 ky1 ky2 ky3 ky4 ky5 cF
                  unfold Oper.quietAt
                  go_simp
                simp only [Act.put, List.setIfInBounds_toArray, List.set_cons_zero, List.set_cons_succ]
                go_big_quiet_on
                go_big_quiet_want
                refine ⟨.pointer (some (bd.add (kk * 6))), fun Wq hWq => ?_, ?_⟩
                · clear kx0 kx1 kx2 kx3 kx4 kx5 ky0 ky1 ky2 ky3 ky4 ky5 cF
                  unfold Oper.quietAt
                  go_simp
                simp only [Act.put, List.setIfInBounds_toArray, List.set_cons_zero, List.set_cons_succ]
                go_big_quiet_on
                go_big_quiet_want
                refine ⟨.pointer (some (bd.add (kk * 6))), fun Wq hWq => ?_, ?_⟩
                · clear kx0 kx1 kx2 kx3 kx4 kx5 ky0 ky1 ky2 ky3 ky4 ky5 cF
                  unfold Oper.quietAt
                  go_simp
                simp only [Act.put, List.setIfInBounds_toArray, List.set_cons_zero, List.set_cons_succ]
                go_big_quiet_on
                go_big_quiet_want
                refine ⟨.string y.f0, fun Wq hWq => ?_, ?_⟩
                · have q_ky0 := ky0 Wq hWq
                  clear kx0 kx1 kx2 kx3 kx4 kx5 ky0 ky1 ky2 ky3 ky4 ky5 cF
                  unfold Oper.quietAt
                  go_simp
                simp only [Act.put, List.setIfInBounds_toArray, List.set_cons_zero, List.set_cons_succ]
                go_big_quiet_on
                go_big_quiet_want
                refine ⟨.bool false, fun Wq hWq => ?_, ?_⟩
                · clear kx0 kx1 kx2 kx3 kx4 kx5 ky0 ky1 ky2 ky3 ky4 ky5 cF
                  unfold Oper.quietAt
                  go_simp
                simp only [Act.put, List.setIfInBounds_toArray, List.set_cons_zero, List.set_cons_succ]
                go_big_quiet_on
                go_big_quiet_want
                refine ⟨.bool false, fun Wq hWq => ?_, ?_⟩
                · clear kx0 kx1 kx2 kx3 kx4 kx5 ky0 ky1 ky2 ky3 ky4 ky5 cF
                  unfold Oper.quietAt
                  go_simp
                simp only [Act.put, List.setIfInBounds_toArray, List.set_cons_zero, List.set_cons_succ]
                go_big_quiet_on
                go_big_quiet_want
                refine ⟨.slice (some ad) xs.length c, fun Wq hWq => ?_, ?_⟩
                · clear kx0 kx1 kx2 kx3 kx4 kx5 ky0 ky1 ky2 ky3 ky4 ky5 cF
                  unfold Oper.quietAt
                  go_simp
                simp only [Act.put, List.setIfInBounds_toArray, List.set_cons_zero, List.set_cons_succ]
                go_big_quiet_on
                go_big_quiet_want
                refine ⟨.int .i64 kk, fun Wq hWq => ?_, ?_⟩
                · clear kx0 kx1 kx2 kx3 kx4 kx5 ky0 ky1 ky2 ky3 ky4 ky5 cF
                  unfold Oper.quietAt
                  go_simp
                simp only [Act.put, List.setIfInBounds_toArray, List.set_cons_zero, List.set_cons_succ]
                go_big_quiet_on
                go_big_quiet_want
                refine ⟨.pointer (some (ad.add (kk * 6))), fun Wq hWq => ?_, ?_⟩
                · clear kx0 kx1 kx2 kx3 kx4 kx5 ky0 ky1 ky2 ky3 ky4 ky5 cF
                  unfold Oper.quietAt
                  go_simp
                simp only [Act.put, List.setIfInBounds_toArray, List.set_cons_zero, List.set_cons_succ]
                go_big_quiet_on
                go_big_quiet_want
                refine ⟨.pointer (some ⟨(ad.add (kk * 6)).block, (ad.add (kk * 6)).off + 1, none⟩), fun Wq hWq => ?_, ?_⟩
                · clear kx0 kx1 kx2 kx3 kx4 kx5 ky0 ky1 ky2 ky3 ky4 ky5 cF
                  unfold Oper.quietAt
                  go_simp
                simp only [Act.put, List.setIfInBounds_toArray, List.set_cons_zero, List.set_cons_succ]
                go_big_quiet_on
                go_big_quiet_want
                refine ⟨.agg #[.int .i64 x.f1.f0, .bool x.f1.f1, .bool x.f1.f2, .slice B4 x.f1.f3.length d4, .slice B5 x.f1.f4.length d5], fun Wq hWq => ?_, ?_⟩
                · have q_kx1 := kx1 Wq hWq
                  have q_kx2 := kx2 Wq hWq
                  have q_kx3 := kx3 Wq hWq
                  have q_kx4 := kx4 Wq hWq
                  have q_kx5 := kx5 Wq hWq
                  clear kx0 kx1 kx2 kx3 kx4 kx5 ky0 ky1 ky2 ky3 ky4 ky5 cF
                  unfold Oper.quietAt
                  go_simp
                simp only [Act.put, List.setIfInBounds_toArray, List.set_cons_zero, List.set_cons_succ]
                go_big_quiet_on
                go_big_quiet_want
                refine ⟨.slice (some bd) ys.length d, fun Wq hWq => ?_, ?_⟩
                · clear kx0 kx1 kx2 kx3 kx4 kx5 ky0 ky1 ky2 ky3 ky4 ky5 cF
                  unfold Oper.quietAt
                  go_simp
                simp only [Act.put, List.setIfInBounds_toArray, List.set_cons_zero, List.set_cons_succ]
                go_big_quiet_on
                go_big_quiet_want
                refine ⟨.int .i64 kk, fun Wq hWq => ?_, ?_⟩
                · clear kx0 kx1 kx2 kx3 kx4 kx5 ky0 ky1 ky2 ky3 ky4 ky5 cF
                  unfold Oper.quietAt
                  go_simp
                simp only [Act.put, List.setIfInBounds_toArray, List.set_cons_zero, List.set_cons_succ]
                go_big_quiet_on
                go_big_quiet_want
                refine ⟨.pointer (some (bd.add (kk * 6))), fun Wq hWq => ?_, ?_⟩
                · clear kx0 kx1 kx2 kx3 kx4 kx5 ky0 ky1 ky2 ky3 ky4 ky5 cF
                  unfold Oper.quietAt
                  go_simp
                simp only [Act.put, List.setIfInBounds_toArray, List.set_cons_zero, List.set_cons_succ]
                go_big_quiet_on
                go_big_quiet_want
                refine ⟨.pointer (some ⟨(bd.add (kk * 6)).block, (bd.add (kk * 6)).off + 1, none⟩), fun Wq hWq => ?_, ?_⟩
                · clear kx0 kx1 kx2 kx3 kx4 kx5 ky0 ky1 ky2 ky3 ky4 ky5 cF
                  unfold Oper.quietAt
                  go_simp
                simp only [Act.put, List.setIfInBounds_toArray, List.set_cons_zero, List.set_cons_succ]
                go_big_quiet_on
                go_big_quiet_want
                refine ⟨.agg #[.int .i64 y.f1.f0, .bool y.f1.f1, .bool y.f1.f2, .slice E4 y.f1.f3.length e4, .slice E5 y.f1.f4.length e5], fun Wq hWq => ?_, ?_⟩
                · have q_ky1 := ky1 Wq hWq
                  have q_ky2 := ky2 Wq hWq
                  have q_ky3 := ky3 Wq hWq
                  have q_ky4 := ky4 Wq hWq
                  have q_ky5 := ky5 Wq hWq
                  clear kx0 kx1 kx2 kx3 kx4 kx5 ky0 ky1 ky2 ky3 ky4 ky5 cF
                  unfold Oper.quietAt
                  go_simp
                simp only [Act.put, List.setIfInBounds_toArray, List.set_cons_zero, List.set_cons_succ]
                go_big_quiet_on
                go_big_quiet_want
                refine ⟨.bool false, fun Wq hWq => ?_, ?_⟩
                · have q_cF := cF Wq hWq
                  clear kx0 kx1 kx2 kx3 kx4 kx5 ky0 ky1 ky2 ky3 ky4 ky5 cF
                  unfold Oper.quietAt
                  go_simp
                simp only [Act.put, List.setIfInBounds_toArray, List.set_cons_zero, List.set_cons_succ]
                go_big_quiet_on
                go_big_quiet_want
                refine ⟨.bool true, fun Wq hWq => ?_, ?_⟩
                · clear kx0 kx1 kx2 kx3 kx4 kx5 ky0 ky1 ky2 ky3 ky4 ky5 cF
                  unfold Oper.quietAt
                  go_simp
                simp only [Act.put, List.setIfInBounds_toArray, List.set_cons_zero, List.set_cons_succ]
                go_big_quiet_on
                go_big_quiet_want
                refine ⟨.bool true, fun Wq hWq => ?_, ?_⟩
                · clear kx0 kx1 kx2 kx3 kx4 kx5 ky0 ky1 ky2 ky3 ky4 ky5 cF
                  unfold Oper.quietAt
                  go_simp
                simp only [Act.put, List.setIfInBounds_toArray, List.set_cons_zero, List.set_cons_succ]
                go_big_quiet_on
                refine wpQuiet_nil ?_
                intro W3 hW3
                clear kx0 kx1 kx2 kx3 kx4 kx5 ky0 ky1 ky2 ky3 ky4 ky5 cF
                go_wp2
                go_ret
                exact ⟨by first | rfl | (rw [hall.out]; rfl), hR.out.1.trans (hW3.mono hR.out.1.size)⟩
            · have n1 : (x.f0.toList == y.f0.toList) = false := by simpa using hn
              have n2 : (x.f0.toList != y.f0.toList) = true := by simpa using hn
              have hall : all2 bothB xs ys = false := all2_false hrx hry (by unfold bothB; rw [decide_eq_false hn]; rfl)
              have hall := Aside0.mk hall
              clear hn hrx hry x0 x1 x2 x3 x4 x5 y0 y1 y2 y3 y4 y5 xg4 xg5 yg4 yg5 xl4 xl5 yl4 yl5
              go_wp2_with fail
              refine region_cls (fun W' => Below wr.heap.size wr W') (by kernel_rfl) (by kernel_rfl) (below_drew1 (Below.refl _ wr)) ?_
              go_big_quiet_want
              refine ⟨.slice (some ad) xs.length c, fun Wq hWq => ?_, ?_⟩
              · clear kx0 kx1 kx2 kx3 kx4 kx5 ky0 ky1 ky2 ky3 ky4 ky5 cF
                unfold Oper.quietAt
                go_simp
              simp only [Act.put, List.setIfInBounds_toArray, List.set_cons_zero, List.set_cons_succ]
              go_big_quiet_on
              go_big_quiet_want
              refine ⟨.int .i64 kk, fun Wq hWq => ?_, ?_⟩
              · clear kx0 kx1 kx2 kx3 kx4 kx5 ky0 ky1 ky2 ky3 ky4 ky5 cF
                unfold Oper.quietAt
                go_simp
              simp only [Act.put, List.setIfInBounds_toArray, List.set_cons_zero, List.set_cons_succ]
              go_big_quiet_on
              go_big_quiet_want
              refine ⟨.pointer (some (ad.add (kk * 6))), fun Wq hWq => ?_, ?_⟩
              · clear kx0 kx1 kx2 kx3 kx4 kx5 ky0 ky1 ky2 ky3 ky4 ky5 cF
                unfold Oper.quietAt
                go_simp
              simp only [Act.put, List.setIfInBounds_toArray, List.set_cons_zero, List.set_cons_succ]
              go_big_quiet_on
              go_big_quiet_want
              refine ⟨.pointer (some (ad.add (kk * 6))), fun Wq hWq => ?_, ?_⟩
              · clear kx0 kx1 kx2 kx3 kx4 kx5 ky0 ky1 ky2 ky3 ky4 ky5 cF
                unfold Oper.quietAt
                go_simp
              simp only [Act.put, List.setIfInBounds_toArray, List.set_cons_zero, List.set_cons_succ]
              go_big_quiet_on
              go_big_quiet_want
              refine ⟨.string x.f0, fun Wq hWq => ?_, ?_⟩
              · have q_kx0 := kx0 Wq hWq
                clear kx0 kx1 kx2 kx3 kx4 kx5 ky0 ky1 ky2 ky3 ky4 ky5 cF
                unfold Oper.quietAt
                go_simp
              simp only [Act.put, List.setIfInBounds_toArray, List.set_cons_zero, List.set_cons_succ]
              go_big_quiet_on
              go_big_quiet_want
              refine ⟨.slice (some bd) ys.length d, fun Wq hWq => ?_, ?_⟩
              · clear kx0 kx1 kx2 kx3 kx4 kx5 ky0 ky1 ky2 ky3 ky4 ky5 cF
                unfold Oper.quietAt
                go_simp
              simp only [Act.put, List.setIfInBounds_toArray, List.set_cons_zero, List.set_cons_succ]
              go_big_quiet_on
              go_big_quiet_want
              refine ⟨.int .i64 kk, fun Wq hWq => ?_, ?_⟩
              · clear kx0 kx1 kx2 kx3 kx4 kx5 ky0 ky1 ky2 ky3 ky4 ky5 cF
                unfold Oper.quietAt
                go_simp
              simp only [Act.put, List.setIfInBounds_toArray, List.set_cons_zero, List.set_cons_succ]
              go_big_quiet_on
              go_big_quiet_want
              refine ⟨.pointer (some (bd.add (kk * 6))), fun Wq hWq => ?_, ?_⟩
              · clear kx0 kx1 kx2 kx3 kx4 kx5 ky0 ky1 ky2 ky3 ky4 ky5 cF
                unfold Oper.quietAt
                go_simp
              simp only [Act.put, List.setIfInBounds_toArray, List.set_cons_zero, List.set_cons_succ]
              go_big_quiet_on
              go_big_quiet_want
              refine ⟨.pointer (some (bd.add (kk * 6))), fun Wq hWq => ?_, ?_⟩
              · clear kx0 kx1 kx2 kx3 kx4 kx5 ky0 ky1 ky2 ky3 ky4 ky5 cF
                unfold Oper.quietAt
                go_simp
              simp only [Act.put, List.setIfInBounds_toArray, List.set_cons_zero, List.set_cons_succ]
              go_big_quiet_on
              go_big_quiet_want
              refine ⟨.string y.f0, fun Wq hWq => ?_, ?_⟩
              · have q_ky0 := ky0 Wq hWq
                clear kx0 kx1 kx2 kx3 kx4 kx5 ky0 ky1 ky2 ky3 ky4 ky5 cF
                unfold Oper.quietAt
                go_simp
              simp only [Act.put, List.setIfInBounds_toArray, List.set_cons_zero, List.set_cons_succ]
              go_big_quiet_on
              go_big_quiet_want
              refine ⟨.bool true, fun Wq hWq => ?_, ?_⟩
              · clear kx0 kx1 kx2 kx3 kx4 kx5 ky0 ky1 ky2 ky3 ky4 ky5 cF
                unfold Oper.quietAt
                go_simp
              simp only [Act.put, List.setIfInBounds_toArray, List.set_cons_zero, List.set_cons_succ]
              go_big_quiet_on
              go_big_quiet_want
              refine ⟨.bool true, fun Wq hWq => ?_, ?_⟩
              · clear kx0 kx1 kx2 kx3 kx4 kx5 ky0 ky1 ky2 ky3 ky4 ky5 cF
                unfold Oper.quietAt
                go_simp
              simp only [Act.put, List.setIfInBounds_toArray, List.set_cons_zero, List.set_cons_succ]
              go_big_quiet_on
              go_big_quiet_skip
              go_big_quiet_skip
              go_big_quiet_skip
              go_big_quiet_skip
              go_big_quiet_skip
              go_big_quiet_skip
              go_big_quiet_skip
              go_big_quiet_skip
              go_big_quiet_skip
              go_big_quiet_skip
              go_big_quiet_skip
              go_big_quiet_skip
              go_big_quiet_want
              refine ⟨.bool true, fun Wq hWq => ?_, ?_⟩
              · clear kx0 kx1 kx2 kx3 kx4 kx5 ky0 ky1 ky2 ky3 ky4 ky5 cF
                unfold Oper.quietAt
                go_simp
              simp only [Act.put, List.setIfInBounds_toArray, List.set_cons_zero, List.set_cons_succ]
              go_big_quiet_on
              refine wpQuiet_nil ?_
              intro W3 hW3
              clear kx0 kx1 kx2 kx3 kx4 kx5 ky0 ky1 ky2 ky3 ky4 ky5 cF
              go_wp2
              go_ret
              exact ⟨by first | rfl | (rw [hall.out]; rfl), hR.out.1.trans (hW3.mono hR.out.1.size)⟩
          · have hlt1 : decide ((kk : Int) < (xs.length : Int)) = false := decide_eq_false (by omega)
            have hlt2 : decide (kk < xs.length) = false := decide_eq_false hlt
            have hall : all2 bothB xs ys = true := all2_true hlen'.out fun j p q hp hq => hR.out.2 j p q (by have := idx_lt hp; omega) hp hq
            have hall := Aside0.mk hall
            clear hlt
            go_wp2
            go_ret
            exact ⟨by first | rfl | (rw [hall.out]; rfl), hR.out.1⟩
      · have l1 : ((xs.length : Int) != (ys.length : Int)) = true := by simp; omega
        have l2 : (xs.length != ys.length) = true := by simpa using hlen
        have l3 : ((xs.length : Int) == (ys.length : Int)) = false := by simp; omega
        have hall := Aside0.mk (all2_len (p := bothB) hlen)
        clear hlen
        go_enter Tryz.func13, Tryz.ntmps13
        go_wp2_with (first
          | (go_at_call 7; refine r1.mono ?_; clear r1; rintro e w1 ⟨rfl, hb1⟩; have r2' := r2 w1 hb1; clear r2)
          | (go_at_call 7; refine r2'.mono ?_; clear r2'; rintro e w2 ⟨rfl, hb2⟩))
        go_ret
        exact ⟨by first | rfl | (rw [hall.out]; rfl), hb1.trans (hb2.mono hb1.size)⟩
/-- Two types of environments that may be held against one another. -/
theorem both_at {xs ys : List S33} (h : bothE xs ys = true) {i : Nat} {x y : S33} (hx : xs[i]? = some x) (hy : ys[i]? = some y) : rightT x.f1 = true ∧ rightT y.f1 = true ∧ fitsT x.f1 y.f1 = true := by
  unfold bothE at h
  simp only [Bool.and_eq_true] at h
  have h1 := List.all_eq_true.mp h.1.1 x (List.mem_of_getElem? hx)
  have h2 := List.all_eq_true.mp h.1.2 y (List.mem_of_getElem? hy)
  have h3 := all2_at h.2 hx hy
  unfold bothB at h3
  simp only [Bool.and_eq_true] at h3
  exact ⟨h1, h2, h3.2⟩
theorem both_len {xs ys : List S33} (h : bothE xs ys = true) : xs.length = ys.length := by
  unfold bothE at h
  simp only [Bool.and_eq_true] at h
  exact all2_length h.2
set_option maxHeartbeats 8000000 in
/-- The document's Less. -/
theorem refLess (xs ys : List S33) (A : Option Addr) (c : Nat) (B : Option Addr) (d : Nat) (w : World) (hC : Kd.C k33 w A xs.length xs) (hD : Kd.C k33 w B ys.length ys) :
    Calls Tryz.prog 9 #[.slice A xs.length c, .slice B ys.length d] w fun e w' => e = .returned (.bool (lessE xs ys)) ∧ Below w.heap.size w w' := by
  have hmax := Aside0.mk (Kd.C_max hC)
  have eF := enters_of Tryz.func28 (by kernel_rfl) rfl
  have r1 := refBoth xs ys A c B d w hC hD
  have hf : lessE xs ys = (bothE xs ys && all2 lessB xs ys) := rfl
  rw [hf]
  clear hf
  have hC := Aside0.mk hC
  have hD := Aside0.mk hD
  cases h1 : bothE xs ys with
  | false =>
    rw [h1] at r1
    clear h1
    go_enter Tryz.func9, Tryz.ntmps9
    go_wp2_with (go_at_call 13; refine r1.mono ?_; clear r1; rintro e w1 ⟨rfl, hb1⟩)
    go_ret
    exact ⟨rfl, hb1⟩
  | true =>
    rw [h1] at r1
    have hlen' := Aside0.mk (both_len h1)
    have hBoth := Aside0.mk h1
    clear h1
    go_enter Tryz.func9, Tryz.ntmps9
    go_wp2_with (go_at_call 13; refine r1.mono ?_; clear r1; rintro e w1 ⟨rfl, hb1⟩)
    go_loopg [5] xs.length (fun gg s5 wr => ∃ kk : Nat, kk ≤ xs.length ∧ xs.length - kk ≤ gg ∧ s5 = .int .i64 kk ∧ Aside (Below w.heap.size w wr ∧ ∀ (j : Nat) p q, j < kk → xs[j]? = some p → ys[j]? = some q → lessB p q = true))
    case atStart => exact ⟨0, Nat.zero_le _, by omega, rfl, hb1, fun j p q hj => absurd hj (Nat.not_lt_zero _)⟩
    case round =>
      clear hb1
      obtain ⟨kk, hkk, hg, rfl, hR⟩ := hrel
      have hR := Aside0.mk hR.out
      by_cases hlt : kk < xs.length
      · have hlty : kk < ys.length := by have := hlen'.out; omega
        have hltz : (kk : Int) < (xs.length : Int) := by omega
        have hltyz : (kk : Int) < (ys.length : Int) := by omega
        obtain ⟨ad, B4, d4, B5, d5, eA, x0, x1, x2, x3, x4, x5, xl4, xg4, xl5, xg5⟩ := at_T33 (Kd.C_below hC.out hR.out.1) (kk : Int) (by omega) hltz
        subst eA
        obtain ⟨bd, E4, e4, E5, e5, eB, y0, y1, y2, y3, y4, y5, yl4, yg4, yl5, yg5⟩ := at_T33 (Kd.C_below hD.out hR.out.1) (kk : Int) (by omega) hltyz
        subst eB
        have hrx : xs[kk]? = some (rd_T33 xs (kk : Int)) := by rw [rd39_at _ _ hlt]; exact List.getElem?_eq_getElem hlt
        have hry : ys[kk]? = some (rd_T33 ys (kk : Int)) := by rw [rd39_at _ _ hlty]; exact List.getElem?_eq_getElem hlty
        simp only [Int.toNat_natCast] at x0 x1 x2 x3 x4 x5 y0 y1 y2 y3 y4 y5
        generalize rd_T33 xs (kk : Int) = x at *
        generalize rd_T33 ys (kk : Int) = y at *
        have kx1 := fun Wq (h : Below wr.heap.size wr Wq) => below_cell h x1
        have kx2 := fun Wq (h : Below wr.heap.size wr Wq) => below_cell h x2
        have kx3 := fun Wq (h : Below wr.heap.size wr Wq) => below_cell h x3
        have kx4 := fun Wq (h : Below wr.heap.size wr Wq) => below_cell h x4
        have kx5 := fun Wq (h : Below wr.heap.size wr Wq) => below_cell h x5
        have ky1 := fun Wq (h : Below wr.heap.size wr Wq) => below_cell h y1
        have ky2 := fun Wq (h : Below wr.heap.size wr Wq) => below_cell h y2
        have ky3 := fun Wq (h : Below wr.heap.size wr Wq) => below_cell h y3
        have ky4 := fun Wq (h : Below wr.heap.size wr Wq) => below_cell h y4
        have ky5 := fun Wq (h : Below wr.heap.size wr Wq) => below_cell h y5
        obtain ⟨hr1, hr2, hr3⟩ := both_at hBoth.out hrx hry
        have cF := fun Wq (h : Below wr.heap.size wr Wq) => (refLessW x.f1 y.f1 hr3 B4 d4 B5 d5 E4 e4 E5 e5 Wq xl4 (Kd.C_below xg4 h) xl5 (Kd.C_below xg5 h) yl4 (Kd.C_below yg4 h) yl5 (Kd.C_below yg5 h)).mono (fun e w' q => And.intro q.1 (h.trans (q.2.mono h.size)))
        rw [← less_eq x.f1 y.f1 hr1 hr2 hr3] at cF
        cases hff : lessT x.f1 y.f1 with
        | true =>
          rw [hff] at cF
          have hnext : ∀ (j : Nat) p q, j < kk + 1 → xs[j]? = some p → ys[j]? = some q → lessB p q = true := fun j p q hj hp hq => by
            by_cases e : j = kk
            · subst e
              rw [hrx] at hp
              rw [hry] at hq
              cases hp
              cases hq
              exact hff
            · exact hR.out.2 j p q (by omega) hp hq
          have hnext := Aside0.mk hnext
          clear hff hrx hry hr1 hr2 hr3 x0 x1 x2 x3 x4 x5 y0 y1 y2 y3 y4 y5 xg4 xg5 yg4 yg5 xl4 xl5 yl4 yl5
          go_wp2_with fail
          refine region_cls (fun W' => Below wr.heap.size wr W') (by kernel_rfl) (by kernel_rfl) (below_drew1 (Below.refl _ wr)) ?_
          go_big_quiet_want
          refine ⟨.slice (some ad) xs.length c, fun Wq hWq => ?_, ?_⟩
          · clear kx1 kx2 kx3 kx4 kx5 ky1 ky2 ky3 ky4 ky5 cF
            unfold Oper.quietAt
            go_simp
          simp only [Act.put, List.setIfInBounds_toArray, List.set_cons_zero, List.set_cons_succ]
          go_big_quiet_on
          go_big_quiet_want
          refine ⟨.int .i64 kk, fun Wq hWq => ?_, ?_⟩
          · clear kx1 kx2 kx3 kx4 kx5 ky1 ky2 ky3 ky4 ky5 cF
            unfold Oper.quietAt
            go_simp
          simp only [Act.put, List.setIfInBounds_toArray, List.set_cons_zero, List.set_cons_succ]
          go_big_quiet_on
          go_big_quiet_want
          refine ⟨.pointer (some (ad.add (kk * 6))), fun Wq hWq => ?_, ?_⟩
          · clear kx1 kx2 kx3 kx4 kx5 ky1 ky2 ky3 ky4 ky5 cF
            unfold Oper.quietAt
            go_simp
          simp only [Act.put, List.setIfInBounds_toArray, List.set_cons_zero, List.set_cons_succ]
          go_big_quiet_on
          go_big_quiet_want
          refine ⟨.pointer (some ⟨(ad.add (kk * 6)).block, (ad.add (kk * 6)).off + 1, none⟩), fun Wq hWq => ?_, ?_⟩
          · clear kx1 kx2 kx3 kx4 kx5 ky1 ky2 ky3 ky4 ky5 cF
            unfold Oper.quietAt
            go_simp
          simp only [Act.put, List.setIfInBounds_toArray, List.set_cons_zero, List.set_cons_succ]
          go_big_quiet_on
          go_big_quiet_want
          refine ⟨.agg #[.int .i64 x.f1.f0, .bool x.f1.f1, .bool x.f1.f2, .slice B4 x.f1.f3.length d4, .slice B5 x.f1.f4.length d5], fun Wq hWq => ?_, ?_⟩
          · have q_kx1 := kx1 Wq hWq
            have q_kx2 := kx2 Wq hWq
            have q_kx3 := kx3 Wq hWq
            have q_kx4 := kx4 Wq hWq
            have q_kx5 := kx5 Wq hWq
            clear kx1 kx2 kx3 kx4 kx5 ky1 ky2 ky3 ky4 ky5 cF
            unfold Oper.quietAt
            go_simp
          simp only [Act.put, List.setIfInBounds_toArray, List.set_cons_zero, List.set_cons_succ]
          go_big_quiet_on
          go_big_quiet_want
          refine ⟨.slice (some bd) ys.length d, fun Wq hWq => ?_, ?_⟩
          · clear kx1 kx2 kx3 kx4 kx5 ky1 ky2 ky3 ky4 ky5 cF
            unfold Oper.quietAt
            go_simp
          simp only [Act.put, List.setIfInBounds_toArray, List.set_cons_zero, List.set_cons_succ]
          go_big_quiet_on
          go_big_quiet_want
          refine ⟨.int .i64 kk, fun Wq hWq => ?_, ?_⟩
          · clear kx1 kx2 kx3 kx4 kx5 ky1 ky2 ky3 ky4 ky5 cF
            unfold Oper.quietAt
            go_simp
          simp only [Act.put, List.setIfInBounds_toArray, List.set_cons_zero, List.set_cons_succ]
          go_big_quiet_on
          go_big_quiet_want
          refine ⟨.pointer (some (bd.add (kk * 6))), fun Wq hWq => ?_, ?_⟩
          · clear kx1 kx2 kx3 kx4 kx5 ky1 ky2 ky3 ky4 ky5 cF
            unfold Oper.quietAt
            go_simp
          simp only [Act.put, List.setIfInBounds_toArray, List.set_cons_zero, List.set_cons_succ]
          go_big_quiet_on
          go_big_quiet_want
          refine ⟨.pointer (some ⟨(bd.add (kk * 6)).block, (bd.add (kk * 6)).off + 1, none⟩), fun Wq hWq => ?_, ?_⟩
          · clear kx1 kx2 kx3 kx4 kx5 ky1 ky2 ky3 ky4 ky5 cF
            unfold Oper.quietAt
            go_simp
          simp only [Act.put, List.setIfInBounds_toArray, List.set_cons_zero, List.set_cons_succ]
          go_big_quiet_on
          go_big_quiet_want
          refine ⟨.agg #[.int .i64 y.f1.f0, .bool y.f1.f1, .bool y.f1.f2, .slice E4 y.f1.f3.length e4, .slice E5 y.f1.f4.length e5], fun Wq hWq => ?_, ?_⟩
          · have q_ky1 := ky1 Wq hWq
            have q_ky2 := ky2 Wq hWq
            have q_ky3 := ky3 Wq hWq
            have q_ky4 := ky4 Wq hWq
            have q_ky5 := ky5 Wq hWq
            clear kx1 kx2 kx3 kx4 kx5 ky1 ky2 ky3 ky4 ky5 cF
            unfold Oper.quietAt
            go_simp
          simp only [Act.put, List.setIfInBounds_toArray, List.set_cons_zero, List.set_cons_succ]
          go_big_quiet_on
          go_big_quiet_want
          refine ⟨.bool true, fun Wq hWq => ?_, ?_⟩
          · have q_cF := cF Wq hWq
            clear kx1 kx2 kx3 kx4 kx5 ky1 ky2 ky3 ky4 ky5 cF
            unfold Oper.quietAt
            go_simp
          simp only [Act.put, List.setIfInBounds_toArray, List.set_cons_zero, List.set_cons_succ]
          go_big_quiet_on
          go_big_quiet_want
          refine ⟨.bool false, fun Wq hWq => ?_, ?_⟩
          · clear kx1 kx2 kx3 kx4 kx5 ky1 ky2 ky3 ky4 ky5 cF
            unfold Oper.quietAt
            go_simp
          simp only [Act.put, List.setIfInBounds_toArray, List.set_cons_zero, List.set_cons_succ]
          go_big_quiet_on
          refine wpQuiet_nil ?_
          intro W3 hW3
          clear kx1 kx2 kx3 kx4 kx5 ky1 ky2 ky3 ky4 ky5 cF
          have hbig := hmax.out
          go_wp2
          go_roundg (xs.length - (kk + 1))
          case measure => omega
          case rel => exact ⟨kk + 1, by omega, by omega, by go_num, hR.out.1.trans (hW3.mono hR.out.1.size), hnext.out⟩
        | false =>
          rw [hff] at cF
          have hall : all2 lessB xs ys = false := all2_false hrx hry hff
          have hall := Aside0.mk hall
          clear hff hrx hry hr1 hr2 hr3 x0 x1 x2 x3 x4 x5 y0 y1 y2 y3 y4 y5 xg4 xg5 yg4 yg5 xl4 xl5 yl4 yl5
          go_wp2_with fail
          refine region_cls (fun W' => Below wr.heap.size wr W') (by kernel_rfl) (by kernel_rfl) (below_drew1 (Below.refl _ wr)) ?_
          go_big_quiet_want
          refine ⟨.slice (some ad) xs.length c, fun Wq hWq => ?_, ?_⟩
          · clear kx1 kx2 kx3 kx4 kx5 ky1 ky2 ky3 ky4 ky5 cF
            unfold Oper.quietAt
            go_simp
          simp only [Act.put, List.setIfInBounds_toArray, List.set_cons_zero, List.set_cons_succ]
          go_big_quiet_on
          go_big_quiet_want
          refine ⟨.int .i64 kk, fun Wq hWq => ?_, ?_⟩
          · clear kx1 kx2 kx3 kx4 kx5 ky1 ky2 ky3 ky4 ky5 cF
            unfold Oper.quietAt
            go_simp
          simp only [Act.put, List.setIfInBounds_toArray, List.set_cons_zero, List.set_cons_succ]
          go_big_quiet_on
          go_big_quiet_want
          refine ⟨.pointer (some (ad.add (kk * 6))), fun Wq hWq => ?_, ?_⟩
          · clear kx1 kx2 kx3 kx4 kx5 ky1 ky2 ky3 ky4 ky5 cF
            unfold Oper.quietAt
            go_simp
          simp only [Act.put, List.setIfInBounds_toArray, List.set_cons_zero, List.set_cons_succ]
          go_big_quiet_on
          go_big_quiet_want
          refine ⟨.pointer (some ⟨(ad.add (kk * 6)).block, (ad.add (kk * 6)).off + 1, none⟩), fun Wq hWq => ?_, ?_⟩
          · clear kx1 kx2 kx3 kx4 kx5 ky1 ky2 ky3 ky4 ky5 cF
            unfold Oper.quietAt
            go_simp
          simp only [Act.put, List.setIfInBounds_toArray, List.set_cons_zero, List.set_cons_succ]
          go_big_quiet_on
          go_big_quiet_want
          refine ⟨.agg #[.int .i64 x.f1.f0, .bool x.f1.f1, .bool x.f1.f2, .slice B4 x.f1.f3.length d4, .slice B5 x.f1.f4.length d5], fun Wq hWq => ?_, ?_⟩
          · have q_kx1 := kx1 Wq hWq
            have q_kx2 := kx2 Wq hWq
            have q_kx3 := kx3 Wq hWq
            have q_kx4 := kx4 Wq hWq
            have q_kx5 := kx5 Wq hWq
            clear kx1 kx2 kx3 kx4 kx5 ky1 ky2 ky3 ky4 ky5 cF
            unfold Oper.quietAt
            go_simp
          simp only [Act.put, List.setIfInBounds_toArray, List.set_cons_zero, List.set_cons_succ]
          go_big_quiet_on
          go_big_quiet_want
          refine ⟨.slice (some bd) ys.length d, fun Wq hWq => ?_, ?_⟩
          · clear kx1 kx2 kx3 kx4 kx5 ky1 ky2 ky3 ky4 ky5 cF
            unfold Oper.quietAt
            go_simp
          simp only [Act.put, List.setIfInBounds_toArray, List.set_cons_zero, List.set_cons_succ]
          go_big_quiet_on
          go_big_quiet_want
          refine ⟨.int .i64 kk, fun Wq hWq => ?_, ?_⟩
          · clear kx1 kx2 kx3 kx4 kx5 ky1 ky2 ky3 ky4 ky5 cF
            unfold Oper.quietAt
            go_simp
          simp only [Act.put, List.setIfInBounds_toArray, List.set_cons_zero, List.set_cons_succ]
          go_big_quiet_on
          go_big_quiet_want
          refine ⟨.pointer (some (bd.add (kk * 6))), fun Wq hWq => ?_, ?_⟩
          · clear kx1 kx2 kx3 kx4 kx5 ky1 ky2 ky3 ky4 ky5 cF
            unfold Oper.quietAt
            go_simp
          simp only [Act.put, List.setIfInBounds_toArray, List.set_cons_zero, List.set_cons_succ]
          go_big_quiet_on
          go_big_quiet_want
          refine ⟨.pointer (some ⟨(bd.add (kk * 6)).block, (bd.add (kk * 6)).off + 1, none⟩), fun Wq hWq => ?_, ?_⟩
          · clear kx1 kx2 kx3 kx4 kx5 ky1 ky2 ky3 ky4 ky5 cF
            unfold Oper.quietAt
            go_simp
          simp only [Act.put, List.setIfInBounds_toArray, List.set_cons_zero, List.set_cons_succ]
          go_big_quiet_on
          go_big_quiet_want
          refine ⟨.agg #[.int .i64 y.f1.f0, .bool y.f1.f1, .bool y.f1.f2, .slice E4 y.f1.f3.length e4, .slice E5 y.f1.f4.length e5], fun Wq hWq => ?_, ?_⟩
          · have q_ky1 := ky1 Wq hWq
            have q_ky2 := ky2 Wq hWq
            have q_ky3 := ky3 Wq hWq
            have q_ky4 := ky4 Wq hWq
            have q_ky5 := ky5 Wq hWq
            clear kx1 kx2 kx3 kx4 kx5 ky1 ky2 ky3 ky4 ky5 cF
            unfold Oper.quietAt
            go_simp
          simp only [Act.put, List.setIfInBounds_toArray, List.set_cons_zero, List.set_cons_succ]
          go_big_quiet_on
          go_big_quiet_want
          refine ⟨.bool false, fun Wq hWq => ?_, ?_⟩
          · have q_cF := cF Wq hWq
            clear kx1 kx2 kx3 kx4 kx5 ky1 ky2 ky3 ky4 ky5 cF
            unfold Oper.quietAt
            go_simp
          simp only [Act.put, List.setIfInBounds_toArray, List.set_cons_zero, List.set_cons_succ]
          go_big_quiet_on
          go_big_quiet_want
          refine ⟨.bool true, fun Wq hWq => ?_, ?_⟩
          · clear kx1 kx2 kx3 kx4 kx5 ky1 ky2 ky3 ky4 ky5 cF
            unfold Oper.quietAt
            go_simp
          simp only [Act.put, List.setIfInBounds_toArray, List.set_cons_zero, List.set_cons_succ]
          go_big_quiet_on
          refine wpQuiet_nil ?_
          intro W3 hW3
          clear kx1 kx2 kx3 kx4 kx5 ky1 ky2 ky3 ky4 ky5 cF
          go_wp2
          go_ret
          exact ⟨by first | rfl | (rw [hall.out]; rfl), hR.out.1.trans (hW3.mono hR.out.1.size)⟩
      · have hlt1 : decide ((kk : Int) < (xs.length : Int)) = false := decide_eq_false (by omega)
        have hlt2 : decide (kk < xs.length) = false := decide_eq_false hlt
        have hall : all2 lessB xs ys = true := all2_true hlen'.out fun j p q hp hq => hR.out.2 j p q (by have := idx_lt hp; omega) hp hq
        have hall := Aside0.mk hall
        clear hlt
        go_wp2
        go_ret
        exact ⟨by first | rfl | (rw [hall.out]; rfl), hR.out.1⟩
end Go.Proofs.YtadjekpfehjibaaGreatDoor.PEnv
namespace Go.Proofs.YtadjekpfehjibaaGreatDoor.PEnv
open Go.RowKit Go.Shelf Go.Lib Go.Proofs.YtadjekpfehjibaaGreatDoorW.PrintWords Go.Proofs.YtadjekpfehjibaaGreatDoorW.PrintLast Go.Proofs.YtadjekpfehjibaaGreatDoorW.PrintMore Go.Proofs.YtadjekpfehjibaaGreatDoor.PEnvJoins
/-- The join of environments that fit. -/
def joinE : List S33 → List S33 → List S33
  | a :: as_, b :: bs => ⟨a.f0, joinT a.f1 b.f1⟩ :: joinE as_ bs
  | [], _ => []
  | _ :: _, [] => []
theorem joinE_length : ∀ (ts us : List S33), ts.length = us.length → (joinE ts us).length = ts.length
  | [], [], _ => rfl
  | [], _ :: _, h => by cases h
  | _ :: _, [], h => by cases h
  | t :: ts, u :: us, h => by rw [joinE, List.length_cons, joinE_length ts us (by simpa using h), List.length_cons]
theorem joinE_get : ∀ (ts us : List S33) (i : Nat) (t u : S33), ts[i]? = some t → us[i]? = some u → (joinE ts us)[i]? = some ⟨t.f0, joinT t.f1 u.f1⟩
  | [], _, i, t, u, h, _ => by simp at h
  | _ :: _, [], i, t, u, _, h => by simp at h
  | a :: ts, b :: us, 0, t, u, h, h' => by
    simp only [List.getElem?_cons_zero, Option.some.injEq] at h h'
    subst h h'
    rfl
  | a :: ts, b :: us, i + 1, t, u, h, h' => by
    rw [joinE, List.getElem?_cons_succ]
    exact joinE_get ts us i t u (by simpa using h) (by simpa using h')
theorem joinE_mem : ∀ (ts us : List S33) (k : S33), k ∈ joinE ts us → ∃ (i : Nat) (t u : S33), ts[i]? = some t ∧ us[i]? = some u ∧ k = ⟨t.f0, joinT t.f1 u.f1⟩
  | [], _, k, h => by simp [joinE] at h
  | _ :: _, [], k, h => by simp [joinE] at h
  | t :: ts, u :: us, k, h => by
    rw [joinE] at h
    rcases List.mem_cons.mp h with rfl | h
    · exact ⟨0, t, u, rfl, rfl, rfl⟩
    · obtain ⟨i, a, b, ha, hb, hk⟩ := joinE_mem ts us k h
      exact ⟨i + 1, a, b, by simpa using ha, by simpa using hb, hk⟩
/-- The join of right environments that fit is right. -/
theorem right_joinE {xs ys : List S33} (h : bothE xs ys = true) : rightE (joinE xs ys) = true := by
  refine List.all_eq_true.mpr fun k hk => ?_
  obtain ⟨i, t, u, ht, hu, rfl⟩ := joinE_mem xs ys k hk
  obtain ⟨h1, h2, h3⟩ := both_at h ht hu
  exact right_join t.f1 u.f1 h1 h2 h3
structure JE (B lo kk : Nat) (rs : List S33) (W0 : World) (Y : Option Addr) (cY : Nat) (xs : List Value) (W : World) : Prop where
  below : Below lo W0 W
  len : rs.length = kk
  own : W.ownsRow lo 33 6 (.slice Y kk cY) kk xs
  kids : KidsF k33 B lo (fun _ => True) W (.slice Y kk cY) xs rs
section
variable {B lo kk : Nat} {rs : List S33} {W0 : World} {Y : Option Addr} {cY : Nat} {xs : List Value} {W : World}
theorem JE.mv (h : JE B lo kk rs W0 Y cY xs W) (hlo : lo ≤ W.heap.size) {W1 : World} (hb : Below W.heap.size W W1) : JE B lo kk rs W0 Y cY xs W1 where
  below := h.below.trans (hb.mono hlo)
  len := h.len
  own := own_heap h.own fun k hk => hb.block k (own_lt h.own k hk)
  kids := kids_below h.kids hb
theorem JE.start (hb : Below lo W0 W) : JE B lo 0 [] W0 none 0 [] W := ⟨hb, rfl, own_nil _ _ _ _, kids_nil⟩
theorem JE.step (h : JE B lo kk rs W0 Y cY xs W) (hBl : B ≤ lo) (hlo : lo ≤ W.heap.size)
    {W1 w5 : World} (hb1 : Below W.heap.size W W1) {s : ByteArray} {z : S31} {cs : List Value} (hcs : cs.length = 5) (hz : Kd.FK k31 W1 (fun k => k < B ∨ W.heap.size ≤ k) z cs) {v1 : Value} (ho5 : w5.ownsRow lo 33 6 v1 (kk + 1) (xs ++ .string s :: cs)) (hb5 : Below lo W1 w5)
    (hg : W1.grownBy w5 (.slice Y kk cY : Value).ownBlock) (hat : v1.ownBlock = (.slice Y kk cY : Value).ownBlock ∨ ∃ b, v1.ownBlock = some b ∧ W1.heap.size ≤ b) :
    ∃ Y' cY', v1 = .slice Y' (kk + 1) cY' ∧ JE B lo (kk + 1) (rs ++ [⟨s, z⟩]) W0 Y' cY' (xs ++ .string s :: cs) w5 := by
  obtain ⟨Y', cY', rfl⟩ := own_slice ho5
  have hJ := h.mv hlo hb1
  have hz2 : Kd.FK k33 W1 (fun k => k < B ∨ W.heap.size ≤ k) ⟨s, z⟩ (.string s :: cs) := fun W' hW => ⟨[.string s], cs, rfl, rfl, hz W' hW⟩
  exact ⟨Y', cY', rfl, hJ.below.trans hb5, by rw [List.length_append, h.len]; rfl, ho5, kids_append (kids_snoc (t := ⟨s, z⟩) (cs := .string s :: cs) h.kids hb1 (fun _ _ => trivial) (fun _ _ => trivial) (own_lt h.own) (own_base h.own) hBl hlo (by show cs.length + 1 = 6; omega) hz2) hg hat⟩
theorem JE.done (h : JE B lo kk rs W0 Y cY xs W) : rs.length ≤ cY ∧ Kd.F k33 W (fun k => k < B ∨ lo ≤ k) Y rs.length rs := by
  have e2 := h.len
  subst e2
  obtain ⟨A, c, he, hc, hf⟩ := kids_done h.kids h.own
  cases he
  exact ⟨hc, hf⟩
end
end Go.Proofs.YtadjekpfehjibaaGreatDoor.PEnv
namespace Go.Proofs.YtadjekpfehjibaaGreatDoor.PEnv
open Go.RowKit Go.Shelf Go.Lib Go.Proofs.YtadjekpfehjibaaGreatDoorW.PrintWords Go.Proofs.YtadjekpfehjibaaGreatDoorW.PrintLast Go.Proofs.YtadjekpfehjibaaGreatDoorW.PrintMore Go.Proofs.YtadjekpfehjibaaGreatDoor.PEnvJoins
set_option maxRecDepth 100000
def eJ7_T : Bool × List (List Nat × List Nat) := (true, [([], []), ([], []), ([], []), ([1, 2], [1, 2]), ([3], [3]), ([4], [4]), ([], []), ([], []), ([6, 7], [6, 7]), ([8], [8]), ([9], [9]), ([], []), ([], []), ([11, 12], [11, 12]), ([13], [13]), ([14], [14]), ([10, 15], [10, 15]), ([5, 16], [5, 16]), ([17], [17]), ([0, 18, 16], [0, 18]), ([19, 19, 0, 1, 2, 3, 4, 5, 6, 7, 8, 9, 10, 11, 12, 13, 14, 15, 16, 17, 18, 19], [0, 19])])
def eJ7_B : List Nat := [0, 0, 0, 6, 14, 30, 0, 0, 192, 448, 960, 0, 0, 6144, 14336, 30720, 65472, 131070, 262142, 524287, 1048575]
theorem eJ7_tab : rtab .any (opsOf Tryz.f12 7) = eJ7_T := by kernel_rfl
theorem eJ7_bits : waitsOk eJ7_T.2 eJ7_B = true := by kernel_rfl
set_option maxHeartbeats 16000000 in
/-- The join of two environments that may be held against one another. -/
theorem envJoinE (xs ys : List S33) (A : Option Addr) (c : Nat) (B : Option Addr) (d : Nat) (w : World) (hC : Kd.C k33 w A xs.length xs) (hD : Kd.C k33 w B ys.length ys) (hsx : ∀ k ∈ xs, SmT k.f1) (hsy : ∀ k ∈ ys, SmT k.f1) (hmx : xs.length ≤ 1073741824) (hBoth : bothE xs ys = true) :
    Calls Tryz.prog 12 #[.slice A xs.length c, .slice B ys.length d] w fun e w' => ∃ Y cY, e = .returned (.tuple #[.slice Y xs.length cY, .nilIface]) ∧ Below w.heap.size w w' ∧ xs.length ≤ cY ∧ Kd.F k33 w' (fun k => k < w.heap.size ∨ w.heap.size ≤ k) Y xs.length (joinE xs ys) := by
  have r1 := envBoth xs ys A c B d w hC hD
  rw [hBoth] at r1
  have hlen := Aside0.mk (both_len hBoth)
  have hC := Aside0.mk hC
  have hD := Aside0.mk hD
  have hsx := Aside0.mk hsx
  have hsy := Aside0.mk hsy
  have hmx := Aside0.mk hmx
  have hBoth := Aside0.mk hBoth
  go_enter Tryz.func12, Tryz.ntmps12
  go_wp2_with (go_at_call 24; refine r1.mono ?_; clear r1; rintro e w1 ⟨rfl, hb1⟩; have hb1 := Aside0.mk hb1)
  go_loopg [6, 15] xs.length (fun gg s6 s15 wr => ∃ kk : Nat, kk ≤ xs.length ∧ xs.length - kk ≤ gg ∧ s15 = .int .i64 kk ∧ ∃ Y cY xl, s6 = .slice Y kk cY ∧ Aside (JE w.heap.size w.heap.size kk ((joinE xs ys).take kk) w Y cY xl wr))
  case atStart => exact ⟨0, Nat.zero_le _, by omega, rfl, none, 0, [], rfl, JE.start hb1.out⟩
  case round =>
    clear hb1
    obtain ⟨kk, hkk, hg, rfl, Y, cY, xl, rfl, hJ⟩ := hrel
    have hJ := Aside0.mk hJ.out
    by_cases hlt : kk < xs.length
    · have hbx := Aside0.mk hJ.out.below
      have hltz : (kk : Int) < (xs.length : Int) := by omega
      have hlty : kk < ys.length := by have := hlen.out; omega
      have hltyz : (kk : Int) < (ys.length : Int) := by omega
      obtain ⟨ad, D3, e3, D4, e4, eA, x0, x1, x2, x3, x4, x5, xl3, xg3, xl4, xg4⟩ := at_T33 hC.out (kk : Int) (by omega) hltz
      subst eA
      obtain ⟨bd, G3, h3, G4, h4, eB, y0, y1, y2, y3, y4, y5, yl3, yg3, yl4, yg4⟩ := at_T33 hD.out (kk : Int) (by omega) hltyz
      subst eB
      have hrx : xs[kk]? = some (rd_T33 xs (kk : Int)) := by rw [rd39_at _ _ hlt]; exact List.getElem?_eq_getElem hlt
      have hry : ys[kk]? = some (rd_T33 ys (kk : Int)) := by rw [rd39_at _ _ hlty]; exact List.getElem?_eq_getElem hlty
      simp only [Int.toNat_natCast] at x0 x1 x2 x3 x4 x5 y0 y1 y2 y3 y4 y5
      generalize rd_T33 xs (kk : Int) = x at *
      generalize rd_T33 ys (kk : Int) = y at *
      have hkid := Aside0.mk (fun W (hW : Below w.heap.size w W) => envJoinW w x.f1 (both_at hBoth.out hrx hry).1 (hsx.out x (List.mem_of_getElem? hrx)) y.f1 (both_at hBoth.out hrx hry).2.1 (hsy.out y (List.mem_of_getElem? hry)) (both_at hBoth.out hrx hry).2.2 D3 e3 D4 e4 G3 h3 G4 h4 W hW xl3 xg3 xl4 xg4 yl3 yg3 yl4 yg4)
      have hnext := Aside0.mk (take_next (joinE_get xs ys kk x y hrx hry))
      clear xl3 xg3 xl4 xg4 yl3 yg3 yl4 yg4 hrx hry y0
      replace x0 := below_cell hbx.out x0
      replace x1 := below_cell hbx.out x1
      replace x2 := below_cell hbx.out x2
      replace x3 := below_cell hbx.out x3
      replace x4 := below_cell hbx.out x4
      replace x5 := below_cell hbx.out x5
      replace y1 := below_cell hbx.out y1
      replace y2 := below_cell hbx.out y2
      replace y3 := below_cell hbx.out y3
      replace y4 := below_cell hbx.out y4
      replace y5 := below_cell hbx.out y5
      have hlo := Aside0.mk hJ.out.below.size
      clear hC hD hsx hsy hBoth
      go_upto_region 7 with fail
      refine start_ (n := 21) (S := fun w' => w'.cell? (ad.add (kk * 6)) = some (.string x.f0) ∧ w'.cell? ⟨(ad.add (kk * 6)).block, (ad.add (kk * 6)).off + 1, none⟩ = some (.int .i64 x.f1.f0) ∧ w'.cell? ⟨(ad.add (kk * 6)).block, (ad.add (kk * 6)).off + 2, none⟩ = some (.bool x.f1.f1) ∧ w'.cell? ⟨(ad.add (kk * 6)).block, (ad.add (kk * 6)).off + 3, none⟩ = some (.bool x.f1.f2) ∧ w'.cell? ⟨(ad.add (kk * 6)).block, (ad.add (kk * 6)).off + 4, none⟩ = some (.slice D3 x.f1.f3.length e3) ∧ w'.cell? ⟨(ad.add (kk * 6)).block, (ad.add (kk * 6)).off + 5, none⟩ = some (.slice D4 x.f1.f4.length e4) ∧ w'.cell? ⟨(bd.add (kk * 6)).block, (bd.add (kk * 6)).off + 1, none⟩ = some (.int .i64 y.f1.f0) ∧ w'.cell? ⟨(bd.add (kk * 6)).block, (bd.add (kk * 6)).off + 2, none⟩ = some (.bool y.f1.f1) ∧ w'.cell? ⟨(bd.add (kk * 6)).block, (bd.add (kk * 6)).off + 3, none⟩ = some (.bool y.f1.f2) ∧ w'.cell? ⟨(bd.add (kk * 6)).block, (bd.add (kk * 6)).off + 4, none⟩ = some (.slice G3 y.f1.f3.length h3) ∧ w'.cell? ⟨(bd.add (kk * 6)).block, (bd.add (kk * 6)).off + 5, none⟩ = some (.slice G4 y.f1.f4.length h4)) (ds := [19]) #[false, false, false, false, false, false, false, false, false, false, false, false, false, false, false, false, false, false, false, false, false] (by kernel_rfl) rfl rfl ⟨x0, x1, x2, x3, x4, x5, y1, y2, y3, y4, y5⟩ (fun hHeld => ?_); refine with_tabW eJ7_tab eJ7_bits (fun HT_ HW_ => ?_)
      have hJ3 := Aside0.mk (hJ.out.mv hlo.out (below_drew1 (Below.refl _ wr)))
      have hbx := Aside0.mk (below_drew1 hbx.out)
      have hlo3 := Aside0.mk (show w.heap.size ≤ wr.drew.heap.size from hlo.out)
      clear hJ hlo x0 x1 x2 x3 x4 x5 y1 y2 y3 y4 y5
      generalize wr.drew = W3 at hJ3 hbx hlo3 hHeld ⊢
      refine pure_ (i := 0) (N := some 18) (v := ?_) (a' := ?_) #[true, false, false, false, false, false, false, false, false, false, false, false, false, false, false, false, false, false, false, false, false] rfl rfl (any_of HT_.out (by kernel_rfl)) (fun _ _ _ h => h) (Or.inl ⟨by rfl, ?_⟩) ?_ ?_
      rotate_left
      · intro w'
        go_simp
        with_reducible rfl
      rotate_left
      · simp only [Act.put, List.setIfInBounds_toArray, List.set_cons_zero, List.set_cons_succ, i64_w, i32_w]
        rfl
      refine pure_ (i := 1) (N := some 19) (v := ?_) (a' := ?_) #[true, true, false, false, false, false, false, false, false, false, false, false, false, false, false, false, false, false, false, false, false] rfl rfl (any_of HT_.out (by kernel_rfl)) (fun _ _ _ h => h) (Or.inl ⟨by rfl, ?_⟩) ?_ ?_
      rotate_left
      · intro w'
        go_simp
        with_reducible rfl
      rotate_left
      · simp only [Act.put, List.setIfInBounds_toArray, List.set_cons_zero, List.set_cons_succ, i64_w, i32_w]
        rfl
      refine pure_ (i := 2) (N := some 20) (v := ?_) (a' := ?_) #[true, true, true, false, false, false, false, false, false, false, false, false, false, false, false, false, false, false, false, false, false] rfl rfl (any_of HT_.out (by kernel_rfl)) (fun _ _ _ h => h) (Or.inl ⟨by rfl, ?_⟩) ?_ ?_
      rotate_left
      · intro w'
        go_simp
        with_reducible rfl
      rotate_left
      · simp only [Act.put, List.setIfInBounds_toArray, List.set_cons_zero, List.set_cons_succ, i64_w, i32_w]
        rfl
      refine pure_ (i := 3) (N := some 21) (v := ?_) (a' := ?_) #[true, true, true, true, false, false, false, false, false, false, false, false, false, false, false, false, false, false, false, false, false] rfl rfl (any_of HT_.out (by kernel_rfl)) (fun _ _ _ h => h) (Or.inl ⟨by rfl, ?_⟩) ?_ ?_
      rotate_left
      · intro w'
        go_simp
        with_reducible rfl
      rotate_left
      · simp only [Act.put, List.setIfInBounds_toArray, List.set_cons_zero, List.set_cons_succ, i64_w, i32_w]
        rfl
      refine pure_ (i := 4) (N := some 22) (v := ?_) (a' := ?_) #[true, true, true, true, true, false, false, false, false, false, false, false, false, false, false, false, false, false, false, false, false] rfl rfl (any_of HT_.out (by kernel_rfl)) (fun _ _ _ h => h) (Or.inl ⟨by rfl, ?_⟩) ?_ ?_
      rotate_left
      · intro w'
        go_simp
        with_reducible rfl
      rotate_left
      · simp only [Act.put, List.setIfInBounds_toArray, List.set_cons_zero, List.set_cons_succ, i64_w, i32_w]
        rfl
      refine take_ (i := 5) (N := some 23) (v := ?_) (a' := ?_) #[true, true, true, true, true, true, false, false, false, false, false, false, false, false, false, false, false, false, false, false, false] rfl rfl (take_ofW HT_.out HW_.out (by kernel_rfl)) (fun _ _ _ h => h) (Or.inl ⟨by rfl, ?_⟩) hHeld ?_ ?_
      rotate_left
      · rintro w' ⟨s0, s1, s2, s3, s4, s5, s6, s7, s8, s9, s10⟩
        go_simp
        with_reducible rfl
      rotate_left
      · simp only [Act.put, List.setIfInBounds_toArray, List.set_cons_zero, List.set_cons_succ, i64_w, i32_w]
        rfl
      refine pure_ (i := 6) (N := some 24) (v := ?_) (a' := ?_) #[true, true, true, true, true, true, true, false, false, false, false, false, false, false, false, false, false, false, false, false, false] rfl rfl (any_of HT_.out (by kernel_rfl)) (fun _ _ _ h => h) (Or.inl ⟨by rfl, ?_⟩) ?_ ?_
      rotate_left
      · intro w'
        go_simp
        with_reducible rfl
      rotate_left
      · simp only [Act.put, List.setIfInBounds_toArray, List.set_cons_zero, List.set_cons_succ, i64_w, i32_w]
        rfl
      refine pure_ (i := 7) (N := some 25) (v := ?_) (a' := ?_) #[true, true, true, true, true, true, true, true, false, false, false, false, false, false, false, false, false, false, false, false, false] rfl rfl (any_of HT_.out (by kernel_rfl)) (fun _ _ _ h => h) (Or.inl ⟨by rfl, ?_⟩) ?_ ?_
      rotate_left
      · intro w'
        go_simp
        with_reducible rfl
      rotate_left
      · simp only [Act.put, List.setIfInBounds_toArray, List.set_cons_zero, List.set_cons_succ, i64_w, i32_w]
        rfl
      refine pure_ (i := 8) (N := some 26) (v := ?_) (a' := ?_) #[true, true, true, true, true, true, true, true, true, false, false, false, false, false, false, false, false, false, false, false, false] rfl rfl (any_of HT_.out (by kernel_rfl)) (fun _ _ _ h => h) (Or.inl ⟨by rfl, ?_⟩) ?_ ?_
      rotate_left
      · intro w'
        go_simp
        with_reducible rfl
      rotate_left
      · simp only [Act.put, List.setIfInBounds_toArray, List.set_cons_zero, List.set_cons_succ, i64_w, i32_w]
        rfl
      refine pure_ (i := 9) (N := some 27) (v := ?_) (a' := ?_) #[true, true, true, true, true, true, true, true, true, true, false, false, false, false, false, false, false, false, false, false, false] rfl rfl (any_of HT_.out (by kernel_rfl)) (fun _ _ _ h => h) (Or.inl ⟨by rfl, ?_⟩) ?_ ?_
      rotate_left
      · intro w'
        go_simp
        with_reducible rfl
      rotate_left
      · simp only [Act.put, List.setIfInBounds_toArray, List.set_cons_zero, List.set_cons_succ, i64_w, i32_w]
        rfl
      refine take_ (i := 10) (N := some 28) (v := ?_) (a' := ?_) #[true, true, true, true, true, true, true, true, true, true, true, false, false, false, false, false, false, false, false, false, false] rfl rfl (take_ofW HT_.out HW_.out (by kernel_rfl)) (fun _ _ _ h => h) (Or.inl ⟨by rfl, ?_⟩) hHeld ?_ ?_
      rotate_left
      · rintro w' ⟨s0, s1, s2, s3, s4, s5, s6, s7, s8, s9, s10⟩
        go_simp
        with_reducible rfl
      rotate_left
      · simp only [Act.put, List.setIfInBounds_toArray, List.set_cons_zero, List.set_cons_succ, i64_w, i32_w]
        rfl
      refine pure_ (i := 11) (N := some 29) (v := ?_) (a' := ?_) #[true, true, true, true, true, true, true, true, true, true, true, true, false, false, false, false, false, false, false, false, false] rfl rfl (any_of HT_.out (by kernel_rfl)) (fun _ _ _ h => h) (Or.inl ⟨by rfl, ?_⟩) ?_ ?_
      rotate_left
      · intro w'
        go_simp
        with_reducible rfl
      rotate_left
      · simp only [Act.put, List.setIfInBounds_toArray, List.set_cons_zero, List.set_cons_succ, i64_w, i32_w]
        rfl
      refine pure_ (i := 12) (N := some 30) (v := ?_) (a' := ?_) #[true, true, true, true, true, true, true, true, true, true, true, true, true, false, false, false, false, false, false, false, false] rfl rfl (any_of HT_.out (by kernel_rfl)) (fun _ _ _ h => h) (Or.inl ⟨by rfl, ?_⟩) ?_ ?_
      rotate_left
      · intro w'
        go_simp
        with_reducible rfl
      rotate_left
      · simp only [Act.put, List.setIfInBounds_toArray, List.set_cons_zero, List.set_cons_succ, i64_w, i32_w]
        rfl
      refine pure_ (i := 13) (N := some 31) (v := ?_) (a' := ?_) #[true, true, true, true, true, true, true, true, true, true, true, true, true, true, false, false, false, false, false, false, false] rfl rfl (any_of HT_.out (by kernel_rfl)) (fun _ _ _ h => h) (Or.inl ⟨by rfl, ?_⟩) ?_ ?_
      rotate_left
      · intro w'
        go_simp
        with_reducible rfl
      rotate_left
      · simp only [Act.put, List.setIfInBounds_toArray, List.set_cons_zero, List.set_cons_succ, i64_w, i32_w]
        rfl
      refine pure_ (i := 14) (N := some 32) (v := ?_) (a' := ?_) #[true, true, true, true, true, true, true, true, true, true, true, true, true, true, true, false, false, false, false, false, false] rfl rfl (any_of HT_.out (by kernel_rfl)) (fun _ _ _ h => h) (Or.inl ⟨by rfl, ?_⟩) ?_ ?_
      rotate_left
      · intro w'
        go_simp
        with_reducible rfl
      rotate_left
      · simp only [Act.put, List.setIfInBounds_toArray, List.set_cons_zero, List.set_cons_succ, i64_w, i32_w]
        rfl
      refine take_ (i := 15) (N := some 33) (v := ?_) (a' := ?_) #[true, true, true, true, true, true, true, true, true, true, true, true, true, true, true, true, false, false, false, false, false] rfl rfl (take_ofW HT_.out HW_.out (by kernel_rfl)) (fun _ _ _ h => h) (Or.inl ⟨by rfl, ?_⟩) hHeld ?_ ?_
      rotate_left
      · rintro w' ⟨s0, s1, s2, s3, s4, s5, s6, s7, s8, s9, s10⟩
        go_simp
        with_reducible rfl
      rotate_left
      · simp only [Act.put, List.setIfInBounds_toArray, List.set_cons_zero, List.set_cons_succ, i64_w, i32_w]
        rfl
      refine one_ (i := 16) (N := some 34) #[true, true, true, true, true, true, true, true, true, true, true, true, true, true, true, true, true, false, false, false, false] rfl rfl (one_of HT_.out (by kernel_rfl)) (by decide) (fun K hK => ?_)
      refine goes_ Tryz.func30 (by kernel_rfl) rfl #[.agg #[.int .i64 x.f1.f0, .bool x.f1.f1, .bool x.f1.f2, .slice D3 x.f1.f3.length e3, .slice D4 x.f1.f4.length e4], .agg #[.int .i64 y.f1.f0, .bool y.f1.f1, .bool y.f1.f2, .slice G3 y.f1.f3.length h3, .slice G4 y.f1.f4.length h4]] (by rfl) rfl rfl (by (try simp only [List.map_toArray, List.map_cons, List.map_nil]); first | done | rfl) ?_
      refine (hkid.out W3 hbx.out).mono ?_
      clear hkid
      rintro e W4 ⟨zk, zm, zg, ZX, zL, zcX, ZY, zn, zcY, rfl, hb4, hFK⟩
      refine ⟨_, rfl, ?_⟩
      have HB := hb4
      refine hK.out _ _ ⟨below_cell HB hHeld.1, below_cell HB hHeld.2.1, below_cell HB hHeld.2.2.1, below_cell HB hHeld.2.2.2.1, below_cell HB hHeld.2.2.2.2.1, below_cell HB hHeld.2.2.2.2.2.1, below_cell HB hHeld.2.2.2.2.2.2.1, below_cell HB hHeld.2.2.2.2.2.2.2.1, below_cell HB hHeld.2.2.2.2.2.2.2.2.1, below_cell HB hHeld.2.2.2.2.2.2.2.2.2.1, below_cell HB hHeld.2.2.2.2.2.2.2.2.2.2⟩ (fun hHeld => ?_)
      clear hK K HB
      refine norm_ (a' := ?_) ?_ ?_
      rotate_left
      · show Act.put _ (some 34) _ = _
        simp only [Act.put, List.setIfInBounds_toArray, List.set_cons_zero, List.set_cons_succ, i64_w, i32_w]
        rfl
      refine pure_ (i := 17) (N := some 35) (v := ?_) (a' := ?_) #[true, true, true, true, true, true, true, true, true, true, true, true, true, true, true, true, true, true, false, false, false] rfl rfl (any_of HT_.out (by kernel_rfl)) (fun _ _ _ h => h) (Or.inl ⟨by rfl, ?_⟩) ?_ ?_
      rotate_left
      · intro w'
        go_simp
        with_reducible rfl
      rotate_left
      · simp only [Act.put, List.setIfInBounds_toArray, List.set_cons_zero, List.set_cons_succ, i64_w, i32_w]
        rfl
      refine one_ (i := 18) (N := some 36) #[true, true, true, true, true, true, true, true, true, true, true, true, true, true, true, true, true, true, true, false, false] rfl rfl (one_of HT_.out (by kernel_rfl)) (by decide) (fun K hK => ?_)
      refine value_ (v := .slice (some ⟨W4.heap.size, 0, none⟩) 1 1) (w1 := W4.alloc (.cells #[.string x.f0, .int .i64 zk, .bool zm, .bool zg, .slice ZX zL zcX, .slice ZY zn zcY] 33)) (by rfl) rfl (by go_simp; first | done | rfl) ?_
      have HB := below_alloc (Below.refl _ W4) (.cells #[.string x.f0, .int .i64 zk, .bool zm, .bool zg, .slice ZX zL zcX, .slice ZY zn zcY] 33)
      refine hK.out _ _ ⟨below_cell HB hHeld.1, below_cell HB hHeld.2.1, below_cell HB hHeld.2.2.1, below_cell HB hHeld.2.2.2.1, below_cell HB hHeld.2.2.2.2.1, below_cell HB hHeld.2.2.2.2.2.1, below_cell HB hHeld.2.2.2.2.2.2.1, below_cell HB hHeld.2.2.2.2.2.2.2.1, below_cell HB hHeld.2.2.2.2.2.2.2.2.1, below_cell HB hHeld.2.2.2.2.2.2.2.2.2.1, below_cell HB hHeld.2.2.2.2.2.2.2.2.2.2⟩ (fun hHeld => ?_)
      clear hK K HB
      refine norm_ (a' := ?_) ?_ ?_
      rotate_left
      · show Act.put _ (some 36) _ = _
        simp only [Act.put, List.setIfInBounds_toArray, List.set_cons_zero, List.set_cons_succ, i64_w, i32_w]
        rfl
      refine last_ (i := 19) (N := some 37) #[true, true, true, true, true, true, true, true, true, true, true, true, true, true, true, true, true, true, true, true, false] rfl rfl (one_of HT_.out (by kernel_rfl)) (by decide) (fun K hK => ?_)
      have hJ4 := hJ3.out.mv hlo3.out hb4
      have hs4 := hb4.size
      refine step_append_cells (w0 := W4) w.heap.size (by rfl) (.tmp 18) (.tmp 36) 22 33 (.agg #[.string ⟨#[]⟩, .int .i64 0, .bool false, .bool false, .slice none 0 0, .slice none 0 0]) 6 80 rfl (by first | kernel_rfl | rfl) (by first | kernel_rfl | rfl) rfl (by decide) (by decide) (.slice Y kk cY) kk xl [.string x.f0, .int .i64 zk, .bool zm, .bool zg, .slice ZX zL zcX, .slice ZY zn zcY] (by rfl) (by rfl) rfl (by intro v hv; simp only [List.mem_cons, List.not_mem_nil, or_false] at hv; rcases hv with rfl | rfl | rfl | rfl | rfl | rfl <;> rfl) hJ4.own (Below.refl _ _) (by have := hlo3.out; omega) (by have := hmx.out; omega) ?_
      intro v1 w5 ho5 hb5 hg5 hat5
      have hb5' : Below w.heap.size W4 w5 := hb5
      obtain ⟨Y', cY', rfl, hJ6⟩ := hJ3.out.step (Nat.le_refl _) hlo3.out hb4 (s := x.f0) rfl hFK ho5 hb5 hg5 hat5
      have hJ6 := Aside0.mk hJ6
      clear hJ4 hJ3 hFK ho5 hg5 hat5 hb5 hb5'
      refine hK.out _ _ ?_
      clear hK K hHeld
      refine norm_ (a' := ?_) ?_ ?_
      rotate_left
      · show Act.put _ (some 37) _ = _
        simp only [Act.put, List.setIfInBounds_toArray, List.set_cons_zero, List.set_cons_succ, i64_w, i32_w]
        rfl
      refine pure_ (i := 20) (N := some 6) (v := ?_) (a' := ?_) #[true, true, true, true, true, true, true, true, true, true, true, true, true, true, true, true, true, true, true, true, true] rfl rfl (any_of HT_.out (by kernel_rfl)) (fun _ _ _ h => h) (Or.inl ⟨by rfl, ?_⟩) ?_ ?_
      rotate_left
      · intro w'
        go_simp
        with_reducible rfl
      rotate_left
      · simp only [Act.put, List.setIfInBounds_toArray, List.set_cons_zero, List.set_cons_succ, i64_w, i32_w]
        rfl
      refine done_ (done_of HT_.out (by kernel_rfl)) ?_
      have hbig := hmx.out
      go_wp2
      go_roundg (xs.length - (kk + 1))
      case measure => omega
      case rel => exact ⟨kk + 1, by omega, by omega, by go_num, Y', cY', _, rfl, by rw [hnext.out]; exact hJ6.out⟩
    · have hlt1 : decide ((kk : Int) < (xs.length : Int)) = false := decide_eq_false (by omega)
      have hlt2 : decide (kk < xs.length) = false := decide_eq_false hlt
      obtain rfl : kk = xs.length := by omega
      have hfin : (joinE xs ys).take xs.length = joinE xs ys := List.take_of_length_le (by rw [joinE_length _ _ hlen.out]; omega)
      have hd := hJ.out.done
      rw [hfin, joinE_length _ _ hlen.out] at hd
      have hd := Aside0.mk hd
      have hbf := Aside0.mk hJ.out.below
      clear hlt hkk hg hJ hfin
      go_wp2
      go_ret2
      exact ⟨Y, cY, rfl, hbf.out, hd.out.1, hd.out.2⟩
set_option maxHeartbeats 4000000 in
theorem envJoinNo (xs ys : List S33) (A : Option Addr) (c : Nat) (B : Option Addr) (d : Nat) (w : World) (hC : Kd.C k33 w A xs.length xs) (hD : Kd.C k33 w B ys.length ys) (hBoth : bothE xs ys = false) :
    Calls Tryz.prog 12 #[.slice A xs.length c, .slice B ys.length d] w fun e w' => e = .returned (.tuple #[.slice none 0 0, .iface 54 (.int .i64 5)]) ∧ Below w.heap.size w w' := by
  have r1 := envBoth xs ys A c B d w hC hD
  rw [hBoth] at r1
  clear hBoth
  go_enter Tryz.func12, Tryz.ntmps12
  go_wp2_with (go_at_call 24; refine r1.mono ?_; clear r1; rintro e w1 ⟨rfl, hb1⟩)
  go_ret2
  exact ⟨rfl, hb1⟩
end Go.Proofs.YtadjekpfehjibaaGreatDoor.PEnv
namespace Go.Proofs.YtadjekpfehjibaaGreatDoor.PEnv
open Go.RowKit Go.Shelf Go.Lib Go.Proofs.YtadjekpfehjibaaGreatDoorW.PrintWords Go.Proofs.YtadjekpfehjibaaGreatDoorW.PrintLast Go.Proofs.YtadjekpfehjibaaGreatDoorW.PrintMore Go.Proofs.YtadjekpfehjibaaGreatDoor.PEnvJoins
set_option maxRecDepth 100000
def jt5_T : Bool × List (List Nat × List Nat) := (true, [([], []), ([0], [0]), ([], []), ([2], [2]), ([], []), ([3, 4], [3, 4]), ([5], [5]), ([1, 6], [1, 6]), ([0, 1, 2, 3, 4, 5, 6, 7], []), ([8, 7, 7, 0, 1, 2, 3, 4, 5, 6, 7], [7, 8])])
def jt5_B : List Nat := [0, 1, 0, 4, 0, 28, 60, 127, 255, 511]
theorem jt5_tab : rtab .any (opsOf Tryz.f33 5) = jt5_T := by kernel_rfl
theorem jt5_bits : waitsOk jt5_T.2 jt5_B = true := by kernel_rfl
def jt9_T : Bool × List (List Nat × List Nat) := (true, [([], []), ([0], [0]), ([], []), ([2], [2]), ([], []), ([3, 4], [3, 4]), ([5], [5]), ([1, 6], [1, 6]), ([0, 1, 2, 3, 4, 5, 6, 7], []), ([8, 7, 7, 0, 1, 2, 3, 4, 5, 6, 7], [7, 8])])
def jt9_B : List Nat := [0, 1, 0, 4, 0, 28, 60, 127, 255, 511]
theorem jt9_tab : rtab .any (opsOf Tryz.f33 9) = jt9_T := by kernel_rfl
theorem jt9_bits : waitsOk jt9_T.2 jt9_B = true := by kernel_rfl
def jt13_T : Bool × List (List Nat × List Nat) := (true, [([], []), ([0], [0]), ([], []), ([2], [2]), ([], []), ([3, 4], [3, 4]), ([5], [5]), ([], []), ([7], [7]), ([], []), ([8, 9], [8, 9]), ([10], [10]), ([6, 11], [6, 11]), ([12], [12]), ([1, 13, 12], [1, 13]), ([0, 1, 2, 3, 4, 5, 6, 7, 8, 9, 10, 11, 12, 13, 14], []), ([15, 14, 14, 0, 1, 2, 3, 4, 5, 6, 7, 8, 9, 10, 11, 12, 13, 14], [14, 15])])
def jt13_B : List Nat := [0, 1, 0, 4, 0, 28, 60, 0, 128, 0, 896, 1920, 4092, 8188, 16383, 32767, 65535]
theorem jt13_tab : rtab .any (opsOf Tryz.f33 13) = jt13_T := by kernel_rfl
theorem jt13_bits : waitsOk jt13_T.2 jt13_B = true := by kernel_rfl
set_option maxHeartbeats 32000000 in
/-- The document's joinTy at two types: it adds all loans, one by one, and joins the kids. -/
theorem refJoinT (w0 : World) (t : S31) (ih : ∀ k ∈ t.f4, JoinWord 33 w0 k) : JoinWord 33 w0 t := by
  intro ht st u hu su hf A3 c3 A4 c4 B3 d3 B4 d4 w hb0 l3 g3 l4 g4 m3 p3 m4 p4
  have hlen := Aside0.mk (all2_length (fits_kids hf))
  have hfew := Aside0.mk (right_few ht)
  have hB0 := Aside0.mk hb0
  have hC3 := Aside0.mk g3
  have hD3 := Aside0.mk p3
  have hC4 := Aside0.mk g4
  have hD4 := Aside0.mk p4
  have hT := Aside0.mk (And.intro ht (And.intro st (And.intro hu (And.intro su hf))))
  have hIH := Aside0.mk ih
  have hml := Aside0.mk (addAll_merged t.f3 u.f3).symm
  clear ht st hu su hf l3 g3 l4 g4 m3 p3 m4 p4 hb0 ih
  have h3 := three_new w (.cells #[.int .i64 t.f0, .bool t.f1, .bool t.f2, .slice A3 t.f3.length c3, .slice A4 t.f4.length c4] 31) (.cells #[.int .i64 u.f0, .bool u.f1, .bool u.f2, .slice B3 u.f3.length d3, .slice B4 u.f4.length d4] 31) (.cells #[.int .i64 0, .bool false, .bool false, .slice none 0 0, .slice none 0 0] 31)
  obtain ⟨W2, hW2⟩ : ∃ W2, (((w.alloc (.cells #[.int .i64 t.f0, .bool t.f1, .bool t.f2, .slice A3 t.f3.length c3, .slice A4 t.f4.length c4] 31)).alloc (.cells #[.int .i64 u.f0, .bool u.f1, .bool u.f2, .slice B3 u.f3.length d3, .slice B4 u.f4.length d4] 31)).alloc (.cells #[.int .i64 0, .bool false, .bool false, .slice none 0 0, .slice none 0 0] 31)) = W2 := ⟨_, rfl⟩
  rw [hW2] at h3
  obtain ⟨hb2, hsz2, e0, e1, e2⟩ := h3
  obtain ⟨g, hgg⟩ : ∃ g, Aside0 ((t.f2 || u.f2) = g) := ⟨_, ⟨rfl⟩⟩
  have hg := hgg.out
  have q0 : W2.cell? ⟨w.heap.size, 0, none⟩ = some (.int .i64 t.f0) := (blk_cell e0 0).trans rfl
  have q1 : W2.cell? ⟨w.heap.size, 1, none⟩ = some (.bool t.f1) := (blk_cell e0 1).trans rfl
  have q2 : W2.cell? ⟨w.heap.size, 2, none⟩ = some (.bool t.f2) := (blk_cell e0 2).trans rfl
  have q3 : W2.cell? ⟨w.heap.size, 3, none⟩ = some (.slice A3 t.f3.length c3) := (blk_cell e0 3).trans rfl
  have r2 : W2.cell? ⟨w.heap.size + 1, 2, none⟩ = some (.bool u.f2) := (blk_cell e1 2).trans rfl
  have r3 : W2.cell? ⟨w.heap.size + 1, 3, none⟩ = some (.slice B3 u.f3.length d3) := (blk_cell e1 3).trans rfl
  obtain ⟨t2, ht2⟩ : ∃ t2, Aside0 (t.f2 = t2) := ⟨_, ⟨rfl⟩⟩
  obtain ⟨u2, hu2⟩ : ∃ u2, Aside0 (u.f2 = u2) := ⟨_, ⟨rfl⟩⟩
  go_enter Tryz.func33, Tryz.ntmps33
  go_upto_region 1 with fail
  clear hW2
  rw [ht2.out] at hgg hg q2
  rw [hu2.out] at hgg hg r2
  obtain ⟨b1, hb1⟩ : ∃ b1, w.heap.size + 1 = b1 := ⟨_, rfl⟩
  rw [hb1] at e1 r2 r3 e2
  simp only [hb1]
  obtain ⟨rb, hrb⟩ : ∃ rb, b1 + 1 = rb := ⟨_, rfl⟩
  rw [hrb] at e2
  simp only [hrb]
  obtain ⟨b0, hb0⟩ : ∃ b0, w.heap.size = b0 := ⟨_, rfl⟩
  rw [hb0] at e0 q0 q1 q2 q3
  simp only [hb0]
  have hb01 := Aside0.mk (And.intro hb0 (And.intro hb1 hrb))
  clear hb0 hb1 hrb
  clear q3 r3
  go_cut [5] from 9 to 19 (fun s5 wx => s5 = .pointer (some ⟨W2.heap.size, 0, none⟩) ∧ wx = W2.alloc (.cells #[.int .i64 t.f0, .bool t.f1, .bool g, .slice none 0 0, .slice none 0 0] 31))
  case first =>
    cases t2 <;> go_wp2 <;> go_meet
    case rel => exact ⟨by rw [hsz2], by first | rfl | (rw [← hgg.out]; rfl)⟩
    case rel => exact ⟨by rw [hsz2], by first | rfl | (rw [← hgg.out]; rfl)⟩
  case rest =>
  obtain ⟨rfl, rfl⟩ := hcut
  have hJ := JI.start2 (B := w0.heap.size) (k := t.f0) (m := t.f1) (g := g) (ob := W2.heap.size) hb2 e0 e1 e2 rfl
  obtain ⟨ob, hob⟩ : ∃ ob, W2.heap.size = ob := ⟨_, rfl⟩
  have hord := Aside0.mk (show w0.heap.size ≤ w.heap.size ∧ b0 < ob ∧ b1 < ob ∧ rb < ob ∧ w.heap.size ≤ b0 ∧ w.heap.size ≤ b1 ∧ w.heap.size ≤ rb by have := hb01.out; have := hB0.out.size; omega)
  rw [hob] at hJ ⊢
  generalize (W2.alloc (.cells #[.int .i64 t.f0, .bool t.f1, .bool g, .slice none 0 0, .slice none 0 0] 31)) = W5 at hJ ⊢
  have p3 : W5.cell? ⟨b0, 3, none⟩ = some (.slice A3 t.f3.length c3) := (blk_cell hJ.a0 3).trans rfl
  have hJ0 := Aside0.mk hJ
  clear hJ hb2 hsz2 e0 e1 e2 q0 q1 q2 r2 hg hob
  go_wp2
  clear p3
  go_loopg [6] t.f3.length (fun gg s6 wr => ∃ ii : Nat, ii ≤ t.f3.length ∧ t.f3.length - ii ≤ gg ∧ s6 = .int .i64 ii ∧ Aside (∃ X cX, (addAll [] (t.f3.take ii)).length ≤ cX ∧ JI w0.heap.size w.heap.size b0 b1 rb ob #[.int .i64 t.f0, .bool t.f1, .bool t.f2, .slice A3 t.f3.length c3, .slice A4 t.f4.length c4] #[.int .i64 u.f0, .bool u.f1, .bool u.f2, .slice B3 u.f3.length d3, .slice B4 u.f4.length d4] #[.int .i64 0, .bool false, .bool false, .slice none 0 0, .slice none 0 0] t.f0 t.f1 g X (addAll [] (t.f3.take ii)).length cX (addAll [] (t.f3.take ii)) 0 [] w none 0 [] wr))
  case atStart => exact ⟨0, Nat.zero_le _, by omega, rfl, none, 0, Nat.zero_le _, hJ0.out⟩
  case round =>
    clear hJ0
    obtain ⟨ii, hii, hg, rfl, hR⟩ := hrel
    obtain ⟨X, cX, hcap, hJ⟩ := hR.out
    have hJ := Aside0.mk hJ
    have hcap := Aside0.mk hcap
    clear hR
    by_cases hlt : ii < t.f3.length
    · have hbx := Aside0.mk (hB0.out.trans (hJ.out.below.mono hB0.out.size))
      have hltz : (ii : Int) < (t.f3.length : Int) := by omega
      obtain ⟨ad, D2, e2, eA, x0, x1, x2, x3, xl, xg⟩ := at_T44 hC3.out (ii : Int) (by omega) hltz
      subst eA
      have hrx : t.f3[ii]? = some (rd_T44 t.f3 (ii : Int)) := by rw [rd27_at _ _ hlt]; exact List.getElem?_eq_getElem hlt
      simp only [Int.toNat_natCast] at x0 x1 x2 x3
      generalize rd_T44 t.f3 (ii : Int) = x at *
      have hnext := Aside0.mk (addAll_take ([]) t.f3 ii x hrx)
      have hmlen : (addAll [] (t.f3.take ii)).length ≤ 1099511627776 := by
        have h1 := (addAll_spec (t.f3.take ii) [] List.Pairwise.nil)
        have := hT.out.2.1.self
        have := hT.out.2.2.2.1.self
        have := List.length_take_le ii t.f3
        have := h1.2.2; simp only [List.length_nil] at this; omega
      obtain ⟨ml, hml⟩ : ∃ ml, addAll [] (t.f3.take ii) = ml := ⟨_, rfl⟩
      rw [hml] at hJ hcap hmlen hnext
      have hkid := Aside0.mk (fun W (hW : Below w0.heap.size w0 W) (hF) => addC w0 W hW ml X cX hcap.out (P := OkB w0.heap.size w.heap.size (fun k => k ≠ ob ∧ k ≠ rb) (.slice none 0 0)) hF hmlen x D2 e2 xl xg)
      clear xl xg hrx hmlen hml
      replace x0 := below_cell hbx.out x0
      replace x1 := below_cell hbx.out x1
      replace x2 := below_cell hbx.out x2
      replace x3 := below_cell hbx.out x3
      have j3 : wr.cell? ⟨ob, 3, none⟩ = some (.slice X ml.length cX) := (blk_cell hJ.out.ao 3).trans rfl
      have p3 : wr.cell? ⟨b0, 3, none⟩ = some (.slice (some ad) t.f3.length c3) := (blk_cell hJ.out.a0 3).trans rfl
      have hlo := Aside0.mk (hJ.out.below.size)
      go_upto_region 5 with fail
      refine start_ (n := 10) (S := fun w' => w'.cell? ⟨ob, 3, none⟩ = some (.slice X ml.length cX) ∧ w'.cell? ⟨b0, 3, none⟩ = some (.slice (some ad) t.f3.length c3) ∧ w'.cell? (ad.add (ii * 4)) = some (.string x.f0) ∧ w'.cell? ⟨(ad.add (ii * 4)).block, (ad.add (ii * 4)).off + 1, none⟩ = some (.string x.f1.f0) ∧ w'.cell? ⟨(ad.add (ii * 4)).block, (ad.add (ii * 4)).off + 2, none⟩ = some (.slice D2 x.f1.f1.length e2) ∧ w'.cell? ⟨(ad.add (ii * 4)).block, (ad.add (ii * 4)).off + 3, none⟩ = some (.bool x.f2)) (ds := [9]) #[false, false, false, false, false, false, false, false, false, false] (by kernel_rfl) rfl rfl ⟨j3, p3, x0, x1, x2, x3⟩ (fun hHeld => ?_); refine with_tabW jt5_tab jt5_bits (fun HT_ HW_ => ?_)
      have hJ3 := Aside0.mk (hJ.out.mv hlo.out (below_drew1 (Below.refl _ wr)))
      have hbx := Aside0.mk (below_drew1 hbx.out)
      have hlo3 := Aside0.mk (show w.heap.size ≤ wr.drew.heap.size from hlo.out)
      clear hJ hlo j3 p3 x0 x1 x2 x3
      generalize wr.drew = W3 at hJ3 hbx hlo3 hHeld ⊢
      refine pure_ (i := 0) (N := some 27) (v := ?_) (a' := ?_) #[true, false, false, false, false, false, false, false, false, false] rfl rfl (any_of HT_.out (by kernel_rfl)) (fun _ _ _ h => h) (Or.inl ⟨by rfl, ?_⟩) ?_ ?_
      rotate_left
      · intro w'
        go_simp
        with_reducible rfl
      rotate_left
      · simp only [Act.put, List.setIfInBounds_toArray, List.set_cons_zero, List.set_cons_succ, i64_w, i32_w]
        rfl
      refine take_ (i := 1) (N := some 28) (v := ?_) (a' := ?_) #[true, true, false, false, false, false, false, false, false, false] rfl rfl (take_ofW HT_.out HW_.out (by kernel_rfl)) (fun _ _ _ h => h) (Or.inl ⟨by rfl, ?_⟩) hHeld ?_ ?_
      rotate_left
      · rintro w' ⟨s0, s1, s2, s3, s4, s5⟩
        go_simp
        with_reducible rfl
      rotate_left
      · simp only [Act.put, List.setIfInBounds_toArray, List.set_cons_zero, List.set_cons_succ, i64_w, i32_w]
        rfl
      refine pure_ (i := 2) (N := some 29) (v := ?_) (a' := ?_) #[true, true, true, false, false, false, false, false, false, false] rfl rfl (any_of HT_.out (by kernel_rfl)) (fun _ _ _ h => h) (Or.inl ⟨by rfl, ?_⟩) ?_ ?_
      rotate_left
      · intro w'
        go_simp
        with_reducible rfl
      rotate_left
      · simp only [Act.put, List.setIfInBounds_toArray, List.set_cons_zero, List.set_cons_succ, i64_w, i32_w]
        rfl
      refine take_ (i := 3) (N := some 30) (v := ?_) (a' := ?_) #[true, true, true, true, false, false, false, false, false, false] rfl rfl (take_ofW HT_.out HW_.out (by kernel_rfl)) (fun _ _ _ h => h) (Or.inl ⟨by rfl, ?_⟩) hHeld ?_ ?_
      rotate_left
      · rintro w' ⟨s0, s1, s2, s3, s4, s5⟩
        go_simp
        with_reducible rfl
      rotate_left
      · simp only [Act.put, List.setIfInBounds_toArray, List.set_cons_zero, List.set_cons_succ, i64_w, i32_w]
        rfl
      refine pure_ (i := 4) (N := some 31) (v := ?_) (a' := ?_) #[true, true, true, true, true, false, false, false, false, false] rfl rfl (any_of HT_.out (by kernel_rfl)) (fun _ _ _ h => h) (Or.inl ⟨by rfl, ?_⟩) ?_ ?_
      rotate_left
      · intro w'
        go_simp
        with_reducible rfl
      rotate_left
      · simp only [Act.put, List.setIfInBounds_toArray, List.set_cons_zero, List.set_cons_succ, i64_w, i32_w]
        rfl
      refine pure_ (i := 5) (N := some 32) (v := ?_) (a' := ?_) #[true, true, true, true, true, true, false, false, false, false] rfl rfl (any_of HT_.out (by kernel_rfl)) (fun _ _ _ h => h) (Or.inl ⟨by rfl, ?_⟩) ?_ ?_
      rotate_left
      · intro w'
        go_simp
        with_reducible rfl
      rotate_left
      · simp only [Act.put, List.setIfInBounds_toArray, List.set_cons_zero, List.set_cons_succ, i64_w, i32_w]
        rfl
      refine take_ (i := 6) (N := some 33) (v := ?_) (a' := ?_) #[true, true, true, true, true, true, true, false, false, false] rfl rfl (take_ofW HT_.out HW_.out (by kernel_rfl)) (fun _ _ _ h => h) (Or.inl ⟨by rfl, ?_⟩) hHeld ?_ ?_
      rotate_left
      · rintro w' ⟨s0, s1, s2, s3, s4, s5⟩
        go_simp
        with_reducible rfl
      rotate_left
      · simp only [Act.put, List.setIfInBounds_toArray, List.set_cons_zero, List.set_cons_succ, i64_w, i32_w]
        rfl
      refine one_ (i := 7) (N := some 34) #[true, true, true, true, true, true, true, true, false, false] rfl rfl (one_of HT_.out (by kernel_rfl)) (by decide) (fun K hK => ?_)
      refine goes_ Tryz.func55 (by kernel_rfl) rfl #[.slice X ml.length cX, .agg #[.string x.f0, .string x.f1.f0, .slice D2 x.f1.f1.length e2, .bool x.f2]] (by rfl) rfl rfl (by (try simp only [List.map_toArray, List.map_cons, List.map_nil]); first | done | rfl) ?_
      refine (hkid.out W3 hbx.out hJ3.out.loans).mono ?_
      clear hkid
      rintro e W4 ⟨X', cX', rfl, hb4, hcap', hF⟩
      refine ⟨_, rfl, ?_⟩
      have HB := hb4
      refine hK.out _ _ ⟨below_cell HB hHeld.1, below_cell HB hHeld.2.1, below_cell HB hHeld.2.2.1, below_cell HB hHeld.2.2.2.1, below_cell HB hHeld.2.2.2.2.1, below_cell HB hHeld.2.2.2.2.2⟩ (fun hHeld => ?_)
      clear hK K HB
      refine norm_ (a' := ?_) ?_ ?_
      rotate_left
      · show Act.put _ (some 34) _ = _
        simp only [Act.put, List.setIfInBounds_toArray, List.set_cons_zero, List.set_cons_succ, i64_w, i32_w]
        rfl
      refine pure_ (i := 8) (N := some 35) (v := ?_) (a' := ?_) #[true, true, true, true, true, true, true, true, true, false] rfl rfl (any_of HT_.out (by kernel_rfl)) (fun _ _ _ h => h) (Or.inl ⟨by rfl, ?_⟩) ?_ ?_
      rotate_left
      · intro w'
        go_simp
        with_reducible rfl
      rotate_left
      · simp only [Act.put, List.setIfInBounds_toArray, List.set_cons_zero, List.set_cons_succ, i64_w, i32_w]
        rfl
      rw [← hnext.out] at hF hcap' ⊢
      have hobj := (hJ3.out.mv hlo3.out hb4).ao
      have hJ6 := Aside0.mk (hJ3.out.add (cX' := cX') hord.out.1 hord.out.2.1 hord.out.2.2.1 hord.out.2.2.2.1 hord.out.2.2.2.2.1 hord.out.2.2.2.2.2.1 hord.out.2.2.2.2.2.2 hb4 hF)
      clear hF hJ3
      refine last_ (i := 9) (N := none) #[true, true, true, true, true, true, true, true, true, true] rfl rfl (one_of HT_.out (by kernel_rfl)) (by decide) (fun K hK => ?_)
      have k4 : W4.cell? ⟨ob, 3, none⟩ = some (.slice X ml.length cX) := (blk_cell hobj 3).trans rfl
      have kf : W4.frozen? ⟨ob, 3, none⟩ = false := blk_frozen hobj 3
      refine skip_ (w1 := W4.setCell ⟨ob, 3, none⟩ (.slice X' (addAll [] (t.f3.take (ii + 1))).length cX')) (by rfl) rfl (by go_simp) ?_
      refine hK.out _ _ ?_
      clear hK K k4 kf hobj hHeld
      refine done_ (done_of HT_.out (by kernel_rfl)) ?_
      have hbig : t.f3.length ≤ 549755813888 := hT.out.2.1.self
      go_wp2
      go_roundg (t.f3.length - (ii + 1))
      case measure => omega
      case rel => exact ⟨ii + 1, by omega, by omega, by go_num, X', cX', hcap', hJ6.out⟩
    · have hlt1 : decide ((ii : Int) < (t.f3.length : Int)) = false := decide_eq_false (by omega)
      have hlt2 : decide (ii < t.f3.length) = false := decide_eq_false hlt
      have hfin : addAll [] (t.f3.take ii) = addAll [] t.f3 := by rw [List.take_of_length_le (by omega)]
      rw [hfin] at hJ hcap
      have p3 : wr.cell? ⟨b0, 3, none⟩ = some (.slice A3 t.f3.length c3) := (blk_cell hJ.out.a0 3).trans rfl
      obtain ⟨W5, hW5⟩ : ∃ W5, wr = W5 := ⟨_, rfl⟩
      rw [hW5] at hJ p3 ⊢
      clear hlt hii hg hfin hW5
      have hJ0 := hJ
      clear hJ
      go_wp2
      clear p3
      go_loopg [7] u.f3.length (fun gg s7 wr => ∃ ii : Nat, ii ≤ u.f3.length ∧ u.f3.length - ii ≤ gg ∧ s7 = .int .i64 ii ∧ Aside (∃ X cX, (addAll (addAll [] t.f3) (u.f3.take ii)).length ≤ cX ∧ JI w0.heap.size w.heap.size b0 b1 rb ob #[.int .i64 t.f0, .bool t.f1, .bool t.f2, .slice A3 t.f3.length c3, .slice A4 t.f4.length c4] #[.int .i64 u.f0, .bool u.f1, .bool u.f2, .slice B3 u.f3.length d3, .slice B4 u.f4.length d4] #[.int .i64 0, .bool false, .bool false, .slice none 0 0, .slice none 0 0] t.f0 t.f1 g X (addAll (addAll [] t.f3) (u.f3.take ii)).length cX (addAll (addAll [] t.f3) (u.f3.take ii)) 0 [] w none 0 [] wr))
      case atStart => exact ⟨0, Nat.zero_le _, by omega, rfl, X, cX, hcap.out, hJ0.out⟩
      case round =>
        clear hJ0
        obtain ⟨ii, hii, hg, rfl, hR⟩ := hrel
        obtain ⟨X, cX, hcap, hJ⟩ := hR.out
        have hJ := Aside0.mk hJ
        have hcap := Aside0.mk hcap
        clear hR
        by_cases hlt : ii < u.f3.length
        · have hbx := Aside0.mk (hB0.out.trans (hJ.out.below.mono hB0.out.size))
          have hltz : (ii : Int) < (u.f3.length : Int) := by omega
          obtain ⟨ad, D2, e2, eA, x0, x1, x2, x3, xl, xg⟩ := at_T44 hD3.out (ii : Int) (by omega) hltz
          subst eA
          have hrx : u.f3[ii]? = some (rd_T44 u.f3 (ii : Int)) := by rw [rd27_at _ _ hlt]; exact List.getElem?_eq_getElem hlt
          simp only [Int.toNat_natCast] at x0 x1 x2 x3
          generalize rd_T44 u.f3 (ii : Int) = x at *
          have hnext := Aside0.mk (addAll_take (addAll [] t.f3) u.f3 ii x hrx)
          have hmlen : (addAll (addAll [] t.f3) (u.f3.take ii)).length ≤ 1099511627776 := by
            have h1 := (addAll_spec (u.f3.take ii) _ (addAll_spec t.f3 [] List.Pairwise.nil).1)
            have := hT.out.2.1.self
            have := hT.out.2.2.2.1.self
            have := List.length_take_le ii u.f3
            have := h1.2.2; have h2 := (addAll_spec t.f3 [] List.Pairwise.nil).2.2; simp only [List.length_nil] at h2; omega
          obtain ⟨ml, hml⟩ : ∃ ml, addAll (addAll [] t.f3) (u.f3.take ii) = ml := ⟨_, rfl⟩
          rw [hml] at hJ hcap hmlen hnext
          have hkid := Aside0.mk (fun W (hW : Below w0.heap.size w0 W) (hF) => addC w0 W hW ml X cX hcap.out (P := OkB w0.heap.size w.heap.size (fun k => k ≠ ob ∧ k ≠ rb) (.slice none 0 0)) hF hmlen x D2 e2 xl xg)
          clear xl xg hrx hmlen hml
          replace x0 := below_cell hbx.out x0
          replace x1 := below_cell hbx.out x1
          replace x2 := below_cell hbx.out x2
          replace x3 := below_cell hbx.out x3
          have j3 : wr.cell? ⟨ob, 3, none⟩ = some (.slice X ml.length cX) := (blk_cell hJ.out.ao 3).trans rfl
          have p3 : wr.cell? ⟨b1, 3, none⟩ = some (.slice (some ad) u.f3.length d3) := (blk_cell hJ.out.a1 3).trans rfl
          have hlo := Aside0.mk (hJ.out.below.size)
          go_upto_region 9 with fail
          refine start_ (n := 10) (S := fun w' => w'.cell? ⟨ob, 3, none⟩ = some (.slice X ml.length cX) ∧ w'.cell? ⟨b1, 3, none⟩ = some (.slice (some ad) u.f3.length d3) ∧ w'.cell? (ad.add (ii * 4)) = some (.string x.f0) ∧ w'.cell? ⟨(ad.add (ii * 4)).block, (ad.add (ii * 4)).off + 1, none⟩ = some (.string x.f1.f0) ∧ w'.cell? ⟨(ad.add (ii * 4)).block, (ad.add (ii * 4)).off + 2, none⟩ = some (.slice D2 x.f1.f1.length e2) ∧ w'.cell? ⟨(ad.add (ii * 4)).block, (ad.add (ii * 4)).off + 3, none⟩ = some (.bool x.f2)) (ds := [9]) #[false, false, false, false, false, false, false, false, false, false] (by kernel_rfl) rfl rfl ⟨j3, p3, x0, x1, x2, x3⟩ (fun hHeld => ?_); refine with_tabW jt9_tab jt9_bits (fun HT_ HW_ => ?_)
          have hJ3 := Aside0.mk (hJ.out.mv hlo.out (below_drew1 (Below.refl _ wr)))
          have hbx := Aside0.mk (below_drew1 hbx.out)
          have hlo3 := Aside0.mk (show w.heap.size ≤ wr.drew.heap.size from hlo.out)
          clear hJ hlo j3 p3 x0 x1 x2 x3
          generalize wr.drew = W3 at hJ3 hbx hlo3 hHeld ⊢
          refine pure_ (i := 0) (N := some 43) (v := ?_) (a' := ?_) #[true, false, false, false, false, false, false, false, false, false] rfl rfl (any_of HT_.out (by kernel_rfl)) (fun _ _ _ h => h) (Or.inl ⟨by rfl, ?_⟩) ?_ ?_
          rotate_left
          · intro w'
            go_simp
            with_reducible rfl
          rotate_left
          · simp only [Act.put, List.setIfInBounds_toArray, List.set_cons_zero, List.set_cons_succ, i64_w, i32_w]
            rfl
          refine take_ (i := 1) (N := some 44) (v := ?_) (a' := ?_) #[true, true, false, false, false, false, false, false, false, false] rfl rfl (take_ofW HT_.out HW_.out (by kernel_rfl)) (fun _ _ _ h => h) (Or.inl ⟨by rfl, ?_⟩) hHeld ?_ ?_
          rotate_left
          · rintro w' ⟨s0, s1, s2, s3, s4, s5⟩
            go_simp
            with_reducible rfl
          rotate_left
          · simp only [Act.put, List.setIfInBounds_toArray, List.set_cons_zero, List.set_cons_succ, i64_w, i32_w]
            rfl
          refine pure_ (i := 2) (N := some 45) (v := ?_) (a' := ?_) #[true, true, true, false, false, false, false, false, false, false] rfl rfl (any_of HT_.out (by kernel_rfl)) (fun _ _ _ h => h) (Or.inl ⟨by rfl, ?_⟩) ?_ ?_
          rotate_left
          · intro w'
            go_simp
            with_reducible rfl
          rotate_left
          · simp only [Act.put, List.setIfInBounds_toArray, List.set_cons_zero, List.set_cons_succ, i64_w, i32_w]
            rfl
          refine take_ (i := 3) (N := some 46) (v := ?_) (a' := ?_) #[true, true, true, true, false, false, false, false, false, false] rfl rfl (take_ofW HT_.out HW_.out (by kernel_rfl)) (fun _ _ _ h => h) (Or.inl ⟨by rfl, ?_⟩) hHeld ?_ ?_
          rotate_left
          · rintro w' ⟨s0, s1, s2, s3, s4, s5⟩
            go_simp
            with_reducible rfl
          rotate_left
          · simp only [Act.put, List.setIfInBounds_toArray, List.set_cons_zero, List.set_cons_succ, i64_w, i32_w]
            rfl
          refine pure_ (i := 4) (N := some 47) (v := ?_) (a' := ?_) #[true, true, true, true, true, false, false, false, false, false] rfl rfl (any_of HT_.out (by kernel_rfl)) (fun _ _ _ h => h) (Or.inl ⟨by rfl, ?_⟩) ?_ ?_
          rotate_left
          · intro w'
            go_simp
            with_reducible rfl
          rotate_left
          · simp only [Act.put, List.setIfInBounds_toArray, List.set_cons_zero, List.set_cons_succ, i64_w, i32_w]
            rfl
          refine pure_ (i := 5) (N := some 48) (v := ?_) (a' := ?_) #[true, true, true, true, true, true, false, false, false, false] rfl rfl (any_of HT_.out (by kernel_rfl)) (fun _ _ _ h => h) (Or.inl ⟨by rfl, ?_⟩) ?_ ?_
          rotate_left
          · intro w'
            go_simp
            with_reducible rfl
          rotate_left
          · simp only [Act.put, List.setIfInBounds_toArray, List.set_cons_zero, List.set_cons_succ, i64_w, i32_w]
            rfl
          refine take_ (i := 6) (N := some 49) (v := ?_) (a' := ?_) #[true, true, true, true, true, true, true, false, false, false] rfl rfl (take_ofW HT_.out HW_.out (by kernel_rfl)) (fun _ _ _ h => h) (Or.inl ⟨by rfl, ?_⟩) hHeld ?_ ?_
          rotate_left
          · rintro w' ⟨s0, s1, s2, s3, s4, s5⟩
            go_simp
            with_reducible rfl
          rotate_left
          · simp only [Act.put, List.setIfInBounds_toArray, List.set_cons_zero, List.set_cons_succ, i64_w, i32_w]
            rfl
          refine one_ (i := 7) (N := some 50) #[true, true, true, true, true, true, true, true, false, false] rfl rfl (one_of HT_.out (by kernel_rfl)) (by decide) (fun K hK => ?_)
          refine goes_ Tryz.func55 (by kernel_rfl) rfl #[.slice X ml.length cX, .agg #[.string x.f0, .string x.f1.f0, .slice D2 x.f1.f1.length e2, .bool x.f2]] (by rfl) rfl rfl (by (try simp only [List.map_toArray, List.map_cons, List.map_nil]); first | done | rfl) ?_
          refine (hkid.out W3 hbx.out hJ3.out.loans).mono ?_
          clear hkid
          rintro e W4 ⟨X', cX', rfl, hb4, hcap', hF⟩
          refine ⟨_, rfl, ?_⟩
          have HB := hb4
          refine hK.out _ _ ⟨below_cell HB hHeld.1, below_cell HB hHeld.2.1, below_cell HB hHeld.2.2.1, below_cell HB hHeld.2.2.2.1, below_cell HB hHeld.2.2.2.2.1, below_cell HB hHeld.2.2.2.2.2⟩ (fun hHeld => ?_)
          clear hK K HB
          refine norm_ (a' := ?_) ?_ ?_
          rotate_left
          · show Act.put _ (some 50) _ = _
            simp only [Act.put, List.setIfInBounds_toArray, List.set_cons_zero, List.set_cons_succ, i64_w, i32_w]
            rfl
          refine pure_ (i := 8) (N := some 51) (v := ?_) (a' := ?_) #[true, true, true, true, true, true, true, true, true, false] rfl rfl (any_of HT_.out (by kernel_rfl)) (fun _ _ _ h => h) (Or.inl ⟨by rfl, ?_⟩) ?_ ?_
          rotate_left
          · intro w'
            go_simp
            with_reducible rfl
          rotate_left
          · simp only [Act.put, List.setIfInBounds_toArray, List.set_cons_zero, List.set_cons_succ, i64_w, i32_w]
            rfl
          rw [← hnext.out] at hF hcap' ⊢
          have hobj := (hJ3.out.mv hlo3.out hb4).ao
          have hJ6 := Aside0.mk (hJ3.out.add (cX' := cX') hord.out.1 hord.out.2.1 hord.out.2.2.1 hord.out.2.2.2.1 hord.out.2.2.2.2.1 hord.out.2.2.2.2.2.1 hord.out.2.2.2.2.2.2 hb4 hF)
          clear hF hJ3
          refine last_ (i := 9) (N := none) #[true, true, true, true, true, true, true, true, true, true] rfl rfl (one_of HT_.out (by kernel_rfl)) (by decide) (fun K hK => ?_)
          have k4 : W4.cell? ⟨ob, 3, none⟩ = some (.slice X ml.length cX) := (blk_cell hobj 3).trans rfl
          have kf : W4.frozen? ⟨ob, 3, none⟩ = false := blk_frozen hobj 3
          refine skip_ (w1 := W4.setCell ⟨ob, 3, none⟩ (.slice X' (addAll (addAll [] t.f3) (u.f3.take (ii + 1))).length cX')) (by rfl) rfl (by go_simp) ?_
          refine hK.out _ _ ?_
          clear hK K k4 kf hobj hHeld
          refine done_ (done_of HT_.out (by kernel_rfl)) ?_
          have hbig : u.f3.length ≤ 549755813888 := hT.out.2.2.2.1.self
          go_wp2
          go_roundg (u.f3.length - (ii + 1))
          case measure => omega
          case rel => exact ⟨ii + 1, by omega, by omega, by go_num, X', cX', hcap', hJ6.out⟩
        · have hlt1 : decide ((ii : Int) < (u.f3.length : Int)) = false := decide_eq_false (by omega)
          have hlt2 : decide (ii < u.f3.length) = false := decide_eq_false hlt
          have hfin : addAll (addAll [] t.f3) (u.f3.take ii) = addAll (addAll [] t.f3) u.f3 := by rw [List.take_of_length_le (by omega)]
          rw [hfin] at hJ hcap
          have p3 : wr.cell? ⟨b1, 3, none⟩ = some (.slice B3 u.f3.length d3) := (blk_cell hJ.out.a1 3).trans rfl
          obtain ⟨W5, hW5⟩ : ∃ W5, wr = W5 := ⟨_, rfl⟩
          rw [hW5] at hJ p3 ⊢
          clear hlt hii hg hfin hW5
          have hJ0 := hJ
          clear hJ
          generalize hmm : addAll (addAll [] t.f3) u.f3 = ml at *
          obtain ⟨L, hL⟩ : ∃ L, ml.length = L := ⟨_, rfl⟩
          rw [hL] at hJ0 hcap
          have p4 : W5.cell? ⟨b0, 4, none⟩ = some (.slice A4 t.f4.length c4) := (blk_cell hJ0.out.a0 4).trans rfl
          have hmm := Aside0.mk hmm
          clear hL
          go_wp2
          clear p4
          go_loopg [8] t.f4.length (fun gg s8 wr => ∃ kk : Nat, kk ≤ t.f4.length ∧ t.f4.length - kk ≤ gg ∧ s8 = .int .i64 kk ∧ Aside (∃ Y cY xs, JI w0.heap.size w.heap.size b0 b1 rb ob #[.int .i64 t.f0, .bool t.f1, .bool t.f2, .slice A3 t.f3.length c3, .slice A4 t.f4.length c4] #[.int .i64 u.f0, .bool u.f1, .bool u.f2, .slice B3 u.f3.length d3, .slice B4 u.f4.length d4] #[.int .i64 0, .bool false, .bool false, .slice none 0 0, .slice none 0 0] t.f0 t.f1 g X L cX ml kk ((joinL t.f4 u.f4).take kk) w Y cY xs wr))
          case atStart => exact ⟨0, Nat.zero_le _, by omega, rfl, none, 0, [], hJ0.out⟩
          case round =>
            clear hJ0
            obtain ⟨kk, hkk, hg, rfl, hR⟩ := hrel
            obtain ⟨Y, cY, xs, hJ⟩ := hR.out
            have hJ := Aside0.mk hJ
            clear hR
            by_cases hlt : kk < t.f4.length
            · have hbx := Aside0.mk (hB0.out.trans (hJ.out.below.mono hB0.out.size))
              have hltz : (kk : Int) < (t.f4.length : Int) := by omega
              have hlty : kk < u.f4.length := by have := hlen.out; omega
              have hltyz : (kk : Int) < (u.f4.length : Int) := by omega
              obtain ⟨ad, D3, e3, D4, e4, eA, x0, x1, x2, x3, x4, xl3, xg3, xl4, xg4⟩ := at_T31 hC4.out (kk : Int) (by omega) hltz
              subst eA
              obtain ⟨bd, G3, h3, G4, h4, eB, y0, y1, y2, y3, y4, yl3, yg3, yl4, yg4⟩ := at_T31 hD4.out (kk : Int) (by omega) hltyz
              subst eB
              have hrx : t.f4[kk]? = some (rd_T31 t.f4 (kk : Int)) := by rw [rd37_at _ _ hlt]; exact List.getElem?_eq_getElem hlt
              have hry : u.f4[kk]? = some (rd_T31 u.f4 (kk : Int)) := by rw [rd37_at _ _ hlty]; exact List.getElem?_eq_getElem hlty
              simp only [Int.toNat_natCast] at x0 x1 x2 x3 x4 y0 y1 y2 y3 y4
              generalize rd_T31 t.f4 (kk : Int) = x at *
              generalize rd_T31 u.f4 (kk : Int) = y at *
              have hmx := List.mem_of_getElem? hrx
              have hmy := List.mem_of_getElem? hry
              have hkid := Aside0.mk (fun W (hW : Below w0.heap.size w0 W) => hIH.out x hmx (rightT_kids hT.out.1 x hmx) (hT.out.2.1.kid hmx) y (rightT_kids hT.out.2.2.1 y hmy) (hT.out.2.2.2.1.kid hmy) (all2_at (fits_kids hT.out.2.2.2.2) hrx hry) D3 e3 D4 e4 G3 h3 G4 h4 W hW xl3 xg3 xl4 xg4 yl3 yg3 yl4 yg4)
              have hnext := Aside0.mk (take_next (joinL_get t.f4 u.f4 kk x y hrx hry))
              clear xl3 xg3 xl4 xg4 yl3 yg3 yl4 yg4 hrx hry hmx hmy
              replace x0 := below_cell hbx.out x0
              replace x1 := below_cell hbx.out x1
              replace x2 := below_cell hbx.out x2
              replace x3 := below_cell hbx.out x3
              replace x4 := below_cell hbx.out x4
              replace y0 := below_cell hbx.out y0
              replace y1 := below_cell hbx.out y1
              replace y2 := below_cell hbx.out y2
              replace y3 := below_cell hbx.out y3
              replace y4 := below_cell hbx.out y4
              have j4 : wr.cell? ⟨ob, 4, none⟩ = some (.slice Y kk cY) := (blk_cell hJ.out.ao 4).trans rfl
              have p4 : wr.cell? ⟨b0, 4, none⟩ = some (.slice (some ad) t.f4.length c4) := (blk_cell hJ.out.a0 4).trans rfl
              have r4 : wr.cell? ⟨b1, 4, none⟩ = some (.slice (some bd) u.f4.length d4) := (blk_cell hJ.out.a1 4).trans rfl
              have hlo := Aside0.mk (Nat.le_trans hJ.out.below.size (Nat.le_refl _))
              clear hT hIH hC3 hD3 hC4 hD4 hml ht2 hu2 hgg hcap
              go_upto_region 13 with fail
              refine start_ (n := 17) (S := fun w' => w'.cell? ⟨ob, 4, none⟩ = some (.slice Y kk cY) ∧ w'.cell? ⟨b0, 4, none⟩ = some (.slice (some ad) t.f4.length c4) ∧ w'.cell? ⟨b1, 4, none⟩ = some (.slice (some bd) u.f4.length d4) ∧ w'.cell? (ad.add (kk * 5)) = some (.int .i64 x.f0) ∧ w'.cell? ⟨(ad.add (kk * 5)).block, (ad.add (kk * 5)).off + 1, none⟩ = some (.bool x.f1) ∧ w'.cell? ⟨(ad.add (kk * 5)).block, (ad.add (kk * 5)).off + 2, none⟩ = some (.bool x.f2) ∧ w'.cell? ⟨(ad.add (kk * 5)).block, (ad.add (kk * 5)).off + 3, none⟩ = some (.slice D3 x.f3.length e3) ∧ w'.cell? ⟨(ad.add (kk * 5)).block, (ad.add (kk * 5)).off + 4, none⟩ = some (.slice D4 x.f4.length e4) ∧ w'.cell? (bd.add (kk * 5)) = some (.int .i64 y.f0) ∧ w'.cell? ⟨(bd.add (kk * 5)).block, (bd.add (kk * 5)).off + 1, none⟩ = some (.bool y.f1) ∧ w'.cell? ⟨(bd.add (kk * 5)).block, (bd.add (kk * 5)).off + 2, none⟩ = some (.bool y.f2) ∧ w'.cell? ⟨(bd.add (kk * 5)).block, (bd.add (kk * 5)).off + 3, none⟩ = some (.slice G3 y.f3.length h3) ∧ w'.cell? ⟨(bd.add (kk * 5)).block, (bd.add (kk * 5)).off + 4, none⟩ = some (.slice G4 y.f4.length h4)) (ds := [14, 16]) #[false, false, false, false, false, false, false, false, false, false, false, false, false, false, false, false, false] (by kernel_rfl) rfl rfl ⟨j4, p4, r4, x0, x1, x2, x3, x4, y0, y1, y2, y3, y4⟩ (fun hHeld => ?_); refine with_tabW jt13_tab jt13_bits (fun HT_ HW_ => ?_)
              have hJ3 := Aside0.mk (hJ.out.mv hlo.out (below_drew1 (Below.refl _ wr)))
              have hbx := Aside0.mk (below_drew1 hbx.out)
              have hlo3 := Aside0.mk (show w.heap.size ≤ wr.drew.heap.size from hlo.out)
              clear hJ hlo j4 p4 r4 x0 x1 x2 x3 x4 y0 y1 y2 y3 y4
              generalize wr.drew = W3 at hJ3 hbx hlo3 hHeld ⊢
              refine pure_ (i := 0) (N := some 59) (v := ?_) (a' := ?_) #[true, false, false, false, false, false, false, false, false, false, false, false, false, false, false, false, false] rfl rfl (any_of HT_.out (by kernel_rfl)) (fun _ _ _ h => h) (Or.inl ⟨by rfl, ?_⟩) ?_ ?_
              rotate_left
              · intro w'
                go_simp
                with_reducible rfl
              rotate_left
              · simp only [Act.put, List.setIfInBounds_toArray, List.set_cons_zero, List.set_cons_succ, i64_w, i32_w]
                rfl
              refine take_ (i := 1) (N := some 60) (v := ?_) (a' := ?_) #[true, true, false, false, false, false, false, false, false, false, false, false, false, false, false, false, false] rfl rfl (take_ofW HT_.out HW_.out (by kernel_rfl)) (fun _ _ _ h => h) (Or.inl ⟨by rfl, ?_⟩) hHeld ?_ ?_
              rotate_left
              · rintro w' ⟨s0, s1, s2, s3, s4, s5, s6, s7, s8, s9, s10, s11, s12⟩
                go_simp
                with_reducible rfl
              rotate_left
              · simp only [Act.put, List.setIfInBounds_toArray, List.set_cons_zero, List.set_cons_succ, i64_w, i32_w]
                rfl
              refine pure_ (i := 2) (N := some 61) (v := ?_) (a' := ?_) #[true, true, true, false, false, false, false, false, false, false, false, false, false, false, false, false, false] rfl rfl (any_of HT_.out (by kernel_rfl)) (fun _ _ _ h => h) (Or.inl ⟨by rfl, ?_⟩) ?_ ?_
              rotate_left
              · intro w'
                go_simp
                with_reducible rfl
              rotate_left
              · simp only [Act.put, List.setIfInBounds_toArray, List.set_cons_zero, List.set_cons_succ, i64_w, i32_w]
                rfl
              refine take_ (i := 3) (N := some 62) (v := ?_) (a' := ?_) #[true, true, true, true, false, false, false, false, false, false, false, false, false, false, false, false, false] rfl rfl (take_ofW HT_.out HW_.out (by kernel_rfl)) (fun _ _ _ h => h) (Or.inl ⟨by rfl, ?_⟩) hHeld ?_ ?_
              rotate_left
              · rintro w' ⟨s0, s1, s2, s3, s4, s5, s6, s7, s8, s9, s10, s11, s12⟩
                go_simp
                with_reducible rfl
              rotate_left
              · simp only [Act.put, List.setIfInBounds_toArray, List.set_cons_zero, List.set_cons_succ, i64_w, i32_w]
                rfl
              refine pure_ (i := 4) (N := some 63) (v := ?_) (a' := ?_) #[true, true, true, true, true, false, false, false, false, false, false, false, false, false, false, false, false] rfl rfl (any_of HT_.out (by kernel_rfl)) (fun _ _ _ h => h) (Or.inl ⟨by rfl, ?_⟩) ?_ ?_
              rotate_left
              · intro w'
                go_simp
                with_reducible rfl
              rotate_left
              · simp only [Act.put, List.setIfInBounds_toArray, List.set_cons_zero, List.set_cons_succ, i64_w, i32_w]
                rfl
              refine pure_ (i := 5) (N := some 64) (v := ?_) (a' := ?_) #[true, true, true, true, true, true, false, false, false, false, false, false, false, false, false, false, false] rfl rfl (any_of HT_.out (by kernel_rfl)) (fun _ _ _ h => h) (Or.inl ⟨by rfl, ?_⟩) ?_ ?_
              rotate_left
              · intro w'
                go_simp
                with_reducible rfl
              rotate_left
              · simp only [Act.put, List.setIfInBounds_toArray, List.set_cons_zero, List.set_cons_succ, i64_w, i32_w]
                rfl
              refine take_ (i := 6) (N := some 65) (v := ?_) (a' := ?_) #[true, true, true, true, true, true, true, false, false, false, false, false, false, false, false, false, false] rfl rfl (take_ofW HT_.out HW_.out (by kernel_rfl)) (fun _ _ _ h => h) (Or.inl ⟨by rfl, ?_⟩) hHeld ?_ ?_
              rotate_left
              · rintro w' ⟨s0, s1, s2, s3, s4, s5, s6, s7, s8, s9, s10, s11, s12⟩
                go_simp
                with_reducible rfl
              rotate_left
              · simp only [Act.put, List.setIfInBounds_toArray, List.set_cons_zero, List.set_cons_succ, i64_w, i32_w]
                rfl
              refine pure_ (i := 7) (N := some 66) (v := ?_) (a' := ?_) #[true, true, true, true, true, true, true, true, false, false, false, false, false, false, false, false, false] rfl rfl (any_of HT_.out (by kernel_rfl)) (fun _ _ _ h => h) (Or.inl ⟨by rfl, ?_⟩) ?_ ?_
              rotate_left
              · intro w'
                go_simp
                with_reducible rfl
              rotate_left
              · simp only [Act.put, List.setIfInBounds_toArray, List.set_cons_zero, List.set_cons_succ, i64_w, i32_w]
                rfl
              refine take_ (i := 8) (N := some 67) (v := ?_) (a' := ?_) #[true, true, true, true, true, true, true, true, true, false, false, false, false, false, false, false, false] rfl rfl (take_ofW HT_.out HW_.out (by kernel_rfl)) (fun _ _ _ h => h) (Or.inl ⟨by rfl, ?_⟩) hHeld ?_ ?_
              rotate_left
              · rintro w' ⟨s0, s1, s2, s3, s4, s5, s6, s7, s8, s9, s10, s11, s12⟩
                go_simp
                with_reducible rfl
              rotate_left
              · simp only [Act.put, List.setIfInBounds_toArray, List.set_cons_zero, List.set_cons_succ, i64_w, i32_w]
                rfl
              refine pure_ (i := 9) (N := some 68) (v := ?_) (a' := ?_) #[true, true, true, true, true, true, true, true, true, true, false, false, false, false, false, false, false] rfl rfl (any_of HT_.out (by kernel_rfl)) (fun _ _ _ h => h) (Or.inl ⟨by rfl, ?_⟩) ?_ ?_
              rotate_left
              · intro w'
                go_simp
                with_reducible rfl
              rotate_left
              · simp only [Act.put, List.setIfInBounds_toArray, List.set_cons_zero, List.set_cons_succ, i64_w, i32_w]
                rfl
              refine pure_ (i := 10) (N := some 69) (v := ?_) (a' := ?_) #[true, true, true, true, true, true, true, true, true, true, true, false, false, false, false, false, false] rfl rfl (any_of HT_.out (by kernel_rfl)) (fun _ _ _ h => h) (Or.inl ⟨by rfl, ?_⟩) ?_ ?_
              rotate_left
              · intro w'
                go_simp
                with_reducible rfl
              rotate_left
              · simp only [Act.put, List.setIfInBounds_toArray, List.set_cons_zero, List.set_cons_succ, i64_w, i32_w]
                rfl
              refine take_ (i := 11) (N := some 70) (v := ?_) (a' := ?_) #[true, true, true, true, true, true, true, true, true, true, true, true, false, false, false, false, false] rfl rfl (take_ofW HT_.out HW_.out (by kernel_rfl)) (fun _ _ _ h => h) (Or.inl ⟨by rfl, ?_⟩) hHeld ?_ ?_
              rotate_left
              · rintro w' ⟨s0, s1, s2, s3, s4, s5, s6, s7, s8, s9, s10, s11, s12⟩
                go_simp
                with_reducible rfl
              rotate_left
              · simp only [Act.put, List.setIfInBounds_toArray, List.set_cons_zero, List.set_cons_succ, i64_w, i32_w]
                rfl
              refine one_ (i := 12) (N := some 71) #[true, true, true, true, true, true, true, true, true, true, true, true, true, false, false, false, false] rfl rfl (one_of HT_.out (by kernel_rfl)) (by decide) (fun K hK => ?_)
              refine goes_ Tryz.func33 (by kernel_rfl) rfl #[.agg #[.int .i64 x.f0, .bool x.f1, .bool x.f2, .slice D3 x.f3.length e3, .slice D4 x.f4.length e4], .agg #[.int .i64 y.f0, .bool y.f1, .bool y.f2, .slice G3 y.f3.length h3, .slice G4 y.f4.length h4]] (by rfl) rfl rfl (by (try simp only [List.map_toArray, List.map_cons, List.map_nil]); first | done | rfl) ?_
              refine (hkid.out W3 hbx.out).mono ?_
              clear hkid
              rintro e W4 ⟨zk, zm, zg, ZX, zL, zcX, ZY, zn, zcY, rfl, hb4, hFK⟩
              refine ⟨_, rfl, ?_⟩
              have HB := hb4
              refine hK.out _ _ ⟨below_cell HB hHeld.1, below_cell HB hHeld.2.1, below_cell HB hHeld.2.2.1, below_cell HB hHeld.2.2.2.1, below_cell HB hHeld.2.2.2.2.1, below_cell HB hHeld.2.2.2.2.2.1, below_cell HB hHeld.2.2.2.2.2.2.1, below_cell HB hHeld.2.2.2.2.2.2.2.1, below_cell HB hHeld.2.2.2.2.2.2.2.2.1, below_cell HB hHeld.2.2.2.2.2.2.2.2.2.1, below_cell HB hHeld.2.2.2.2.2.2.2.2.2.2.1, below_cell HB hHeld.2.2.2.2.2.2.2.2.2.2.2.1, below_cell HB hHeld.2.2.2.2.2.2.2.2.2.2.2.2⟩ (fun hHeld => ?_)
              clear hK K HB
              refine norm_ (a' := ?_) ?_ ?_
              rotate_left
              · show Act.put _ (some 71) _ = _
                simp only [Act.put, List.setIfInBounds_toArray, List.set_cons_zero, List.set_cons_succ, i64_w, i32_w]
                rfl
              refine one_ (i := 13) (N := some 72) #[true, true, true, true, true, true, true, true, true, true, true, true, true, true, false, false, false] rfl rfl (one_of HT_.out (by kernel_rfl)) (by decide) (fun K hK => ?_)
              refine value_ (v := .slice (some ⟨W4.heap.size, 0, none⟩) 1 1) (w1 := W4.alloc (.cells #[.int .i64 zk, .bool zm, .bool zg, .slice ZX zL zcX, .slice ZY zn zcY] 31)) (by rfl) rfl (by go_simp; first | done | rfl) ?_
              have HB := below_alloc (Below.refl _ W4) (.cells #[.int .i64 zk, .bool zm, .bool zg, .slice ZX zL zcX, .slice ZY zn zcY] 31)
              refine hK.out _ _ ⟨below_cell HB hHeld.1, below_cell HB hHeld.2.1, below_cell HB hHeld.2.2.1, below_cell HB hHeld.2.2.2.1, below_cell HB hHeld.2.2.2.2.1, below_cell HB hHeld.2.2.2.2.2.1, below_cell HB hHeld.2.2.2.2.2.2.1, below_cell HB hHeld.2.2.2.2.2.2.2.1, below_cell HB hHeld.2.2.2.2.2.2.2.2.1, below_cell HB hHeld.2.2.2.2.2.2.2.2.2.1, below_cell HB hHeld.2.2.2.2.2.2.2.2.2.2.1, below_cell HB hHeld.2.2.2.2.2.2.2.2.2.2.2.1, below_cell HB hHeld.2.2.2.2.2.2.2.2.2.2.2.2⟩ (fun hHeld => ?_)
              clear hK K HB
              refine norm_ (a' := ?_) ?_ ?_
              rotate_left
              · show Act.put _ (some 72) _ = _
                simp only [Act.put, List.setIfInBounds_toArray, List.set_cons_zero, List.set_cons_succ, i64_w, i32_w]
                rfl
              refine last_ (i := 14) (N := some 73) #[true, true, true, true, true, true, true, true, true, true, true, true, true, true, true, false, false] rfl rfl (one_of HT_.out (by kernel_rfl)) (by decide) (fun K hK => ?_)
              have hJ4 := hJ3.out.mv hlo3.out hb4
              have hos := blk_lt hJ4.ao
              refine step_append_cells (w0 := W4) (ob + 1) (by rfl) (.tmp 60) (.tmp 72) 29 31 (.agg #[.int .i64 0, .bool false, .bool false, .slice none 0 0, .slice none 0 0]) 5 64 rfl (by first | kernel_rfl | rfl) (by first | kernel_rfl | rfl) rfl (by decide) (by decide) (.slice Y kk cY) kk xs [.int .i64 zk, .bool zm, .bool zg, .slice ZX zL zcX, .slice ZY zn zcY] (by rfl) (by rfl) rfl (by intro v hv; simp only [List.mem_cons, List.not_mem_nil, or_false] at hv; rcases hv with rfl | rfl | rfl | rfl | rfl <;> rfl) hJ4.own (Below.refl _ _) (by omega) (by have := hfew.out; omega) ?_
              intro v1 w5 ho5 hb5 hg5 hat5
              have hb5' : Below (ob + 1) W4 w5 := hb5
              obtain ⟨Y', cY', rfl, hJ6⟩ := hJ3.out.step hord.out.1 hord.out.2.1 hord.out.2.2.1 hord.out.2.2.2.1 hord.out.2.2.2.2.1 hord.out.2.2.2.2.2.1 hord.out.2.2.2.2.2.2 hb4 rfl hFK ho5 hb5 hg5 hat5
              have hJ6 := Aside0.mk hJ6
              have hobj := (hb5.block ob (by omega)).trans hJ4.ao
              clear hJ4 hJ3 hFK ho5 hg5 hat5 hb5
              refine hK.out _ _ ?_
              clear hK K hHeld
              refine norm_ (a' := ?_) ?_ ?_
              rotate_left
              · show Act.put _ (some 73) _ = _
                simp only [Act.put, List.setIfInBounds_toArray, List.set_cons_zero, List.set_cons_succ, i64_w, i32_w]
                rfl
              refine pure_ (i := 15) (N := some 74) (v := ?_) (a' := ?_) #[true, true, true, true, true, true, true, true, true, true, true, true, true, true, true, true, false] rfl rfl (any_of HT_.out (by kernel_rfl)) (fun _ _ _ h => h) (Or.inl ⟨by rfl, ?_⟩) ?_ ?_
              rotate_left
              · intro w'
                go_simp
                with_reducible rfl
              rotate_left
              · simp only [Act.put, List.setIfInBounds_toArray, List.set_cons_zero, List.set_cons_succ, i64_w, i32_w]
                rfl
              refine last_ (i := 16) (N := none) #[true, true, true, true, true, true, true, true, true, true, true, true, true, true, true, true, true] rfl rfl (one_of HT_.out (by kernel_rfl)) (by decide) (fun K hK => ?_)
              have k4 : w5.cell? ⟨ob, 4, none⟩ = some (.slice Y kk cY) := (blk_cell hobj 4).trans rfl
              have kf : w5.frozen? ⟨ob, 4, none⟩ = false := blk_frozen hobj 4
              refine skip_ (w1 := w5.setCell ⟨ob, 4, none⟩ (.slice Y' (kk + 1) cY')) (by rfl) rfl (by go_simp) ?_
              refine hK.out _ _ ?_
              clear hK K k4 kf hobj
              refine done_ (done_of HT_.out (by kernel_rfl)) ?_
              have hbig := hfew.out
              go_wp2
              go_roundg (t.f4.length - (kk + 1))
              case measure => omega
              case rel => exact ⟨kk + 1, by omega, by omega, by go_num, Y', cY', _, by rw [hnext.out]; exact hJ6.out⟩
            · have hlt1 : decide ((kk : Int) < (t.f4.length : Int)) = false := decide_eq_false (by omega)
              have hlt2 : decide (kk < t.f4.length) = false := decide_eq_false hlt
              have hfin := Aside0.mk (show (joinL t.f4 u.f4).take kk = joinL t.f4 u.f4 from List.take_of_length_le (by rw [joinL_length _ _ hlen.out]; omega))
              have k0 : wr.cell? ⟨ob, 0, none⟩ = some (.int .i64 t.f0) := (blk_cell hJ.out.ao 0).trans rfl
              have k1 : wr.cell? ⟨ob, 1, none⟩ = some (.bool t.f1) := (blk_cell hJ.out.ao 1).trans rfl
              have k2 : wr.cell? ⟨ob, 2, none⟩ = some (.bool g) := (blk_cell hJ.out.ao 2).trans rfl
              have k3 : wr.cell? ⟨ob, 3, none⟩ = some (.slice X L cX) := (blk_cell hJ.out.ao 3).trans rfl
              have k4 : wr.cell? ⟨ob, 4, none⟩ = some (.slice Y kk cY) := (blk_cell hJ.out.ao 4).trans rfl
              have p4 : wr.cell? ⟨b0, 4, none⟩ = some (.slice A4 t.f4.length c4) := (blk_cell hJ.out.a0 4).trans rfl
              have n0 : wr.cell? ⟨rb, 0, none⟩ = some (.int .i64 0) := (blk_cell hJ.out.ar 0).trans rfl
              have n1 : wr.cell? ⟨rb, 1, none⟩ = some (.bool false) := (blk_cell hJ.out.ar 1).trans rfl
              have n2 : wr.cell? ⟨rb, 2, none⟩ = some (.bool false) := (blk_cell hJ.out.ar 2).trans rfl
              have n3 : wr.cell? ⟨rb, 3, none⟩ = some (.slice none 0 0) := (blk_cell hJ.out.ar 3).trans rfl
              have n4 : wr.cell? ⟨rb, 4, none⟩ = some (.slice none 0 0) := (blk_cell hJ.out.ar 4).trans rfl
              have nf : ∀ i, wr.frozen? ⟨rb, i, none⟩ = false := fun i => blk_frozen hJ.out.ar i
              have hset := Aside0.mk (set_five hJ.out.ar (.int .i64 t.f0) (.bool t.f1) (.bool g) (.slice X L cX) (.slice Y kk cY))
              have hbf := Aside0.mk (below_five hJ.out.below hord.out.2.2.2.2.2.2 (.int .i64 t.f0) (.bool t.f1) (.bool g) (.slice X L cX) (.slice Y kk cY))
              have hdone := Aside0.mk (hJ.out.done hord.out.2.2.2.1 hord.out.2.2.2.2.2.2 hcap.out (W' := (((((wr.setCell ⟨rb, 0, none⟩ (.int .i64 t.f0)).setCell ⟨rb, 1, none⟩ (.bool t.f1)).setCell ⟨rb, 2, none⟩ (.bool g)).setCell ⟨rb, 3, none⟩ (.slice X L cX)).setCell ⟨rb, 4, none⟩ (.slice Y kk cY))) (fun k hk => far_five hk _ _ _ _ _))
              clear hlt hkk hg hJ
              go_wp2
              generalize (((((wr.setCell ⟨rb, 0, none⟩ (.int .i64 t.f0)).setCell ⟨rb, 1, none⟩ (.bool t.f1)).setCell ⟨rb, 2, none⟩ (.bool g)).setCell ⟨rb, 3, none⟩ (.slice X L cX)).setCell ⟨rb, 4, none⟩ (.slice Y kk cY)) = W9 at hset hbf hdone ⊢
              have z0 : W9.cell? ⟨rb, 0, none⟩ = some (.int .i64 t.f0) := (blk_cell hset.out 0).trans rfl
              have z1 : W9.cell? ⟨rb, 1, none⟩ = some (.bool t.f1) := (blk_cell hset.out 1).trans rfl
              have z2 : W9.cell? ⟨rb, 2, none⟩ = some (.bool g) := (blk_cell hset.out 2).trans rfl
              have z3 : W9.cell? ⟨rb, 3, none⟩ = some (.slice X L cX) := (blk_cell hset.out 3).trans rfl
              have z4 : W9.cell? ⟨rb, 4, none⟩ = some (.slice Y kk cY) := (blk_cell hset.out 4).trans rfl
              (try simp only [Exit.inBlock, Exit.then])
              refine bodyPost_ret (v := .agg #[.int .i64 t.f0, .bool t.f1, .bool g, .slice X L cX, .slice Y kk cY]) (by simp [results, Tryz.results33, go_sem, z0, z1, z2, z3, z4]) rfl ?_
              refine ⟨t.f0, t.f1, g, X, L, cX, Y, kk, cY, rfl, hbf.out, ?_⟩
              · have hd := hdone.out
                rw [hfin.out] at hd
                rw [joinT_eq, ht2.out, hu2.out, hgg.out, hml.out]
                exact hd
/-- The document's joinTy, at every two right types that fit and lie in w0. -/
theorem refJoinW (w0 : World) (t : S31) : JoinWord 33 w0 t := tyInd (fun t ih => refJoinT w0 t ih) t
end Go.Proofs.YtadjekpfehjibaaGreatDoor.PEnv
namespace Go.Proofs.YtadjekpfehjibaaGreatDoor.PEnv
open Go.RowKit Go.Shelf Go.Lib Go.Proofs.YtadjekpfehjibaaGreatDoorW.PrintWords Go.Proofs.YtadjekpfehjibaaGreatDoorW.PrintLast Go.Proofs.YtadjekpfehjibaaGreatDoorW.PrintMore Go.Proofs.YtadjekpfehjibaaGreatDoor.PEnvJoins
set_option maxRecDepth 100000
def rJ5_T : Bool × List (List Nat × List Nat) := (true, [([], []), ([], []), ([], []), ([1, 2], [1, 2]), ([3], [3]), ([4], [4]), ([], []), ([], []), ([6, 7], [6, 7]), ([8], [8]), ([9], [9]), ([], []), ([], []), ([11, 12], [11, 12]), ([13], [13]), ([14], [14]), ([10, 15], [10, 15]), ([5, 16], [5, 16]), ([17], [17]), ([0, 18, 16], [0, 18]), ([19, 19, 0, 1, 2, 3, 4, 5, 6, 7, 8, 9, 10, 11, 12, 13, 14, 15, 16, 17, 18, 19], [0, 19])])
def rJ5_B : List Nat := [0, 0, 0, 6, 14, 30, 0, 0, 192, 448, 960, 0, 0, 6144, 14336, 30720, 65472, 131070, 262142, 524287, 1048575]
theorem rJ5_tab : rtab .any (opsOf Tryz.f16 5) = rJ5_T := by kernel_rfl
theorem rJ5_bits : waitsOk rJ5_T.2 rJ5_B = true := by kernel_rfl
set_option maxHeartbeats 16000000 in
/-- The join of two environments that may be held against one another. -/
theorem refJoinE (xs ys : List S33) (A : Option Addr) (c : Nat) (B : Option Addr) (d : Nat) (w : World) (hC : Kd.C k33 w A xs.length xs) (hD : Kd.C k33 w B ys.length ys) (hsx : ∀ k ∈ xs, SmT k.f1) (hsy : ∀ k ∈ ys, SmT k.f1) (hmx : xs.length ≤ 1073741824) (hBoth : bothE xs ys = true) :
    Calls Tryz.prog 16 #[.slice A xs.length c, .slice B ys.length d] w fun e w' => ∃ Y cY, e = .returned (.slice Y xs.length cY) ∧ Below w.heap.size w w' ∧ xs.length ≤ cY ∧ Kd.F k33 w' (fun k => k < w.heap.size ∨ w.heap.size ≤ k) Y xs.length (joinE xs ys) := by
  have hlen := Aside0.mk (both_len hBoth)
  have hC := Aside0.mk hC
  have hD := Aside0.mk hD
  have hsx := Aside0.mk hsx
  have hsy := Aside0.mk hsy
  have hmx := Aside0.mk hmx
  have hBoth := Aside0.mk hBoth
  go_enter Tryz.func16, Tryz.ntmps16
  go_wp2
  go_loopg [5, 6] xs.length (fun gg s5 s6 wr => ∃ kk : Nat, kk ≤ xs.length ∧ xs.length - kk ≤ gg ∧ s6 = .int .i64 kk ∧ ∃ Y cY xl, s5 = .slice Y kk cY ∧ Aside (JE w.heap.size w.heap.size kk ((joinE xs ys).take kk) w Y cY xl wr))
  case atStart => exact ⟨0, Nat.zero_le _, by omega, rfl, none, 0, [], rfl, JE.start (Below.refl _ _)⟩
  case round =>
    obtain ⟨kk, hkk, hg, rfl, Y, cY, xl, rfl, hJ⟩ := hrel
    have hJ := Aside0.mk hJ.out
    by_cases hlt : kk < xs.length
    · have hbx := Aside0.mk hJ.out.below
      have hltz : (kk : Int) < (xs.length : Int) := by omega
      have hlty : kk < ys.length := by have := hlen.out; omega
      have hltyz : (kk : Int) < (ys.length : Int) := by omega
      obtain ⟨ad, D3, e3, D4, e4, eA, x0, x1, x2, x3, x4, x5, xl3, xg3, xl4, xg4⟩ := at_T33 hC.out (kk : Int) (by omega) hltz
      subst eA
      obtain ⟨bd, G3, h3, G4, h4, eB, y0, y1, y2, y3, y4, y5, yl3, yg3, yl4, yg4⟩ := at_T33 hD.out (kk : Int) (by omega) hltyz
      subst eB
      have hrx : xs[kk]? = some (rd_T33 xs (kk : Int)) := by rw [rd39_at _ _ hlt]; exact List.getElem?_eq_getElem hlt
      have hry : ys[kk]? = some (rd_T33 ys (kk : Int)) := by rw [rd39_at _ _ hlty]; exact List.getElem?_eq_getElem hlty
      simp only [Int.toNat_natCast] at x0 x1 x2 x3 x4 x5 y0 y1 y2 y3 y4 y5
      generalize rd_T33 xs (kk : Int) = x at *
      generalize rd_T33 ys (kk : Int) = y at *
      have hkid := Aside0.mk (fun W (hW : Below w.heap.size w W) => refJoinW w x.f1 (both_at hBoth.out hrx hry).1 (hsx.out x (List.mem_of_getElem? hrx)) y.f1 (both_at hBoth.out hrx hry).2.1 (hsy.out y (List.mem_of_getElem? hry)) (both_at hBoth.out hrx hry).2.2 D3 e3 D4 e4 G3 h3 G4 h4 W hW xl3 xg3 xl4 xg4 yl3 yg3 yl4 yg4)
      have hnext := Aside0.mk (take_next (joinE_get xs ys kk x y hrx hry))
      clear xl3 xg3 xl4 xg4 yl3 yg3 yl4 yg4 hrx hry y0
      replace x0 := below_cell hbx.out x0
      replace x1 := below_cell hbx.out x1
      replace x2 := below_cell hbx.out x2
      replace x3 := below_cell hbx.out x3
      replace x4 := below_cell hbx.out x4
      replace x5 := below_cell hbx.out x5
      replace y1 := below_cell hbx.out y1
      replace y2 := below_cell hbx.out y2
      replace y3 := below_cell hbx.out y3
      replace y4 := below_cell hbx.out y4
      replace y5 := below_cell hbx.out y5
      have hlo := Aside0.mk hJ.out.below.size
      clear hC hD hsx hsy hBoth
      go_upto_region 5 with fail
      refine start_ (n := 21) (S := fun w' => w'.cell? (ad.add (kk * 6)) = some (.string x.f0) ∧ w'.cell? ⟨(ad.add (kk * 6)).block, (ad.add (kk * 6)).off + 1, none⟩ = some (.int .i64 x.f1.f0) ∧ w'.cell? ⟨(ad.add (kk * 6)).block, (ad.add (kk * 6)).off + 2, none⟩ = some (.bool x.f1.f1) ∧ w'.cell? ⟨(ad.add (kk * 6)).block, (ad.add (kk * 6)).off + 3, none⟩ = some (.bool x.f1.f2) ∧ w'.cell? ⟨(ad.add (kk * 6)).block, (ad.add (kk * 6)).off + 4, none⟩ = some (.slice D3 x.f1.f3.length e3) ∧ w'.cell? ⟨(ad.add (kk * 6)).block, (ad.add (kk * 6)).off + 5, none⟩ = some (.slice D4 x.f1.f4.length e4) ∧ w'.cell? ⟨(bd.add (kk * 6)).block, (bd.add (kk * 6)).off + 1, none⟩ = some (.int .i64 y.f1.f0) ∧ w'.cell? ⟨(bd.add (kk * 6)).block, (bd.add (kk * 6)).off + 2, none⟩ = some (.bool y.f1.f1) ∧ w'.cell? ⟨(bd.add (kk * 6)).block, (bd.add (kk * 6)).off + 3, none⟩ = some (.bool y.f1.f2) ∧ w'.cell? ⟨(bd.add (kk * 6)).block, (bd.add (kk * 6)).off + 4, none⟩ = some (.slice G3 y.f1.f3.length h3) ∧ w'.cell? ⟨(bd.add (kk * 6)).block, (bd.add (kk * 6)).off + 5, none⟩ = some (.slice G4 y.f1.f4.length h4)) (ds := [19]) #[false, false, false, false, false, false, false, false, false, false, false, false, false, false, false, false, false, false, false, false, false] (by kernel_rfl) rfl rfl ⟨x0, x1, x2, x3, x4, x5, y1, y2, y3, y4, y5⟩ (fun hHeld => ?_); refine with_tabW rJ5_tab rJ5_bits (fun HT_ HW_ => ?_)
      have hJ3 := Aside0.mk (hJ.out.mv hlo.out (below_drew1 (Below.refl _ wr)))
      have hbx := Aside0.mk (below_drew1 hbx.out)
      have hlo3 := Aside0.mk (show w.heap.size ≤ wr.drew.heap.size from hlo.out)
      clear hJ hlo x0 x1 x2 x3 x4 x5 y1 y2 y3 y4 y5
      generalize wr.drew = W3 at hJ3 hbx hlo3 hHeld ⊢
      refine pure_ (i := 0) (N := some 13) (v := ?_) (a' := ?_) #[true, false, false, false, false, false, false, false, false, false, false, false, false, false, false, false, false, false, false, false, false] rfl rfl (any_of HT_.out (by kernel_rfl)) (fun _ _ _ h => h) (Or.inl ⟨by rfl, ?_⟩) ?_ ?_
      rotate_left
      · intro w'
        go_simp
        with_reducible rfl
      rotate_left
      · simp only [Act.put, List.setIfInBounds_toArray, List.set_cons_zero, List.set_cons_succ, i64_w, i32_w]
        rfl
      refine pure_ (i := 1) (N := some 14) (v := ?_) (a' := ?_) #[true, true, false, false, false, false, false, false, false, false, false, false, false, false, false, false, false, false, false, false, false] rfl rfl (any_of HT_.out (by kernel_rfl)) (fun _ _ _ h => h) (Or.inl ⟨by rfl, ?_⟩) ?_ ?_
      rotate_left
      · intro w'
        go_simp
        with_reducible rfl
      rotate_left
      · simp only [Act.put, List.setIfInBounds_toArray, List.set_cons_zero, List.set_cons_succ, i64_w, i32_w]
        rfl
      refine pure_ (i := 2) (N := some 15) (v := ?_) (a' := ?_) #[true, true, true, false, false, false, false, false, false, false, false, false, false, false, false, false, false, false, false, false, false] rfl rfl (any_of HT_.out (by kernel_rfl)) (fun _ _ _ h => h) (Or.inl ⟨by rfl, ?_⟩) ?_ ?_
      rotate_left
      · intro w'
        go_simp
        with_reducible rfl
      rotate_left
      · simp only [Act.put, List.setIfInBounds_toArray, List.set_cons_zero, List.set_cons_succ, i64_w, i32_w]
        rfl
      refine pure_ (i := 3) (N := some 16) (v := ?_) (a' := ?_) #[true, true, true, true, false, false, false, false, false, false, false, false, false, false, false, false, false, false, false, false, false] rfl rfl (any_of HT_.out (by kernel_rfl)) (fun _ _ _ h => h) (Or.inl ⟨by rfl, ?_⟩) ?_ ?_
      rotate_left
      · intro w'
        go_simp
        with_reducible rfl
      rotate_left
      · simp only [Act.put, List.setIfInBounds_toArray, List.set_cons_zero, List.set_cons_succ, i64_w, i32_w]
        rfl
      refine pure_ (i := 4) (N := some 17) (v := ?_) (a' := ?_) #[true, true, true, true, true, false, false, false, false, false, false, false, false, false, false, false, false, false, false, false, false] rfl rfl (any_of HT_.out (by kernel_rfl)) (fun _ _ _ h => h) (Or.inl ⟨by rfl, ?_⟩) ?_ ?_
      rotate_left
      · intro w'
        go_simp
        with_reducible rfl
      rotate_left
      · simp only [Act.put, List.setIfInBounds_toArray, List.set_cons_zero, List.set_cons_succ, i64_w, i32_w]
        rfl
      refine take_ (i := 5) (N := some 18) (v := ?_) (a' := ?_) #[true, true, true, true, true, true, false, false, false, false, false, false, false, false, false, false, false, false, false, false, false] rfl rfl (take_ofW HT_.out HW_.out (by kernel_rfl)) (fun _ _ _ h => h) (Or.inl ⟨by rfl, ?_⟩) hHeld ?_ ?_
      rotate_left
      · rintro w' ⟨s0, s1, s2, s3, s4, s5, s6, s7, s8, s9, s10⟩
        go_simp
        with_reducible rfl
      rotate_left
      · simp only [Act.put, List.setIfInBounds_toArray, List.set_cons_zero, List.set_cons_succ, i64_w, i32_w]
        rfl
      refine pure_ (i := 6) (N := some 19) (v := ?_) (a' := ?_) #[true, true, true, true, true, true, true, false, false, false, false, false, false, false, false, false, false, false, false, false, false] rfl rfl (any_of HT_.out (by kernel_rfl)) (fun _ _ _ h => h) (Or.inl ⟨by rfl, ?_⟩) ?_ ?_
      rotate_left
      · intro w'
        go_simp
        with_reducible rfl
      rotate_left
      · simp only [Act.put, List.setIfInBounds_toArray, List.set_cons_zero, List.set_cons_succ, i64_w, i32_w]
        rfl
      refine pure_ (i := 7) (N := some 20) (v := ?_) (a' := ?_) #[true, true, true, true, true, true, true, true, false, false, false, false, false, false, false, false, false, false, false, false, false] rfl rfl (any_of HT_.out (by kernel_rfl)) (fun _ _ _ h => h) (Or.inl ⟨by rfl, ?_⟩) ?_ ?_
      rotate_left
      · intro w'
        go_simp
        with_reducible rfl
      rotate_left
      · simp only [Act.put, List.setIfInBounds_toArray, List.set_cons_zero, List.set_cons_succ, i64_w, i32_w]
        rfl
      refine pure_ (i := 8) (N := some 21) (v := ?_) (a' := ?_) #[true, true, true, true, true, true, true, true, true, false, false, false, false, false, false, false, false, false, false, false, false] rfl rfl (any_of HT_.out (by kernel_rfl)) (fun _ _ _ h => h) (Or.inl ⟨by rfl, ?_⟩) ?_ ?_
      rotate_left
      · intro w'
        go_simp
        with_reducible rfl
      rotate_left
      · simp only [Act.put, List.setIfInBounds_toArray, List.set_cons_zero, List.set_cons_succ, i64_w, i32_w]
        rfl
      refine pure_ (i := 9) (N := some 22) (v := ?_) (a' := ?_) #[true, true, true, true, true, true, true, true, true, true, false, false, false, false, false, false, false, false, false, false, false] rfl rfl (any_of HT_.out (by kernel_rfl)) (fun _ _ _ h => h) (Or.inl ⟨by rfl, ?_⟩) ?_ ?_
      rotate_left
      · intro w'
        go_simp
        with_reducible rfl
      rotate_left
      · simp only [Act.put, List.setIfInBounds_toArray, List.set_cons_zero, List.set_cons_succ, i64_w, i32_w]
        rfl
      refine take_ (i := 10) (N := some 23) (v := ?_) (a' := ?_) #[true, true, true, true, true, true, true, true, true, true, true, false, false, false, false, false, false, false, false, false, false] rfl rfl (take_ofW HT_.out HW_.out (by kernel_rfl)) (fun _ _ _ h => h) (Or.inl ⟨by rfl, ?_⟩) hHeld ?_ ?_
      rotate_left
      · rintro w' ⟨s0, s1, s2, s3, s4, s5, s6, s7, s8, s9, s10⟩
        go_simp
        with_reducible rfl
      rotate_left
      · simp only [Act.put, List.setIfInBounds_toArray, List.set_cons_zero, List.set_cons_succ, i64_w, i32_w]
        rfl
      refine pure_ (i := 11) (N := some 24) (v := ?_) (a' := ?_) #[true, true, true, true, true, true, true, true, true, true, true, true, false, false, false, false, false, false, false, false, false] rfl rfl (any_of HT_.out (by kernel_rfl)) (fun _ _ _ h => h) (Or.inl ⟨by rfl, ?_⟩) ?_ ?_
      rotate_left
      · intro w'
        go_simp
        with_reducible rfl
      rotate_left
      · simp only [Act.put, List.setIfInBounds_toArray, List.set_cons_zero, List.set_cons_succ, i64_w, i32_w]
        rfl
      refine pure_ (i := 12) (N := some 25) (v := ?_) (a' := ?_) #[true, true, true, true, true, true, true, true, true, true, true, true, true, false, false, false, false, false, false, false, false] rfl rfl (any_of HT_.out (by kernel_rfl)) (fun _ _ _ h => h) (Or.inl ⟨by rfl, ?_⟩) ?_ ?_
      rotate_left
      · intro w'
        go_simp
        with_reducible rfl
      rotate_left
      · simp only [Act.put, List.setIfInBounds_toArray, List.set_cons_zero, List.set_cons_succ, i64_w, i32_w]
        rfl
      refine pure_ (i := 13) (N := some 26) (v := ?_) (a' := ?_) #[true, true, true, true, true, true, true, true, true, true, true, true, true, true, false, false, false, false, false, false, false] rfl rfl (any_of HT_.out (by kernel_rfl)) (fun _ _ _ h => h) (Or.inl ⟨by rfl, ?_⟩) ?_ ?_
      rotate_left
      · intro w'
        go_simp
        with_reducible rfl
      rotate_left
      · simp only [Act.put, List.setIfInBounds_toArray, List.set_cons_zero, List.set_cons_succ, i64_w, i32_w]
        rfl
      refine pure_ (i := 14) (N := some 27) (v := ?_) (a' := ?_) #[true, true, true, true, true, true, true, true, true, true, true, true, true, true, true, false, false, false, false, false, false] rfl rfl (any_of HT_.out (by kernel_rfl)) (fun _ _ _ h => h) (Or.inl ⟨by rfl, ?_⟩) ?_ ?_
      rotate_left
      · intro w'
        go_simp
        with_reducible rfl
      rotate_left
      · simp only [Act.put, List.setIfInBounds_toArray, List.set_cons_zero, List.set_cons_succ, i64_w, i32_w]
        rfl
      refine take_ (i := 15) (N := some 28) (v := ?_) (a' := ?_) #[true, true, true, true, true, true, true, true, true, true, true, true, true, true, true, true, false, false, false, false, false] rfl rfl (take_ofW HT_.out HW_.out (by kernel_rfl)) (fun _ _ _ h => h) (Or.inl ⟨by rfl, ?_⟩) hHeld ?_ ?_
      rotate_left
      · rintro w' ⟨s0, s1, s2, s3, s4, s5, s6, s7, s8, s9, s10⟩
        go_simp
        with_reducible rfl
      rotate_left
      · simp only [Act.put, List.setIfInBounds_toArray, List.set_cons_zero, List.set_cons_succ, i64_w, i32_w]
        rfl
      refine one_ (i := 16) (N := some 29) #[true, true, true, true, true, true, true, true, true, true, true, true, true, true, true, true, true, false, false, false, false] rfl rfl (one_of HT_.out (by kernel_rfl)) (by decide) (fun K hK => ?_)
      refine goes_ Tryz.func33 (by kernel_rfl) rfl #[.agg #[.int .i64 x.f1.f0, .bool x.f1.f1, .bool x.f1.f2, .slice D3 x.f1.f3.length e3, .slice D4 x.f1.f4.length e4], .agg #[.int .i64 y.f1.f0, .bool y.f1.f1, .bool y.f1.f2, .slice G3 y.f1.f3.length h3, .slice G4 y.f1.f4.length h4]] (by rfl) rfl rfl (by (try simp only [List.map_toArray, List.map_cons, List.map_nil]); first | done | rfl) ?_
      refine (hkid.out W3 hbx.out).mono ?_
      clear hkid
      rintro e W4 ⟨zk, zm, zg, ZX, zL, zcX, ZY, zn, zcY, rfl, hb4, hFK⟩
      refine ⟨_, rfl, ?_⟩
      have HB := hb4
      refine hK.out _ _ ⟨below_cell HB hHeld.1, below_cell HB hHeld.2.1, below_cell HB hHeld.2.2.1, below_cell HB hHeld.2.2.2.1, below_cell HB hHeld.2.2.2.2.1, below_cell HB hHeld.2.2.2.2.2.1, below_cell HB hHeld.2.2.2.2.2.2.1, below_cell HB hHeld.2.2.2.2.2.2.2.1, below_cell HB hHeld.2.2.2.2.2.2.2.2.1, below_cell HB hHeld.2.2.2.2.2.2.2.2.2.1, below_cell HB hHeld.2.2.2.2.2.2.2.2.2.2⟩ (fun hHeld => ?_)
      clear hK K HB
      refine norm_ (a' := ?_) ?_ ?_
      rotate_left
      · show Act.put _ (some 29) _ = _
        simp only [Act.put, List.setIfInBounds_toArray, List.set_cons_zero, List.set_cons_succ, i64_w, i32_w]
        rfl
      refine pure_ (i := 17) (N := some 30) (v := ?_) (a' := ?_) #[true, true, true, true, true, true, true, true, true, true, true, true, true, true, true, true, true, true, false, false, false] rfl rfl (any_of HT_.out (by kernel_rfl)) (fun _ _ _ h => h) (Or.inl ⟨by rfl, ?_⟩) ?_ ?_
      rotate_left
      · intro w'
        go_simp
        with_reducible rfl
      rotate_left
      · simp only [Act.put, List.setIfInBounds_toArray, List.set_cons_zero, List.set_cons_succ, i64_w, i32_w]
        rfl
      refine one_ (i := 18) (N := some 31) #[true, true, true, true, true, true, true, true, true, true, true, true, true, true, true, true, true, true, true, false, false] rfl rfl (one_of HT_.out (by kernel_rfl)) (by decide) (fun K hK => ?_)
      refine value_ (v := .slice (some ⟨W4.heap.size, 0, none⟩) 1 1) (w1 := W4.alloc (.cells #[.string x.f0, .int .i64 zk, .bool zm, .bool zg, .slice ZX zL zcX, .slice ZY zn zcY] 33)) (by rfl) rfl (by go_simp; first | done | rfl) ?_
      have HB := below_alloc (Below.refl _ W4) (.cells #[.string x.f0, .int .i64 zk, .bool zm, .bool zg, .slice ZX zL zcX, .slice ZY zn zcY] 33)
      refine hK.out _ _ ⟨below_cell HB hHeld.1, below_cell HB hHeld.2.1, below_cell HB hHeld.2.2.1, below_cell HB hHeld.2.2.2.1, below_cell HB hHeld.2.2.2.2.1, below_cell HB hHeld.2.2.2.2.2.1, below_cell HB hHeld.2.2.2.2.2.2.1, below_cell HB hHeld.2.2.2.2.2.2.2.1, below_cell HB hHeld.2.2.2.2.2.2.2.2.1, below_cell HB hHeld.2.2.2.2.2.2.2.2.2.1, below_cell HB hHeld.2.2.2.2.2.2.2.2.2.2⟩ (fun hHeld => ?_)
      clear hK K HB
      refine norm_ (a' := ?_) ?_ ?_
      rotate_left
      · show Act.put _ (some 31) _ = _
        simp only [Act.put, List.setIfInBounds_toArray, List.set_cons_zero, List.set_cons_succ, i64_w, i32_w]
        rfl
      refine last_ (i := 19) (N := some 32) #[true, true, true, true, true, true, true, true, true, true, true, true, true, true, true, true, true, true, true, true, false] rfl rfl (one_of HT_.out (by kernel_rfl)) (by decide) (fun K hK => ?_)
      have hJ4 := hJ3.out.mv hlo3.out hb4
      have hs4 := hb4.size
      refine step_append_cells (w0 := W4) w.heap.size (by rfl) (.tmp 13) (.tmp 31) 22 33 (.agg #[.string ⟨#[]⟩, .int .i64 0, .bool false, .bool false, .slice none 0 0, .slice none 0 0]) 6 80 rfl (by first | kernel_rfl | rfl) (by first | kernel_rfl | rfl) rfl (by decide) (by decide) (.slice Y kk cY) kk xl [.string x.f0, .int .i64 zk, .bool zm, .bool zg, .slice ZX zL zcX, .slice ZY zn zcY] (by rfl) (by rfl) rfl (by intro v hv; simp only [List.mem_cons, List.not_mem_nil, or_false] at hv; rcases hv with rfl | rfl | rfl | rfl | rfl | rfl <;> rfl) hJ4.own (Below.refl _ _) (by have := hlo3.out; omega) (by have := hmx.out; omega) ?_
      intro v1 w5 ho5 hb5 hg5 hat5
      have hb5' : Below w.heap.size W4 w5 := hb5
      obtain ⟨Y', cY', rfl, hJ6⟩ := hJ3.out.step (Nat.le_refl _) hlo3.out hb4 (s := x.f0) rfl hFK ho5 hb5 hg5 hat5
      have hJ6 := Aside0.mk hJ6
      clear hJ4 hJ3 hFK ho5 hg5 hat5 hb5 hb5'
      refine hK.out _ _ ?_
      clear hK K hHeld
      refine norm_ (a' := ?_) ?_ ?_
      rotate_left
      · show Act.put _ (some 32) _ = _
        simp only [Act.put, List.setIfInBounds_toArray, List.set_cons_zero, List.set_cons_succ, i64_w, i32_w]
        rfl
      refine pure_ (i := 20) (N := some 5) (v := ?_) (a' := ?_) #[true, true, true, true, true, true, true, true, true, true, true, true, true, true, true, true, true, true, true, true, true] rfl rfl (any_of HT_.out (by kernel_rfl)) (fun _ _ _ h => h) (Or.inl ⟨by rfl, ?_⟩) ?_ ?_
      rotate_left
      · intro w'
        go_simp
        with_reducible rfl
      rotate_left
      · simp only [Act.put, List.setIfInBounds_toArray, List.set_cons_zero, List.set_cons_succ, i64_w, i32_w]
        rfl
      refine done_ (done_of HT_.out (by kernel_rfl)) ?_
      have hbig := hmx.out
      go_wp2
      go_roundg (xs.length - (kk + 1))
      case measure => omega
      case rel => exact ⟨kk + 1, by omega, by omega, by go_num, Y', cY', _, rfl, by rw [hnext.out]; exact hJ6.out⟩
    · have hlt1 : decide ((kk : Int) < (xs.length : Int)) = false := decide_eq_false (by omega)
      have hlt2 : decide (kk < xs.length) = false := decide_eq_false hlt
      obtain rfl : kk = xs.length := by omega
      have hfin : (joinE xs ys).take xs.length = joinE xs ys := List.take_of_length_le (by rw [joinE_length _ _ hlen.out]; omega)
      have hd := hJ.out.done
      rw [hfin, joinE_length _ _ hlen.out] at hd
      have hd := Aside0.mk hd
      have hbf := Aside0.mk hJ.out.below
      clear hlt hkk hg hJ hfin
      go_wp2
      go_ret
      exact ⟨Y, cY, rfl, hbf.out, hd.out.1, hd.out.2⟩
end Go.Proofs.YtadjekpfehjibaaGreatDoor.PEnv
namespace Go.Proofs.YtadjekpfehjibaaGreatDoor.PEnv
open Go.RowKit Go.Shelf Go.Lib Go.Proofs.YtadjekpfehjibaaGreatDoorW.PrintWords Go.Proofs.YtadjekpfehjibaaGreatDoorW.PrintLast Go.Proofs.YtadjekpfehjibaaGreatDoorW.PrintMore Go.Proofs.YtadjekpfehjibaaGreatDoor.PEnvJoins
theorem C_none {α : Type} (d : Kd α) (w : World) (A : Option Addr) : Kd.C d w A 0 [] := ⟨rfl, Nat.zero_le _, fun h => absurd h (Nat.lt_irrefl 0)⟩
theorem C_one {α : Type} {d : Kd α} {w : World} {b : Nat} {cs : List Value} {x : α} {t : TypeId} {fr : Nat × Nat} (hl : cs.length = d.sz) (hK : d.K w x cs) (hb : w.heap[b]? = some (.cells cs.toArray t fr)) : Kd.C d w (some ⟨b, 0, none⟩) 1 [x] := by
  refine ⟨rfl, by omega, fun _ => ⟨⟨b, 0, none⟩, rfl, fun i y hy => ?_⟩⟩
  have hi : i = 0 := by
    have := (List.getElem?_eq_some_iff.mp hy).1
    simpa using this
  subst hi
  obtain rfl : x = y := by simpa using hy
  refine ⟨cs, hl, hK, fun k u hu => ?_⟩
  rw [Nat.zero_mul, Nat.zero_add, Addr.add_lit]
  unfold World.cell?
  rw [show w.heap[(⟨b, 0 + k, none⟩ : Addr).block]? = _ from hb]
  simpa using hu
def awL : S44 := ⟨⟨#[]⟩, ⟨⟨#[120]⟩, []⟩, false⟩
def awK : S31 := ⟨1, false, false, [], []⟩
def awT : S31 := ⟨4, false, false, [awL], [awK]⟩
def awB : S33 := ⟨⟨#[114]⟩, awT⟩
theorem aw_over1 : overB ⟨#[120]⟩ [0] ⟨#[120]⟩ [] = true := by simp [overB, begB]
theorem aw_over2 : overB ⟨#[120]⟩ [0] ⟨#[120]⟩ [1] = false := by simp [overB, begB]
theorem aw_right : rightE [awB] = true := by
  simp [rightE, awB, awT, awL, awK, rightT, rightL, headBad, tailOK, risingB, risingFrom, loanOK, plainHead, plainT, partsT, partsL, badT, ByteArray.toList_eq]
theorem aw_hit (wr : Bool) : hitE wr ⟨#[120]⟩ [] [awB] = wr := by
  cases wr <;> simp [hitE, awB, awT, awL, awK, partsT, partsL, hitT, hitL, overB, begB, ByteArray.toList_eq]
theorem aw_merged0 : mergedL [] [] = [] := (mergedOf_eq ⟨[], List.Perm.refl _, List.Pairwise.nil, rfl⟩).symm
theorem aw_merged1 (l : S44) : mergedL [l] [l] = [l] := (mergedOf_eq ⟨[l, l], List.Perm.refl _, by
  simp [cm_Loan.refl l], by
  simp [compactL, keepL, cm_Loan.refl l]⟩).symm
theorem aw_fits : fitsT awT awT = true := by simp [fitsT, fitsL, awT, awK]
theorem aw_less : lessE [awB] [awB] = true := by
  have h1 : bothE [awB] [awB] = true := by
    unfold bothE
    rw [aw_right]
    simp [all2, bothB, awB, aw_fits]
  have h2 : lessT awT awT = true := by
    simp [lessT, lessL, awT, awK, aw_merged0, aw_merged1]
  unfold lessE
  rw [h1]
  simp [all2, lessB, awB, h2]
theorem aw_small : ∀ k ∈ [awB], SmT k.f1 := by
  intro k hk
  obtain rfl := List.mem_singleton.mp hk
  intro u hu
  simp only [awB, awT, awK, partsT, partsL, List.append_nil, List.mem_cons, List.not_mem_nil, or_false] at hu
  rcases hu with rfl | rfl <;> decide
theorem aw_ov1 (W : World) (b : Nat) (hb : W.heap[b]? = some (.cells #[.int .i64 0] 3 (0, 0))) :
    Calls Tryz.prog 17 #[.agg #[.string ⟨#[120]⟩, .slice (some ⟨b, 0, none⟩) 1 1], .agg #[.string ⟨#[120]⟩, .slice none 0 0]] W fun e w' => e = .returned (.bool true) ∧ Below W.heap.size W w' := by
  have h := env_Overlap.calls 3 ⟨#[120]⟩ (some ⟨b, 0, none⟩) 1 [0] ⟨#[120]⟩ none 0 [] _ W (C_one (cs := [.int .i64 0]) rfl rfl hb) (Nat.le_refl _) (C_none _ _ _) (Nat.le_refl _) (overlap_f _ _ _ _ (by decide) (by decide) 3 (by decide) (by decide))
  rw [aw_over1] at h
  exact h
theorem aw_ov2 (W : World) (b b' : Nat) (hb : W.heap[b]? = some (.cells #[.int .i64 0] 3 (0, 0))) (hb' : W.heap[b']? = some (.cells #[.int .i64 1] 3 (0, 0))) :
    Calls Tryz.prog 17 #[.agg #[.string ⟨#[120]⟩, .slice (some ⟨b, 0, none⟩) 1 1], .agg #[.string ⟨#[120]⟩, .slice (some ⟨b', 0, none⟩) 1 1]] W fun e w' => e = .returned (.bool false) ∧ Below W.heap.size W w' := by
  have h := env_Overlap.calls 3 ⟨#[120]⟩ (some ⟨b, 0, none⟩) 1 [0] ⟨#[120]⟩ (some ⟨b', 0, none⟩) 1 [1] _ W (C_one (cs := [.int .i64 0]) rfl rfl hb) (Nat.le_refl _) (C_one (cs := [.int .i64 1]) rfl rfl hb') (Nat.le_refl _) (overlap_f _ _ _ _ (by decide) (by decide) 3 (by decide) (by decide))
  rw [aw_over2] at h
  exact h
theorem aw_rightC (W : World) (b : Nat) (h : Kd.C k33 W (some ⟨b, 0, none⟩) 1 [awB]) : Calls Tryz.prog 6 #[.slice (some ⟨b, 0, none⟩) 1 1] W fun e w' => e = .returned (.bool true) ∧ Below W.heap.size W w' := by
  have h2 := envRightE [awB] (some ⟨b, 0, none⟩) 1 W h
  rw [aw_right] at h2
  exact h2
theorem aw_hitC (wr : Bool) (W : World) (b : Nat) (h : Kd.C k33 W (some ⟨b, 0, none⟩) 1 [awB]) : Calls Tryz.prog 18 #[.slice (some ⟨b, 0, none⟩) 1 1, .agg #[.string ⟨#[120]⟩, .slice none 0 0], .bool wr] W fun e w' => e = .returned (.bool wr) ∧ Below W.heap.size W w' := by
  have h2 := envHit wr ⟨#[120]⟩ [] none 0 [awB] (some ⟨b, 0, none⟩) 1 W h (Nat.le_refl _) (C_none _ _ _) (Nat.le_refl _)
  rw [aw_hit] at h2
  exact h2
theorem aw_lessC (W : World) (b : Nat) (h : Kd.C k33 W (some ⟨b, 0, none⟩) 1 [awB]) : Calls Tryz.prog 8 #[.slice (some ⟨b, 0, none⟩) 1 1, .slice (some ⟨b, 0, none⟩) 1 1] W fun e w' => e = .returned (.bool true) ∧ Below W.heap.size W w' := by
  have h2 := envLessE [awB] [awB] aw_small aw_small (some ⟨b, 0, none⟩) 1 (some ⟨b, 0, none⟩) 1 W h h
  rw [aw_less] at h2
  exact h2
/-- Where awake's own blocks lie. -/
structure Aw (w : World) (b4 : Nat) (W : World) : Prop where
  bel : Below w.heap.size w W
  x0 : W.cell? ⟨w.heap.size, 0, none⟩ = some (.string ⟨#[120]⟩)
  x1 : W.cell? ⟨w.heap.size, 1, none⟩ = some (.slice none 0 0)
  env : Kd.C k33 W (some ⟨b4, 0, none⟩) 1 [awB]
theorem five (w : World) (o0 o1 o2 o3 o4 : Obj) : Below w.heap.size w (((((w.alloc o0).alloc o1).alloc o2).alloc o3).alloc o4) ∧ (((((w.alloc o0).alloc o1).alloc o2).alloc o3).alloc o4).heap[w.heap.size]? = some o0 ∧ (((((w.alloc o0).alloc o1).alloc o2).alloc o3).alloc o4).heap[w.heap.size + 1]? = some o1 ∧
    (((((w.alloc o0).alloc o1).alloc o2).alloc o3).alloc o4).heap[w.heap.size + 1 + 1]? = some o2 ∧ (((((w.alloc o0).alloc o1).alloc o2).alloc o3).alloc o4).heap[w.heap.size + 1 + 1 + 1 + 1]? = some o4 := by
  have s1 : (w.alloc o0).heap.size = w.heap.size + 1 := by simp
  have s2 : ((w.alloc o0).alloc o1).heap.size = w.heap.size + 1 + 1 := by simp
  have s3 : (((w.alloc o0).alloc o1).alloc o2).heap.size = w.heap.size + 1 + 1 + 1 := by simp
  have s4 : ((((w.alloc o0).alloc o1).alloc o2).alloc o3).heap.size = w.heap.size + 1 + 1 + 1 + 1 := by simp
  refine ⟨((((Below.refl _ w).alloc (Nat.le_refl _) _).alloc (by omega) _).alloc (by omega) _).alloc (by omega) _ |>.alloc (by omega) _, ?_, ?_, ?_, ?_⟩
  · rw [heap_alloc_old _ _ (by omega), heap_alloc_old _ _ (by omega), heap_alloc_old _ _ (by omega), heap_alloc_old _ _ (by omega)]
    exact World.alloc_heap_new w o0
  · rw [heap_alloc_old _ _ (by omega), heap_alloc_old _ _ (by omega), heap_alloc_old _ _ (by omega), ← s1]
    exact World.alloc_heap_new _ o1
  · rw [heap_alloc_old _ _ (by omega), heap_alloc_old _ _ (by omega), ← s2]
    exact World.alloc_heap_new _ o2
  · rw [← s4]
    exact World.alloc_heap_new _ o4
theorem two_new (W : World) (o o' : Obj) : ((W.alloc o).alloc o').heap[W.heap.size]? = some o ∧ ((W.alloc o).alloc o').heap[W.heap.size + 1]? = some o' := by
  have s1 : (W.alloc o).heap.size = W.heap.size + 1 := by simp
  refine ⟨?_, ?_⟩
  · rw [heap_alloc_old _ _ (by omega)]
    exact World.alloc_heap_new W o
  · rw [← s1]
    exact World.alloc_heap_new _ o'
theorem two_below {W W' : World} {o o' : Obj} (h : Below ((W.alloc o).alloc o').heap.size ((W.alloc o).alloc o') W') : Below W.heap.size W W' := (((Below.refl _ W).alloc (Nat.le_refl _) o).alloc (by simp) o').trans (h.mono (by simp; omega))
theorem one_below {W W' : World} {o : Obj} (h : Below (W.alloc o).heap.size (W.alloc o) W') : Below W.heap.size W W' := ((Below.refl _ W).alloc (Nat.le_refl _) o).trans (h.mono (by simp))
theorem aw_start (w : World) : Aw w (w.heap.size + 1 + 1 + 1 + 1) (((((w.alloc (.cells #[.string ⟨#[120]⟩, .slice none 0 0] 42)).alloc (.cells #[.string ⟨#[]⟩, .string ⟨#[120]⟩, .slice none 0 0, .bool false] 44)).alloc (.cells #[.int .i64 1, .bool false, .bool false, .slice none 0 0, .slice none 0 0] 31)).alloc (.cells #[.int .i64 4, .bool false, .bool false, .slice (some ⟨w.heap.size + 1, 0, none⟩) 1 1, .slice (some ⟨w.heap.size + 1 + 1, 0, none⟩) 1 1] 31)).alloc (.cells #[.string ⟨#[114]⟩, .int .i64 4, .bool false, .bool false, .slice (some ⟨w.heap.size + 1, 0, none⟩) 1 1, .slice (some ⟨w.heap.size + 1 + 1, 0, none⟩) 1 1] 33)) := by
  obtain ⟨hb, e0, e1, e2, e4⟩ := five w (.cells #[.string ⟨#[120]⟩, .slice none 0 0] 42) (.cells #[.string ⟨#[]⟩, .string ⟨#[120]⟩, .slice none 0 0, .bool false] 44) (.cells #[.int .i64 1, .bool false, .bool false, .slice none 0 0, .slice none 0 0] 31) (.cells #[.int .i64 4, .bool false, .bool false, .slice (some ⟨w.heap.size + 1, 0, none⟩) 1 1, .slice (some ⟨w.heap.size + 1 + 1, 0, none⟩) 1 1] 31) (.cells #[.string ⟨#[114]⟩, .int .i64 4, .bool false, .bool false, .slice (some ⟨w.heap.size + 1, 0, none⟩) 1 1, .slice (some ⟨w.heap.size + 1 + 1, 0, none⟩) 1 1] 33)
  generalize (((((w.alloc (.cells #[.string ⟨#[120]⟩, .slice none 0 0] 42)).alloc (.cells #[.string ⟨#[]⟩, .string ⟨#[120]⟩, .slice none 0 0, .bool false] 44)).alloc (.cells #[.int .i64 1, .bool false, .bool false, .slice none 0 0, .slice none 0 0] 31)).alloc (.cells #[.int .i64 4, .bool false, .bool false, .slice (some ⟨w.heap.size + 1, 0, none⟩) 1 1, .slice (some ⟨w.heap.size + 1 + 1, 0, none⟩) 1 1] 31)).alloc (.cells #[.string ⟨#[114]⟩, .int .i64 4, .bool false, .bool false, .slice (some ⟨w.heap.size + 1, 0, none⟩) 1 1, .slice (some ⟨w.heap.size + 1 + 1, 0, none⟩) 1 1] 33)) = W at *
  refine ⟨hb, by unfold World.cell?; rw [e0]; rfl, by unfold World.cell?; rw [e0]; rfl, ?_⟩
  have hL : Kd.C k44 W (some ⟨w.heap.size + 1, 0, none⟩) 1 [awL] := C_one (cs := [.string ⟨#[]⟩, .string ⟨#[120]⟩, .slice none 0 0, .bool false]) rfl (k44_mk W awL (A2 := none) (c2 := 0) (Nat.le_refl _) (C_none _ _ _)) e1
  have hK : Kd.C k31 W (some ⟨w.heap.size + 1 + 1, 0, none⟩) 1 [awK] := C_one (cs := [.int .i64 1, .bool false, .bool false, .slice none 0 0, .slice none 0 0]) rfl (k31_mk W awK (A3 := none) (c3 := 0) (Nat.le_refl _) (C_none _ _ _) (A4 := none) (c4 := 0) (Nat.le_refl _) (C_none _ _ _)) e2
  exact C_one (cs := [.string ⟨#[114]⟩, .int .i64 4, .bool false, .bool false, .slice (some ⟨w.heap.size + 1, 0, none⟩) 1 1, .slice (some ⟨w.heap.size + 1 + 1, 0, none⟩) 1 1]) rfl (k33_mk W awB (A4 := some ⟨w.heap.size + 1, 0, none⟩) (c4 := 1) (Nat.le_refl _) hL (A5 := some ⟨w.heap.size + 1 + 1, 0, none⟩) (c5 := 1) (Nat.le_refl _) hK) e4
theorem Aw.next {w W W' : World} {b4 : Nat} (h : Aw w b4 W) (hb : Below W.heap.size W W') : Aw w b4 W' := ⟨h.bel.trans (hb.mono h.bel.size), below_cell hb h.x0, below_cell hb h.x1, Kd.C_below h.env hb⟩
set_option maxHeartbeats 4000000 in
theorem awake_any (w : World) : Calls Tryz.prog 4 #[] w fun e w' => e = .returned (.bool true) ∧ Below w.heap.size w w' := by
  have hA := aw_start w
  obtain ⟨W5, hW5⟩ : ∃ W5, (((((w.alloc (.cells #[.string ⟨#[120]⟩, .slice none 0 0] 42)).alloc (.cells #[.string ⟨#[]⟩, .string ⟨#[120]⟩, .slice none 0 0, .bool false] 44)).alloc (.cells #[.int .i64 1, .bool false, .bool false, .slice none 0 0, .slice none 0 0] 31)).alloc (.cells #[.int .i64 4, .bool false, .bool false, .slice (some ⟨w.heap.size + 1, 0, none⟩) 1 1, .slice (some ⟨w.heap.size + 1 + 1, 0, none⟩) 1 1] 31)).alloc (.cells #[.string ⟨#[114]⟩, .int .i64 4, .bool false, .bool false, .slice (some ⟨w.heap.size + 1, 0, none⟩) 1 1, .slice (some ⟨w.heap.size + 1 + 1, 0, none⟩) 1 1] 33)) = W5 := ⟨_, rfl⟩
  rw [hW5] at hA
  have q0 := hA.x0
  have q1 := hA.x1
  have hA := Aside0.mk hA
  go_enter Tryz.func4, Tryz.ntmps4
  go_upto_region 4 with fail
  clear hW5
  generalize w.heap.size + 1 + 1 + 1 + 1 = b4 at *
  have p0 := Go.Lib.cell?_alloc_some (.cells #[.int .i64 0] 3) q0
  have p1 := Go.Lib.cell?_alloc_some (.cells #[.int .i64 0] 3) q1
  have tok1 : True := trivial
  have tok2 : True := trivial
  have tok3 : True := trivial
  have tok4 : True := trivial
  have tok5 : True := trivial
  have tok6 : True := trivial
  go_wp2_with (first
    | (have := tok1; go_at_call 17; refine (aw_ov1 _ _ (World.alloc_heap_new _ _)).mono ?_; rintro e W6 ⟨rfl, hb6⟩; clear tok1; clear p0 p1; have hA' := Aside0.mk (hA.out.next (one_below hb6)); clear hA q0 q1; have hA := hA'; clear hA'; have q0 := hA.out.x0; have q1 := hA.out.x1)
    | (have := tok2; go_at_call 17; refine (aw_ov2 _ _ _ (two_new _ _ _).1 (two_new _ _ _).2).mono ?_; rintro e W7 ⟨rfl, hb7⟩; clear tok2; have hA' := Aside0.mk (hA.out.next (two_below hb7)); clear hA q0 q1; have hA := hA'; clear hA'; have q0 := hA.out.x0; have q1 := hA.out.x1)
    | (have := tok3; go_at_call 6; refine (aw_rightC _ _ hA.out.env).mono ?_; rintro e W8 ⟨rfl, hb8⟩; clear tok3; have hA' := Aside0.mk (hA.out.next (hb8)); clear hA q0 q1; have hA := hA'; clear hA'; have q0 := hA.out.x0; have q1 := hA.out.x1)
    | (have := tok4; go_at_call 18; refine (aw_hitC true _ _ hA.out.env).mono ?_; rintro e W9 ⟨rfl, hb9⟩; clear tok4; have hA' := Aside0.mk (hA.out.next (hb9)); clear hA q0 q1; have hA := hA'; clear hA'; have q0 := hA.out.x0; have q1 := hA.out.x1)
    | (have := tok5; go_at_call 18; refine (aw_hitC false _ _ hA.out.env).mono ?_; rintro e Wa ⟨rfl, hba⟩; clear tok5; have hA' := Aside0.mk (hA.out.next (hba)); clear hA q0 q1; have hA := hA'; clear hA'; have q0 := hA.out.x0; have q1 := hA.out.x1)
    | (have := tok6; go_at_call 8; refine (aw_lessC _ _ hA.out.env).mono ?_; rintro e Wb ⟨rfl, hbb⟩; clear tok6; have hA' := Aside0.mk (hA.out.next (hbb)); clear hA q0 q1; have hA := hA'; clear hA'; have q0 := hA.out.x0; have q1 := hA.out.x1))
  go_ret
  exact ⟨rfl, hA.out.bel⟩
end Go.Proofs.YtadjekpfehjibaaGreatDoor.PEnv
namespace Go.Proofs.YtadjekpfehjibaaGreatDoor.PEnv
open Go.RowKit Go.Shelf Go.Proofs.YtadjekpfehjibaaGreatDoorW.PrintWords Go.Proofs.YtadjekpfehjibaaGreatDoorW.PrintLast Go.Proofs.YtadjekpfehjibaaGreatDoorW.PrintMore Go.Proofs.YtadjekpfehjibaaGreatDoor.PEnvJoins
section
variable (a : Int) (b c : Bool) (ls : List S44) (ts : List S31)
theorem size_l1 (hm : ts.length ≤ 9223372036854775807) (hk : ∀ t ∈ ts, ∃ r, Ev (fun k => lienbookref05_size.f k t.f0 t.f1 t.f2 t.f3 t.f4) r) : ∀ (n i : Nat) (x : Int), ts.length - i = n → i ≤ ts.length →
    ∃ r, Ev (fun k => lienbookref05_size.l1 k x (i : Int) a b c ls ts) r
  | 0, i, x, hn, hi => by
    refine ⟨x, Ev.here fun k => ?_⟩
    unfold lienbookref05_size.l1
    rw [if_neg (by omega)]
  | n + 1, i, x, hn, hi => by
    have h : i < ts.length := by omega
    obtain ⟨r1, k1, hk1⟩ := hk ts[i] (List.getElem_mem h)
    obtain ⟨r2, k2, hk2⟩ := size_l1 hm hk n (i + 1) (wrap64 (x + r1)) (by omega) (by omega)
    by_cases hx : x ≤ 400
    · refine ⟨r2, k1 + k2 + 1, fun k hle => ?_⟩
      obtain ⟨j, rfl⟩ : ∃ j, k = j + 1 := ⟨k - 1, by omega⟩
      have e1 := hk1 j (by omega)
      have e2 := hk2 j (by omega)
      simp only at e1 e2 ⊢
      unfold lienbookref05_size.l1
      rw [if_pos (by omega), if_pos hx, if_pos (by omega), rd37_at ts i h, e1, Option.bind_some, wrap_succ i (by omega), e2]
    · refine ⟨x, Ev.here fun k => ?_⟩
      unfold lienbookref05_size.l1
      rw [if_pos (by omega), if_neg hx]
theorem size_j1 (h1 : ∀ x, ∃ r, Ev (fun k => lienbookref05_size.l1 k x 0 a b c ls ts) r) (x : Int) : ∃ r, Ev (fun k => lienbookref05_size.j1 k x a b c ls ts) r := by
  obtain ⟨r, hr⟩ := h1 x
  exact ⟨r, hr.step 0 fun k _ hk => by unfold lienbookref05_size.j1; exact hk⟩
theorem size_l0 (hm : ls.length ≤ 9223372036854775807) (h1 : ∀ x, ∃ r, Ev (fun k => lienbookref05_size.j1 k x a b c ls ts) r) : ∀ (n i : Nat) (x : Int), ls.length - i = n → i ≤ ls.length →
    ∃ r, Ev (fun k => lienbookref05_size.l0 k x (i : Int) a b c ls ts) r
  | 0, i, x, hn, hi => by
    obtain ⟨r, hr⟩ := h1 x
    refine ⟨r, hr.step 0 fun k _ hk => ?_⟩
    unfold lienbookref05_size.l0
    rw [if_neg (by omega)]
    exact hk
  | n + 1, i, x, hn, hi => by
    have h : i < ls.length := by omega
    by_cases hx : x ≤ 400
    · obtain ⟨r, hr⟩ := size_l0 hm h1 n (i + 1) (wrap64 ((wrap64 ((wrap64 ((wrap64 (x + 1)) + (wrap64 ((((rd_T44 ls i).f1.f1).length : Int) / 10)))) + (wrap64 ((((rd_T44 ls i).f1.f0).size : Int) / 100)))) + (wrap64 ((((rd_T44 ls i).f0).size : Int) / 100)))) (by omega) (by omega)
      refine ⟨r, hr.step 0 fun k _ hk => ?_⟩
      unfold lienbookref05_size.l0
      rw [if_pos (by omega), if_pos hx, if_pos (by omega), wrap_succ i (by omega)]
      exact hk
    · obtain ⟨r, hr⟩ := h1 x
      refine ⟨r, hr.step 0 fun k _ hk => ?_⟩
      unfold lienbookref05_size.l0
      rw [if_pos (by omega), if_neg hx]
      exact hk
end
theorem size_f : ∀ t, TyMax t → ∃ r, Ev (fun k => lienbookref05_size.f k t.f0 t.f1 t.f2 t.f3 t.f4) r := by
  refine tyInd fun t ih hT => ?_
  obtain ⟨m3, m4, _⟩ := hT.self
  obtain ⟨r, hr⟩ := size_l0 t.f0 t.f1 t.f2 t.f3 t.f4 m3 (size_j1 t.f0 t.f1 t.f2 t.f3 t.f4 (fun x => size_l1 t.f0 t.f1 t.f2 t.f3 t.f4 m4 (fun k hk => ih k hk (hT.kid hk)) _ 0 x rfl (by omega))) _ 0 1 rfl (by omega)
  exact ⟨r, hr.step 0 fun k _ hk => hk⟩
theorem refSize_l (es : List S33) (hm : es.length ≤ 9223372036854775807) (he : ∀ b ∈ es, TyMax b.f1) : ∀ (n i : Nat) (x : Int), es.length - i = n → i ≤ es.length →
    ∃ r, Ev (fun k => lienbookref05_Size.l0 k es x (i : Int)) r
  | 0, i, x, hn, hi => by
    refine ⟨x, Ev.here fun k => ?_⟩
    unfold lienbookref05_Size.l0
    rw [if_neg (by omega)]
  | n + 1, i, x, hn, hi => by
    have h : i < es.length := by omega
    obtain ⟨r1, k1, hk1⟩ := size_f es[i].f1 (he _ (List.getElem_mem h))
    by_cases hx : x ≤ 400
    · obtain ⟨r2, k2, hk2⟩ := refSize_l es hm he n (i + 1) (wrap64 ((wrap64 (x + r1)) + (wrap64 (((es[i].f0).size : Int) / 100)))) (by omega) (by omega)
      refine ⟨r2, k1 + k2 + 1, fun k hle => ?_⟩
      obtain ⟨j, rfl⟩ : ∃ j, k = j + 1 := ⟨k - 1, by omega⟩
      have e1 := hk1 j (by omega)
      have e2 := hk2 j (by omega)
      simp only at e1 e2 ⊢
      unfold lienbookref05_Size.l0
      rw [if_pos (by omega), if_pos hx, if_pos (by omega), rd39_at es i h, e1, Option.bind_some, wrap_succ i (by omega), e2]
    · refine ⟨x, Ev.here fun k => ?_⟩
      unfold lienbookref05_Size.l0
      rw [if_pos (by omega), if_neg hx]
theorem refSize_f (es : List S33) (hm : es.length ≤ 9223372036854775807) (he : ∀ b ∈ es, TyMax b.f1) : ∃ k r, lienbookref05_Size.f k es = some r := by
  obtain ⟨r, k, hk⟩ := refSize_l es hm he _ 0 0 rfl (by omega)
  exact ⟨k, r, hk k (Nat.le_refl _)⟩
end Go.Proofs.YtadjekpfehjibaaGreatDoor.PEnv
