/- env.rising, env.right and env.Right, at every input. -/
import Derived.Test.YtadjekpfehjibaaKf
import Derived.BigQuiet
import Derived.Test.YtadjekpfehjibaaKg

namespace Go.Proofs.Ytadjekpfehjibaa.PEnv
open Go.RowKit Go.Shelf Go.Proofs.YtadjekpfehjibaaW.PrintWords Go.Proofs.YtadjekpfehjibaaW.PrintLast Go.Proofs.YtadjekpfehjibaaW.PrintMore Go.Proofs.Ytadjekpfehjibaa.PEnvHits
set_option linter.unusedVariables false
set_option linter.unusedSimpArgs false

theorem region_cls {P : Program} {id : Nat} {Q : Exit → Act → World → Prop} {a : Act} {w : World} {l : List Oper} (C : World → Prop) (hm : P.follows .mixedOrders = true) (hB : Region.lexB .any l.toArray = true) (hC : C { w with drawn := w.drawn + 1 })
    (h : wpQuiet P l.toArray C (fun a' => ∀ w', C w' → Q .normal a' w') l a) : (Code.region id l.toArray true).wp P Q a w :=
  wp_region_quiet (C := C) hm hB hC (by simpa using h)

/-- Is one loan right? -/
def loanOK (l : S27) : Bool := decide (l.f0.toList = []) || (decide (l.f1.f0.toList = []) && decide (l.f1.f1.length = 0) && !l.f2)

set_option maxHeartbeats 4000000 in
/-- env.loan. -/
theorem envLoan (l : S27) (A2 : Option Addr) (c2 : Nat) (W : World) :
    Calls Try.prog 51 #[.agg #[.string l.f0, .string l.f1.f0, .slice A2 l.f1.f1.length c2, .bool l.f2]] W fun e W' => e = .returned (.bool (loanOK l)) ∧ Below W.heap.size W W' := by
  have hb : Below W.heap.size W (W.alloc (.cells #[.string l.f0, .string l.f1.f0, .slice A2 l.f1.f1.length c2, .bool l.f2] 27)) := (Below.refl _ W).alloc (Nat.le_refl _) _
  have hl : loanOK l = (decide (l.f0.toList = []) || (decide (l.f1.f0.toList = []) && decide (l.f1.f1.length = 0) && !l.f2)) := rfl
  by_cases h0 : l.f0.toList = ([] : List UInt8)
  · have h0b : (l.f0.toList == ([] : List UInt8)) = true := beq_iff_eq.mpr h0
    rw [decide_eq_true h0] at hl
    clear h0
    go_enter Try.func51, Try.ntmps51
    go_wp2
    go_ret
    exact ⟨by rw [hl]; rfl, hb⟩
  · have h0b : (l.f0.toList == ([] : List UInt8)) = false := by simpa using h0
    rw [decide_eq_false h0] at hl
    clear h0
    by_cases h1 : l.f1.f0.toList = ([] : List UInt8)
    · have h1b : (l.f1.f0.toList == ([] : List UInt8)) = true := beq_iff_eq.mpr h1
      rw [decide_eq_true h1] at hl
      clear h1
      by_cases h2 : l.f1.f1.length = 0
      · have h2b : ((l.f1.f1.length : Int) == 0) = true := by simp [h2]
        rw [decide_eq_true h2] at hl
        have hl2 : loanOK l = !l.f2 := by rw [hl]; rfl
        clear hl h2
        generalize l.f1.f1.length = n at *
        go_enter Try.func51, Try.ntmps51
        go_wp2
        go_ret
        exact ⟨by rw [hl2]; rfl, hb⟩
      · have h2b : ((l.f1.f1.length : Int) == 0) = false := by simpa using h2
        rw [decide_eq_false h2] at hl
        clear h2
        generalize l.f1.f1.length = n at *
        go_enter Try.func51, Try.ntmps51
        go_wp2
        go_ret
        exact ⟨by rw [hl]; rfl, hb⟩
    · have h1b : (l.f1.f0.toList == ([] : List UInt8)) = false := by simpa using h1
      rw [decide_eq_false h1] at hl
      clear h1
      go_enter Try.func51, Try.ntmps51
      go_wp2
      go_ret
      exact ⟨by rw [hl]; rfl, hb⟩

def risingFrom : Option S27 → List S27 → Bool
  | _, [] => true
  | none, x :: xs => loanOK x && risingFrom (some x) xs
  | some q, x :: xs => (loanOK x && decide (cmpLoan q x < 0)) && risingFrom (some x) xs
def risingB (ls : List S27) : Bool := risingFrom none ls
theorem risingFrom_nil (p : Option S27) : risingFrom p [] = true := by cases p <;> rfl
def prevAt (ls : List S27) (k : Nat) : Option S27 := if k = 0 then none else ls[k - 1]?

set_option maxHeartbeats 8000000 in
/-- env.rising. -/
theorem envRising (ls : List S27) (A : Option Addr) (c : Nat) (w : World) (hC : Kd.C k27 w A ls.length ls) (hc : ls.length ≤ c) :
    Calls Try.prog 42 #[.slice A ls.length c] w fun e W' => e = .returned (.bool (risingB ls)) ∧ Below w.heap.size w W' := by
  have hmax := Kd.C_max hC
  go_enter Try.func42, Try.ntmps42
  go_wp2
  go_loopg [7] ls.length (fun gg s7 wr => ∃ kk : Nat, kk ≤ ls.length ∧ ls.length - kk ≤ gg ∧ s7 = .int .i64 kk ∧ Aside (Below w.heap.size w wr) ∧ Aside (risingB ls = risingFrom (prevAt ls kk) (ls.drop kk)))
  case atStart => exact ⟨0, Nat.zero_le _, by omega, rfl, Below.refl _ _, (by simp [risingB, prevAt] : risingB ls = risingFrom (prevAt ls 0) (ls.drop 0))⟩
  case round =>
    obtain ⟨kk, hkk, hg, rfl, BW, HR⟩ := hrel
    by_cases hlt : kk < ls.length
    · have hltz : (kk : Int) < (ls.length : Int) := by omega
      obtain ⟨ad, A2, c2, rfl, x0, x1, x2, x3, l2, g2⟩ := at_T27 (Kd.C_below hC BW.out) (kk : Int) (by omega) hltz
      have hrd : ls[kk]? = some (rd_T27 ls (kk : Int)) := by
        simp only [rd_T27, Int.toNat_natCast, List.getD_eq_getElem?_getD, List.getElem?_eq_getElem hlt, Option.getD_some]
      simp only [Int.toNat_natCast] at x0 x1 x2 x3
      generalize rd_T27 ls (kk : Int) = x at *
      go_wp2_with fail
      have hb2 : Below wr.heap.size wr (wr.alloc (.cells #[.string x.f0, .string x.f1.f0, .slice A2 x.f1.f1.length c2, .bool x.f2] 27)) := (Below.refl _ wr).alloc (Nat.le_refl _) _
      have e2 := World.alloc_heap_new wr (.cells #[.string x.f0, .string x.f1.f0, .slice A2 x.f1.f1.length c2, .bool x.f2] 27)
      obtain ⟨W2, hW2⟩ : ∃ W2, (wr.alloc (.cells #[.string x.f0, .string x.f1.f0, .slice A2 x.f1.f1.length c2, .bool x.f2] 27)) = W2 := ⟨_, rfl⟩
      rw [hW2] at hb2 e2 ⊢
      clear hW2
      have hx : ∀ i u, [Value.string x.f0, .string x.f1.f0, .slice A2 x.f1.f1.length c2, .bool x.f2][i]? = some u → ∀ Wq, Below W2.heap.size W2 Wq → Wq.cell? ⟨wr.heap.size, i, none⟩ = some u := fun i u hu Wq hq => below_cell hq (by
        unfold World.cell?; rw [e2]; simpa using hu)
      have k0 := hx 0 _ rfl
      have k1 := hx 1 _ rfl
      have k2 := hx 2 _ rfl
      have k3 := hx 3 _ rfl
      have callA : ∀ Wq, Below W2.heap.size W2 Wq → Calls Try.prog 51 #[.agg #[.string x.f0, .string x.f1.f0, .slice A2 x.f1.f1.length c2, .bool x.f2]] Wq fun e w'' => e = .returned (.bool (loanOK x)) ∧ Below W2.heap.size W2 w'' := fun Wq hq =>
        (envLoan x A2 c2 Wq).mono fun e w'' h => ⟨h.1, hq.trans (h.2.mono hq.size)⟩
      have eA := enters_of Try.func51 (by kernel_rfl) rfl
      have eB := enters_of Try.func8 (by kernel_rfl) rfl
      have bk : Below w.heap.size w W2 := BW.out.trans (hb2.mono BW.out.size)
      clear hx e2
      cases hlo : loanOK x with
      | false =>
        rw [hlo] at callA
        have hall : risingB ls = false := by
          rw [HR.out, List.drop_eq_getElem_cons hlt]
          have e : ls[kk] = x := by rw [List.getElem?_eq_getElem hlt] at hrd; exact Option.some.inj hrd
          rw [e]
          cases prevAt ls kk <;> simp [risingFrom, hlo]
        clear hlo
        refine region_cls (fun W' => Below W2.heap.size W2 W') (by kernel_rfl) (by kernel_rfl) (below_drew1 (Below.refl _ W2)) ?_
        go_big_quiet_want
        refine ⟨.agg #[.string x.f0, .string x.f1.f0, .slice A2 x.f1.f1.length c2, .bool x.f2], fun Wq hWq => ?_, ?_⟩
        · have q0 := k0 Wq hWq
          have q1 := k1 Wq hWq
          have q2 := k2 Wq hWq
          have q3 := k3 Wq hWq
          have ca := callA Wq hWq
          clear k0 k1 k2 k3 callA
          unfold Oper.quietAt
          go_simp
        simp only [Act.put, List.setIfInBounds_toArray, List.set_cons_zero, List.set_cons_succ]
        go_big_quiet_on
        go_big_quiet_want
        refine ⟨.bool false, fun Wq hWq => ?_, ?_⟩
        · have q0 := k0 Wq hWq
          have q1 := k1 Wq hWq
          have q2 := k2 Wq hWq
          have q3 := k3 Wq hWq
          have ca := callA Wq hWq
          clear k0 k1 k2 k3 callA
          unfold Oper.quietAt
          go_simp
        simp only [Act.put, List.setIfInBounds_toArray, List.set_cons_zero, List.set_cons_succ]
        go_big_quiet_on
        go_big_quiet_want
        refine ⟨.bool true, fun Wq hWq => ?_, ?_⟩
        · have q0 := k0 Wq hWq
          have q1 := k1 Wq hWq
          have q2 := k2 Wq hWq
          have q3 := k3 Wq hWq
          have ca := callA Wq hWq
          clear k0 k1 k2 k3 callA
          unfold Oper.quietAt
          go_simp
        simp only [Act.put, List.setIfInBounds_toArray, List.set_cons_zero, List.set_cons_succ]
        go_big_quiet_on
        go_big_quiet_want
        refine ⟨.bool true, fun Wq hWq => ?_, ?_⟩
        · have q0 := k0 Wq hWq
          have q1 := k1 Wq hWq
          have q2 := k2 Wq hWq
          have q3 := k3 Wq hWq
          have ca := callA Wq hWq
          clear k0 k1 k2 k3 callA
          unfold Oper.quietAt
          go_simp
        simp only [Act.put, List.setIfInBounds_toArray, List.set_cons_zero, List.set_cons_succ]
        go_big_quiet_on
        go_big_quiet_skip
        go_big_quiet_skip
        go_big_quiet_skip
        go_big_quiet_skip
        go_big_quiet_skip
        go_big_quiet_skip
        go_big_quiet_skip
        go_big_quiet_skip
        go_big_quiet_skip
        go_big_quiet_skip
        go_big_quiet_skip
        go_big_quiet_skip
        go_big_quiet_want
        refine ⟨.bool true, fun Wq hWq => ?_, ?_⟩
        · have q0 := k0 Wq hWq
          have q1 := k1 Wq hWq
          have q2 := k2 Wq hWq
          have q3 := k3 Wq hWq
          have ca := callA Wq hWq
          clear k0 k1 k2 k3 callA
          unfold Oper.quietAt
          go_simp
        simp only [Act.put, List.setIfInBounds_toArray, List.set_cons_zero, List.set_cons_succ]
        go_big_quiet_on
        refine wpQuiet_nil ?_
        intro W3 hW3
        clear k0 k1 k2 k3 callA
        go_wp2 <;> skip
        go_ret
        exact ⟨by rw [hall]; rfl, bk.trans (hW3.mono bk.size)⟩
      | true =>
        rw [hlo] at callA
        by_cases h0 : kk = 0
        · subst h0
          have hnext : risingB ls = risingFrom (prevAt ls (0 + 1)) (ls.drop (0 + 1)) := by
            rw [HR.out, List.drop_eq_getElem_cons hlt]
            have e : ls[0] = x := by rw [List.getElem?_eq_getElem hlt] at hrd; exact Option.some.inj hrd
            rw [e]
            simp [risingFrom, prevAt, hlo, hrd]
          clear hlo
          refine region_cls (fun W' => Below W2.heap.size W2 W') (by kernel_rfl) (by kernel_rfl) (below_drew1 (Below.refl _ W2)) ?_
          go_big_quiet_want
          refine ⟨.agg #[.string x.f0, .string x.f1.f0, .slice A2 x.f1.f1.length c2, .bool x.f2], fun Wq hWq => ?_, ?_⟩
          · have q0 := k0 Wq hWq
            have q1 := k1 Wq hWq
            have q2 := k2 Wq hWq
            have q3 := k3 Wq hWq
            have ca := callA Wq hWq
            clear k0 k1 k2 k3 callA
            unfold Oper.quietAt
            go_simp
          simp only [Act.put, List.setIfInBounds_toArray, List.set_cons_zero, List.set_cons_succ]
          go_big_quiet_on
          go_big_quiet_want
          refine ⟨.bool true, fun Wq hWq => ?_, ?_⟩
          · have q0 := k0 Wq hWq
            have q1 := k1 Wq hWq
            have q2 := k2 Wq hWq
            have q3 := k3 Wq hWq
            have ca := callA Wq hWq
            clear k0 k1 k2 k3 callA
            unfold Oper.quietAt
            go_simp
          simp only [Act.put, List.setIfInBounds_toArray, List.set_cons_zero, List.set_cons_succ]
          go_big_quiet_on
          go_big_quiet_want
          refine ⟨.bool false, fun Wq hWq => ?_, ?_⟩
          · have q0 := k0 Wq hWq
            have q1 := k1 Wq hWq
            have q2 := k2 Wq hWq
            have q3 := k3 Wq hWq
            have ca := callA Wq hWq
            clear k0 k1 k2 k3 callA
            unfold Oper.quietAt
            go_simp
          simp only [Act.put, List.setIfInBounds_toArray, List.set_cons_zero, List.set_cons_succ]
          go_big_quiet_on
          go_big_quiet_want
          refine ⟨.bool false, fun Wq hWq => ?_, ?_⟩
          · have q0 := k0 Wq hWq
            have q1 := k1 Wq hWq
            have q2 := k2 Wq hWq
            have q3 := k3 Wq hWq
            have ca := callA Wq hWq
            clear k0 k1 k2 k3 callA
            unfold Oper.quietAt
            go_simp
          simp only [Act.put, List.setIfInBounds_toArray, List.set_cons_zero, List.set_cons_succ]
          go_big_quiet_on
          go_big_quiet_want
          refine ⟨.int .i64 0, fun Wq hWq => ?_, ?_⟩
          · have q0 := k0 Wq hWq
            have q1 := k1 Wq hWq
            have q2 := k2 Wq hWq
            have q3 := k3 Wq hWq
            have ca := callA Wq hWq
            clear k0 k1 k2 k3 callA
            unfold Oper.quietAt
            go_simp
          simp only [Act.put, List.setIfInBounds_toArray, List.set_cons_zero, List.set_cons_succ]
          go_big_quiet_on
          go_big_quiet_want
          refine ⟨.bool false, fun Wq hWq => ?_, ?_⟩
          · have q0 := k0 Wq hWq
            have q1 := k1 Wq hWq
            have q2 := k2 Wq hWq
            have q3 := k3 Wq hWq
            have ca := callA Wq hWq
            clear k0 k1 k2 k3 callA
            unfold Oper.quietAt
            go_simp
          simp only [Act.put, List.setIfInBounds_toArray, List.set_cons_zero, List.set_cons_succ]
          go_big_quiet_on
          go_big_quiet_want
          refine ⟨.bool false, fun Wq hWq => ?_, ?_⟩
          · have q0 := k0 Wq hWq
            have q1 := k1 Wq hWq
            have q2 := k2 Wq hWq
            have q3 := k3 Wq hWq
            have ca := callA Wq hWq
            clear k0 k1 k2 k3 callA
            unfold Oper.quietAt
            go_simp
          simp only [Act.put, List.setIfInBounds_toArray, List.set_cons_zero, List.set_cons_succ]
          go_big_quiet_on
          go_big_quiet_skip
          go_big_quiet_skip
          go_big_quiet_skip
          go_big_quiet_skip
          go_big_quiet_skip
          go_big_quiet_skip
          go_big_quiet_skip
          go_big_quiet_skip
          go_big_quiet_want
          refine ⟨.bool false, fun Wq hWq => ?_, ?_⟩
          · have q0 := k0 Wq hWq
            have q1 := k1 Wq hWq
            have q2 := k2 Wq hWq
            have q3 := k3 Wq hWq
            have ca := callA Wq hWq
            clear k0 k1 k2 k3 callA
            unfold Oper.quietAt
            go_simp
          simp only [Act.put, List.setIfInBounds_toArray, List.set_cons_zero, List.set_cons_succ]
          go_big_quiet_on
          go_big_quiet_want
          refine ⟨.bool false, fun Wq hWq => ?_, ?_⟩
          · have q0 := k0 Wq hWq
            have q1 := k1 Wq hWq
            have q2 := k2 Wq hWq
            have q3 := k3 Wq hWq
            have ca := callA Wq hWq
            clear k0 k1 k2 k3 callA
            unfold Oper.quietAt
            go_simp
          simp only [Act.put, List.setIfInBounds_toArray, List.set_cons_zero, List.set_cons_succ]
          go_big_quiet_on
          refine wpQuiet_nil ?_
          intro W3 hW3
          clear k0 k1 k2 k3 callA
          go_wp2
          go_roundg (ls.length - 1)
          case measure => omega
          case rel => exact ⟨0 + 1, by omega, by omega, by go_num, bk.trans (hW3.mono bk.size), hnext⟩
        · obtain ⟨m, rfl⟩ : ∃ m, kk = m + 1 := ⟨kk - 1, by omega⟩
          have hm0 : (0 : Int) ≤ (m : Int) := by omega
          have hm1 : (m : Int) < (ls.length : Int) := by omega
          have hm2 : (m : Int) + 1 ≤ 9223372036854775807 := by omega
          have hm3 : (0 : Int) < (m : Int) + 1 := by omega
          have hwm : IntKind.i64.wrap (m : Int) = (m : Int) := by rw [i64_w]; unfold wrap64; omega
          obtain ⟨ad', B2, d2, ead, y0, y1, y2, y3, n2, h2⟩ := at_T27 (Kd.C_below hC bk) (m : Int) (by omega) hm1
          cases ead
          have hrdy : ls[m]? = some (rd_T27 ls (m : Int)) := by
            simp only [rd_T27, Int.toNat_natCast, List.getD_eq_getElem?_getD, List.getElem?_eq_getElem (show m < ls.length by omega), Option.getD_some]
          simp only [Int.toNat_natCast] at y0 y1 y2 y3
          generalize rd_T27 ls (m : Int) = y at *
          have m0 := fun Wq (hq : Below W2.heap.size W2 Wq) => below_cell hq y0
          have m1 := fun Wq (hq : Below W2.heap.size W2 Wq) => below_cell hq y1
          have m2 := fun Wq (hq : Below W2.heap.size W2 Wq) => below_cell hq y2
          have m3 := fun Wq (hq : Below W2.heap.size W2 Wq) => below_cell hq y3
          have g2' := Kd.C_below g2 hb2
          have callB : ∀ Wq, Below W2.heap.size W2 Wq → Calls Try.prog 8 #[.agg #[.string y.f0, .string y.f1.f0, .slice B2 y.f1.f1.length d2, .bool y.f2], .agg #[.string x.f0, .string x.f1.f0, .slice A2 x.f1.f1.length c2, .bool x.f2]] Wq fun e w'' => e = .returned (.int .i64 (cmpLoan y x)) ∧ Below W2.heap.size W2 w'' := fun Wq hq =>
            (envCmp y x B2 d2 A2 c2 Wq (Kd.C_below h2 hq) n2 (Kd.C_below g2' hq) l2).mono fun e w'' h => ⟨h.1, hq.trans (h.2.mono hq.size)⟩
          have hstep : risingB ls = ((loanOK x && decide (cmpLoan y x < 0)) && risingFrom (prevAt ls (m + 1 + 1)) (ls.drop (m + 1 + 1))) := by
            rw [HR.out, List.drop_eq_getElem_cons hlt]
            have e : ls[m + 1] = x := by rw [List.getElem?_eq_getElem hlt] at hrd; exact Option.some.inj hrd
            rw [e]
            simp [risingFrom, prevAt, hrd, hrdy]
          rw [hlo] at hstep
          clear hlo y0 y1 y2 y3 hrd hrdy h0
          generalize hcy : cmpLoan y x = cy at *
          clear hcy
          by_cases hneg : 0 ≤ cy
          · have hd1 : decide (0 ≤ cy) = true := decide_eq_true hneg
            have hall : risingB ls = false := by rw [hstep, decide_eq_false (by omega)]; rfl
            clear hstep
            refine region_cls (fun W' => Below W2.heap.size W2 W') (by kernel_rfl) (by kernel_rfl) (below_drew1 (Below.refl _ W2)) ?_
            go_big_quiet_want
            refine ⟨.agg #[.string x.f0, .string x.f1.f0, .slice A2 x.f1.f1.length c2, .bool x.f2], fun Wq hWq => ?_, ?_⟩
            · have q0 := k0 Wq hWq
              have q1 := k1 Wq hWq
              have q2 := k2 Wq hWq
              have q3 := k3 Wq hWq
              have ca := callA Wq hWq
              have p0 := m0 Wq hWq
              have p1 := m1 Wq hWq
              have p2 := m2 Wq hWq
              have p3 := m3 Wq hWq
              have cb := callB Wq hWq
              clear k0 k1 k2 k3 callA m0 m1 m2 m3 callB
              unfold Oper.quietAt
              go_simp
            simp only [Act.put, List.setIfInBounds_toArray, List.set_cons_zero, List.set_cons_succ]
            go_big_quiet_on
            go_big_quiet_want
            refine ⟨.bool true, fun Wq hWq => ?_, ?_⟩
            · have q0 := k0 Wq hWq
              have q1 := k1 Wq hWq
              have q2 := k2 Wq hWq
              have q3 := k3 Wq hWq
              have ca := callA Wq hWq
              have p0 := m0 Wq hWq
              have p1 := m1 Wq hWq
              have p2 := m2 Wq hWq
              have p3 := m3 Wq hWq
              have cb := callB Wq hWq
              clear k0 k1 k2 k3 callA m0 m1 m2 m3 callB
              unfold Oper.quietAt
              go_simp
            simp only [Act.put, List.setIfInBounds_toArray, List.set_cons_zero, List.set_cons_succ]
            go_big_quiet_on
            go_big_quiet_want
            refine ⟨.bool false, fun Wq hWq => ?_, ?_⟩
            · have q0 := k0 Wq hWq
              have q1 := k1 Wq hWq
              have q2 := k2 Wq hWq
              have q3 := k3 Wq hWq
              have ca := callA Wq hWq
              have p0 := m0 Wq hWq
              have p1 := m1 Wq hWq
              have p2 := m2 Wq hWq
              have p3 := m3 Wq hWq
              have cb := callB Wq hWq
              clear k0 k1 k2 k3 callA m0 m1 m2 m3 callB
              unfold Oper.quietAt
              go_simp
            simp only [Act.put, List.setIfInBounds_toArray, List.set_cons_zero, List.set_cons_succ]
            go_big_quiet_on
            go_big_quiet_want
            refine ⟨.bool false, fun Wq hWq => ?_, ?_⟩
            · have q0 := k0 Wq hWq
              have q1 := k1 Wq hWq
              have q2 := k2 Wq hWq
              have q3 := k3 Wq hWq
              have ca := callA Wq hWq
              have p0 := m0 Wq hWq
              have p1 := m1 Wq hWq
              have p2 := m2 Wq hWq
              have p3 := m3 Wq hWq
              have cb := callB Wq hWq
              clear k0 k1 k2 k3 callA m0 m1 m2 m3 callB
              unfold Oper.quietAt
              go_simp
            simp only [Act.put, List.setIfInBounds_toArray, List.set_cons_zero, List.set_cons_succ]
            go_big_quiet_on
            go_big_quiet_want
            refine ⟨.int .i64 ((m : Int) + 1), fun Wq hWq => ?_, ?_⟩
            · have q0 := k0 Wq hWq
              have q1 := k1 Wq hWq
              have q2 := k2 Wq hWq
              have q3 := k3 Wq hWq
              have ca := callA Wq hWq
              have p0 := m0 Wq hWq
              have p1 := m1 Wq hWq
              have p2 := m2 Wq hWq
              have p3 := m3 Wq hWq
              have cb := callB Wq hWq
              clear k0 k1 k2 k3 callA m0 m1 m2 m3 callB
              unfold Oper.quietAt
              go_simp
            simp only [Act.put, List.setIfInBounds_toArray, List.set_cons_zero, List.set_cons_succ]
            go_big_quiet_on
            go_big_quiet_want
            refine ⟨.bool true, fun Wq hWq => ?_, ?_⟩
            · have q0 := k0 Wq hWq
              have q1 := k1 Wq hWq
              have q2 := k2 Wq hWq
              have q3 := k3 Wq hWq
              have ca := callA Wq hWq
              have p0 := m0 Wq hWq
              have p1 := m1 Wq hWq
              have p2 := m2 Wq hWq
              have p3 := m3 Wq hWq
              have cb := callB Wq hWq
              clear k0 k1 k2 k3 callA m0 m1 m2 m3 callB
              unfold Oper.quietAt
              go_simp
            simp only [Act.put, List.setIfInBounds_toArray, List.set_cons_zero, List.set_cons_succ]
            go_big_quiet_on
            go_big_quiet_want
            refine ⟨.bool true, fun Wq hWq => ?_, ?_⟩
            · have q0 := k0 Wq hWq
              have q1 := k1 Wq hWq
              have q2 := k2 Wq hWq
              have q3 := k3 Wq hWq
              have ca := callA Wq hWq
              have p0 := m0 Wq hWq
              have p1 := m1 Wq hWq
              have p2 := m2 Wq hWq
              have p3 := m3 Wq hWq
              have cb := callB Wq hWq
              clear k0 k1 k2 k3 callA m0 m1 m2 m3 callB
              unfold Oper.quietAt
              go_simp
            simp only [Act.put, List.setIfInBounds_toArray, List.set_cons_zero, List.set_cons_succ]
            go_big_quiet_on
            go_big_quiet_want
            refine ⟨.slice (some ad) ls.length c, fun Wq hWq => ?_, ?_⟩
            · have q0 := k0 Wq hWq
              have q1 := k1 Wq hWq
              have q2 := k2 Wq hWq
              have q3 := k3 Wq hWq
              have ca := callA Wq hWq
              have p0 := m0 Wq hWq
              have p1 := m1 Wq hWq
              have p2 := m2 Wq hWq
              have p3 := m3 Wq hWq
              have cb := callB Wq hWq
              clear k0 k1 k2 k3 callA m0 m1 m2 m3 callB
              unfold Oper.quietAt
              go_simp
            simp only [Act.put, List.setIfInBounds_toArray, List.set_cons_zero, List.set_cons_succ]
            go_big_quiet_on
            go_big_quiet_want
            refine ⟨.int .i64 ((m : Int) + 1), fun Wq hWq => ?_, ?_⟩
            · have q0 := k0 Wq hWq
              have q1 := k1 Wq hWq
              have q2 := k2 Wq hWq
              have q3 := k3 Wq hWq
              have ca := callA Wq hWq
              have p0 := m0 Wq hWq
              have p1 := m1 Wq hWq
              have p2 := m2 Wq hWq
              have p3 := m3 Wq hWq
              have cb := callB Wq hWq
              clear k0 k1 k2 k3 callA m0 m1 m2 m3 callB
              unfold Oper.quietAt
              go_simp
            simp only [Act.put, List.setIfInBounds_toArray, List.set_cons_zero, List.set_cons_succ]
            go_big_quiet_on
            go_big_quiet_want
            refine ⟨.int .i64 (m : Int), fun Wq hWq => ?_, ?_⟩
            · have q0 := k0 Wq hWq
              have q1 := k1 Wq hWq
              have q2 := k2 Wq hWq
              have q3 := k3 Wq hWq
              have ca := callA Wq hWq
              have p0 := m0 Wq hWq
              have p1 := m1 Wq hWq
              have p2 := m2 Wq hWq
              have p3 := m3 Wq hWq
              have cb := callB Wq hWq
              clear k0 k1 k2 k3 callA m0 m1 m2 m3 callB
              unfold Oper.quietAt
              go_simp
            simp only [Act.put, List.setIfInBounds_toArray, List.set_cons_zero, List.set_cons_succ]
            go_big_quiet_on
            go_big_quiet_want
            refine ⟨.pointer (some (ad.add (m * 4))), fun Wq hWq => ?_, ?_⟩
            · have q0 := k0 Wq hWq
              have q1 := k1 Wq hWq
              have q2 := k2 Wq hWq
              have q3 := k3 Wq hWq
              have ca := callA Wq hWq
              have p0 := m0 Wq hWq
              have p1 := m1 Wq hWq
              have p2 := m2 Wq hWq
              have p3 := m3 Wq hWq
              have cb := callB Wq hWq
              clear k0 k1 k2 k3 callA m0 m1 m2 m3 callB
              unfold Oper.quietAt
              go_simp
            simp only [Act.put, List.setIfInBounds_toArray, List.set_cons_zero, List.set_cons_succ]
            go_big_quiet_on
            go_big_quiet_want
            refine ⟨.agg #[.string y.f0, .string y.f1.f0, .slice B2 y.f1.f1.length d2, .bool y.f2], fun Wq hWq => ?_, ?_⟩
            · have q0 := k0 Wq hWq
              have q1 := k1 Wq hWq
              have q2 := k2 Wq hWq
              have q3 := k3 Wq hWq
              have ca := callA Wq hWq
              have p0 := m0 Wq hWq
              have p1 := m1 Wq hWq
              have p2 := m2 Wq hWq
              have p3 := m3 Wq hWq
              have cb := callB Wq hWq
              clear k0 k1 k2 k3 callA m0 m1 m2 m3 callB
              unfold Oper.quietAt
              go_simp
            simp only [Act.put, List.setIfInBounds_toArray, List.set_cons_zero, List.set_cons_succ]
            go_big_quiet_on
            go_big_quiet_want
            refine ⟨.agg #[.string x.f0, .string x.f1.f0, .slice A2 x.f1.f1.length c2, .bool x.f2], fun Wq hWq => ?_, ?_⟩
            · have q0 := k0 Wq hWq
              have q1 := k1 Wq hWq
              have q2 := k2 Wq hWq
              have q3 := k3 Wq hWq
              have ca := callA Wq hWq
              have p0 := m0 Wq hWq
              have p1 := m1 Wq hWq
              have p2 := m2 Wq hWq
              have p3 := m3 Wq hWq
              have cb := callB Wq hWq
              clear k0 k1 k2 k3 callA m0 m1 m2 m3 callB
              unfold Oper.quietAt
              go_simp
            simp only [Act.put, List.setIfInBounds_toArray, List.set_cons_zero, List.set_cons_succ]
            go_big_quiet_on
            go_big_quiet_want
            refine ⟨.int .i64 (cy), fun Wq hWq => ?_, ?_⟩
            · have q0 := k0 Wq hWq
              have q1 := k1 Wq hWq
              have q2 := k2 Wq hWq
              have q3 := k3 Wq hWq
              have ca := callA Wq hWq
              have p0 := m0 Wq hWq
              have p1 := m1 Wq hWq
              have p2 := m2 Wq hWq
              have p3 := m3 Wq hWq
              have cb := callB Wq hWq
              clear k0 k1 k2 k3 callA m0 m1 m2 m3 callB
              unfold Oper.quietAt
              go_simp
            simp only [Act.put, List.setIfInBounds_toArray, List.set_cons_zero, List.set_cons_succ]
            go_big_quiet_on
            go_big_quiet_want
            refine ⟨.bool true, fun Wq hWq => ?_, ?_⟩
            · have q0 := k0 Wq hWq
              have q1 := k1 Wq hWq
              have q2 := k2 Wq hWq
              have q3 := k3 Wq hWq
              have ca := callA Wq hWq
              have p0 := m0 Wq hWq
              have p1 := m1 Wq hWq
              have p2 := m2 Wq hWq
              have p3 := m3 Wq hWq
              have cb := callB Wq hWq
              clear k0 k1 k2 k3 callA m0 m1 m2 m3 callB
              unfold Oper.quietAt
              go_simp
            simp only [Act.put, List.setIfInBounds_toArray, List.set_cons_zero, List.set_cons_succ]
            go_big_quiet_on
            go_big_quiet_want
            refine ⟨.bool true, fun Wq hWq => ?_, ?_⟩
            · have q0 := k0 Wq hWq
              have q1 := k1 Wq hWq
              have q2 := k2 Wq hWq
              have q3 := k3 Wq hWq
              have ca := callA Wq hWq
              have p0 := m0 Wq hWq
              have p1 := m1 Wq hWq
              have p2 := m2 Wq hWq
              have p3 := m3 Wq hWq
              have cb := callB Wq hWq
              clear k0 k1 k2 k3 callA m0 m1 m2 m3 callB
              unfold Oper.quietAt
              go_simp
            simp only [Act.put, List.setIfInBounds_toArray, List.set_cons_zero, List.set_cons_succ]
            go_big_quiet_on
            go_big_quiet_want
            refine ⟨.bool true, fun Wq hWq => ?_, ?_⟩
            · have q0 := k0 Wq hWq
              have q1 := k1 Wq hWq
              have q2 := k2 Wq hWq
              have q3 := k3 Wq hWq
              have ca := callA Wq hWq
              have p0 := m0 Wq hWq
              have p1 := m1 Wq hWq
              have p2 := m2 Wq hWq
              have p3 := m3 Wq hWq
              have cb := callB Wq hWq
              clear k0 k1 k2 k3 callA m0 m1 m2 m3 callB
              unfold Oper.quietAt
              go_simp
            simp only [Act.put, List.setIfInBounds_toArray, List.set_cons_zero, List.set_cons_succ]
            go_big_quiet_on
            refine wpQuiet_nil ?_
            intro W3 hW3
            clear k0 k1 k2 k3 callA m0 m1 m2 m3 callB
            go_wp2
            go_ret
            exact ⟨by first | rfl | (rw [hall]; rfl), bk.trans (hW3.mono bk.size)⟩
          · have hd1 : decide (0 ≤ cy) = false := decide_eq_false hneg
            have hnext : risingB ls = risingFrom (prevAt ls (m + 1 + 1)) (ls.drop (m + 1 + 1)) := by rw [hstep, decide_eq_true (by omega)]; rfl
            clear hstep
            refine region_cls (fun W' => Below W2.heap.size W2 W') (by kernel_rfl) (by kernel_rfl) (below_drew1 (Below.refl _ W2)) ?_
            go_big_quiet_want
            refine ⟨.agg #[.string x.f0, .string x.f1.f0, .slice A2 x.f1.f1.length c2, .bool x.f2], fun Wq hWq => ?_, ?_⟩
            · have q0 := k0 Wq hWq
              have q1 := k1 Wq hWq
              have q2 := k2 Wq hWq
              have q3 := k3 Wq hWq
              have ca := callA Wq hWq
              have p0 := m0 Wq hWq
              have p1 := m1 Wq hWq
              have p2 := m2 Wq hWq
              have p3 := m3 Wq hWq
              have cb := callB Wq hWq
              clear k0 k1 k2 k3 callA m0 m1 m2 m3 callB
              unfold Oper.quietAt
              go_simp
            simp only [Act.put, List.setIfInBounds_toArray, List.set_cons_zero, List.set_cons_succ]
            go_big_quiet_on
            go_big_quiet_want
            refine ⟨.bool true, fun Wq hWq => ?_, ?_⟩
            · have q0 := k0 Wq hWq
              have q1 := k1 Wq hWq
              have q2 := k2 Wq hWq
              have q3 := k3 Wq hWq
              have ca := callA Wq hWq
              have p0 := m0 Wq hWq
              have p1 := m1 Wq hWq
              have p2 := m2 Wq hWq
              have p3 := m3 Wq hWq
              have cb := callB Wq hWq
              clear k0 k1 k2 k3 callA m0 m1 m2 m3 callB
              unfold Oper.quietAt
              go_simp
            simp only [Act.put, List.setIfInBounds_toArray, List.set_cons_zero, List.set_cons_succ]
            go_big_quiet_on
            go_big_quiet_want
            refine ⟨.bool false, fun Wq hWq => ?_, ?_⟩
            · have q0 := k0 Wq hWq
              have q1 := k1 Wq hWq
              have q2 := k2 Wq hWq
              have q3 := k3 Wq hWq
              have ca := callA Wq hWq
              have p0 := m0 Wq hWq
              have p1 := m1 Wq hWq
              have p2 := m2 Wq hWq
              have p3 := m3 Wq hWq
              have cb := callB Wq hWq
              clear k0 k1 k2 k3 callA m0 m1 m2 m3 callB
              unfold Oper.quietAt
              go_simp
            simp only [Act.put, List.setIfInBounds_toArray, List.set_cons_zero, List.set_cons_succ]
            go_big_quiet_on
            go_big_quiet_want
            refine ⟨.bool false, fun Wq hWq => ?_, ?_⟩
            · have q0 := k0 Wq hWq
              have q1 := k1 Wq hWq
              have q2 := k2 Wq hWq
              have q3 := k3 Wq hWq
              have ca := callA Wq hWq
              have p0 := m0 Wq hWq
              have p1 := m1 Wq hWq
              have p2 := m2 Wq hWq
              have p3 := m3 Wq hWq
              have cb := callB Wq hWq
              clear k0 k1 k2 k3 callA m0 m1 m2 m3 callB
              unfold Oper.quietAt
              go_simp
            simp only [Act.put, List.setIfInBounds_toArray, List.set_cons_zero, List.set_cons_succ]
            go_big_quiet_on
            go_big_quiet_want
            refine ⟨.int .i64 ((m : Int) + 1), fun Wq hWq => ?_, ?_⟩
            · have q0 := k0 Wq hWq
              have q1 := k1 Wq hWq
              have q2 := k2 Wq hWq
              have q3 := k3 Wq hWq
              have ca := callA Wq hWq
              have p0 := m0 Wq hWq
              have p1 := m1 Wq hWq
              have p2 := m2 Wq hWq
              have p3 := m3 Wq hWq
              have cb := callB Wq hWq
              clear k0 k1 k2 k3 callA m0 m1 m2 m3 callB
              unfold Oper.quietAt
              go_simp
            simp only [Act.put, List.setIfInBounds_toArray, List.set_cons_zero, List.set_cons_succ]
            go_big_quiet_on
            go_big_quiet_want
            refine ⟨.bool true, fun Wq hWq => ?_, ?_⟩
            · have q0 := k0 Wq hWq
              have q1 := k1 Wq hWq
              have q2 := k2 Wq hWq
              have q3 := k3 Wq hWq
              have ca := callA Wq hWq
              have p0 := m0 Wq hWq
              have p1 := m1 Wq hWq
              have p2 := m2 Wq hWq
              have p3 := m3 Wq hWq
              have cb := callB Wq hWq
              clear k0 k1 k2 k3 callA m0 m1 m2 m3 callB
              unfold Oper.quietAt
              go_simp
            simp only [Act.put, List.setIfInBounds_toArray, List.set_cons_zero, List.set_cons_succ]
            go_big_quiet_on
            go_big_quiet_want
            refine ⟨.bool true, fun Wq hWq => ?_, ?_⟩
            · have q0 := k0 Wq hWq
              have q1 := k1 Wq hWq
              have q2 := k2 Wq hWq
              have q3 := k3 Wq hWq
              have ca := callA Wq hWq
              have p0 := m0 Wq hWq
              have p1 := m1 Wq hWq
              have p2 := m2 Wq hWq
              have p3 := m3 Wq hWq
              have cb := callB Wq hWq
              clear k0 k1 k2 k3 callA m0 m1 m2 m3 callB
              unfold Oper.quietAt
              go_simp
            simp only [Act.put, List.setIfInBounds_toArray, List.set_cons_zero, List.set_cons_succ]
            go_big_quiet_on
            go_big_quiet_want
            refine ⟨.slice (some ad) ls.length c, fun Wq hWq => ?_, ?_⟩
            · have q0 := k0 Wq hWq
              have q1 := k1 Wq hWq
              have q2 := k2 Wq hWq
              have q3 := k3 Wq hWq
              have ca := callA Wq hWq
              have p0 := m0 Wq hWq
              have p1 := m1 Wq hWq
              have p2 := m2 Wq hWq
              have p3 := m3 Wq hWq
              have cb := callB Wq hWq
              clear k0 k1 k2 k3 callA m0 m1 m2 m3 callB
              unfold Oper.quietAt
              go_simp
            simp only [Act.put, List.setIfInBounds_toArray, List.set_cons_zero, List.set_cons_succ]
            go_big_quiet_on
            go_big_quiet_want
            refine ⟨.int .i64 ((m : Int) + 1), fun Wq hWq => ?_, ?_⟩
            · have q0 := k0 Wq hWq
              have q1 := k1 Wq hWq
              have q2 := k2 Wq hWq
              have q3 := k3 Wq hWq
              have ca := callA Wq hWq
              have p0 := m0 Wq hWq
              have p1 := m1 Wq hWq
              have p2 := m2 Wq hWq
              have p3 := m3 Wq hWq
              have cb := callB Wq hWq
              clear k0 k1 k2 k3 callA m0 m1 m2 m3 callB
              unfold Oper.quietAt
              go_simp
            simp only [Act.put, List.setIfInBounds_toArray, List.set_cons_zero, List.set_cons_succ]
            go_big_quiet_on
            go_big_quiet_want
            refine ⟨.int .i64 (m : Int), fun Wq hWq => ?_, ?_⟩
            · have q0 := k0 Wq hWq
              have q1 := k1 Wq hWq
              have q2 := k2 Wq hWq
              have q3 := k3 Wq hWq
              have ca := callA Wq hWq
              have p0 := m0 Wq hWq
              have p1 := m1 Wq hWq
              have p2 := m2 Wq hWq
              have p3 := m3 Wq hWq
              have cb := callB Wq hWq
              clear k0 k1 k2 k3 callA m0 m1 m2 m3 callB
              unfold Oper.quietAt
              go_simp
            simp only [Act.put, List.setIfInBounds_toArray, List.set_cons_zero, List.set_cons_succ]
            go_big_quiet_on
            go_big_quiet_want
            refine ⟨.pointer (some (ad.add (m * 4))), fun Wq hWq => ?_, ?_⟩
            · have q0 := k0 Wq hWq
              have q1 := k1 Wq hWq
              have q2 := k2 Wq hWq
              have q3 := k3 Wq hWq
              have ca := callA Wq hWq
              have p0 := m0 Wq hWq
              have p1 := m1 Wq hWq
              have p2 := m2 Wq hWq
              have p3 := m3 Wq hWq
              have cb := callB Wq hWq
              clear k0 k1 k2 k3 callA m0 m1 m2 m3 callB
              unfold Oper.quietAt
              go_simp
            simp only [Act.put, List.setIfInBounds_toArray, List.set_cons_zero, List.set_cons_succ]
            go_big_quiet_on
            go_big_quiet_want
            refine ⟨.agg #[.string y.f0, .string y.f1.f0, .slice B2 y.f1.f1.length d2, .bool y.f2], fun Wq hWq => ?_, ?_⟩
            · have q0 := k0 Wq hWq
              have q1 := k1 Wq hWq
              have q2 := k2 Wq hWq
              have q3 := k3 Wq hWq
              have ca := callA Wq hWq
              have p0 := m0 Wq hWq
              have p1 := m1 Wq hWq
              have p2 := m2 Wq hWq
              have p3 := m3 Wq hWq
              have cb := callB Wq hWq
              clear k0 k1 k2 k3 callA m0 m1 m2 m3 callB
              unfold Oper.quietAt
              go_simp
            simp only [Act.put, List.setIfInBounds_toArray, List.set_cons_zero, List.set_cons_succ]
            go_big_quiet_on
            go_big_quiet_want
            refine ⟨.agg #[.string x.f0, .string x.f1.f0, .slice A2 x.f1.f1.length c2, .bool x.f2], fun Wq hWq => ?_, ?_⟩
            · have q0 := k0 Wq hWq
              have q1 := k1 Wq hWq
              have q2 := k2 Wq hWq
              have q3 := k3 Wq hWq
              have ca := callA Wq hWq
              have p0 := m0 Wq hWq
              have p1 := m1 Wq hWq
              have p2 := m2 Wq hWq
              have p3 := m3 Wq hWq
              have cb := callB Wq hWq
              clear k0 k1 k2 k3 callA m0 m1 m2 m3 callB
              unfold Oper.quietAt
              go_simp
            simp only [Act.put, List.setIfInBounds_toArray, List.set_cons_zero, List.set_cons_succ]
            go_big_quiet_on
            go_big_quiet_want
            refine ⟨.int .i64 (cy), fun Wq hWq => ?_, ?_⟩
            · have q0 := k0 Wq hWq
              have q1 := k1 Wq hWq
              have q2 := k2 Wq hWq
              have q3 := k3 Wq hWq
              have ca := callA Wq hWq
              have p0 := m0 Wq hWq
              have p1 := m1 Wq hWq
              have p2 := m2 Wq hWq
              have p3 := m3 Wq hWq
              have cb := callB Wq hWq
              clear k0 k1 k2 k3 callA m0 m1 m2 m3 callB
              unfold Oper.quietAt
              go_simp
            simp only [Act.put, List.setIfInBounds_toArray, List.set_cons_zero, List.set_cons_succ]
            go_big_quiet_on
            go_big_quiet_want
            refine ⟨.bool false, fun Wq hWq => ?_, ?_⟩
            · have q0 := k0 Wq hWq
              have q1 := k1 Wq hWq
              have q2 := k2 Wq hWq
              have q3 := k3 Wq hWq
              have ca := callA Wq hWq
              have p0 := m0 Wq hWq
              have p1 := m1 Wq hWq
              have p2 := m2 Wq hWq
              have p3 := m3 Wq hWq
              have cb := callB Wq hWq
              clear k0 k1 k2 k3 callA m0 m1 m2 m3 callB
              unfold Oper.quietAt
              go_simp
            simp only [Act.put, List.setIfInBounds_toArray, List.set_cons_zero, List.set_cons_succ]
            go_big_quiet_on
            go_big_quiet_want
            refine ⟨.bool false, fun Wq hWq => ?_, ?_⟩
            · have q0 := k0 Wq hWq
              have q1 := k1 Wq hWq
              have q2 := k2 Wq hWq
              have q3 := k3 Wq hWq
              have ca := callA Wq hWq
              have p0 := m0 Wq hWq
              have p1 := m1 Wq hWq
              have p2 := m2 Wq hWq
              have p3 := m3 Wq hWq
              have cb := callB Wq hWq
              clear k0 k1 k2 k3 callA m0 m1 m2 m3 callB
              unfold Oper.quietAt
              go_simp
            simp only [Act.put, List.setIfInBounds_toArray, List.set_cons_zero, List.set_cons_succ]
            go_big_quiet_on
            go_big_quiet_want
            refine ⟨.bool false, fun Wq hWq => ?_, ?_⟩
            · have q0 := k0 Wq hWq
              have q1 := k1 Wq hWq
              have q2 := k2 Wq hWq
              have q3 := k3 Wq hWq
              have ca := callA Wq hWq
              have p0 := m0 Wq hWq
              have p1 := m1 Wq hWq
              have p2 := m2 Wq hWq
              have p3 := m3 Wq hWq
              have cb := callB Wq hWq
              clear k0 k1 k2 k3 callA m0 m1 m2 m3 callB
              unfold Oper.quietAt
              go_simp
            simp only [Act.put, List.setIfInBounds_toArray, List.set_cons_zero, List.set_cons_succ]
            go_big_quiet_on
            refine wpQuiet_nil ?_
            intro W3 hW3
            clear k0 k1 k2 k3 callA m0 m1 m2 m3 callB
            go_wp2
            go_roundg (ls.length - (m + 1 + 1))
            case measure => omega
            case rel => exact ⟨m + 1 + 1, by omega, by omega, by go_num, bk.trans (hW3.mono bk.size), hnext⟩
    · have hltz : ¬ (kk : Int) < (ls.length : Int) := by omega
      have hall : risingB ls = true := by rw [HR.out, List.drop_eq_nil_of_le (by omega), risingFrom_nil]
      go_wp2
      go_ret
      exact ⟨by first | rfl | (rw [hall]; rfl), BW.out⟩

end Go.Proofs.Ytadjekpfehjibaa.PEnv

namespace Go.Proofs.Ytadjekpfehjibaa.PEnv
open Go.RowKit Go.Shelf Go.Proofs.YtadjekpfehjibaaW.PrintWords Go.Proofs.YtadjekpfehjibaaW.PrintLast Go.Proofs.YtadjekpfehjibaaW.PrintMore Go.Proofs.Ytadjekpfehjibaa.PEnvHits
set_option linter.unusedVariables false
set_option linter.unusedSimpArgs false

/-- The first test of env.right: what makes a type wrong by itself. -/
def headBad (t : S37) : Bool := ((!decide (t.f0 = 4) && (t.f1 || decide (0 < t.f3.length))) || ((decide (t.f0 = 4) && t.f2) && !t.f1)) || !risingB t.f3
def plainHead : List S37 → Bool
  | [] => true
  | k :: _ => plainT k
def tailOK (t : S37) : Bool :=
  if t.f0 = 1 then decide (t.f4.length = 0) && !t.f2
  else if t.f0 = 3 then (decide (2 ≤ t.f4.length) && decide (t.f4.length ≤ 30)) && !t.f2
  else ((decide (t.f0 = 4) || decide (t.f0 = 2)) && decide (t.f4.length = 1)) && plainHead t.f4
mutual
def rightT : S37 → Bool
  | ⟨a, b, c, d, e⟩ => (!headBad ⟨a, b, c, d, e⟩ && rightL e) && tailOK ⟨a, b, c, d, e⟩
def rightL : List S37 → Bool
  | [] => true
  | t :: ts => rightT t && rightL ts
end
theorem rightT_eq (t : S37) : rightT t = ((!headBad t && rightL t.f4) && tailOK t) := by cases t; rfl
theorem rightL_all : ∀ ts : List S37, rightL ts = ts.all rightT
  | [] => rfl
  | t :: ts => by rw [List.all_cons, ← rightL_all ts]; rfl

/-- A callee's word on a type: what it answers, at every place where the type may lie. -/
def TyWord (f : Nat) (ans : S37 → Bool) (t : S37) : Prop :=
  ∀ (A3 : Option Addr) (c3 : Nat) (A4 : Option Addr) (c4 : Nat) (w : World), t.f3.length ≤ c3 → Kd.C k27 w A3 t.f3.length t.f3 → t.f4.length ≤ c4 → Kd.C k37 w A4 t.f4.length t.f4 →
    Calls Try.prog f #[.agg #[.int .i64 t.f0, .bool t.f1, .bool t.f2, .slice A3 t.f3.length c3, .slice A4 t.f4.length c4]] w fun e w' => e = .returned (.bool (ans t)) ∧ Below w.heap.size w w'

set_option maxHeartbeats 1000000 in
/-- env.right$1. -/
theorem right1 (t : S37) (h : TyWord 28 rightT t) : TyWord 43 (fun t => !rightT t) t := by
  intro A3 c3 A4 c4 w l3 g3 l4 g4
  have hb : Below w.heap.size w (w.alloc (.cells #[.int .i64 t.f0, .bool t.f1, .bool t.f2, .slice A3 t.f3.length c3, .slice A4 t.f4.length c4] 37)) := (Below.refl _ w).alloc (Nat.le_refl _) _
  have hcall := h A3 c3 A4 c4 _ l3 (Kd.C_below g3 hb) l4 (Kd.C_below g4 hb)
  clear h
  go_enter Try.func43, Try.ntmps43
  go_wp2_with (go_at_call 28; refine hcall.mono ?_; rintro e w' ⟨rfl, hb2⟩)
  go_ret
  exact ⟨rfl, hb.trans (hb2.mono hb.size)⟩

/-- slices.ContainsFunc of kids, at a function whose word is known of each. -/
theorem conKids (f : Nat) (eg : ∀ args w, (callFunc f args).run Try.prog w = .ok (.enter f args) w) (ans : S37 → Bool) (ts : List S37) (h : ∀ k ∈ ts, TyWord f ans k) (A : Option Addr) (c : Nat) (W : World) (hC : Kd.C k37 W A ts.length ts) :
    Calls Try.prog 38 #[.slice A ts.length c, .func (.func f) #[] #[]] W fun e W' => e = .returned (.bool (ts.any ans)) ∧ Below W.heap.size W W' := by
  obtain ⟨vs, hv, hvK⟩ := els_of_C hC
  refine (conTy f #[] eg A ts.length c vs W W (fun i W' => Below W.heap.size W W' ∧ ∀ j l, j < i → ts[j]? = some l → ans l = false) (fun i W' => Below W.heap.size W W' ∧ ∃ l, ts[i]? = some l ∧ ans l = true)
    hv (fun i W' h => h.1) ?_ ⟨Below.refl _ _, fun j l hj => absurd hj (Nat.not_lt_zero _)⟩).mono ?_
  · rintro i cs W1 hi ⟨hb, hn⟩
    have hl : i < ts.length := by have := idx_lt hi; have := hv.1; omega
    obtain ⟨cs', e, hK⟩ := hvK i _ (List.getElem?_eq_getElem hl)
    rw [hi] at e
    cases e
    obtain ⟨A3, c3, A4, c4, rfl, l3, g3, l4, g4⟩ := k37_open hK
    refine (h ts[i] (List.getElem_mem hl) A3 c3 A4 c4 W1 l3 (Kd.C_below g3 hb) l4 (Kd.C_below g4 hb)).mono ?_
    rintro e W2 ⟨rfl, hb2⟩
    cases hh : ans ts[i] with
    | true => exact .inr ⟨rfl, hb.trans (hb2.mono hb.size), _, List.getElem?_eq_getElem hl, hh⟩
    | false =>
      refine .inl ⟨rfl, hb.trans (hb2.mono hb.size), fun j l hj hjl => ?_⟩
      by_cases hji : j = i
      · subst hji
        rw [List.getElem?_eq_getElem hl] at hjl
        cases hjl
        exact hh
      · exact hn j l (by omega) hjl
  · rintro e W1 (⟨rfl, hb, hn⟩ | ⟨rfl, k, hk, hb, l, hl, hh⟩)
    · refine ⟨?_, hb⟩
      have : ts.any ans = false := by
        rw [List.any_eq_false]
        intro l hl
        obtain ⟨j, hj⟩ := List.mem_iff_getElem?.mp hl
        rw [hn j l (idx_lt hj) hj]
        simp
      rw [this]
    · refine ⟨?_, hb⟩
      have : ts.any ans = true := List.any_eq_true.mpr ⟨l, List.mem_of_getElem? hl, hh⟩
      rw [this]


end Go.Proofs.Ytadjekpfehjibaa.PEnv

namespace Go.Proofs.Ytadjekpfehjibaa.PEnv
open Go.RowKit Go.Shelf Go.Proofs.YtadjekpfehjibaaW.PrintWords Go.Proofs.YtadjekpfehjibaaW.PrintLast Go.Proofs.YtadjekpfehjibaaW.PrintMore Go.Proofs.Ytadjekpfehjibaa.PEnvHits
set_option linter.unusedVariables false
set_option linter.unusedSimpArgs false

set_option maxRecDepth 100000 in
set_option maxHeartbeats 8000000 in
/-- env.right, one step (k4). -/
theorem right_k4 (t : S37) (hk4 : t.f0 = 4) (hk : ∀ k ∈ t.f4, TyWord 28 rightT k) : TyWord 28 rightT t := by
  intro A3 c3 A4 c4 w l3 g3 l4 g4
  have hk1 : t.f0 ≠ 1 := by omega
  have hk3 : t.f0 ≠ 3 := by omega
  have hk2 : t.f0 ≠ 2 := by omega
  have hb1 : Below w.heap.size w (w.alloc (.cells #[.int .i64 t.f0, .bool t.f1, .bool t.f2, .slice A3 t.f3.length c3, .slice A4 t.f4.length c4] 37)) := (Below.refl _ w).alloc (Nat.le_refl _) _
  have e1 := World.alloc_heap_new w (.cells #[.int .i64 t.f0, .bool t.f1, .bool t.f2, .slice A3 t.f3.length c3, .slice A4 t.f4.length c4] 37)
  have cellF : ∀ i u, [Value.int .i64 t.f0, .bool t.f1, .bool t.f2, .slice A3 t.f3.length c3, .slice A4 t.f4.length c4][i]? = some u → ∀ W, Below (w.alloc (.cells #[.int .i64 t.f0, .bool t.f1, .bool t.f2, .slice A3 t.f3.length c3, .slice A4 t.f4.length c4] 37)).heap.size (w.alloc (.cells #[.int .i64 t.f0, .bool t.f1, .bool t.f2, .slice A3 t.f3.length c3, .slice A4 t.f4.length c4] 37)) W → W.cell? ⟨w.heap.size, i, none⟩ = some u := fun i u hu W hq => below_cell hq (by
    unfold World.cell?; rw [e1]; simpa using hu)
  clear e1
  obtain ⟨W1, hW1⟩ : ∃ W1, w.alloc (.cells #[.int .i64 t.f0, .bool t.f1, .bool t.f2, .slice A3 t.f3.length c3, .slice A4 t.f4.length c4] 37) = W1 := ⟨_, rfl⟩
  rw [hW1] at hb1 cellF
  have q0 := cellF 0 _ rfl W1 (Below.refl _ _)
  have q1 := cellF 1 _ rfl W1 (Below.refl _ _)
  have q2 := cellF 2 _ rfl W1 (Below.refl _ _)
  have q3 := cellF 3 _ rfl W1 (Below.refl _ _)
  have q4 := cellF 4 _ rfl W1 (Below.refl _ _)
  have hris := envRising t.f3 A3 c3 W1 (Kd.C_below g3 hb1) l3
  have eR := enters_of Try.func42 (by kernel_rfl) rfl
  have ePl := enters_of Try.func44 (by kernel_rfl) rfl
  have eg : ∀ args w, (callFunc 43 args).run Try.prog w = .ok (.enter 43 args) w := enters_of Try.func43 (by kernel_rfl) rfl
  have hany : t.f4.any (fun k => !rightT k) = !rightL t.f4 := by rw [rightL_all, List.not_all_eq_any_not]
  have hcon : ∀ W, Below W1.heap.size W1 W → Calls Try.prog 38 #[.slice A4 t.f4.length c4, .func (.func 43) #[] #[]] W fun e W' => e = .returned (.bool (!rightL t.f4)) ∧ Below W.heap.size W W' := fun W hW => by
    have h := conKids 43 eg (fun k => !rightT k) t.f4 (fun k hk' => right1 k (hk k hk')) A4 c4 W (Kd.C_below (Kd.C_below g4 hb1) hW)
    rw [hany] at h
    exact h
  clear hk hany
  have hh : headBad t = (((!decide (t.f0 = 4) && (t.f1 || decide (0 < t.f3.length))) || ((decide (t.f0 = 4) && t.f2) && !t.f1)) || !risingB t.f3) := rfl
  have hr : rightT t = ((!headBad t && rightL t.f4) && tailOK t) := rightT_eq t
  have ht : tailOK t = if t.f0 = 1 then decide (t.f4.length = 0) && !t.f2 else if t.f0 = 3 then (decide (2 ≤ t.f4.length) && decide (t.f4.length ≤ 30)) && !t.f2 else ((decide (t.f0 = 4) || decide (t.f0 = 2)) && decide (t.f4.length = 1)) && plainHead t.f4 := rfl
  have hpl : t.f4.length = 1 → ∃ k ad B3 d3 B4 d4, A4 = some ad ∧ plainHead t.f4 = plainT k ∧ ∀ W, Below W1.heap.size W1 W →
      (W.cell? ad = some (.int .i64 k.f0) ∧ W.cell? ⟨ad.block, ad.off + 1, none⟩ = some (.bool k.f1) ∧ W.cell? ⟨ad.block, ad.off + 2, none⟩ = some (.bool k.f2) ∧
       W.cell? ⟨ad.block, ad.off + 3, none⟩ = some (.slice B3 k.f3.length d3) ∧ W.cell? ⟨ad.block, ad.off + 4, none⟩ = some (.slice B4 k.f4.length d4)) ∧
      Calls Try.prog 44 #[.agg #[.int .i64 k.f0, .bool k.f1, .bool k.f2, .slice B3 k.f3.length d3, .slice B4 k.f4.length d4]] W fun e W' => e = .returned (.bool (plainT k)) ∧ Below W.heap.size W W' := by
    intro h1
    obtain ⟨ad, B3, d3, B4, d4, ead, y0, y1, y2, y3, y4, n3, p3, n4, p4⟩ := at_T37 (Kd.C_below g4 hb1) 0 (by omega) (by omega)
    have e0 : ad.add ((0 : Int).toNat * 5) = ad := by simp [Addr.add]
    rw [e0] at y0 y1 y2 y3 y4
    refine ⟨rd_T37 t.f4 0, ad, B3, d3, B4, d4, ead, ?_, fun W hW => ⟨⟨below_cell hW y0, below_cell hW y1, below_cell hW y2, below_cell hW y3, below_cell hW y4⟩, envPlain _ _ _ _ _ W n3 (Kd.C_below p3 hW) n4 (Kd.C_below p4 hW)⟩⟩
    generalize t.f4 = l at h1
    match l, h1 with
    | [k], _ => rfl
  clear g3 g4
  have hk4b : (t.f0 == 4) = true := by simp [hk4]
  have hk1b : (t.f0 == 1) = false := by simp [hk1]
  have hk3b : (t.f0 == 3) = false := by simp [hk3]
  have hk2b : (t.f0 == 2) = false := by simp [hk2]
  rw [decide_eq_true hk4] at hh
  rw [if_neg hk1, if_neg hk3, decide_eq_true hk4, Bool.true_or] at ht
  clear hk4 hk1 hk3 hk2
  go_enter Try.func28, Try.ntmps28
  go_upto_region 3 with fail
  go_cut [11] from 12 to 41 (fun v11 wx => v11 = .bool (headBad t) ∧ Below W1.heap.size W1 wx)
  case first =>
    clear cellF hcon hpl hr ht hW1
    rcases Bool.eq_false_or_eq_true t.f2 with h2 | h2
    · rcases Bool.eq_false_or_eq_true t.f1 with h1 | h1
      · rw [h1, h2] at hh
        rw [h1] at q1
        rw [h2] at q2
        clear h1 h2
        go_wp2_with (go_at_call 42; refine hris.mono ?_; rintro e w' ⟨rfl, hb2⟩)
        go_meet
        case rel => exact ⟨by rw [hh]; first | rfl | simp, by first | exact hb2 | exact Below.refl _ _⟩
      · rw [h1, h2] at hh
        rw [h1] at q1
        rw [h2] at q2
        clear h1 h2
        go_wp2_with (go_at_call 42; refine hris.mono ?_; rintro e w' ⟨rfl, hb2⟩)
        go_meet
        case rel => exact ⟨by rw [hh]; first | rfl | simp, by first | exact hb2 | exact Below.refl _ _⟩
    · rw [h2] at hh q2
      clear h2
      go_wp2_with (go_at_call 42; refine hris.mono ?_; rintro e w' ⟨rfl, hb2⟩)
      go_meet
      case rel => exact ⟨by rw [hh]; first | rfl | simp, by first | exact hb2 | exact Below.refl _ _⟩
  case rest =>
    obtain ⟨rfl, hbc⟩ := hcut
    have s0 := cellF 0 _ rfl wc hbc
    have s1 := cellF 1 _ rfl wc hbc
    have s2 := cellF 2 _ rfl wc hbc
    have s3 := cellF 3 _ rfl wc hbc
    have s4 := cellF 4 _ rfl wc hbc
    have hcn := hcon wc hbc
    clear hcon hris hh q0 q1 q2 q3 q4 hW1
    have fin1 : ∀ w', Below W1.heap.size W1 w' → Below w.heap.size w w' := fun w' h => hb1.trans (h.mono hb1.size)
    have fin2 : ∀ w', Below wc.heap.size wc w' → Below W1.heap.size W1 w' := fun w' h => hbc.trans (h.mono hbc.size)
    cases hhb : headBad t with
    | true =>
      have hrt : rightT t = false := by rw [hr, hhb]; rfl
      clear hpl cellF hcn
      go_wp2_with fail
      go_ret
      exact ⟨by first | rfl | (rw [hrt]; rfl), fin1 _ hbc⟩
    | false =>
      rw [hhb] at hr
      clear hhb
      cases hkl : rightL t.f4 with
      | false =>
        rw [hkl] at hr hcn
        have hrt : rightT t = false := by rw [hr]; rfl
        clear hpl hkl
        go_wp2_with (go_at_call 38; refine hcn.mono ?_; rintro e w2 ⟨rfl, hb2⟩; have hb3 := hbc.trans (hb2.mono hbc.size); have u0 := cellF 0 _ rfl w2 hb3; have u2 := cellF 2 _ rfl w2 hb3; have u4 := cellF 4 _ rfl w2 hb3)
        go_ret
        exact ⟨by first | rfl | (rw [hrt]; rfl), fin1 _ (fin2 _ hb2)⟩
      | true =>
        rw [hkl] at hr hcn
        have hrt : rightT t = tailOK t := by rw [hr]; cases tailOK t <;> rfl
        clear hkl hr
        rw [ht] at hrt
        clear ht
        by_cases hn : t.f4.length = 1
        · have hn1 : ((t.f4.length : Int) == 1) = true := beq_iff_eq.mpr (by omega)
          have hn2 : (0 : Int) < (t.f4.length : Int) := by omega
          obtain ⟨k, ad, B3, d3, B4, d4, rfl, hph, hPl⟩ := hpl hn
          rw [decide_eq_true hn, hph] at hrt
          have hrt : rightT t = plainT k := by rw [hrt]; simp
          clear hn hph
          go_wp2_with (first
            | (go_at_call 38; refine hcn.mono ?_; rintro e w2 ⟨rfl, hb2⟩; have hb3 := hbc.trans (hb2.mono hbc.size); have u0 := cellF 0 _ rfl w2 hb3; have u2 := cellF 2 _ rfl w2 hb3; have u4 := cellF 4 _ rfl w2 hb3; obtain ⟨⟨v0, v1, v2, v3, v4⟩, hplain⟩ := hPl w2 hb3)
            | (go_at_call 44; refine hplain.mono ?_; rintro e w3 ⟨rfl, hb4⟩))
          go_ret
          exact ⟨by first | rfl | (rw [hrt]; first | rfl | simp), fin1 _ (hb3.trans (hb4.mono hb3.size))⟩
        · have hn1 : ((t.f4.length : Int) == 1) = false := beq_eq_false_iff_ne.mpr (by omega)
          rw [decide_eq_false hn] at hrt
          clear hpl hn
          go_wp2_with (go_at_call 38; refine hcn.mono ?_; rintro e w2 ⟨rfl, hb2⟩; have hb3 := hbc.trans (hb2.mono hbc.size); have u0 := cellF 0 _ rfl w2 hb3; have u2 := cellF 2 _ rfl w2 hb3; have u4 := cellF 4 _ rfl w2 hb3)
          go_ret
          exact ⟨by first | rfl | (rw [hrt]; first | rfl | simp), fin1 _ (fin2 _ hb2)⟩

end Go.Proofs.Ytadjekpfehjibaa.PEnv

namespace Go.Proofs.Ytadjekpfehjibaa.PEnv
open Go.RowKit Go.Shelf Go.Proofs.YtadjekpfehjibaaW.PrintWords Go.Proofs.YtadjekpfehjibaaW.PrintLast Go.Proofs.YtadjekpfehjibaaW.PrintMore Go.Proofs.Ytadjekpfehjibaa.PEnvHits
set_option linter.unusedVariables false
set_option linter.unusedSimpArgs false

set_option maxRecDepth 100000 in
set_option maxHeartbeats 8000000 in
/-- env.right, one step (k1). -/
theorem right_k1 (t : S37) (hk1 : t.f0 = 1) (hk : ∀ k ∈ t.f4, TyWord 28 rightT k) : TyWord 28 rightT t := by
  intro A3 c3 A4 c4 w l3 g3 l4 g4
  have hk4 : t.f0 ≠ 4 := by omega
  have hb1 : Below w.heap.size w (w.alloc (.cells #[.int .i64 t.f0, .bool t.f1, .bool t.f2, .slice A3 t.f3.length c3, .slice A4 t.f4.length c4] 37)) := (Below.refl _ w).alloc (Nat.le_refl _) _
  have e1 := World.alloc_heap_new w (.cells #[.int .i64 t.f0, .bool t.f1, .bool t.f2, .slice A3 t.f3.length c3, .slice A4 t.f4.length c4] 37)
  have cellF : ∀ i u, [Value.int .i64 t.f0, .bool t.f1, .bool t.f2, .slice A3 t.f3.length c3, .slice A4 t.f4.length c4][i]? = some u → ∀ W, Below (w.alloc (.cells #[.int .i64 t.f0, .bool t.f1, .bool t.f2, .slice A3 t.f3.length c3, .slice A4 t.f4.length c4] 37)).heap.size (w.alloc (.cells #[.int .i64 t.f0, .bool t.f1, .bool t.f2, .slice A3 t.f3.length c3, .slice A4 t.f4.length c4] 37)) W → W.cell? ⟨w.heap.size, i, none⟩ = some u := fun i u hu W hq => below_cell hq (by
    unfold World.cell?; rw [e1]; simpa using hu)
  clear e1
  obtain ⟨W1, hW1⟩ : ∃ W1, w.alloc (.cells #[.int .i64 t.f0, .bool t.f1, .bool t.f2, .slice A3 t.f3.length c3, .slice A4 t.f4.length c4] 37) = W1 := ⟨_, rfl⟩
  rw [hW1] at hb1 cellF
  have q0 := cellF 0 _ rfl W1 (Below.refl _ _)
  have q1 := cellF 1 _ rfl W1 (Below.refl _ _)
  have q2 := cellF 2 _ rfl W1 (Below.refl _ _)
  have q3 := cellF 3 _ rfl W1 (Below.refl _ _)
  have q4 := cellF 4 _ rfl W1 (Below.refl _ _)
  have hris := envRising t.f3 A3 c3 W1 (Kd.C_below g3 hb1) l3
  have eR := enters_of Try.func42 (by kernel_rfl) rfl
  have ePl := enters_of Try.func44 (by kernel_rfl) rfl
  have eg : ∀ args w, (callFunc 43 args).run Try.prog w = .ok (.enter 43 args) w := enters_of Try.func43 (by kernel_rfl) rfl
  have hany : t.f4.any (fun k => !rightT k) = !rightL t.f4 := by rw [rightL_all, List.not_all_eq_any_not]
  have hcon : ∀ W, Below W1.heap.size W1 W → Calls Try.prog 38 #[.slice A4 t.f4.length c4, .func (.func 43) #[] #[]] W fun e W' => e = .returned (.bool (!rightL t.f4)) ∧ Below W.heap.size W W' := fun W hW => by
    have h := conKids 43 eg (fun k => !rightT k) t.f4 (fun k hk' => right1 k (hk k hk')) A4 c4 W (Kd.C_below (Kd.C_below g4 hb1) hW)
    rw [hany] at h
    exact h
  clear hk hany
  have hh : headBad t = (((!decide (t.f0 = 4) && (t.f1 || decide (0 < t.f3.length))) || ((decide (t.f0 = 4) && t.f2) && !t.f1)) || !risingB t.f3) := rfl
  have hr : rightT t = ((!headBad t && rightL t.f4) && tailOK t) := rightT_eq t
  have ht : tailOK t = if t.f0 = 1 then decide (t.f4.length = 0) && !t.f2 else if t.f0 = 3 then (decide (2 ≤ t.f4.length) && decide (t.f4.length ≤ 30)) && !t.f2 else ((decide (t.f0 = 4) || decide (t.f0 = 2)) && decide (t.f4.length = 1)) && plainHead t.f4 := rfl
  have hpl : t.f4.length = 1 → ∃ k ad B3 d3 B4 d4, A4 = some ad ∧ plainHead t.f4 = plainT k ∧ ∀ W, Below W1.heap.size W1 W →
      (W.cell? ad = some (.int .i64 k.f0) ∧ W.cell? ⟨ad.block, ad.off + 1, none⟩ = some (.bool k.f1) ∧ W.cell? ⟨ad.block, ad.off + 2, none⟩ = some (.bool k.f2) ∧
       W.cell? ⟨ad.block, ad.off + 3, none⟩ = some (.slice B3 k.f3.length d3) ∧ W.cell? ⟨ad.block, ad.off + 4, none⟩ = some (.slice B4 k.f4.length d4)) ∧
      Calls Try.prog 44 #[.agg #[.int .i64 k.f0, .bool k.f1, .bool k.f2, .slice B3 k.f3.length d3, .slice B4 k.f4.length d4]] W fun e W' => e = .returned (.bool (plainT k)) ∧ Below W.heap.size W W' := by
    intro h1
    obtain ⟨ad, B3, d3, B4, d4, ead, y0, y1, y2, y3, y4, n3, p3, n4, p4⟩ := at_T37 (Kd.C_below g4 hb1) 0 (by omega) (by omega)
    have e0 : ad.add ((0 : Int).toNat * 5) = ad := by simp [Addr.add]
    rw [e0] at y0 y1 y2 y3 y4
    refine ⟨rd_T37 t.f4 0, ad, B3, d3, B4, d4, ead, ?_, fun W hW => ⟨⟨below_cell hW y0, below_cell hW y1, below_cell hW y2, below_cell hW y3, below_cell hW y4⟩, envPlain _ _ _ _ _ W n3 (Kd.C_below p3 hW) n4 (Kd.C_below p4 hW)⟩⟩
    generalize t.f4 = l at h1
    match l, h1 with
    | [k], _ => rfl
  clear g3 g4
  have hk1b : (t.f0 == 1) = true := by simp [hk1]
  have hk4b : (t.f0 == 4) = false := by simp [hk4]
  rw [decide_eq_false hk4] at hh
  rw [if_pos hk1] at ht
  clear hk1 hk4
  go_enter Try.func28, Try.ntmps28
  go_upto_region 3 with fail
  go_cut [11] from 12 to 41 (fun v11 wx => v11 = .bool (headBad t) ∧ Below W1.heap.size W1 wx)
  case first =>
    clear cellF hcon hpl hr ht hW1
    rcases Bool.eq_false_or_eq_true t.f1 with h1 | h1
    · rw [h1] at hh q1
      clear h1
      go_wp2_with (go_at_call 42; refine hris.mono ?_; rintro e w' ⟨rfl, hb2⟩)
      go_meet
      case rel => exact ⟨by rw [hh]; first | rfl | simp, by first | exact hb2 | exact Below.refl _ _⟩
    · rw [h1] at hh q1
      clear h1
      by_cases hl : 0 < t.f3.length
      · have hl1 : decide ((t.f3.length : Int) > 0) = true := decide_eq_true (by omega)
        have hl2 : decide (0 < t.f3.length) = true := decide_eq_true hl
        have hl3 : decide ((0 : Int) < (t.f3.length : Int)) = true := decide_eq_true (by omega)
        rw [decide_eq_true hl] at hh
        clear hl
        go_wp2_with (go_at_call 42; refine hris.mono ?_; rintro e w' ⟨rfl, hb2⟩)
        go_meet
        case rel => exact ⟨by rw [hh]; first | rfl | simp, by first | exact hb2 | exact Below.refl _ _⟩
      · have hl1 : decide ((t.f3.length : Int) > 0) = false := decide_eq_false (by omega)
        have hl2 : decide (0 < t.f3.length) = false := decide_eq_false hl
        have hl3 : decide ((0 : Int) < (t.f3.length : Int)) = false := decide_eq_false (by omega)
        rw [decide_eq_false hl] at hh
        clear hl
        go_wp2_with (go_at_call 42; refine hris.mono ?_; rintro e w' ⟨rfl, hb2⟩)
        go_meet
        case rel => exact ⟨by rw [hh]; first | rfl | simp, by first | exact hb2 | exact Below.refl _ _⟩
  case rest =>
    obtain ⟨rfl, hbc⟩ := hcut
    have s0 := cellF 0 _ rfl wc hbc
    have s1 := cellF 1 _ rfl wc hbc
    have s2 := cellF 2 _ rfl wc hbc
    have s3 := cellF 3 _ rfl wc hbc
    have s4 := cellF 4 _ rfl wc hbc
    have hcn := hcon wc hbc
    clear hcon hris hh q0 q1 q2 q3 q4 hW1
    have fin1 : ∀ w', Below W1.heap.size W1 w' → Below w.heap.size w w' := fun w' h => hb1.trans (h.mono hb1.size)
    have fin2 : ∀ w', Below wc.heap.size wc w' → Below W1.heap.size W1 w' := fun w' h => hbc.trans (h.mono hbc.size)
    cases hhb : headBad t with
    | true =>
      have hrt : rightT t = false := by rw [hr, hhb]; rfl
      clear hpl cellF hcn
      go_wp2_with fail
      go_ret
      exact ⟨by first | rfl | (rw [hrt]; rfl), fin1 _ hbc⟩
    | false =>
      rw [hhb] at hr
      clear hhb
      cases hkl : rightL t.f4 with
      | false =>
        rw [hkl] at hr hcn
        have hrt : rightT t = false := by rw [hr]; rfl
        clear hpl hkl
        go_wp2_with (go_at_call 38; refine hcn.mono ?_; rintro e w2 ⟨rfl, hb2⟩; have hb3 := hbc.trans (hb2.mono hbc.size); have u0 := cellF 0 _ rfl w2 hb3; have u2 := cellF 2 _ rfl w2 hb3; have u4 := cellF 4 _ rfl w2 hb3)
        go_ret
        exact ⟨by first | rfl | (rw [hrt]; rfl), fin1 _ (fin2 _ hb2)⟩
      | true =>
        rw [hkl] at hr hcn
        have hrt : rightT t = tailOK t := by rw [hr]; cases tailOK t <;> rfl
        clear hkl hr
        rw [ht] at hrt
        clear hpl ht
        by_cases hn : t.f4.length = 0
        · have hn1 : ((t.f4.length : Int) == 0) = true := beq_iff_eq.mpr (by omega)
          rw [decide_eq_true hn] at hrt
          clear hn
          go_wp2_with (go_at_call 38; refine hcn.mono ?_; rintro e w2 ⟨rfl, hb2⟩; have hb3 := hbc.trans (hb2.mono hbc.size); have u0 := cellF 0 _ rfl w2 hb3; have u2 := cellF 2 _ rfl w2 hb3; have u4 := cellF 4 _ rfl w2 hb3)
          go_ret
          exact ⟨by first | rfl | (rw [hrt]; first | rfl | simp), fin1 _ (fin2 _ hb2)⟩
        · have hn1 : ((t.f4.length : Int) == 0) = false := beq_eq_false_iff_ne.mpr (by omega)
          rw [decide_eq_false hn] at hrt
          clear hn
          go_wp2_with (go_at_call 38; refine hcn.mono ?_; rintro e w2 ⟨rfl, hb2⟩; have hb3 := hbc.trans (hb2.mono hbc.size); have u0 := cellF 0 _ rfl w2 hb3; have u2 := cellF 2 _ rfl w2 hb3; have u4 := cellF 4 _ rfl w2 hb3)
          go_ret
          exact ⟨by first | rfl | (rw [hrt]; first | rfl | simp), fin1 _ (fin2 _ hb2)⟩

end Go.Proofs.Ytadjekpfehjibaa.PEnv

namespace Go.Proofs.Ytadjekpfehjibaa.PEnv
open Go.RowKit Go.Shelf Go.Proofs.YtadjekpfehjibaaW.PrintWords Go.Proofs.YtadjekpfehjibaaW.PrintLast Go.Proofs.YtadjekpfehjibaaW.PrintMore Go.Proofs.Ytadjekpfehjibaa.PEnvHits
set_option linter.unusedVariables false
set_option linter.unusedSimpArgs false

set_option maxRecDepth 100000 in
set_option maxHeartbeats 8000000 in
/-- env.right, one step (k3). -/
theorem right_k3 (t : S37) (hk3 : t.f0 = 3) (hk : ∀ k ∈ t.f4, TyWord 28 rightT k) : TyWord 28 rightT t := by
  intro A3 c3 A4 c4 w l3 g3 l4 g4
  have hk4 : t.f0 ≠ 4 := by omega
  have hk1 : t.f0 ≠ 1 := by omega
  have hb1 : Below w.heap.size w (w.alloc (.cells #[.int .i64 t.f0, .bool t.f1, .bool t.f2, .slice A3 t.f3.length c3, .slice A4 t.f4.length c4] 37)) := (Below.refl _ w).alloc (Nat.le_refl _) _
  have e1 := World.alloc_heap_new w (.cells #[.int .i64 t.f0, .bool t.f1, .bool t.f2, .slice A3 t.f3.length c3, .slice A4 t.f4.length c4] 37)
  have cellF : ∀ i u, [Value.int .i64 t.f0, .bool t.f1, .bool t.f2, .slice A3 t.f3.length c3, .slice A4 t.f4.length c4][i]? = some u → ∀ W, Below (w.alloc (.cells #[.int .i64 t.f0, .bool t.f1, .bool t.f2, .slice A3 t.f3.length c3, .slice A4 t.f4.length c4] 37)).heap.size (w.alloc (.cells #[.int .i64 t.f0, .bool t.f1, .bool t.f2, .slice A3 t.f3.length c3, .slice A4 t.f4.length c4] 37)) W → W.cell? ⟨w.heap.size, i, none⟩ = some u := fun i u hu W hq => below_cell hq (by
    unfold World.cell?; rw [e1]; simpa using hu)
  clear e1
  obtain ⟨W1, hW1⟩ : ∃ W1, w.alloc (.cells #[.int .i64 t.f0, .bool t.f1, .bool t.f2, .slice A3 t.f3.length c3, .slice A4 t.f4.length c4] 37) = W1 := ⟨_, rfl⟩
  rw [hW1] at hb1 cellF
  have q0 := cellF 0 _ rfl W1 (Below.refl _ _)
  have q1 := cellF 1 _ rfl W1 (Below.refl _ _)
  have q2 := cellF 2 _ rfl W1 (Below.refl _ _)
  have q3 := cellF 3 _ rfl W1 (Below.refl _ _)
  have q4 := cellF 4 _ rfl W1 (Below.refl _ _)
  have hris := envRising t.f3 A3 c3 W1 (Kd.C_below g3 hb1) l3
  have eR := enters_of Try.func42 (by kernel_rfl) rfl
  have ePl := enters_of Try.func44 (by kernel_rfl) rfl
  have eg : ∀ args w, (callFunc 43 args).run Try.prog w = .ok (.enter 43 args) w := enters_of Try.func43 (by kernel_rfl) rfl
  have hany : t.f4.any (fun k => !rightT k) = !rightL t.f4 := by rw [rightL_all, List.not_all_eq_any_not]
  have hcon : ∀ W, Below W1.heap.size W1 W → Calls Try.prog 38 #[.slice A4 t.f4.length c4, .func (.func 43) #[] #[]] W fun e W' => e = .returned (.bool (!rightL t.f4)) ∧ Below W.heap.size W W' := fun W hW => by
    have h := conKids 43 eg (fun k => !rightT k) t.f4 (fun k hk' => right1 k (hk k hk')) A4 c4 W (Kd.C_below (Kd.C_below g4 hb1) hW)
    rw [hany] at h
    exact h
  clear hk hany
  have hh : headBad t = (((!decide (t.f0 = 4) && (t.f1 || decide (0 < t.f3.length))) || ((decide (t.f0 = 4) && t.f2) && !t.f1)) || !risingB t.f3) := rfl
  have hr : rightT t = ((!headBad t && rightL t.f4) && tailOK t) := rightT_eq t
  have ht : tailOK t = if t.f0 = 1 then decide (t.f4.length = 0) && !t.f2 else if t.f0 = 3 then (decide (2 ≤ t.f4.length) && decide (t.f4.length ≤ 30)) && !t.f2 else ((decide (t.f0 = 4) || decide (t.f0 = 2)) && decide (t.f4.length = 1)) && plainHead t.f4 := rfl
  have hpl : t.f4.length = 1 → ∃ k ad B3 d3 B4 d4, A4 = some ad ∧ plainHead t.f4 = plainT k ∧ ∀ W, Below W1.heap.size W1 W →
      (W.cell? ad = some (.int .i64 k.f0) ∧ W.cell? ⟨ad.block, ad.off + 1, none⟩ = some (.bool k.f1) ∧ W.cell? ⟨ad.block, ad.off + 2, none⟩ = some (.bool k.f2) ∧
       W.cell? ⟨ad.block, ad.off + 3, none⟩ = some (.slice B3 k.f3.length d3) ∧ W.cell? ⟨ad.block, ad.off + 4, none⟩ = some (.slice B4 k.f4.length d4)) ∧
      Calls Try.prog 44 #[.agg #[.int .i64 k.f0, .bool k.f1, .bool k.f2, .slice B3 k.f3.length d3, .slice B4 k.f4.length d4]] W fun e W' => e = .returned (.bool (plainT k)) ∧ Below W.heap.size W W' := by
    intro h1
    obtain ⟨ad, B3, d3, B4, d4, ead, y0, y1, y2, y3, y4, n3, p3, n4, p4⟩ := at_T37 (Kd.C_below g4 hb1) 0 (by omega) (by omega)
    have e0 : ad.add ((0 : Int).toNat * 5) = ad := by simp [Addr.add]
    rw [e0] at y0 y1 y2 y3 y4
    refine ⟨rd_T37 t.f4 0, ad, B3, d3, B4, d4, ead, ?_, fun W hW => ⟨⟨below_cell hW y0, below_cell hW y1, below_cell hW y2, below_cell hW y3, below_cell hW y4⟩, envPlain _ _ _ _ _ W n3 (Kd.C_below p3 hW) n4 (Kd.C_below p4 hW)⟩⟩
    generalize t.f4 = l at h1
    match l, h1 with
    | [k], _ => rfl
  clear g3 g4
  have hk3b : (t.f0 == 3) = true := by simp [hk3]
  have hk4b : (t.f0 == 4) = false := by simp [hk4]
  have hk1b : (t.f0 == 1) = false := by simp [hk1]
  rw [decide_eq_false hk4] at hh
  rw [if_neg hk1, if_pos hk3] at ht
  clear hk3 hk4 hk1
  go_enter Try.func28, Try.ntmps28
  go_upto_region 3 with fail
  go_cut [11] from 12 to 41 (fun v11 wx => v11 = .bool (headBad t) ∧ Below W1.heap.size W1 wx)
  case first =>
    clear cellF hcon hpl hr ht hW1
    rcases Bool.eq_false_or_eq_true t.f1 with h1 | h1
    · rw [h1] at hh q1
      clear h1
      go_wp2_with (go_at_call 42; refine hris.mono ?_; rintro e w' ⟨rfl, hb2⟩)
      go_meet
      case rel => exact ⟨by rw [hh]; first | rfl | simp, by first | exact hb2 | exact Below.refl _ _⟩
    · rw [h1] at hh q1
      clear h1
      by_cases hl : 0 < t.f3.length
      · have hl1 : decide ((t.f3.length : Int) > 0) = true := decide_eq_true (by omega)
        have hl2 : decide (0 < t.f3.length) = true := decide_eq_true hl
        have hl3 : decide ((0 : Int) < (t.f3.length : Int)) = true := decide_eq_true (by omega)
        rw [decide_eq_true hl] at hh
        clear hl
        go_wp2_with (go_at_call 42; refine hris.mono ?_; rintro e w' ⟨rfl, hb2⟩)
        go_meet
        case rel => exact ⟨by rw [hh]; first | rfl | simp, by first | exact hb2 | exact Below.refl _ _⟩
      · have hl1 : decide ((t.f3.length : Int) > 0) = false := decide_eq_false (by omega)
        have hl2 : decide (0 < t.f3.length) = false := decide_eq_false hl
        have hl3 : decide ((0 : Int) < (t.f3.length : Int)) = false := decide_eq_false (by omega)
        rw [decide_eq_false hl] at hh
        clear hl
        go_wp2_with (go_at_call 42; refine hris.mono ?_; rintro e w' ⟨rfl, hb2⟩)
        go_meet
        case rel => exact ⟨by rw [hh]; first | rfl | simp, by first | exact hb2 | exact Below.refl _ _⟩
  case rest =>
    obtain ⟨rfl, hbc⟩ := hcut
    have s0 := cellF 0 _ rfl wc hbc
    have s1 := cellF 1 _ rfl wc hbc
    have s2 := cellF 2 _ rfl wc hbc
    have s3 := cellF 3 _ rfl wc hbc
    have s4 := cellF 4 _ rfl wc hbc
    have hcn := hcon wc hbc
    clear hcon hris hh q0 q1 q2 q3 q4 hW1
    have fin1 : ∀ w', Below W1.heap.size W1 w' → Below w.heap.size w w' := fun w' h => hb1.trans (h.mono hb1.size)
    have fin2 : ∀ w', Below wc.heap.size wc w' → Below W1.heap.size W1 w' := fun w' h => hbc.trans (h.mono hbc.size)
    cases hhb : headBad t with
    | true =>
      have hrt : rightT t = false := by rw [hr, hhb]; rfl
      clear hpl cellF hcn
      go_wp2_with fail
      go_ret
      exact ⟨by first | rfl | (rw [hrt]; rfl), fin1 _ hbc⟩
    | false =>
      rw [hhb] at hr
      clear hhb
      cases hkl : rightL t.f4 with
      | false =>
        rw [hkl] at hr hcn
        have hrt : rightT t = false := by rw [hr]; rfl
        clear hpl hkl
        go_wp2_with (go_at_call 38; refine hcn.mono ?_; rintro e w2 ⟨rfl, hb2⟩; have hb3 := hbc.trans (hb2.mono hbc.size); have u0 := cellF 0 _ rfl w2 hb3; have u2 := cellF 2 _ rfl w2 hb3; have u4 := cellF 4 _ rfl w2 hb3)
        go_ret
        exact ⟨by first | rfl | (rw [hrt]; rfl), fin1 _ (fin2 _ hb2)⟩
      | true =>
        rw [hkl] at hr hcn
        have hrt : rightT t = tailOK t := by rw [hr]; cases tailOK t <;> rfl
        clear hkl hr
        rw [ht] at hrt
        clear hpl ht
        by_cases hn : 2 ≤ t.f4.length
        · have hn1 : decide ((t.f4.length : Int) ≥ 2) = true := decide_eq_true (by omega)
          have hn3 : decide (2 ≤ t.f4.length) = true := decide_eq_true hn
          rw [decide_eq_true hn] at hrt
          by_cases hm : t.f4.length ≤ 30
          · have hm1 : decide ((t.f4.length : Int) ≤ 30) = true := decide_eq_true (by omega)
            have hm3 : decide (t.f4.length ≤ 30) = true := decide_eq_true hm
            rw [decide_eq_true hm] at hrt
            clear hn hm
            go_wp2_with (go_at_call 38; refine hcn.mono ?_; rintro e w2 ⟨rfl, hb2⟩; have hb3 := hbc.trans (hb2.mono hbc.size); have u0 := cellF 0 _ rfl w2 hb3; have u2 := cellF 2 _ rfl w2 hb3; have u4 := cellF 4 _ rfl w2 hb3)
            go_ret
            exact ⟨by first | rfl | (rw [hrt]; first | rfl | simp), fin1 _ (fin2 _ hb2)⟩
          · have hm1 : decide ((t.f4.length : Int) ≤ 30) = false := decide_eq_false (by omega)
            have hm3 : decide (t.f4.length ≤ 30) = false := decide_eq_false hm
            rw [decide_eq_false hm] at hrt
            clear hn hm
            go_wp2_with (go_at_call 38; refine hcn.mono ?_; rintro e w2 ⟨rfl, hb2⟩; have hb3 := hbc.trans (hb2.mono hbc.size); have u0 := cellF 0 _ rfl w2 hb3; have u2 := cellF 2 _ rfl w2 hb3; have u4 := cellF 4 _ rfl w2 hb3)
            go_ret
            exact ⟨by first | rfl | (rw [hrt]; first | rfl | simp), fin1 _ (fin2 _ hb2)⟩
        · have hn1 : decide ((t.f4.length : Int) ≥ 2) = false := decide_eq_false (by omega)
          have hn3 : decide (2 ≤ t.f4.length) = false := decide_eq_false hn
          rw [decide_eq_false hn] at hrt
          clear hn
          go_wp2_with (go_at_call 38; refine hcn.mono ?_; rintro e w2 ⟨rfl, hb2⟩; have hb3 := hbc.trans (hb2.mono hbc.size); have u0 := cellF 0 _ rfl w2 hb3; have u2 := cellF 2 _ rfl w2 hb3; have u4 := cellF 4 _ rfl w2 hb3)
          go_ret
          exact ⟨by first | rfl | (rw [hrt]; first | rfl | simp), fin1 _ (fin2 _ hb2)⟩

end Go.Proofs.Ytadjekpfehjibaa.PEnv

namespace Go.Proofs.Ytadjekpfehjibaa.PEnv
open Go.RowKit Go.Shelf Go.Proofs.YtadjekpfehjibaaW.PrintWords Go.Proofs.YtadjekpfehjibaaW.PrintLast Go.Proofs.YtadjekpfehjibaaW.PrintMore Go.Proofs.Ytadjekpfehjibaa.PEnvHits
set_option linter.unusedVariables false
set_option linter.unusedSimpArgs false

set_option maxRecDepth 100000 in
set_option maxHeartbeats 8000000 in
/-- env.right, one step (k2). -/
theorem right_k2 (t : S37) (hk2 : t.f0 = 2) (hk : ∀ k ∈ t.f4, TyWord 28 rightT k) : TyWord 28 rightT t := by
  intro A3 c3 A4 c4 w l3 g3 l4 g4
  have hk4 : t.f0 ≠ 4 := by omega
  have hk1 : t.f0 ≠ 1 := by omega
  have hk3 : t.f0 ≠ 3 := by omega
  have hb1 : Below w.heap.size w (w.alloc (.cells #[.int .i64 t.f0, .bool t.f1, .bool t.f2, .slice A3 t.f3.length c3, .slice A4 t.f4.length c4] 37)) := (Below.refl _ w).alloc (Nat.le_refl _) _
  have e1 := World.alloc_heap_new w (.cells #[.int .i64 t.f0, .bool t.f1, .bool t.f2, .slice A3 t.f3.length c3, .slice A4 t.f4.length c4] 37)
  have cellF : ∀ i u, [Value.int .i64 t.f0, .bool t.f1, .bool t.f2, .slice A3 t.f3.length c3, .slice A4 t.f4.length c4][i]? = some u → ∀ W, Below (w.alloc (.cells #[.int .i64 t.f0, .bool t.f1, .bool t.f2, .slice A3 t.f3.length c3, .slice A4 t.f4.length c4] 37)).heap.size (w.alloc (.cells #[.int .i64 t.f0, .bool t.f1, .bool t.f2, .slice A3 t.f3.length c3, .slice A4 t.f4.length c4] 37)) W → W.cell? ⟨w.heap.size, i, none⟩ = some u := fun i u hu W hq => below_cell hq (by
    unfold World.cell?; rw [e1]; simpa using hu)
  clear e1
  obtain ⟨W1, hW1⟩ : ∃ W1, w.alloc (.cells #[.int .i64 t.f0, .bool t.f1, .bool t.f2, .slice A3 t.f3.length c3, .slice A4 t.f4.length c4] 37) = W1 := ⟨_, rfl⟩
  rw [hW1] at hb1 cellF
  have q0 := cellF 0 _ rfl W1 (Below.refl _ _)
  have q1 := cellF 1 _ rfl W1 (Below.refl _ _)
  have q2 := cellF 2 _ rfl W1 (Below.refl _ _)
  have q3 := cellF 3 _ rfl W1 (Below.refl _ _)
  have q4 := cellF 4 _ rfl W1 (Below.refl _ _)
  have hris := envRising t.f3 A3 c3 W1 (Kd.C_below g3 hb1) l3
  have eR := enters_of Try.func42 (by kernel_rfl) rfl
  have ePl := enters_of Try.func44 (by kernel_rfl) rfl
  have eg : ∀ args w, (callFunc 43 args).run Try.prog w = .ok (.enter 43 args) w := enters_of Try.func43 (by kernel_rfl) rfl
  have hany : t.f4.any (fun k => !rightT k) = !rightL t.f4 := by rw [rightL_all, List.not_all_eq_any_not]
  have hcon : ∀ W, Below W1.heap.size W1 W → Calls Try.prog 38 #[.slice A4 t.f4.length c4, .func (.func 43) #[] #[]] W fun e W' => e = .returned (.bool (!rightL t.f4)) ∧ Below W.heap.size W W' := fun W hW => by
    have h := conKids 43 eg (fun k => !rightT k) t.f4 (fun k hk' => right1 k (hk k hk')) A4 c4 W (Kd.C_below (Kd.C_below g4 hb1) hW)
    rw [hany] at h
    exact h
  clear hk hany
  have hh : headBad t = (((!decide (t.f0 = 4) && (t.f1 || decide (0 < t.f3.length))) || ((decide (t.f0 = 4) && t.f2) && !t.f1)) || !risingB t.f3) := rfl
  have hr : rightT t = ((!headBad t && rightL t.f4) && tailOK t) := rightT_eq t
  have ht : tailOK t = if t.f0 = 1 then decide (t.f4.length = 0) && !t.f2 else if t.f0 = 3 then (decide (2 ≤ t.f4.length) && decide (t.f4.length ≤ 30)) && !t.f2 else ((decide (t.f0 = 4) || decide (t.f0 = 2)) && decide (t.f4.length = 1)) && plainHead t.f4 := rfl
  have hpl : t.f4.length = 1 → ∃ k ad B3 d3 B4 d4, A4 = some ad ∧ plainHead t.f4 = plainT k ∧ ∀ W, Below W1.heap.size W1 W →
      (W.cell? ad = some (.int .i64 k.f0) ∧ W.cell? ⟨ad.block, ad.off + 1, none⟩ = some (.bool k.f1) ∧ W.cell? ⟨ad.block, ad.off + 2, none⟩ = some (.bool k.f2) ∧
       W.cell? ⟨ad.block, ad.off + 3, none⟩ = some (.slice B3 k.f3.length d3) ∧ W.cell? ⟨ad.block, ad.off + 4, none⟩ = some (.slice B4 k.f4.length d4)) ∧
      Calls Try.prog 44 #[.agg #[.int .i64 k.f0, .bool k.f1, .bool k.f2, .slice B3 k.f3.length d3, .slice B4 k.f4.length d4]] W fun e W' => e = .returned (.bool (plainT k)) ∧ Below W.heap.size W W' := by
    intro h1
    obtain ⟨ad, B3, d3, B4, d4, ead, y0, y1, y2, y3, y4, n3, p3, n4, p4⟩ := at_T37 (Kd.C_below g4 hb1) 0 (by omega) (by omega)
    have e0 : ad.add ((0 : Int).toNat * 5) = ad := by simp [Addr.add]
    rw [e0] at y0 y1 y2 y3 y4
    refine ⟨rd_T37 t.f4 0, ad, B3, d3, B4, d4, ead, ?_, fun W hW => ⟨⟨below_cell hW y0, below_cell hW y1, below_cell hW y2, below_cell hW y3, below_cell hW y4⟩, envPlain _ _ _ _ _ W n3 (Kd.C_below p3 hW) n4 (Kd.C_below p4 hW)⟩⟩
    generalize t.f4 = l at h1
    match l, h1 with
    | [k], _ => rfl
  clear g3 g4
  have hk2b : (t.f0 == 2) = true := by simp [hk2]
  have hk4b : (t.f0 == 4) = false := by simp [hk4]
  have hk1b : (t.f0 == 1) = false := by simp [hk1]
  have hk3b : (t.f0 == 3) = false := by simp [hk3]
  rw [decide_eq_false hk4] at hh
  rw [if_neg hk1, if_neg hk3, decide_eq_false hk4, decide_eq_true hk2] at ht
  clear hk2 hk4 hk1 hk3
  go_enter Try.func28, Try.ntmps28
  go_upto_region 3 with fail
  go_cut [11] from 12 to 41 (fun v11 wx => v11 = .bool (headBad t) ∧ Below W1.heap.size W1 wx)
  case first =>
    clear cellF hcon hpl hr ht hW1
    rcases Bool.eq_false_or_eq_true t.f1 with h1 | h1
    · rw [h1] at hh q1
      clear h1
      go_wp2_with (go_at_call 42; refine hris.mono ?_; rintro e w' ⟨rfl, hb2⟩)
      go_meet
      case rel => exact ⟨by rw [hh]; first | rfl | simp, by first | exact hb2 | exact Below.refl _ _⟩
    · rw [h1] at hh q1
      clear h1
      by_cases hl : 0 < t.f3.length
      · have hl1 : decide ((t.f3.length : Int) > 0) = true := decide_eq_true (by omega)
        have hl2 : decide (0 < t.f3.length) = true := decide_eq_true hl
        have hl3 : decide ((0 : Int) < (t.f3.length : Int)) = true := decide_eq_true (by omega)
        rw [decide_eq_true hl] at hh
        clear hl
        go_wp2_with (go_at_call 42; refine hris.mono ?_; rintro e w' ⟨rfl, hb2⟩)
        go_meet
        case rel => exact ⟨by rw [hh]; first | rfl | simp, by first | exact hb2 | exact Below.refl _ _⟩
      · have hl1 : decide ((t.f3.length : Int) > 0) = false := decide_eq_false (by omega)
        have hl2 : decide (0 < t.f3.length) = false := decide_eq_false hl
        have hl3 : decide ((0 : Int) < (t.f3.length : Int)) = false := decide_eq_false (by omega)
        rw [decide_eq_false hl] at hh
        clear hl
        go_wp2_with (go_at_call 42; refine hris.mono ?_; rintro e w' ⟨rfl, hb2⟩)
        go_meet
        case rel => exact ⟨by rw [hh]; first | rfl | simp, by first | exact hb2 | exact Below.refl _ _⟩
  case rest =>
    obtain ⟨rfl, hbc⟩ := hcut
    have s0 := cellF 0 _ rfl wc hbc
    have s1 := cellF 1 _ rfl wc hbc
    have s2 := cellF 2 _ rfl wc hbc
    have s3 := cellF 3 _ rfl wc hbc
    have s4 := cellF 4 _ rfl wc hbc
    have hcn := hcon wc hbc
    clear hcon hris hh q0 q1 q2 q3 q4 hW1
    have fin1 : ∀ w', Below W1.heap.size W1 w' → Below w.heap.size w w' := fun w' h => hb1.trans (h.mono hb1.size)
    have fin2 : ∀ w', Below wc.heap.size wc w' → Below W1.heap.size W1 w' := fun w' h => hbc.trans (h.mono hbc.size)
    cases hhb : headBad t with
    | true =>
      have hrt : rightT t = false := by rw [hr, hhb]; rfl
      clear hpl cellF hcn
      go_wp2_with fail
      go_ret
      exact ⟨by first | rfl | (rw [hrt]; rfl), fin1 _ hbc⟩
    | false =>
      rw [hhb] at hr
      clear hhb
      cases hkl : rightL t.f4 with
      | false =>
        rw [hkl] at hr hcn
        have hrt : rightT t = false := by rw [hr]; rfl
        clear hpl hkl
        go_wp2_with (go_at_call 38; refine hcn.mono ?_; rintro e w2 ⟨rfl, hb2⟩; have hb3 := hbc.trans (hb2.mono hbc.size); have u0 := cellF 0 _ rfl w2 hb3; have u2 := cellF 2 _ rfl w2 hb3; have u4 := cellF 4 _ rfl w2 hb3)
        go_ret
        exact ⟨by first | rfl | (rw [hrt]; rfl), fin1 _ (fin2 _ hb2)⟩
      | true =>
        rw [hkl] at hr hcn
        have hrt : rightT t = tailOK t := by rw [hr]; cases tailOK t <;> rfl
        clear hkl hr
        rw [ht] at hrt
        clear ht
        by_cases hn : t.f4.length = 1
        · have hn1 : ((t.f4.length : Int) == 1) = true := beq_iff_eq.mpr (by omega)
          have hn2 : (0 : Int) < (t.f4.length : Int) := by omega
          obtain ⟨k, ad, B3, d3, B4, d4, rfl, hph, hPl⟩ := hpl hn
          rw [decide_eq_true hn, hph] at hrt
          have hrt : rightT t = plainT k := by rw [hrt]; simp
          clear hn hph
          go_wp2_with (first
            | (go_at_call 38; refine hcn.mono ?_; rintro e w2 ⟨rfl, hb2⟩; have hb3 := hbc.trans (hb2.mono hbc.size); have u0 := cellF 0 _ rfl w2 hb3; have u2 := cellF 2 _ rfl w2 hb3; have u4 := cellF 4 _ rfl w2 hb3; obtain ⟨⟨v0, v1, v2, v3, v4⟩, hplain⟩ := hPl w2 hb3)
            | (go_at_call 44; refine hplain.mono ?_; rintro e w3 ⟨rfl, hb4⟩))
          go_ret
          exact ⟨by first | rfl | (rw [hrt]; first | rfl | simp), fin1 _ (hb3.trans (hb4.mono hb3.size))⟩
        · have hn1 : ((t.f4.length : Int) == 1) = false := beq_eq_false_iff_ne.mpr (by omega)
          rw [decide_eq_false hn] at hrt
          clear hpl hn
          go_wp2_with (go_at_call 38; refine hcn.mono ?_; rintro e w2 ⟨rfl, hb2⟩; have hb3 := hbc.trans (hb2.mono hbc.size); have u0 := cellF 0 _ rfl w2 hb3; have u2 := cellF 2 _ rfl w2 hb3; have u4 := cellF 4 _ rfl w2 hb3)
          go_ret
          exact ⟨by first | rfl | (rw [hrt]; first | rfl | simp), fin1 _ (fin2 _ hb2)⟩

end Go.Proofs.Ytadjekpfehjibaa.PEnv

namespace Go.Proofs.Ytadjekpfehjibaa.PEnv
open Go.RowKit Go.Shelf Go.Proofs.YtadjekpfehjibaaW.PrintWords Go.Proofs.YtadjekpfehjibaaW.PrintLast Go.Proofs.YtadjekpfehjibaaW.PrintMore Go.Proofs.Ytadjekpfehjibaa.PEnvHits
set_option linter.unusedVariables false
set_option linter.unusedSimpArgs false

set_option maxRecDepth 100000 in
set_option maxHeartbeats 8000000 in
/-- env.right, one step (ko). -/
theorem right_ko (t : S37) (hk4 : t.f0 ≠ 4) (hk1 : t.f0 ≠ 1) (hk3 : t.f0 ≠ 3) (hk2 : t.f0 ≠ 2) (hk : ∀ k ∈ t.f4, TyWord 28 rightT k) : TyWord 28 rightT t := by
  intro A3 c3 A4 c4 w l3 g3 l4 g4
  have hb1 : Below w.heap.size w (w.alloc (.cells #[.int .i64 t.f0, .bool t.f1, .bool t.f2, .slice A3 t.f3.length c3, .slice A4 t.f4.length c4] 37)) := (Below.refl _ w).alloc (Nat.le_refl _) _
  have e1 := World.alloc_heap_new w (.cells #[.int .i64 t.f0, .bool t.f1, .bool t.f2, .slice A3 t.f3.length c3, .slice A4 t.f4.length c4] 37)
  have cellF : ∀ i u, [Value.int .i64 t.f0, .bool t.f1, .bool t.f2, .slice A3 t.f3.length c3, .slice A4 t.f4.length c4][i]? = some u → ∀ W, Below (w.alloc (.cells #[.int .i64 t.f0, .bool t.f1, .bool t.f2, .slice A3 t.f3.length c3, .slice A4 t.f4.length c4] 37)).heap.size (w.alloc (.cells #[.int .i64 t.f0, .bool t.f1, .bool t.f2, .slice A3 t.f3.length c3, .slice A4 t.f4.length c4] 37)) W → W.cell? ⟨w.heap.size, i, none⟩ = some u := fun i u hu W hq => below_cell hq (by
    unfold World.cell?; rw [e1]; simpa using hu)
  clear e1
  obtain ⟨W1, hW1⟩ : ∃ W1, w.alloc (.cells #[.int .i64 t.f0, .bool t.f1, .bool t.f2, .slice A3 t.f3.length c3, .slice A4 t.f4.length c4] 37) = W1 := ⟨_, rfl⟩
  rw [hW1] at hb1 cellF
  have q0 := cellF 0 _ rfl W1 (Below.refl _ _)
  have q1 := cellF 1 _ rfl W1 (Below.refl _ _)
  have q2 := cellF 2 _ rfl W1 (Below.refl _ _)
  have q3 := cellF 3 _ rfl W1 (Below.refl _ _)
  have q4 := cellF 4 _ rfl W1 (Below.refl _ _)
  have hris := envRising t.f3 A3 c3 W1 (Kd.C_below g3 hb1) l3
  have eR := enters_of Try.func42 (by kernel_rfl) rfl
  have ePl := enters_of Try.func44 (by kernel_rfl) rfl
  have eg : ∀ args w, (callFunc 43 args).run Try.prog w = .ok (.enter 43 args) w := enters_of Try.func43 (by kernel_rfl) rfl
  have hany : t.f4.any (fun k => !rightT k) = !rightL t.f4 := by rw [rightL_all, List.not_all_eq_any_not]
  have hcon : ∀ W, Below W1.heap.size W1 W → Calls Try.prog 38 #[.slice A4 t.f4.length c4, .func (.func 43) #[] #[]] W fun e W' => e = .returned (.bool (!rightL t.f4)) ∧ Below W.heap.size W W' := fun W hW => by
    have h := conKids 43 eg (fun k => !rightT k) t.f4 (fun k hk' => right1 k (hk k hk')) A4 c4 W (Kd.C_below (Kd.C_below g4 hb1) hW)
    rw [hany] at h
    exact h
  clear hk hany
  have hh : headBad t = (((!decide (t.f0 = 4) && (t.f1 || decide (0 < t.f3.length))) || ((decide (t.f0 = 4) && t.f2) && !t.f1)) || !risingB t.f3) := rfl
  have hr : rightT t = ((!headBad t && rightL t.f4) && tailOK t) := rightT_eq t
  have ht : tailOK t = if t.f0 = 1 then decide (t.f4.length = 0) && !t.f2 else if t.f0 = 3 then (decide (2 ≤ t.f4.length) && decide (t.f4.length ≤ 30)) && !t.f2 else ((decide (t.f0 = 4) || decide (t.f0 = 2)) && decide (t.f4.length = 1)) && plainHead t.f4 := rfl
  have hpl : t.f4.length = 1 → ∃ k ad B3 d3 B4 d4, A4 = some ad ∧ plainHead t.f4 = plainT k ∧ ∀ W, Below W1.heap.size W1 W →
      (W.cell? ad = some (.int .i64 k.f0) ∧ W.cell? ⟨ad.block, ad.off + 1, none⟩ = some (.bool k.f1) ∧ W.cell? ⟨ad.block, ad.off + 2, none⟩ = some (.bool k.f2) ∧
       W.cell? ⟨ad.block, ad.off + 3, none⟩ = some (.slice B3 k.f3.length d3) ∧ W.cell? ⟨ad.block, ad.off + 4, none⟩ = some (.slice B4 k.f4.length d4)) ∧
      Calls Try.prog 44 #[.agg #[.int .i64 k.f0, .bool k.f1, .bool k.f2, .slice B3 k.f3.length d3, .slice B4 k.f4.length d4]] W fun e W' => e = .returned (.bool (plainT k)) ∧ Below W.heap.size W W' := by
    intro h1
    obtain ⟨ad, B3, d3, B4, d4, ead, y0, y1, y2, y3, y4, n3, p3, n4, p4⟩ := at_T37 (Kd.C_below g4 hb1) 0 (by omega) (by omega)
    have e0 : ad.add ((0 : Int).toNat * 5) = ad := by simp [Addr.add]
    rw [e0] at y0 y1 y2 y3 y4
    refine ⟨rd_T37 t.f4 0, ad, B3, d3, B4, d4, ead, ?_, fun W hW => ⟨⟨below_cell hW y0, below_cell hW y1, below_cell hW y2, below_cell hW y3, below_cell hW y4⟩, envPlain _ _ _ _ _ W n3 (Kd.C_below p3 hW) n4 (Kd.C_below p4 hW)⟩⟩
    generalize t.f4 = l at h1
    match l, h1 with
    | [k], _ => rfl
  clear g3 g4
  have hk4b : (t.f0 == 4) = false := by simp [hk4]
  have hk1b : (t.f0 == 1) = false := by simp [hk1]
  have hk3b : (t.f0 == 3) = false := by simp [hk3]
  have hk2b : (t.f0 == 2) = false := by simp [hk2]
  rw [decide_eq_false hk4] at hh
  rw [if_neg hk1, if_neg hk3, decide_eq_false hk4, decide_eq_false hk2] at ht
  clear hk4 hk1 hk3 hk2
  go_enter Try.func28, Try.ntmps28
  go_upto_region 3 with fail
  go_cut [11] from 12 to 41 (fun v11 wx => v11 = .bool (headBad t) ∧ Below W1.heap.size W1 wx)
  case first =>
    clear cellF hcon hpl hr ht hW1
    rcases Bool.eq_false_or_eq_true t.f1 with h1 | h1
    · rw [h1] at hh q1
      clear h1
      go_wp2_with (go_at_call 42; refine hris.mono ?_; rintro e w' ⟨rfl, hb2⟩)
      go_meet
      case rel => exact ⟨by rw [hh]; first | rfl | simp, by first | exact hb2 | exact Below.refl _ _⟩
    · rw [h1] at hh q1
      clear h1
      by_cases hl : 0 < t.f3.length
      · have hl1 : decide ((t.f3.length : Int) > 0) = true := decide_eq_true (by omega)
        have hl2 : decide (0 < t.f3.length) = true := decide_eq_true hl
        have hl3 : decide ((0 : Int) < (t.f3.length : Int)) = true := decide_eq_true (by omega)
        rw [decide_eq_true hl] at hh
        clear hl
        go_wp2_with (go_at_call 42; refine hris.mono ?_; rintro e w' ⟨rfl, hb2⟩)
        go_meet
        case rel => exact ⟨by rw [hh]; first | rfl | simp, by first | exact hb2 | exact Below.refl _ _⟩
      · have hl1 : decide ((t.f3.length : Int) > 0) = false := decide_eq_false (by omega)
        have hl2 : decide (0 < t.f3.length) = false := decide_eq_false hl
        have hl3 : decide ((0 : Int) < (t.f3.length : Int)) = false := decide_eq_false (by omega)
        rw [decide_eq_false hl] at hh
        clear hl
        go_wp2_with (go_at_call 42; refine hris.mono ?_; rintro e w' ⟨rfl, hb2⟩)
        go_meet
        case rel => exact ⟨by rw [hh]; first | rfl | simp, by first | exact hb2 | exact Below.refl _ _⟩
  case rest =>
    obtain ⟨rfl, hbc⟩ := hcut
    have s0 := cellF 0 _ rfl wc hbc
    have s1 := cellF 1 _ rfl wc hbc
    have s2 := cellF 2 _ rfl wc hbc
    have s3 := cellF 3 _ rfl wc hbc
    have s4 := cellF 4 _ rfl wc hbc
    have hcn := hcon wc hbc
    clear hcon hris hh q0 q1 q2 q3 q4 hW1
    have fin1 : ∀ w', Below W1.heap.size W1 w' → Below w.heap.size w w' := fun w' h => hb1.trans (h.mono hb1.size)
    have fin2 : ∀ w', Below wc.heap.size wc w' → Below W1.heap.size W1 w' := fun w' h => hbc.trans (h.mono hbc.size)
    cases hhb : headBad t with
    | true =>
      have hrt : rightT t = false := by rw [hr, hhb]; rfl
      clear hpl cellF hcn
      go_wp2_with fail
      go_ret
      exact ⟨by first | rfl | (rw [hrt]; rfl), fin1 _ hbc⟩
    | false =>
      rw [hhb] at hr
      clear hhb
      cases hkl : rightL t.f4 with
      | false =>
        rw [hkl] at hr hcn
        have hrt : rightT t = false := by rw [hr]; rfl
        clear hpl hkl
        go_wp2_with (go_at_call 38; refine hcn.mono ?_; rintro e w2 ⟨rfl, hb2⟩; have hb3 := hbc.trans (hb2.mono hbc.size); have u0 := cellF 0 _ rfl w2 hb3; have u2 := cellF 2 _ rfl w2 hb3; have u4 := cellF 4 _ rfl w2 hb3)
        go_ret
        exact ⟨by first | rfl | (rw [hrt]; rfl), fin1 _ (fin2 _ hb2)⟩
      | true =>
        rw [hkl] at hr hcn
        have hrt : rightT t = tailOK t := by rw [hr]; cases tailOK t <;> rfl
        clear hkl hr
        rw [ht] at hrt
        clear hpl ht
        go_wp2_with (go_at_call 38; refine hcn.mono ?_; rintro e w2 ⟨rfl, hb2⟩; have hb3 := hbc.trans (hb2.mono hbc.size); have u0 := cellF 0 _ rfl w2 hb3; have u2 := cellF 2 _ rfl w2 hb3; have u4 := cellF 4 _ rfl w2 hb3)
        go_ret
        exact ⟨by first | rfl | (rw [hrt]; first | rfl | simp), fin1 _ (fin2 _ hb2)⟩

end Go.Proofs.Ytadjekpfehjibaa.PEnv

namespace Go.Proofs.Ytadjekpfehjibaa.PEnv
open Go.RowKit Go.Shelf Go.Proofs.YtadjekpfehjibaaW.PrintWords Go.Proofs.YtadjekpfehjibaaW.PrintLast Go.Proofs.YtadjekpfehjibaaW.PrintMore Go.Proofs.Ytadjekpfehjibaa.PEnvHits
set_option linter.unusedVariables false
set_option linter.unusedSimpArgs false


/-- env.right, at every type. -/
theorem envRight (t : S37) : TyWord 28 rightT t := by
  induction t using tyInd with
  | h t ih =>
    by_cases h4 : t.f0 = 4
    · exact right_k4 t h4 ih
    · by_cases h1 : t.f0 = 1
      · exact right_k1 t h1 ih
      · by_cases h3 : t.f0 = 3
        · exact right_k3 t h3 ih
        · by_cases h2 : t.f0 = 2
          · exact right_k2 t h2 ih
          · exact right_ko t h4 h1 h3 h2 ih

end Go.Proofs.Ytadjekpfehjibaa.PEnv

namespace Go.Proofs.Ytadjekpfehjibaa.PEnv
open Go.RowKit Go.Shelf Go.Proofs.YtadjekpfehjibaaW.PrintWords Go.Proofs.YtadjekpfehjibaaW.PrintLast Go.Proofs.YtadjekpfehjibaaW.PrintMore Go.Proofs.Ytadjekpfehjibaa.PEnvHits
set_option linter.unusedVariables false
set_option linter.unusedSimpArgs false

def rightE (es : List S39) : Bool := es.all (fun b => rightT b.f1)

set_option maxHeartbeats 1000000 in
/-- env.Right$1. -/
theorem rightB (b : S39) (A4 : Option Addr) (c4 : Nat) (A5 : Option Addr) (c5 : Nat) (w : World) (l4 : b.f1.f3.length ≤ c4) (g4 : Kd.C k27 w A4 b.f1.f3.length b.f1.f3) (l5 : b.f1.f4.length ≤ c5) (g5 : Kd.C k37 w A5 b.f1.f4.length b.f1.f4) :
    Calls Try.prog 27 #[.agg #[.string b.f0, .int .i64 b.f1.f0, .bool b.f1.f1, .bool b.f1.f2, .slice A4 b.f1.f3.length c4, .slice A5 b.f1.f4.length c5]] w fun e w' => e = .returned (.bool (!rightT b.f1)) ∧ Below w.heap.size w w' := by
  have hb : Below w.heap.size w (w.alloc (.cells #[.string b.f0, .int .i64 b.f1.f0, .bool b.f1.f1, .bool b.f1.f2, .slice A4 b.f1.f3.length c4, .slice A5 b.f1.f4.length c5] 39)) := (Below.refl _ w).alloc (Nat.le_refl _) _
  have hcall := envRight b.f1 A4 c4 A5 c5 _ l4 (Kd.C_below g4 hb) l5 (Kd.C_below g5 hb)
  go_enter Try.func27, Try.ntmps27
  go_wp2_with (go_at_call 28; refine hcall.mono ?_; rintro e w' ⟨rfl, hb2⟩)
  go_ret
  exact ⟨rfl, hb.trans (hb2.mono hb.size)⟩

set_option maxHeartbeats 1000000 in
/-- env.Right, at every environment. -/
theorem envRightE (es : List S39) (A : Option Addr) (c : Nat) (w : World) (hC : Kd.C k39 w A es.length es) :
    Calls Try.prog 12 #[.slice A es.length c] w fun e w' => e = .returned (.bool (rightE es)) ∧ Below w.heap.size w w' := by
  have eg : ∀ args w, (callFunc 27 args).run Try.prog w = .ok (.enter 27 args) w := enters_of Try.func27 (by kernel_rfl) rfl
  obtain ⟨vs, hv, hvK⟩ := els_of_C hC
  have h := conBind 27 #[] eg A es.length c vs w w (fun i W' => Below w.heap.size w W' ∧ ∀ j l, j < i → es[j]? = some l → rightT l.f1 = true) (fun i W' => Below w.heap.size w W' ∧ ∃ l, es[i]? = some l ∧ rightT l.f1 = false)
    hv (fun i W' h => h.1) (by
      rintro i cs W1 hi ⟨hb, hn⟩
      have hl : i < es.length := by have := idx_lt hi; have := hv.1; omega
      obtain ⟨cs', e, hK⟩ := hvK i _ (List.getElem?_eq_getElem hl)
      rw [hi] at e
      cases e
      obtain ⟨A4, c4, A5, c5, rfl, l4, g4, l5, g5⟩ := k39_open hK
      refine (rightB es[i] A4 c4 A5 c5 W1 l4 (Kd.C_below g4 hb) l5 (Kd.C_below g5 hb)).mono ?_
      rintro e W2 ⟨rfl, hb2⟩
      cases hh : rightT es[i].f1 with
      | false => exact .inr ⟨rfl, hb.trans (hb2.mono hb.size), _, List.getElem?_eq_getElem hl, hh⟩
      | true =>
        refine .inl ⟨rfl, hb.trans (hb2.mono hb.size), fun j l hj hjl => ?_⟩
        by_cases hji : j = i
        · subst hji
          rw [List.getElem?_eq_getElem hl] at hjl
          cases hjl
          exact hh
        · exact hn j l (by omega) hjl) ⟨Below.refl _ _, fun j l hj => absurd hj (Nat.not_lt_zero _)⟩
  clear hvK hv
  go_enter Try.func12, Try.ntmps12
  go_wp2_with (go_at_call 26; refine h.mono ?_; rintro e w' (⟨rfl, hb, hn⟩ | ⟨rfl, k, hk, hb, l, hl, hh⟩))
  · have hall : rightE es = true := by
      refine List.all_eq_true.mpr fun l hl => ?_
      obtain ⟨j, hj⟩ := List.mem_iff_getElem?.mp hl
      exact hn j l (idx_lt hj) hj
    go_ret
    exact ⟨by first | rfl | (rw [hall]; rfl), hb⟩
  · have hall : rightE es = false := by
      refine List.all_eq_false.mpr ⟨l, List.mem_of_getElem? hl, by rw [hh]; simp⟩
    go_ret
    exact ⟨by first | rfl | (rw [hall]; rfl), hb⟩

end Go.Proofs.Ytadjekpfehjibaa.PEnv
