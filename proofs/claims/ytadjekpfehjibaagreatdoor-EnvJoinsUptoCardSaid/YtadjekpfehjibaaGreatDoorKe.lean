/- EnvJoins, the texts ERightk3, ERightk2, ERightko, ERight, ERightE, EEq, EFits, EFits2, EBoth, EBoth2, EMerge1, EMerge5a, EMerge5, EMerge6, ELess0, JFoot, ELaw5a, JLaw1, JLaw2, ELess1, ELess2, JLaw3: walks and laws that the card leans on, merged by packj.py. Conditions stand in each theorem. -/
import Derived.Test.YtadjekpfehjibaaGreatDoorKd
import Derived.BigQuiet
import Derived.Shelf.SlSortCmp.NoneTotal
import Derived.Test.YtadjekpfehjibaaGreatDoorKc
import Derived.Test.YtadjekpfehjibaaGreatDoorKb
import Derived.Test.YtadjekpfehjibaaGreatDoorKa
set_option linter.unusedVariables false
set_option linter.unusedSimpArgs false
namespace Go.Proofs.YtadjekpfehjibaaGreatDoor.PEnv
open Go.RowKit Go.Shelf Go.Proofs.YtadjekpfehjibaaGreatDoorW.PrintWords Go.Proofs.YtadjekpfehjibaaGreatDoorW.PrintLast Go.Proofs.YtadjekpfehjibaaGreatDoorW.PrintMore Go.Proofs.YtadjekpfehjibaaGreatDoor.PEnvJoins
set_option maxRecDepth 100000 in
set_option maxHeartbeats 8000000 in
/-- env.right, one step (k3). -/
theorem right_k3 (t : S31) (hk3 : t.f0 = 3) (hk : ∀ k ∈ t.f4, TyWord 22 rightT k) : TyWord 22 rightT t := by
  intro A3 c3 A4 c4 w l3 g3 l4 g4
  have hk4 : t.f0 ≠ 4 := by omega
  have hk1 : t.f0 ≠ 1 := by omega
  have hb1 : Below w.heap.size w (w.alloc (.cells #[.int .i64 t.f0, .bool t.f1, .bool t.f2, .slice A3 t.f3.length c3, .slice A4 t.f4.length c4] 31)) := (Below.refl _ w).alloc (Nat.le_refl _) _
  have e1 := World.alloc_heap_new w (.cells #[.int .i64 t.f0, .bool t.f1, .bool t.f2, .slice A3 t.f3.length c3, .slice A4 t.f4.length c4] 31)
  have cellF : ∀ i u, [Value.int .i64 t.f0, .bool t.f1, .bool t.f2, .slice A3 t.f3.length c3, .slice A4 t.f4.length c4][i]? = some u → ∀ W, Below (w.alloc (.cells #[.int .i64 t.f0, .bool t.f1, .bool t.f2, .slice A3 t.f3.length c3, .slice A4 t.f4.length c4] 31)).heap.size (w.alloc (.cells #[.int .i64 t.f0, .bool t.f1, .bool t.f2, .slice A3 t.f3.length c3, .slice A4 t.f4.length c4] 31)) W → W.cell? ⟨w.heap.size, i, none⟩ = some u := fun i u hu W hq => below_cell hq (by
    unfold World.cell?; rw [e1]; simpa using hu)
  clear e1
  obtain ⟨W1, hW1⟩ : ∃ W1, w.alloc (.cells #[.int .i64 t.f0, .bool t.f1, .bool t.f2, .slice A3 t.f3.length c3, .slice A4 t.f4.length c4] 31) = W1 := ⟨_, rfl⟩
  rw [hW1] at hb1 cellF
  have q0 := cellF 0 _ rfl W1 (Below.refl _ _)
  have q1 := cellF 1 _ rfl W1 (Below.refl _ _)
  have q2 := cellF 2 _ rfl W1 (Below.refl _ _)
  have q3 := cellF 3 _ rfl W1 (Below.refl _ _)
  have q4 := cellF 4 _ rfl W1 (Below.refl _ _)
  have hris := envRising t.f3 A3 c3 W1 (Kd.C_below g3 hb1) l3
  have eR := enters_of Tryz.func39 (by kernel_rfl) rfl
  have ePl := enters_of Tryz.func42 (by kernel_rfl) rfl
  have eg : ∀ args w, (callFunc 41 args).run Tryz.prog w = .ok (.enter 41 args) w := enters_of Tryz.func41 (by kernel_rfl) rfl
  have hany : t.f4.any (fun k => !rightT k) = !rightL t.f4 := by rw [rightL_all, List.not_all_eq_any_not]
  have hcon : ∀ W, Below W1.heap.size W1 W → Calls Tryz.prog 40 #[.slice A4 t.f4.length c4, .func (.func 41) #[] #[]] W fun e W' => e = .returned (.bool (!rightL t.f4)) ∧ Below W.heap.size W W' := fun W hW => by
    have h := conKids 41 eg (fun k => !rightT k) t.f4 (fun k hk' => right1 k (hk k hk')) A4 c4 W (Kd.C_below (Kd.C_below g4 hb1) hW)
    rw [hany] at h
    exact h
  clear hk hany
  have hh : headBad t = (((!decide (t.f0 = 4) && (t.f1 || decide (0 < t.f3.length))) || ((decide (t.f0 = 4) && t.f2) && !t.f1)) || !risingB t.f3) := rfl
  have hr : rightT t = ((!headBad t && rightL t.f4) && tailOK t) := rightT_eq t
  have ht : tailOK t = if t.f0 = 1 then decide (t.f4.length = 0) && !t.f2 else if t.f0 = 3 then (decide (2 ≤ t.f4.length) && decide (t.f4.length ≤ 30)) && !t.f2 else ((decide (t.f0 = 4) || decide (t.f0 = 2)) && decide (t.f4.length = 1)) && plainHead t.f4 := rfl
  have hpl : t.f4.length = 1 → ∃ k ad B3 d3 B4 d4, A4 = some ad ∧ plainHead t.f4 = plainT k ∧ ∀ W, Below W1.heap.size W1 W →
      (W.cell? ad = some (.int .i64 k.f0) ∧ W.cell? ⟨ad.block, ad.off + 1, none⟩ = some (.bool k.f1) ∧ W.cell? ⟨ad.block, ad.off + 2, none⟩ = some (.bool k.f2) ∧
       W.cell? ⟨ad.block, ad.off + 3, none⟩ = some (.slice B3 k.f3.length d3) ∧ W.cell? ⟨ad.block, ad.off + 4, none⟩ = some (.slice B4 k.f4.length d4)) ∧
      Calls Tryz.prog 42 #[.agg #[.int .i64 k.f0, .bool k.f1, .bool k.f2, .slice B3 k.f3.length d3, .slice B4 k.f4.length d4]] W fun e W' => e = .returned (.bool (plainT k)) ∧ Below W.heap.size W W' := by
    intro h1
    obtain ⟨ad, B3, d3, B4, d4, ead, y0, y1, y2, y3, y4, n3, p3, n4, p4⟩ := at_T31 (Kd.C_below g4 hb1) 0 (by omega) (by omega)
    have e0 : ad.add ((0 : Int).toNat * 5) = ad := by simp [Addr.add]
    rw [e0] at y0 y1 y2 y3 y4
    refine ⟨rd_T31 t.f4 0, ad, B3, d3, B4, d4, ead, ?_, fun W hW => ⟨⟨below_cell hW y0, below_cell hW y1, below_cell hW y2, below_cell hW y3, below_cell hW y4⟩, envPlain _ _ _ _ _ W n3 (Kd.C_below p3 hW) n4 (Kd.C_below p4 hW)⟩⟩
    generalize t.f4 = l at h1
    match l, h1 with
    | [k], _ => rfl
  clear g3 g4
  have hk3b : (t.f0 == 3) = true := by simp [hk3]
  have hk4b : (t.f0 == 4) = false := by simp [hk4]
  have hk1b : (t.f0 == 1) = false := by simp [hk1]
  rw [decide_eq_false hk4] at hh
  rw [if_neg hk1, if_pos hk3] at ht
  clear hk3 hk4 hk1
  go_enter Tryz.func22, Tryz.ntmps22
  go_upto_region 3 with fail
  go_cut [11] from 12 to 41 (fun v11 wx => v11 = .bool (headBad t) ∧ Below W1.heap.size W1 wx)
  case first =>
    clear cellF hcon hpl hr ht hW1
    rcases Bool.eq_false_or_eq_true t.f1 with h1 | h1
    · rw [h1] at hh q1
      clear h1
      go_wp2_with (go_at_call 39; refine hris.mono ?_; rintro e w' ⟨rfl, hb2⟩)
      go_meet
      case rel => exact ⟨by rw [hh]; first | rfl | simp, by first | exact hb2 | exact Below.refl _ _⟩
    · rw [h1] at hh q1
      clear h1
      by_cases hl : 0 < t.f3.length
      · have hl1 : decide ((t.f3.length : Int) > 0) = true := decide_eq_true (by omega)
        have hl2 : decide (0 < t.f3.length) = true := decide_eq_true hl
        have hl3 : decide ((0 : Int) < (t.f3.length : Int)) = true := decide_eq_true (by omega)
        rw [decide_eq_true hl] at hh
        clear hl
        go_wp2_with (go_at_call 39; refine hris.mono ?_; rintro e w' ⟨rfl, hb2⟩)
        go_meet
        case rel => exact ⟨by rw [hh]; first | rfl | simp, by first | exact hb2 | exact Below.refl _ _⟩
      · have hl1 : decide ((t.f3.length : Int) > 0) = false := decide_eq_false (by omega)
        have hl2 : decide (0 < t.f3.length) = false := decide_eq_false hl
        have hl3 : decide ((0 : Int) < (t.f3.length : Int)) = false := decide_eq_false (by omega)
        rw [decide_eq_false hl] at hh
        clear hl
        go_wp2_with (go_at_call 39; refine hris.mono ?_; rintro e w' ⟨rfl, hb2⟩)
        go_meet
        case rel => exact ⟨by rw [hh]; first | rfl | simp, by first | exact hb2 | exact Below.refl _ _⟩
  case rest =>
    obtain ⟨rfl, hbc⟩ := hcut
    have s0 := cellF 0 _ rfl wc hbc
    have s1 := cellF 1 _ rfl wc hbc
    have s2 := cellF 2 _ rfl wc hbc
    have s3 := cellF 3 _ rfl wc hbc
    have s4 := cellF 4 _ rfl wc hbc
    have hcn := hcon wc hbc
    clear hcon hris hh q0 q1 q2 q3 q4 hW1
    have fin1 : ∀ w', Below W1.heap.size W1 w' → Below w.heap.size w w' := fun w' h => hb1.trans (h.mono hb1.size)
    have fin2 : ∀ w', Below wc.heap.size wc w' → Below W1.heap.size W1 w' := fun w' h => hbc.trans (h.mono hbc.size)
    cases hhb : headBad t with
    | true =>
      have hrt : rightT t = false := by rw [hr, hhb]; rfl
      clear hpl cellF hcn
      go_wp2_with fail
      go_ret
      exact ⟨by first | rfl | (rw [hrt]; rfl), fin1 _ hbc⟩
    | false =>
      rw [hhb] at hr
      clear hhb
      cases hkl : rightL t.f4 with
      | false =>
        rw [hkl] at hr hcn
        have hrt : rightT t = false := by rw [hr]; rfl
        clear hpl hkl
        go_wp2_with (go_at_call 40; refine hcn.mono ?_; rintro e w2 ⟨rfl, hb2⟩; have hb3 := hbc.trans (hb2.mono hbc.size); have u0 := cellF 0 _ rfl w2 hb3; have u2 := cellF 2 _ rfl w2 hb3; have u4 := cellF 4 _ rfl w2 hb3)
        go_ret
        exact ⟨by first | rfl | (rw [hrt]; rfl), fin1 _ (fin2 _ hb2)⟩
      | true =>
        rw [hkl] at hr hcn
        have hrt : rightT t = tailOK t := by rw [hr]; cases tailOK t <;> rfl
        clear hkl hr
        rw [ht] at hrt
        clear hpl ht
        by_cases hn : 2 ≤ t.f4.length
        · have hn1 : decide ((t.f4.length : Int) ≥ 2) = true := decide_eq_true (by omega)
          have hn3 : decide (2 ≤ t.f4.length) = true := decide_eq_true hn
          rw [decide_eq_true hn] at hrt
          by_cases hm : t.f4.length ≤ 30
          · have hm1 : decide ((t.f4.length : Int) ≤ 30) = true := decide_eq_true (by omega)
            have hm3 : decide (t.f4.length ≤ 30) = true := decide_eq_true hm
            rw [decide_eq_true hm] at hrt
            clear hn hm
            go_wp2_with (go_at_call 40; refine hcn.mono ?_; rintro e w2 ⟨rfl, hb2⟩; have hb3 := hbc.trans (hb2.mono hbc.size); have u0 := cellF 0 _ rfl w2 hb3; have u2 := cellF 2 _ rfl w2 hb3; have u4 := cellF 4 _ rfl w2 hb3)
            go_ret
            exact ⟨by first | rfl | (rw [hrt]; first | rfl | simp), fin1 _ (fin2 _ hb2)⟩
          · have hm1 : decide ((t.f4.length : Int) ≤ 30) = false := decide_eq_false (by omega)
            have hm3 : decide (t.f4.length ≤ 30) = false := decide_eq_false hm
            rw [decide_eq_false hm] at hrt
            clear hn hm
            go_wp2_with (go_at_call 40; refine hcn.mono ?_; rintro e w2 ⟨rfl, hb2⟩; have hb3 := hbc.trans (hb2.mono hbc.size); have u0 := cellF 0 _ rfl w2 hb3; have u2 := cellF 2 _ rfl w2 hb3; have u4 := cellF 4 _ rfl w2 hb3)
            go_ret
            exact ⟨by first | rfl | (rw [hrt]; first | rfl | simp), fin1 _ (fin2 _ hb2)⟩
        · have hn1 : decide ((t.f4.length : Int) ≥ 2) = false := decide_eq_false (by omega)
          have hn3 : decide (2 ≤ t.f4.length) = false := decide_eq_false hn
          rw [decide_eq_false hn] at hrt
          clear hn
          go_wp2_with (go_at_call 40; refine hcn.mono ?_; rintro e w2 ⟨rfl, hb2⟩; have hb3 := hbc.trans (hb2.mono hbc.size); have u0 := cellF 0 _ rfl w2 hb3; have u2 := cellF 2 _ rfl w2 hb3; have u4 := cellF 4 _ rfl w2 hb3)
          go_ret
          exact ⟨by first | rfl | (rw [hrt]; first | rfl | simp), fin1 _ (fin2 _ hb2)⟩
end Go.Proofs.YtadjekpfehjibaaGreatDoor.PEnv
namespace Go.Proofs.YtadjekpfehjibaaGreatDoor.PEnv
open Go.RowKit Go.Shelf Go.Proofs.YtadjekpfehjibaaGreatDoorW.PrintWords Go.Proofs.YtadjekpfehjibaaGreatDoorW.PrintLast Go.Proofs.YtadjekpfehjibaaGreatDoorW.PrintMore Go.Proofs.YtadjekpfehjibaaGreatDoor.PEnvJoins
set_option maxRecDepth 100000 in
set_option maxHeartbeats 8000000 in
/-- env.right, one step (k2). -/
theorem right_k2 (t : S31) (hk2 : t.f0 = 2) (hk : ∀ k ∈ t.f4, TyWord 22 rightT k) : TyWord 22 rightT t := by
  intro A3 c3 A4 c4 w l3 g3 l4 g4
  have hk4 : t.f0 ≠ 4 := by omega
  have hk1 : t.f0 ≠ 1 := by omega
  have hk3 : t.f0 ≠ 3 := by omega
  have hb1 : Below w.heap.size w (w.alloc (.cells #[.int .i64 t.f0, .bool t.f1, .bool t.f2, .slice A3 t.f3.length c3, .slice A4 t.f4.length c4] 31)) := (Below.refl _ w).alloc (Nat.le_refl _) _
  have e1 := World.alloc_heap_new w (.cells #[.int .i64 t.f0, .bool t.f1, .bool t.f2, .slice A3 t.f3.length c3, .slice A4 t.f4.length c4] 31)
  have cellF : ∀ i u, [Value.int .i64 t.f0, .bool t.f1, .bool t.f2, .slice A3 t.f3.length c3, .slice A4 t.f4.length c4][i]? = some u → ∀ W, Below (w.alloc (.cells #[.int .i64 t.f0, .bool t.f1, .bool t.f2, .slice A3 t.f3.length c3, .slice A4 t.f4.length c4] 31)).heap.size (w.alloc (.cells #[.int .i64 t.f0, .bool t.f1, .bool t.f2, .slice A3 t.f3.length c3, .slice A4 t.f4.length c4] 31)) W → W.cell? ⟨w.heap.size, i, none⟩ = some u := fun i u hu W hq => below_cell hq (by
    unfold World.cell?; rw [e1]; simpa using hu)
  clear e1
  obtain ⟨W1, hW1⟩ : ∃ W1, w.alloc (.cells #[.int .i64 t.f0, .bool t.f1, .bool t.f2, .slice A3 t.f3.length c3, .slice A4 t.f4.length c4] 31) = W1 := ⟨_, rfl⟩
  rw [hW1] at hb1 cellF
  have q0 := cellF 0 _ rfl W1 (Below.refl _ _)
  have q1 := cellF 1 _ rfl W1 (Below.refl _ _)
  have q2 := cellF 2 _ rfl W1 (Below.refl _ _)
  have q3 := cellF 3 _ rfl W1 (Below.refl _ _)
  have q4 := cellF 4 _ rfl W1 (Below.refl _ _)
  have hris := envRising t.f3 A3 c3 W1 (Kd.C_below g3 hb1) l3
  have eR := enters_of Tryz.func39 (by kernel_rfl) rfl
  have ePl := enters_of Tryz.func42 (by kernel_rfl) rfl
  have eg : ∀ args w, (callFunc 41 args).run Tryz.prog w = .ok (.enter 41 args) w := enters_of Tryz.func41 (by kernel_rfl) rfl
  have hany : t.f4.any (fun k => !rightT k) = !rightL t.f4 := by rw [rightL_all, List.not_all_eq_any_not]
  have hcon : ∀ W, Below W1.heap.size W1 W → Calls Tryz.prog 40 #[.slice A4 t.f4.length c4, .func (.func 41) #[] #[]] W fun e W' => e = .returned (.bool (!rightL t.f4)) ∧ Below W.heap.size W W' := fun W hW => by
    have h := conKids 41 eg (fun k => !rightT k) t.f4 (fun k hk' => right1 k (hk k hk')) A4 c4 W (Kd.C_below (Kd.C_below g4 hb1) hW)
    rw [hany] at h
    exact h
  clear hk hany
  have hh : headBad t = (((!decide (t.f0 = 4) && (t.f1 || decide (0 < t.f3.length))) || ((decide (t.f0 = 4) && t.f2) && !t.f1)) || !risingB t.f3) := rfl
  have hr : rightT t = ((!headBad t && rightL t.f4) && tailOK t) := rightT_eq t
  have ht : tailOK t = if t.f0 = 1 then decide (t.f4.length = 0) && !t.f2 else if t.f0 = 3 then (decide (2 ≤ t.f4.length) && decide (t.f4.length ≤ 30)) && !t.f2 else ((decide (t.f0 = 4) || decide (t.f0 = 2)) && decide (t.f4.length = 1)) && plainHead t.f4 := rfl
  have hpl : t.f4.length = 1 → ∃ k ad B3 d3 B4 d4, A4 = some ad ∧ plainHead t.f4 = plainT k ∧ ∀ W, Below W1.heap.size W1 W →
      (W.cell? ad = some (.int .i64 k.f0) ∧ W.cell? ⟨ad.block, ad.off + 1, none⟩ = some (.bool k.f1) ∧ W.cell? ⟨ad.block, ad.off + 2, none⟩ = some (.bool k.f2) ∧
       W.cell? ⟨ad.block, ad.off + 3, none⟩ = some (.slice B3 k.f3.length d3) ∧ W.cell? ⟨ad.block, ad.off + 4, none⟩ = some (.slice B4 k.f4.length d4)) ∧
      Calls Tryz.prog 42 #[.agg #[.int .i64 k.f0, .bool k.f1, .bool k.f2, .slice B3 k.f3.length d3, .slice B4 k.f4.length d4]] W fun e W' => e = .returned (.bool (plainT k)) ∧ Below W.heap.size W W' := by
    intro h1
    obtain ⟨ad, B3, d3, B4, d4, ead, y0, y1, y2, y3, y4, n3, p3, n4, p4⟩ := at_T31 (Kd.C_below g4 hb1) 0 (by omega) (by omega)
    have e0 : ad.add ((0 : Int).toNat * 5) = ad := by simp [Addr.add]
    rw [e0] at y0 y1 y2 y3 y4
    refine ⟨rd_T31 t.f4 0, ad, B3, d3, B4, d4, ead, ?_, fun W hW => ⟨⟨below_cell hW y0, below_cell hW y1, below_cell hW y2, below_cell hW y3, below_cell hW y4⟩, envPlain _ _ _ _ _ W n3 (Kd.C_below p3 hW) n4 (Kd.C_below p4 hW)⟩⟩
    generalize t.f4 = l at h1
    match l, h1 with
    | [k], _ => rfl
  clear g3 g4
  have hk2b : (t.f0 == 2) = true := by simp [hk2]
  have hk4b : (t.f0 == 4) = false := by simp [hk4]
  have hk1b : (t.f0 == 1) = false := by simp [hk1]
  have hk3b : (t.f0 == 3) = false := by simp [hk3]
  rw [decide_eq_false hk4] at hh
  rw [if_neg hk1, if_neg hk3, decide_eq_false hk4, decide_eq_true hk2] at ht
  clear hk2 hk4 hk1 hk3
  go_enter Tryz.func22, Tryz.ntmps22
  go_upto_region 3 with fail
  go_cut [11] from 12 to 41 (fun v11 wx => v11 = .bool (headBad t) ∧ Below W1.heap.size W1 wx)
  case first =>
    clear cellF hcon hpl hr ht hW1
    rcases Bool.eq_false_or_eq_true t.f1 with h1 | h1
    · rw [h1] at hh q1
      clear h1
      go_wp2_with (go_at_call 39; refine hris.mono ?_; rintro e w' ⟨rfl, hb2⟩)
      go_meet
      case rel => exact ⟨by rw [hh]; first | rfl | simp, by first | exact hb2 | exact Below.refl _ _⟩
    · rw [h1] at hh q1
      clear h1
      by_cases hl : 0 < t.f3.length
      · have hl1 : decide ((t.f3.length : Int) > 0) = true := decide_eq_true (by omega)
        have hl2 : decide (0 < t.f3.length) = true := decide_eq_true hl
        have hl3 : decide ((0 : Int) < (t.f3.length : Int)) = true := decide_eq_true (by omega)
        rw [decide_eq_true hl] at hh
        clear hl
        go_wp2_with (go_at_call 39; refine hris.mono ?_; rintro e w' ⟨rfl, hb2⟩)
        go_meet
        case rel => exact ⟨by rw [hh]; first | rfl | simp, by first | exact hb2 | exact Below.refl _ _⟩
      · have hl1 : decide ((t.f3.length : Int) > 0) = false := decide_eq_false (by omega)
        have hl2 : decide (0 < t.f3.length) = false := decide_eq_false hl
        have hl3 : decide ((0 : Int) < (t.f3.length : Int)) = false := decide_eq_false (by omega)
        rw [decide_eq_false hl] at hh
        clear hl
        go_wp2_with (go_at_call 39; refine hris.mono ?_; rintro e w' ⟨rfl, hb2⟩)
        go_meet
        case rel => exact ⟨by rw [hh]; first | rfl | simp, by first | exact hb2 | exact Below.refl _ _⟩
  case rest =>
    obtain ⟨rfl, hbc⟩ := hcut
    have s0 := cellF 0 _ rfl wc hbc
    have s1 := cellF 1 _ rfl wc hbc
    have s2 := cellF 2 _ rfl wc hbc
    have s3 := cellF 3 _ rfl wc hbc
    have s4 := cellF 4 _ rfl wc hbc
    have hcn := hcon wc hbc
    clear hcon hris hh q0 q1 q2 q3 q4 hW1
    have fin1 : ∀ w', Below W1.heap.size W1 w' → Below w.heap.size w w' := fun w' h => hb1.trans (h.mono hb1.size)
    have fin2 : ∀ w', Below wc.heap.size wc w' → Below W1.heap.size W1 w' := fun w' h => hbc.trans (h.mono hbc.size)
    cases hhb : headBad t with
    | true =>
      have hrt : rightT t = false := by rw [hr, hhb]; rfl
      clear hpl cellF hcn
      go_wp2_with fail
      go_ret
      exact ⟨by first | rfl | (rw [hrt]; rfl), fin1 _ hbc⟩
    | false =>
      rw [hhb] at hr
      clear hhb
      cases hkl : rightL t.f4 with
      | false =>
        rw [hkl] at hr hcn
        have hrt : rightT t = false := by rw [hr]; rfl
        clear hpl hkl
        go_wp2_with (go_at_call 40; refine hcn.mono ?_; rintro e w2 ⟨rfl, hb2⟩; have hb3 := hbc.trans (hb2.mono hbc.size); have u0 := cellF 0 _ rfl w2 hb3; have u2 := cellF 2 _ rfl w2 hb3; have u4 := cellF 4 _ rfl w2 hb3)
        go_ret
        exact ⟨by first | rfl | (rw [hrt]; rfl), fin1 _ (fin2 _ hb2)⟩
      | true =>
        rw [hkl] at hr hcn
        have hrt : rightT t = tailOK t := by rw [hr]; cases tailOK t <;> rfl
        clear hkl hr
        rw [ht] at hrt
        clear ht
        by_cases hn : t.f4.length = 1
        · have hn1 : ((t.f4.length : Int) == 1) = true := beq_iff_eq.mpr (by omega)
          have hn2 : (0 : Int) < (t.f4.length : Int) := by omega
          obtain ⟨k, ad, B3, d3, B4, d4, rfl, hph, hPl⟩ := hpl hn
          rw [decide_eq_true hn, hph] at hrt
          have hrt : rightT t = plainT k := by rw [hrt]; simp
          clear hn hph
          go_wp2_with (first
            | (go_at_call 40; refine hcn.mono ?_; rintro e w2 ⟨rfl, hb2⟩; have hb3 := hbc.trans (hb2.mono hbc.size); have u0 := cellF 0 _ rfl w2 hb3; have u2 := cellF 2 _ rfl w2 hb3; have u4 := cellF 4 _ rfl w2 hb3; obtain ⟨⟨v0, v1, v2, v3, v4⟩, hplain⟩ := hPl w2 hb3)
            | (go_at_call 42; refine hplain.mono ?_; rintro e w3 ⟨rfl, hb4⟩))
          go_ret
          exact ⟨by first | rfl | (rw [hrt]; first | rfl | simp), fin1 _ (hb3.trans (hb4.mono hb3.size))⟩
        · have hn1 : ((t.f4.length : Int) == 1) = false := beq_eq_false_iff_ne.mpr (by omega)
          rw [decide_eq_false hn] at hrt
          clear hpl hn
          go_wp2_with (go_at_call 40; refine hcn.mono ?_; rintro e w2 ⟨rfl, hb2⟩; have hb3 := hbc.trans (hb2.mono hbc.size); have u0 := cellF 0 _ rfl w2 hb3; have u2 := cellF 2 _ rfl w2 hb3; have u4 := cellF 4 _ rfl w2 hb3)
          go_ret
          exact ⟨by first | rfl | (rw [hrt]; first | rfl | simp), fin1 _ (fin2 _ hb2)⟩
end Go.Proofs.YtadjekpfehjibaaGreatDoor.PEnv
namespace Go.Proofs.YtadjekpfehjibaaGreatDoor.PEnv
open Go.RowKit Go.Shelf Go.Proofs.YtadjekpfehjibaaGreatDoorW.PrintWords Go.Proofs.YtadjekpfehjibaaGreatDoorW.PrintLast Go.Proofs.YtadjekpfehjibaaGreatDoorW.PrintMore Go.Proofs.YtadjekpfehjibaaGreatDoor.PEnvJoins
set_option maxRecDepth 100000 in
set_option maxHeartbeats 8000000 in
/-- env.right, one step (ko). -/
theorem right_ko (t : S31) (hk4 : t.f0 ≠ 4) (hk1 : t.f0 ≠ 1) (hk3 : t.f0 ≠ 3) (hk2 : t.f0 ≠ 2) (hk : ∀ k ∈ t.f4, TyWord 22 rightT k) : TyWord 22 rightT t := by
  intro A3 c3 A4 c4 w l3 g3 l4 g4
  have hb1 : Below w.heap.size w (w.alloc (.cells #[.int .i64 t.f0, .bool t.f1, .bool t.f2, .slice A3 t.f3.length c3, .slice A4 t.f4.length c4] 31)) := (Below.refl _ w).alloc (Nat.le_refl _) _
  have e1 := World.alloc_heap_new w (.cells #[.int .i64 t.f0, .bool t.f1, .bool t.f2, .slice A3 t.f3.length c3, .slice A4 t.f4.length c4] 31)
  have cellF : ∀ i u, [Value.int .i64 t.f0, .bool t.f1, .bool t.f2, .slice A3 t.f3.length c3, .slice A4 t.f4.length c4][i]? = some u → ∀ W, Below (w.alloc (.cells #[.int .i64 t.f0, .bool t.f1, .bool t.f2, .slice A3 t.f3.length c3, .slice A4 t.f4.length c4] 31)).heap.size (w.alloc (.cells #[.int .i64 t.f0, .bool t.f1, .bool t.f2, .slice A3 t.f3.length c3, .slice A4 t.f4.length c4] 31)) W → W.cell? ⟨w.heap.size, i, none⟩ = some u := fun i u hu W hq => below_cell hq (by
    unfold World.cell?; rw [e1]; simpa using hu)
  clear e1
  obtain ⟨W1, hW1⟩ : ∃ W1, w.alloc (.cells #[.int .i64 t.f0, .bool t.f1, .bool t.f2, .slice A3 t.f3.length c3, .slice A4 t.f4.length c4] 31) = W1 := ⟨_, rfl⟩
  rw [hW1] at hb1 cellF
  have q0 := cellF 0 _ rfl W1 (Below.refl _ _)
  have q1 := cellF 1 _ rfl W1 (Below.refl _ _)
  have q2 := cellF 2 _ rfl W1 (Below.refl _ _)
  have q3 := cellF 3 _ rfl W1 (Below.refl _ _)
  have q4 := cellF 4 _ rfl W1 (Below.refl _ _)
  have hris := envRising t.f3 A3 c3 W1 (Kd.C_below g3 hb1) l3
  have eR := enters_of Tryz.func39 (by kernel_rfl) rfl
  have ePl := enters_of Tryz.func42 (by kernel_rfl) rfl
  have eg : ∀ args w, (callFunc 41 args).run Tryz.prog w = .ok (.enter 41 args) w := enters_of Tryz.func41 (by kernel_rfl) rfl
  have hany : t.f4.any (fun k => !rightT k) = !rightL t.f4 := by rw [rightL_all, List.not_all_eq_any_not]
  have hcon : ∀ W, Below W1.heap.size W1 W → Calls Tryz.prog 40 #[.slice A4 t.f4.length c4, .func (.func 41) #[] #[]] W fun e W' => e = .returned (.bool (!rightL t.f4)) ∧ Below W.heap.size W W' := fun W hW => by
    have h := conKids 41 eg (fun k => !rightT k) t.f4 (fun k hk' => right1 k (hk k hk')) A4 c4 W (Kd.C_below (Kd.C_below g4 hb1) hW)
    rw [hany] at h
    exact h
  clear hk hany
  have hh : headBad t = (((!decide (t.f0 = 4) && (t.f1 || decide (0 < t.f3.length))) || ((decide (t.f0 = 4) && t.f2) && !t.f1)) || !risingB t.f3) := rfl
  have hr : rightT t = ((!headBad t && rightL t.f4) && tailOK t) := rightT_eq t
  have ht : tailOK t = if t.f0 = 1 then decide (t.f4.length = 0) && !t.f2 else if t.f0 = 3 then (decide (2 ≤ t.f4.length) && decide (t.f4.length ≤ 30)) && !t.f2 else ((decide (t.f0 = 4) || decide (t.f0 = 2)) && decide (t.f4.length = 1)) && plainHead t.f4 := rfl
  have hpl : t.f4.length = 1 → ∃ k ad B3 d3 B4 d4, A4 = some ad ∧ plainHead t.f4 = plainT k ∧ ∀ W, Below W1.heap.size W1 W →
      (W.cell? ad = some (.int .i64 k.f0) ∧ W.cell? ⟨ad.block, ad.off + 1, none⟩ = some (.bool k.f1) ∧ W.cell? ⟨ad.block, ad.off + 2, none⟩ = some (.bool k.f2) ∧
       W.cell? ⟨ad.block, ad.off + 3, none⟩ = some (.slice B3 k.f3.length d3) ∧ W.cell? ⟨ad.block, ad.off + 4, none⟩ = some (.slice B4 k.f4.length d4)) ∧
      Calls Tryz.prog 42 #[.agg #[.int .i64 k.f0, .bool k.f1, .bool k.f2, .slice B3 k.f3.length d3, .slice B4 k.f4.length d4]] W fun e W' => e = .returned (.bool (plainT k)) ∧ Below W.heap.size W W' := by
    intro h1
    obtain ⟨ad, B3, d3, B4, d4, ead, y0, y1, y2, y3, y4, n3, p3, n4, p4⟩ := at_T31 (Kd.C_below g4 hb1) 0 (by omega) (by omega)
    have e0 : ad.add ((0 : Int).toNat * 5) = ad := by simp [Addr.add]
    rw [e0] at y0 y1 y2 y3 y4
    refine ⟨rd_T31 t.f4 0, ad, B3, d3, B4, d4, ead, ?_, fun W hW => ⟨⟨below_cell hW y0, below_cell hW y1, below_cell hW y2, below_cell hW y3, below_cell hW y4⟩, envPlain _ _ _ _ _ W n3 (Kd.C_below p3 hW) n4 (Kd.C_below p4 hW)⟩⟩
    generalize t.f4 = l at h1
    match l, h1 with
    | [k], _ => rfl
  clear g3 g4
  have hk4b : (t.f0 == 4) = false := by simp [hk4]
  have hk1b : (t.f0 == 1) = false := by simp [hk1]
  have hk3b : (t.f0 == 3) = false := by simp [hk3]
  have hk2b : (t.f0 == 2) = false := by simp [hk2]
  rw [decide_eq_false hk4] at hh
  rw [if_neg hk1, if_neg hk3, decide_eq_false hk4, decide_eq_false hk2] at ht
  clear hk4 hk1 hk3 hk2
  go_enter Tryz.func22, Tryz.ntmps22
  go_upto_region 3 with fail
  go_cut [11] from 12 to 41 (fun v11 wx => v11 = .bool (headBad t) ∧ Below W1.heap.size W1 wx)
  case first =>
    clear cellF hcon hpl hr ht hW1
    rcases Bool.eq_false_or_eq_true t.f1 with h1 | h1
    · rw [h1] at hh q1
      clear h1
      go_wp2_with (go_at_call 39; refine hris.mono ?_; rintro e w' ⟨rfl, hb2⟩)
      go_meet
      case rel => exact ⟨by rw [hh]; first | rfl | simp, by first | exact hb2 | exact Below.refl _ _⟩
    · rw [h1] at hh q1
      clear h1
      by_cases hl : 0 < t.f3.length
      · have hl1 : decide ((t.f3.length : Int) > 0) = true := decide_eq_true (by omega)
        have hl2 : decide (0 < t.f3.length) = true := decide_eq_true hl
        have hl3 : decide ((0 : Int) < (t.f3.length : Int)) = true := decide_eq_true (by omega)
        rw [decide_eq_true hl] at hh
        clear hl
        go_wp2_with (go_at_call 39; refine hris.mono ?_; rintro e w' ⟨rfl, hb2⟩)
        go_meet
        case rel => exact ⟨by rw [hh]; first | rfl | simp, by first | exact hb2 | exact Below.refl _ _⟩
      · have hl1 : decide ((t.f3.length : Int) > 0) = false := decide_eq_false (by omega)
        have hl2 : decide (0 < t.f3.length) = false := decide_eq_false hl
        have hl3 : decide ((0 : Int) < (t.f3.length : Int)) = false := decide_eq_false (by omega)
        rw [decide_eq_false hl] at hh
        clear hl
        go_wp2_with (go_at_call 39; refine hris.mono ?_; rintro e w' ⟨rfl, hb2⟩)
        go_meet
        case rel => exact ⟨by rw [hh]; first | rfl | simp, by first | exact hb2 | exact Below.refl _ _⟩
  case rest =>
    obtain ⟨rfl, hbc⟩ := hcut
    have s0 := cellF 0 _ rfl wc hbc
    have s1 := cellF 1 _ rfl wc hbc
    have s2 := cellF 2 _ rfl wc hbc
    have s3 := cellF 3 _ rfl wc hbc
    have s4 := cellF 4 _ rfl wc hbc
    have hcn := hcon wc hbc
    clear hcon hris hh q0 q1 q2 q3 q4 hW1
    have fin1 : ∀ w', Below W1.heap.size W1 w' → Below w.heap.size w w' := fun w' h => hb1.trans (h.mono hb1.size)
    have fin2 : ∀ w', Below wc.heap.size wc w' → Below W1.heap.size W1 w' := fun w' h => hbc.trans (h.mono hbc.size)
    cases hhb : headBad t with
    | true =>
      have hrt : rightT t = false := by rw [hr, hhb]; rfl
      clear hpl cellF hcn
      go_wp2_with fail
      go_ret
      exact ⟨by first | rfl | (rw [hrt]; rfl), fin1 _ hbc⟩
    | false =>
      rw [hhb] at hr
      clear hhb
      cases hkl : rightL t.f4 with
      | false =>
        rw [hkl] at hr hcn
        have hrt : rightT t = false := by rw [hr]; rfl
        clear hpl hkl
        go_wp2_with (go_at_call 40; refine hcn.mono ?_; rintro e w2 ⟨rfl, hb2⟩; have hb3 := hbc.trans (hb2.mono hbc.size); have u0 := cellF 0 _ rfl w2 hb3; have u2 := cellF 2 _ rfl w2 hb3; have u4 := cellF 4 _ rfl w2 hb3)
        go_ret
        exact ⟨by first | rfl | (rw [hrt]; rfl), fin1 _ (fin2 _ hb2)⟩
      | true =>
        rw [hkl] at hr hcn
        have hrt : rightT t = tailOK t := by rw [hr]; cases tailOK t <;> rfl
        clear hkl hr
        rw [ht] at hrt
        clear hpl ht
        go_wp2_with (go_at_call 40; refine hcn.mono ?_; rintro e w2 ⟨rfl, hb2⟩; have hb3 := hbc.trans (hb2.mono hbc.size); have u0 := cellF 0 _ rfl w2 hb3; have u2 := cellF 2 _ rfl w2 hb3; have u4 := cellF 4 _ rfl w2 hb3)
        go_ret
        exact ⟨by first | rfl | (rw [hrt]; first | rfl | simp), fin1 _ (fin2 _ hb2)⟩
end Go.Proofs.YtadjekpfehjibaaGreatDoor.PEnv
namespace Go.Proofs.YtadjekpfehjibaaGreatDoor.PEnv
open Go.RowKit Go.Shelf Go.Proofs.YtadjekpfehjibaaGreatDoorW.PrintWords Go.Proofs.YtadjekpfehjibaaGreatDoorW.PrintLast Go.Proofs.YtadjekpfehjibaaGreatDoorW.PrintMore Go.Proofs.YtadjekpfehjibaaGreatDoor.PEnvJoins
/-- env.right, at every type. -/
theorem envRight (t : S31) : TyWord 22 rightT t := by
  induction t using tyInd with
  | h t ih =>
    by_cases h4 : t.f0 = 4
    · exact right_k4 t h4 ih
    · by_cases h1 : t.f0 = 1
      · exact right_k1 t h1 ih
      · by_cases h3 : t.f0 = 3
        · exact right_k3 t h3 ih
        · by_cases h2 : t.f0 = 2
          · exact right_k2 t h2 ih
          · exact right_ko t h4 h1 h3 h2 ih
end Go.Proofs.YtadjekpfehjibaaGreatDoor.PEnv
namespace Go.Proofs.YtadjekpfehjibaaGreatDoor.PEnv
open Go.RowKit Go.Shelf Go.Proofs.YtadjekpfehjibaaGreatDoorW.PrintWords Go.Proofs.YtadjekpfehjibaaGreatDoorW.PrintLast Go.Proofs.YtadjekpfehjibaaGreatDoorW.PrintMore Go.Proofs.YtadjekpfehjibaaGreatDoor.PEnvJoins
def rightE (es : List S33) : Bool := es.all (fun b => rightT b.f1)
set_option maxHeartbeats 1000000 in
/-- env.Right$1. -/
theorem rightB (b : S33) (A4 : Option Addr) (c4 : Nat) (A5 : Option Addr) (c5 : Nat) (w : World) (l4 : b.f1.f3.length ≤ c4) (g4 : Kd.C k44 w A4 b.f1.f3.length b.f1.f3) (l5 : b.f1.f4.length ≤ c5) (g5 : Kd.C k31 w A5 b.f1.f4.length b.f1.f4) :
    Calls Tryz.prog 21 #[.agg #[.string b.f0, .int .i64 b.f1.f0, .bool b.f1.f1, .bool b.f1.f2, .slice A4 b.f1.f3.length c4, .slice A5 b.f1.f4.length c5]] w fun e w' => e = .returned (.bool (!rightT b.f1)) ∧ Below w.heap.size w w' := by
  have hb : Below w.heap.size w (w.alloc (.cells #[.string b.f0, .int .i64 b.f1.f0, .bool b.f1.f1, .bool b.f1.f2, .slice A4 b.f1.f3.length c4, .slice A5 b.f1.f4.length c5] 33)) := (Below.refl _ w).alloc (Nat.le_refl _) _
  have hcall := envRight b.f1 A4 c4 A5 c5 _ l4 (Kd.C_below g4 hb) l5 (Kd.C_below g5 hb)
  go_enter Tryz.func21, Tryz.ntmps21
  go_wp2_with (go_at_call 22; refine hcall.mono ?_; rintro e w' ⟨rfl, hb2⟩)
  go_ret
  exact ⟨rfl, hb.trans (hb2.mono hb.size)⟩
set_option maxHeartbeats 1000000 in
/-- env.Right, at every environment. -/
theorem envRightE (es : List S33) (A : Option Addr) (c : Nat) (w : World) (hC : Kd.C k33 w A es.length es) :
    Calls Tryz.prog 6 #[.slice A es.length c] w fun e w' => e = .returned (.bool (rightE es)) ∧ Below w.heap.size w w' := by
  have eg : ∀ args w, (callFunc 21 args).run Tryz.prog w = .ok (.enter 21 args) w := enters_of Tryz.func21 (by kernel_rfl) rfl
  obtain ⟨vs, hv, hvK⟩ := els_of_C hC
  have h := conBind 21 #[] eg A es.length c vs w w (fun i W' => Below w.heap.size w W' ∧ ∀ j l, j < i → es[j]? = some l → rightT l.f1 = true) (fun i W' => Below w.heap.size w W' ∧ ∃ l, es[i]? = some l ∧ rightT l.f1 = false)
    hv (fun i W' h => h.1) (by
      rintro i cs W1 hi ⟨hb, hn⟩
      have hl : i < es.length := by have := idx_lt hi; have := hv.1; omega
      obtain ⟨cs', e, hK⟩ := hvK i _ (List.getElem?_eq_getElem hl)
      rw [hi] at e
      cases e
      obtain ⟨A4, c4, A5, c5, rfl, l4, g4, l5, g5⟩ := k33_open hK
      refine (rightB es[i] A4 c4 A5 c5 W1 l4 (Kd.C_below g4 hb) l5 (Kd.C_below g5 hb)).mono ?_
      rintro e W2 ⟨rfl, hb2⟩
      cases hh : rightT es[i].f1 with
      | false => exact .inr ⟨rfl, hb.trans (hb2.mono hb.size), _, List.getElem?_eq_getElem hl, hh⟩
      | true =>
        refine .inl ⟨rfl, hb.trans (hb2.mono hb.size), fun j l hj hjl => ?_⟩
        by_cases hji : j = i
        · subst hji
          rw [List.getElem?_eq_getElem hl] at hjl
          cases hjl
          exact hh
        · exact hn j l (by omega) hjl) ⟨Below.refl _ _, fun j l hj => absurd hj (Nat.not_lt_zero _)⟩
  clear hvK hv
  go_enter Tryz.func6, Tryz.ntmps6
  go_wp2_with (go_at_call 20; refine h.mono ?_; rintro e w' (⟨rfl, hb, hn⟩ | ⟨rfl, k, hk, hb, l, hl, hh⟩))
  · have hall : rightE es = true := by
      refine List.all_eq_true.mpr fun l hl => ?_
      obtain ⟨j, hj⟩ := List.mem_iff_getElem?.mp hl
      exact hn j l (idx_lt hj) hj
    go_ret
    exact ⟨by first | rfl | (rw [hall]; rfl), hb⟩
  · have hall : rightE es = false := by
      refine List.all_eq_false.mpr ⟨l, List.mem_of_getElem? hl, by rw [hh]; simp⟩
    go_ret
    exact ⟨by first | rfl | (rw [hall]; rfl), hb⟩
end Go.Proofs.YtadjekpfehjibaaGreatDoor.PEnv
namespace Go.Proofs.YtadjekpfehjibaaGreatDoor.PEnv
open Go.RowKit Go.Shelf Go.Proofs.YtadjekpfehjibaaGreatDoorW.PrintWords Go.Proofs.YtadjekpfehjibaaGreatDoorW.PrintLast Go.Proofs.YtadjekpfehjibaaGreatDoorW.PrintMore Go.Proofs.YtadjekpfehjibaaGreatDoor.PEnvJoins
/-- The cells of a type; of a bind. -/
def TyCells (cs : List Value) : Prop := ∃ (f0 : Int) (f1 f2 : Bool) (A3 : Option Addr) (n3 c3 : Nat) (A4 : Option Addr) (n4 c4 : Nat), cs = [.int .i64 f0, .bool f1, .bool f2, .slice A3 n3 c3, .slice A4 n4 c4]
def BindCells (cs : List Value) : Prop := ∃ (s : ByteArray) (f0 : Int) (f1 f2 : Bool) (A3 : Option Addr) (n3 c3 : Nat) (A4 : Option Addr) (n4 c4 : Nat), cs = [.string s, .int .i64 f0, .bool f1, .bool f2, .slice A3 n3 c3, .slice A4 n4 c4]
set_option maxRecDepth 100000 in
set_option maxHeartbeats 4000000 in
theorem eqTy (g : Nat) (lb : Array Value) (eg : ∀ args w, (callFunc g args).run Tryz.prog w = .ok (.enter g args) w) (A B : Option Addr) (n c m d : Nat) (vs us : List (List Value)) (w0 w : World) (Inv Out : Nat → World → Prop)
    (hv : Els 5 w0 A n vs) (hu : Els 5 w0 B m us) (hvc : ∀ (j : Nat) cs, vs[j]? = some cs → TyCells cs) (huc : ∀ (j : Nat) cs, us[j]? = some cs → TyCells cs) (hB : ∀ i W, Inv i W → Below w0.heap.size w0 W) (hI : ∀ i W W', Inv i W → Below W.heap.size W W' → Inv i W')
    (hs : ∀ (i : Nat) (cs ds : List Value) (W : World), vs[i]? = some cs → us[i]? = some ds → Inv i W → Calls Tryz.prog g (#[.agg cs.toArray, .agg ds.toArray] ++ lb) W fun e W' => (e = .returned (.bool true) ∧ Inv (i + 1) W') ∨ (e = .returned (.bool false) ∧ Out i W'))
    (h0 : Inv 0 w) :
    Calls Tryz.prog 29 #[.slice A n c, .slice B m d, .func (.func g) #[] lb] w fun e w' =>
      (e = .returned (.bool true) ∧ n = m ∧ Inv n w') ∨ (e = .returned (.bool false) ∧ (n ≠ m ∧ Inv 0 w' ∨ ∃ k, k < n ∧ n = m ∧ Out k w')) := by
  have hbig := hv.2.1
  have hbig2 := hu.2.1
  by_cases hnm : n = m
  · subst hnm
    go_enter Tryz.func29, Tryz.ntmps29
    go_wp2
    go_loopg [17] n (fun gg s17 wr => ∃ kk : Nat, kk ≤ n ∧ n - kk ≤ gg ∧ s17 = .int .i64 kk ∧ Aside (Inv kk wr))
    case atStart => exact ⟨0, Nat.zero_le _, by omega, rfl, h0⟩
    case round =>
      obtain ⟨kk, hkk, hg, rfl, BW⟩ := hrel
      by_cases hlt : kk < n
      · have hltz : (kk : Int) < (n : Int) := by omega
        obtain ⟨ad, rfl, _⟩ := hv.2.2.2 (by omega)
        obtain ⟨bd, rfl, _⟩ := hu.2.2.2 (by omega)
        obtain ⟨cs, hcs⟩ : ∃ cs, vs[kk]? = some cs := ⟨_, List.getElem?_eq_getElem (by rw [hv.1]; exact hlt)⟩
        obtain ⟨ds, hds⟩ : ∃ ds, us[kk]? = some ds := ⟨_, List.getElem?_eq_getElem (by rw [hu.1]; exact hlt)⟩
        obtain ⟨xf0, xf1, xf2, xA3, xn3, xc3, xA4, xn4, xc4, rfl⟩ := hvc kk cs hcs
        obtain ⟨yf0, yf1, yf2, yA3, yn3, yc3, yA4, yn4, yc4, rfl⟩ := huc kk ds hds
        have hb0 := hB kk wr BW.out
        have l0 := hv.cell0 hb0 kk _ hcs _ rfl
        have l1 := hv.cellS hb0 kk _ hcs 1 _ (by omega) rfl
        have l2 := hv.cellS hb0 kk _ hcs 2 _ (by omega) rfl
        have l3 := hv.cellS hb0 kk _ hcs 3 _ (by omega) rfl
        have l4 := hv.cellS hb0 kk _ hcs 4 _ (by omega) rfl
        have hb1 : Below wr.heap.size wr (wr.alloc (.cells #[.int .i64 xf0, .bool xf1, .bool xf2, .slice xA3 xn3 xc3, .slice xA4 xn4 xc4] 31)) := (Below.refl _ wr).alloc (Nat.le_refl _) _
        have hb0' := hb0.trans (hb1.mono hb0.size)
        have k0 := hu.cell0 hb0' kk _ hds _ rfl
        have k1 := hu.cellS hb0' kk _ hds 1 _ (by omega) rfl
        have k2 := hu.cellS hb0' kk _ hds 2 _ (by omega) rfl
        have k3 := hu.cellS hb0' kk _ hds 3 _ (by omega) rfl
        have k4 := hu.cellS hb0' kk _ hds 4 _ (by omega) rfl
        have hb2 : Below wr.heap.size wr ((wr.alloc (.cells #[.int .i64 xf0, .bool xf1, .bool xf2, .slice xA3 xn3 xc3, .slice xA4 xn4 xc4] 31)).alloc (.cells #[.int .i64 yf0, .bool yf1, .bool yf2, .slice yA3 yn3 yc3, .slice yA4 yn4 yc4] 31)) := hb1.alloc (by simp) _
        have hcall := hs kk _ _ _ hcs hds (hI kk wr _ BW.out hb2)
        clear hs hv hu hvc huc hB hI hb0 hb0' hb1 hb2
        go_wp2_with (go_at_fn g; refine hcall.mono ?_; rintro e w' (⟨rfl, hi⟩ | ⟨rfl, ho⟩))
        · go_roundg (n - (kk + 1))
          case measure => omega
          case rel => exact ⟨kk + 1, by omega, by omega, by go_num, hi⟩
        · go_ret
          first | exact .inr ⟨rfl, .inr ⟨kk, hlt, rfl, ho⟩⟩ | exact .inr ⟨rfl, .inr ⟨kk, hlt, ho⟩⟩ | exact .inr ⟨rfl, kk, hlt, ho⟩ | (refine .inr ⟨rfl, ?_⟩; simp; exact ⟨kk, hlt, ho⟩)
      · have hltz : ¬ (kk : Int) < (n : Int) := by omega
        have : kk = n := by omega
        subst this
        go_wp2
        go_ret
        first | exact .inl ⟨rfl, rfl, BW.out⟩ | exact .inl ⟨rfl, BW.out⟩
  · have hnm1 : ((n : Int) != (m : Int)) = true := bne_iff_ne.mpr (by omega)
    have hnm2 : (n != m) = true := bne_iff_ne.mpr hnm
    have hnm3 : (n == m) = false := beq_eq_false_iff_ne.mpr hnm
    go_enter Tryz.func29, Tryz.ntmps29
    go_wp2
    go_ret
    exact .inr ⟨rfl, .inl ⟨hnm, h0⟩⟩
set_option maxRecDepth 100000 in
set_option maxHeartbeats 4000000 in
theorem eqBind (g : Nat) (lb : Array Value) (eg : ∀ args w, (callFunc g args).run Tryz.prog w = .ok (.enter g args) w) (A B : Option Addr) (n c m d : Nat) (vs us : List (List Value)) (w0 w : World) (Inv Out : Nat → World → Prop)
    (hv : Els 6 w0 A n vs) (hu : Els 6 w0 B m us) (hvc : ∀ (j : Nat) cs, vs[j]? = some cs → BindCells cs) (huc : ∀ (j : Nat) cs, us[j]? = some cs → BindCells cs) (hB : ∀ i W, Inv i W → Below w0.heap.size w0 W) (hI : ∀ i W W', Inv i W → Below W.heap.size W W' → Inv i W')
    (hs : ∀ (i : Nat) (cs ds : List Value) (W : World), vs[i]? = some cs → us[i]? = some ds → Inv i W → Calls Tryz.prog g (#[.agg cs.toArray, .agg ds.toArray] ++ lb) W fun e W' => (e = .returned (.bool true) ∧ Inv (i + 1) W') ∨ (e = .returned (.bool false) ∧ Out i W'))
    (h0 : Inv 0 w) :
    Calls Tryz.prog 25 #[.slice A n c, .slice B m d, .func (.func g) #[] lb] w fun e w' =>
      (e = .returned (.bool true) ∧ n = m ∧ Inv n w') ∨ (e = .returned (.bool false) ∧ (n ≠ m ∧ Inv 0 w' ∨ ∃ k, k < n ∧ n = m ∧ Out k w')) := by
  have hbig := hv.2.1
  have hbig2 := hu.2.1
  by_cases hnm : n = m
  · subst hnm
    go_enter Tryz.func25, Tryz.ntmps25
    go_wp2
    go_loopg [17] n (fun gg s17 wr => ∃ kk : Nat, kk ≤ n ∧ n - kk ≤ gg ∧ s17 = .int .i64 kk ∧ Aside (Inv kk wr))
    case atStart => exact ⟨0, Nat.zero_le _, by omega, rfl, h0⟩
    case round =>
      obtain ⟨kk, hkk, hg, rfl, BW⟩ := hrel
      by_cases hlt : kk < n
      · have hltz : (kk : Int) < (n : Int) := by omega
        obtain ⟨ad, rfl, _⟩ := hv.2.2.2 (by omega)
        obtain ⟨bd, rfl, _⟩ := hu.2.2.2 (by omega)
        obtain ⟨cs, hcs⟩ : ∃ cs, vs[kk]? = some cs := ⟨_, List.getElem?_eq_getElem (by rw [hv.1]; exact hlt)⟩
        obtain ⟨ds, hds⟩ : ∃ ds, us[kk]? = some ds := ⟨_, List.getElem?_eq_getElem (by rw [hu.1]; exact hlt)⟩
        obtain ⟨xs, xf0, xf1, xf2, xA3, xn3, xc3, xA4, xn4, xc4, rfl⟩ := hvc kk cs hcs
        obtain ⟨ys, yf0, yf1, yf2, yA3, yn3, yc3, yA4, yn4, yc4, rfl⟩ := huc kk ds hds
        have hb0 := hB kk wr BW.out
        have l0 := hv.cell0 hb0 kk _ hcs _ rfl
        have l1 := hv.cellS hb0 kk _ hcs 1 _ (by omega) rfl
        have l2 := hv.cellS hb0 kk _ hcs 2 _ (by omega) rfl
        have l3 := hv.cellS hb0 kk _ hcs 3 _ (by omega) rfl
        have l4 := hv.cellS hb0 kk _ hcs 4 _ (by omega) rfl
        have l5 := hv.cellS hb0 kk _ hcs 5 _ (by omega) rfl
        have hb1 : Below wr.heap.size wr (wr.alloc (.cells #[.string xs, .int .i64 xf0, .bool xf1, .bool xf2, .slice xA3 xn3 xc3, .slice xA4 xn4 xc4] 33)) := (Below.refl _ wr).alloc (Nat.le_refl _) _
        have hb0' := hb0.trans (hb1.mono hb0.size)
        have k0 := hu.cell0 hb0' kk _ hds _ rfl
        have k1 := hu.cellS hb0' kk _ hds 1 _ (by omega) rfl
        have k2 := hu.cellS hb0' kk _ hds 2 _ (by omega) rfl
        have k3 := hu.cellS hb0' kk _ hds 3 _ (by omega) rfl
        have k4 := hu.cellS hb0' kk _ hds 4 _ (by omega) rfl
        have k5 := hu.cellS hb0' kk _ hds 5 _ (by omega) rfl
        have hb2 : Below wr.heap.size wr ((wr.alloc (.cells #[.string xs, .int .i64 xf0, .bool xf1, .bool xf2, .slice xA3 xn3 xc3, .slice xA4 xn4 xc4] 33)).alloc (.cells #[.string ys, .int .i64 yf0, .bool yf1, .bool yf2, .slice yA3 yn3 yc3, .slice yA4 yn4 yc4] 33)) := hb1.alloc (by simp) _
        have hcall := hs kk _ _ _ hcs hds (hI kk wr _ BW.out hb2)
        clear hs hv hu hvc huc hB hI hb0 hb0' hb1 hb2
        go_wp2_with (go_at_fn g; refine hcall.mono ?_; rintro e w' (⟨rfl, hi⟩ | ⟨rfl, ho⟩))
        · go_roundg (n - (kk + 1))
          case measure => omega
          case rel => exact ⟨kk + 1, by omega, by omega, by go_num, hi⟩
        · go_ret
          first | exact .inr ⟨rfl, .inr ⟨kk, hlt, rfl, ho⟩⟩ | exact .inr ⟨rfl, .inr ⟨kk, hlt, ho⟩⟩ | exact .inr ⟨rfl, kk, hlt, ho⟩ | (refine .inr ⟨rfl, ?_⟩; simp; exact ⟨kk, hlt, ho⟩)
      · have hltz : ¬ (kk : Int) < (n : Int) := by omega
        have : kk = n := by omega
        subst this
        go_wp2
        go_ret
        first | exact .inl ⟨rfl, rfl, BW.out⟩ | exact .inl ⟨rfl, BW.out⟩
  · have hnm1 : ((n : Int) != (m : Int)) = true := bne_iff_ne.mpr (by omega)
    have hnm2 : (n != m) = true := bne_iff_ne.mpr hnm
    have hnm3 : (n == m) = false := beq_eq_false_iff_ne.mpr hnm
    go_enter Tryz.func25, Tryz.ntmps25
    go_wp2
    go_ret
    exact .inr ⟨rfl, .inl ⟨hnm, h0⟩⟩
end Go.Proofs.YtadjekpfehjibaaGreatDoor.PEnv
namespace Go.Proofs.YtadjekpfehjibaaGreatDoor.PEnv
open Go.RowKit Go.Shelf Go.Proofs.YtadjekpfehjibaaGreatDoorW.PrintWords Go.Proofs.YtadjekpfehjibaaGreatDoorW.PrintLast Go.Proofs.YtadjekpfehjibaaGreatDoorW.PrintMore Go.Proofs.YtadjekpfehjibaaGreatDoor.PEnvJoins
/-- Do two lists agree, element by element? -/
def all2 {α : Type} (p : α → α → Bool) : List α → List α → Bool
  | [], [] => true
  | t :: ts, u :: us => p t u && all2 p ts us
  | _, _ => false
theorem all2_len {α : Type} {p : α → α → Bool} : ∀ {ts us : List α}, ts.length ≠ us.length → all2 p ts us = false
  | [], [], h => absurd rfl h
  | [], _ :: _, _ => rfl
  | _ :: _, [], _ => rfl
  | t :: ts, u :: us, h => by
    simp only [all2, all2_len (ts := ts) (us := us) (fun e => h (by simp [e])), Bool.and_false]
theorem all2_true {α : Type} {p : α → α → Bool} : ∀ {ts us : List α}, ts.length = us.length → (∀ (j : Nat) a b, ts[j]? = some a → us[j]? = some b → p a b = true) → all2 p ts us = true
  | [], [], _, _ => rfl
  | [], _ :: _, h, _ => by cases h
  | _ :: _, [], h, _ => by cases h
  | t :: ts, u :: us, h, hp => by
    simp only [all2, hp 0 t u rfl rfl, Bool.true_and]
    exact all2_true (by simpa using h) (fun j a b ha hb => hp (j + 1) a b (by simpa using ha) (by simpa using hb))
theorem all2_false {α : Type} {p : α → α → Bool} : ∀ {ts us : List α} {j : Nat} {a b : α}, ts[j]? = some a → us[j]? = some b → p a b = false → all2 p ts us = false
  | [], _, j, a, b, ha, _, _ => by simp at ha
  | _ :: _, [], j, a, b, _, hb, _ => by simp at hb
  | t :: ts, u :: us, 0, a, b, ha, hb, h => by
    simp only [List.getElem?_cons_zero, Option.some.injEq] at ha hb
    subst ha
    subst hb
    simp [all2, h]
  | t :: ts, u :: us, j + 1, a, b, ha, hb, h => by
    simp only [all2, all2_false (ts := ts) (us := us) (j := j) (by simpa using ha) (by simpa using hb) h, Bool.and_false]
mutual
def fitsT : S31 → S31 → Bool
  | ⟨a, b, _, _, e⟩, u => (decide (a = u.f0) && (b == u.f1)) && fitsL e u.f4
def fitsL : List S31 → List S31 → Bool
  | [], [] => true
  | t :: ts, u :: us => fitsT t u && fitsL ts us
  | [], _ :: _ => false
  | _ :: _, [] => false
end
theorem fitsL_all2 : ∀ ts us, fitsL ts us = all2 fitsT ts us
  | [], [] => rfl
  | [], _ :: _ => rfl
  | _ :: _, [] => rfl
  | t :: ts, u :: us => by
    show (fitsT t u && fitsL ts us) = (fitsT t u && all2 fitsT ts us)
    rw [fitsL_all2 ts us]
theorem fitsT_eq (t u : S31) : fitsT t u = ((decide (t.f0 = u.f0) && (t.f1 == u.f1)) && all2 fitsT t.f4 u.f4) := by
  cases t
  show (_ && fitsL _ _) = _
  rw [fitsL_all2]
/-- A callee's word on two types. -/
def Ty2Word (f : Nat) (ans : S31 → S31 → Bool) (t : S31) : Prop :=
  ∀ (u : S31) (A3 : Option Addr) (c3 : Nat) (A4 : Option Addr) (c4 : Nat) (B3 : Option Addr) (d3 : Nat) (B4 : Option Addr) (d4 : Nat) (w : World),
    t.f3.length ≤ c3 → Kd.C k44 w A3 t.f3.length t.f3 → t.f4.length ≤ c4 → Kd.C k31 w A4 t.f4.length t.f4 →
    u.f3.length ≤ d3 → Kd.C k44 w B3 u.f3.length u.f3 → u.f4.length ≤ d4 → Kd.C k31 w B4 u.f4.length u.f4 →
    Calls Tryz.prog f #[.agg #[.int .i64 t.f0, .bool t.f1, .bool t.f2, .slice A3 t.f3.length c3, .slice A4 t.f4.length c4], .agg #[.int .i64 u.f0, .bool u.f1, .bool u.f2, .slice B3 u.f3.length d3, .slice B4 u.f4.length d4]] w fun e w' =>
      e = .returned (.bool (ans t u)) ∧ Below w.heap.size w w'
/-- slices.EqualFunc of kids, at a function whose word is known. -/
theorem eqKids (f : Nat) (eg : ∀ args w, (callFunc f args).run Tryz.prog w = .ok (.enter f args) w) (ans : S31 → S31 → Bool) (ts us : List S31) (h : ∀ k ∈ ts, Ty2Word f ans k) (A : Option Addr) (c : Nat) (B : Option Addr) (d : Nat) (W : World)
    (hC : Kd.C k31 W A ts.length ts) (hD : Kd.C k31 W B us.length us) :
    Calls Tryz.prog 29 #[.slice A ts.length c, .slice B us.length d, .func (.func f) #[] #[]] W fun e W' => e = .returned (.bool (all2 ans ts us)) ∧ Below W.heap.size W W' := by
  obtain ⟨vs, hv, hvK⟩ := els_of_C hC
  obtain ⟨xs, hx, hxK⟩ := els_of_C hD
  have form : ∀ {n : Nat} {ys : List (List Value)} {B : Option Addr} {zs : List S31}, Els 5 W B n ys → zs.length = n → (∀ (i : Nat) x, zs[i]? = some x → ∃ cs, ys[i]? = some cs ∧ k31.K W x cs) → ∀ (j : Nat) cs, ys[j]? = some cs → TyCells cs := by
    intro n ys B zs he hz hK j cs hj
    have hl : j < zs.length := by have := idx_lt hj; have := he.1; omega
    obtain ⟨cs', e, hk⟩ := hK j _ (List.getElem?_eq_getElem hl)
    rw [hj] at e
    cases e
    obtain ⟨A3, c3, A4, c4, rfl, _⟩ := k31_open hk
    exact ⟨_, _, _, _, _, _, _, _, _, rfl⟩
  refine (eqTy f #[] eg A B ts.length c us.length d vs xs W W (fun i W' => Below W.heap.size W W' ∧ ∀ (j : Nat) a b, j < i → ts[j]? = some a → us[j]? = some b → ans a b = true) (fun i W' => Below W.heap.size W W' ∧ ∃ a b, ts[i]? = some a ∧ us[i]? = some b ∧ ans a b = false)
    hv hx (form hv rfl hvK) (form hx rfl hxK) (fun i W' h => h.1) (fun i W1 W2 h hb => ⟨h.1.trans (hb.mono h.1.size), h.2⟩) ?_ ⟨Below.refl _ _, fun j a b hj => absurd hj (Nat.not_lt_zero _)⟩).mono ?_
  · rintro i cs ds W1 hi hj ⟨hb, hn⟩
    have hl : i < ts.length := by have := idx_lt hi; have := hv.1; omega
    have hm : i < us.length := by have := idx_lt hj; have := hx.1; omega
    obtain ⟨cs', e, hK⟩ := hvK i _ (List.getElem?_eq_getElem hl)
    rw [hi] at e
    cases e
    obtain ⟨ds', e, hL⟩ := hxK i _ (List.getElem?_eq_getElem hm)
    rw [hj] at e
    cases e
    obtain ⟨A3, c3, A4, c4, rfl, l3, g3, l4, g4⟩ := k31_open hK
    obtain ⟨B3, d3, B4, d4, rfl, m3, q3, m4, q4⟩ := k31_open hL
    refine (h ts[i] (List.getElem_mem hl) us[i] A3 c3 A4 c4 B3 d3 B4 d4 W1 l3 (Kd.C_below g3 hb) l4 (Kd.C_below g4 hb) m3 (Kd.C_below q3 hb) m4 (Kd.C_below q4 hb)).mono ?_
    rintro e W2 ⟨rfl, hb2⟩
    cases hh : ans ts[i] us[i] with
    | false => exact .inr ⟨rfl, hb.trans (hb2.mono hb.size), _, _, List.getElem?_eq_getElem hl, List.getElem?_eq_getElem hm, hh⟩
    | true =>
      refine .inl ⟨rfl, hb.trans (hb2.mono hb.size), fun j a b hj2 ha hb3 => ?_⟩
      by_cases hji : j = i
      · subst hji
        rw [List.getElem?_eq_getElem hl] at ha
        rw [List.getElem?_eq_getElem hm] at hb3
        cases ha
        cases hb3
        exact hh
      · exact hn j a b (by omega) ha hb3
  · rintro e W1 (⟨rfl, hnm, hb, hn⟩ | ⟨rfl, (⟨hnm, hb, _⟩ | ⟨k, hk, hnm, hb, a, b, ha, hb2, hh⟩)⟩)
    · exact ⟨by rw [all2_true hnm (fun j a b ha hb => hn j a b (idx_lt ha) ha hb)], hb⟩
    · exact ⟨by rw [all2_len hnm], hb⟩
    · exact ⟨by rw [all2_false ha hb2 hh], hb⟩
end Go.Proofs.YtadjekpfehjibaaGreatDoor.PEnv
namespace Go.Proofs.YtadjekpfehjibaaGreatDoor.PEnv
open Go.RowKit Go.Shelf Go.Proofs.YtadjekpfehjibaaGreatDoorW.PrintWords Go.Proofs.YtadjekpfehjibaaGreatDoorW.PrintLast Go.Proofs.YtadjekpfehjibaaGreatDoorW.PrintMore Go.Proofs.YtadjekpfehjibaaGreatDoor.PEnvJoins
set_option maxHeartbeats 4000000 in
theorem fitsStep (t : S31) (hk : ∀ k ∈ t.f4, Ty2Word 10 fitsT k) : Ty2Word 10 fitsT t := by
  intro u A3 c3 A4 c4 B3 d3 B4 d4 w l3 g3 l4 g4 m3 q3 m4 q4
  have eg : ∀ args w, (callFunc 10 args).run Tryz.prog w = .ok (.enter 10 args) w := enters_of Tryz.func10 (by kernel_rfl) rfl
  have eE := enters_of Tryz.func29 (by kernel_rfl) rfl
  have hb1 : Below w.heap.size w (w.alloc (.cells #[.int .i64 t.f0, .bool t.f1, .bool t.f2, .slice A3 t.f3.length c3, .slice A4 t.f4.length c4] 31)) := (Below.refl _ w).alloc (Nat.le_refl _) _
  have hb2 : Below w.heap.size w ((w.alloc (.cells #[.int .i64 t.f0, .bool t.f1, .bool t.f2, .slice A3 t.f3.length c3, .slice A4 t.f4.length c4] 31)).alloc (.cells #[.int .i64 u.f0, .bool u.f1, .bool u.f2, .slice B3 u.f3.length d3, .slice B4 u.f4.length d4] 31)) := hb1.alloc (by simp) _
  have hcall := eqKids 10 eg fitsT t.f4 u.f4 hk A4 c4 B4 d4 ((w.alloc (.cells #[.int .i64 t.f0, .bool t.f1, .bool t.f2, .slice A3 t.f3.length c3, .slice A4 t.f4.length c4] 31)).alloc (.cells #[.int .i64 u.f0, .bool u.f1, .bool u.f2, .slice B3 u.f3.length d3, .slice B4 u.f4.length d4] 31)) (Kd.C_below g4 hb2) (Kd.C_below q4 hb2)
  have hf := fitsT_eq t u
  clear hk g3 g4 q3 q4
  have fin : ∀ w', Below ((w.alloc (.cells #[.int .i64 t.f0, .bool t.f1, .bool t.f2, .slice A3 t.f3.length c3, .slice A4 t.f4.length c4] 31)).alloc (.cells #[.int .i64 u.f0, .bool u.f1, .bool u.f2, .slice B3 u.f3.length d3, .slice B4 u.f4.length d4] 31)).heap.size ((w.alloc (.cells #[.int .i64 t.f0, .bool t.f1, .bool t.f2, .slice A3 t.f3.length c3, .slice A4 t.f4.length c4] 31)).alloc (.cells #[.int .i64 u.f0, .bool u.f1, .bool u.f2, .slice B3 u.f3.length d3, .slice B4 u.f4.length d4] 31)) w' → Below w.heap.size w w' := fun w' h => hb2.trans (h.mono (by simp; omega))
  by_cases h0 : t.f0 = u.f0
  · have h0b : (t.f0 == u.f0) = true := beq_iff_eq.mpr h0
    rw [decide_eq_true h0, Bool.true_and] at hf
    clear h0
    cases h1 : (t.f1 == u.f1) with
    | true =>
      have hf2 : fitsT t u = all2 fitsT t.f4 u.f4 := by rw [hf, h1]; rfl
      clear hf
      go_enter Tryz.func10, Tryz.ntmps10
      go_wp2_with (go_at_call 29; refine hcall.mono ?_; rintro e w' ⟨rfl, hb3⟩)
      go_ret
      exact ⟨by first | rfl | (rw [hf2]; rfl), fin _ hb3⟩
    | false =>
      have hf2 : fitsT t u = false := by rw [hf, h1]; rfl
      clear hf hcall
      go_enter Tryz.func10, Tryz.ntmps10
      go_wp2
      go_ret
      exact ⟨by first | rfl | (rw [hf2]; rfl), hb2⟩
  · have h0b : (t.f0 == u.f0) = false := beq_eq_false_iff_ne.mpr h0
    have hf2 : fitsT t u = false := by rw [hf, decide_eq_false h0]; rfl
    clear hf h0 hcall
    go_enter Tryz.func10, Tryz.ntmps10
    go_wp2
    go_ret
    exact ⟨by first | rfl | (rw [hf2]; rfl), hb2⟩
/-- env.Fits, at every two types. -/
theorem envFits (t : S31) : Ty2Word 10 fitsT t := by
  induction t using tyInd with
  | h t ih => exact fitsStep t ih
end Go.Proofs.YtadjekpfehjibaaGreatDoor.PEnv
namespace Go.Proofs.YtadjekpfehjibaaGreatDoor.PEnv
open Go.RowKit Go.Shelf Go.Proofs.YtadjekpfehjibaaGreatDoorW.PrintWords Go.Proofs.YtadjekpfehjibaaGreatDoorW.PrintLast Go.Proofs.YtadjekpfehjibaaGreatDoorW.PrintMore Go.Proofs.YtadjekpfehjibaaGreatDoor.PEnvJoins
/-- A callee's word on two binds. -/
def Bind2Word (f : Nat) (ans : S33 → S33 → Bool) : Prop :=
  ∀ (a b : S33) (A4 : Option Addr) (c4 : Nat) (A5 : Option Addr) (c5 : Nat) (B4 : Option Addr) (d4 : Nat) (B5 : Option Addr) (d5 : Nat) (w : World),
    a.f1.f3.length ≤ c4 → Kd.C k44 w A4 a.f1.f3.length a.f1.f3 → a.f1.f4.length ≤ c5 → Kd.C k31 w A5 a.f1.f4.length a.f1.f4 →
    b.f1.f3.length ≤ d4 → Kd.C k44 w B4 b.f1.f3.length b.f1.f3 → b.f1.f4.length ≤ d5 → Kd.C k31 w B5 b.f1.f4.length b.f1.f4 →
    Calls Tryz.prog f #[.agg #[.string a.f0, .int .i64 a.f1.f0, .bool a.f1.f1, .bool a.f1.f2, .slice A4 a.f1.f3.length c4, .slice A5 a.f1.f4.length c5], .agg #[.string b.f0, .int .i64 b.f1.f0, .bool b.f1.f1, .bool b.f1.f2, .slice B4 b.f1.f3.length d4, .slice B5 b.f1.f4.length d5]] w fun e w' => e = .returned (.bool (ans a b)) ∧ Below w.heap.size w w'
def bothB (a b : S33) : Bool := decide (a.f0.toList = b.f0.toList) && fitsT a.f1 b.f1
set_option maxHeartbeats 4000000 in
/-- env.both$1. -/
theorem both1 : Bind2Word 46 bothB := by
  intro a b A4 c4 A5 c5 B4 d4 B5 d5 w l4 g4 l5 g5 m4 q4 m5 q5
  have eF := enters_of Tryz.func10 (by kernel_rfl) rfl
  have hb1 : Below w.heap.size w (w.alloc (.cells #[.string a.f0, .int .i64 a.f1.f0, .bool a.f1.f1, .bool a.f1.f2, .slice A4 a.f1.f3.length c4, .slice A5 a.f1.f4.length c5] 33)) := (Below.refl _ w).alloc (Nat.le_refl _) _
  have hb2 : Below w.heap.size w ((w.alloc (.cells #[.string a.f0, .int .i64 a.f1.f0, .bool a.f1.f1, .bool a.f1.f2, .slice A4 a.f1.f3.length c4, .slice A5 a.f1.f4.length c5] 33)).alloc (.cells #[.string b.f0, .int .i64 b.f1.f0, .bool b.f1.f1, .bool b.f1.f2, .slice B4 b.f1.f3.length d4, .slice B5 b.f1.f4.length d5] 33)) := hb1.alloc (by simp) _
  have hcall := envFits a.f1 b.f1 A4 c4 A5 c5 B4 d4 B5 d5 ((w.alloc (.cells #[.string a.f0, .int .i64 a.f1.f0, .bool a.f1.f1, .bool a.f1.f2, .slice A4 a.f1.f3.length c4, .slice A5 a.f1.f4.length c5] 33)).alloc (.cells #[.string b.f0, .int .i64 b.f1.f0, .bool b.f1.f1, .bool b.f1.f2, .slice B4 b.f1.f3.length d4, .slice B5 b.f1.f4.length d5] 33)) l4 (Kd.C_below g4 hb2) l5 (Kd.C_below g5 hb2) m4 (Kd.C_below q4 hb2) m5 (Kd.C_below q5 hb2)
  have hf : bothB a b = (decide (a.f0.toList = b.f0.toList) && fitsT a.f1 b.f1) := rfl
  clear g4 g5 q4 q5
  have fin : ∀ w', Below ((w.alloc (.cells #[.string a.f0, .int .i64 a.f1.f0, .bool a.f1.f1, .bool a.f1.f2, .slice A4 a.f1.f3.length c4, .slice A5 a.f1.f4.length c5] 33)).alloc (.cells #[.string b.f0, .int .i64 b.f1.f0, .bool b.f1.f1, .bool b.f1.f2, .slice B4 b.f1.f3.length d4, .slice B5 b.f1.f4.length d5] 33)).heap.size ((w.alloc (.cells #[.string a.f0, .int .i64 a.f1.f0, .bool a.f1.f1, .bool a.f1.f2, .slice A4 a.f1.f3.length c4, .slice A5 a.f1.f4.length c5] 33)).alloc (.cells #[.string b.f0, .int .i64 b.f1.f0, .bool b.f1.f1, .bool b.f1.f2, .slice B4 b.f1.f3.length d4, .slice B5 b.f1.f4.length d5] 33)) w' → Below w.heap.size w w' := fun w' h => hb2.trans (h.mono (by simp; omega))
  by_cases h0 : a.f0.toList = b.f0.toList
  · have h0b : (a.f0.toList == b.f0.toList) = true := beq_iff_eq.mpr h0
    rw [decide_eq_true h0, Bool.true_and] at hf
    clear h0
    go_enter Tryz.func46, Tryz.ntmps46
    go_wp2_with (go_at_call 10; refine hcall.mono ?_; rintro e w' ⟨rfl, hb3⟩)
    go_ret
    exact ⟨by first | rfl | (rw [hf]; rfl), fin _ hb3⟩
  · have h0b : (a.f0.toList == b.f0.toList) = false := by simpa using h0
    rw [decide_eq_false h0, Bool.false_and] at hf
    clear h0 hcall
    go_enter Tryz.func46, Tryz.ntmps46
    go_wp2
    go_ret
    exact ⟨by first | rfl | (rw [hf]; rfl), hb2⟩
/-- slices.EqualFunc of binds, at a function whose word is known. -/
theorem eqBinds (f : Nat) (eg : ∀ args w, (callFunc f args).run Tryz.prog w = .ok (.enter f args) w) (ans : S33 → S33 → Bool) (ts us : List S33) (h : Bind2Word f ans) (A : Option Addr) (c : Nat) (B : Option Addr) (d : Nat) (W : World)
    (hC : Kd.C k33 W A ts.length ts) (hD : Kd.C k33 W B us.length us) :
    Calls Tryz.prog 25 #[.slice A ts.length c, .slice B us.length d, .func (.func f) #[] #[]] W fun e W' => e = .returned (.bool (all2 ans ts us)) ∧ Below W.heap.size W W' := by
  obtain ⟨vs, hv, hvK⟩ := els_of_C hC
  obtain ⟨xs, hx, hxK⟩ := els_of_C hD
  have form : ∀ {n : Nat} {ys : List (List Value)} {B : Option Addr} {zs : List S33}, Els 6 W B n ys → zs.length = n → (∀ (i : Nat) x, zs[i]? = some x → ∃ cs, ys[i]? = some cs ∧ k33.K W x cs) → ∀ (j : Nat) cs, ys[j]? = some cs → BindCells cs := by
    intro n ys B zs he hz hK j cs hj
    have hl : j < zs.length := by have := idx_lt hj; have := he.1; omega
    obtain ⟨cs', e, hk⟩ := hK j _ (List.getElem?_eq_getElem hl)
    rw [hj] at e
    cases e
    obtain ⟨A3, c3, A4, c4, rfl, _⟩ := k33_open hk
    exact ⟨_, _, _, _, _, _, _, _, _, _, rfl⟩
  refine (eqBind f #[] eg A B ts.length c us.length d vs xs W W (fun i W' => Below W.heap.size W W' ∧ ∀ (j : Nat) a b, j < i → ts[j]? = some a → us[j]? = some b → ans a b = true) (fun i W' => Below W.heap.size W W' ∧ ∃ a b, ts[i]? = some a ∧ us[i]? = some b ∧ ans a b = false)
    hv hx (form hv rfl hvK) (form hx rfl hxK) (fun i W' h => h.1) (fun i W1 W2 h hb => ⟨h.1.trans (hb.mono h.1.size), h.2⟩) ?_ ⟨Below.refl _ _, fun j a b hj => absurd hj (Nat.not_lt_zero _)⟩).mono ?_
  · rintro i cs ds W1 hi hj ⟨hb, hn⟩
    have hl : i < ts.length := by have := idx_lt hi; have := hv.1; omega
    have hm : i < us.length := by have := idx_lt hj; have := hx.1; omega
    obtain ⟨cs', e, hK⟩ := hvK i _ (List.getElem?_eq_getElem hl)
    rw [hi] at e
    cases e
    obtain ⟨ds', e, hL⟩ := hxK i _ (List.getElem?_eq_getElem hm)
    rw [hj] at e
    cases e
    obtain ⟨A3, c3, A4, c4, rfl, l3, g3, l4, g4⟩ := k33_open hK
    obtain ⟨B3, d3, B4, d4, rfl, m3, q3, m4, q4⟩ := k33_open hL
    refine (h ts[i] us[i] A3 c3 A4 c4 B3 d3 B4 d4 W1 l3 (Kd.C_below g3 hb) l4 (Kd.C_below g4 hb) m3 (Kd.C_below q3 hb) m4 (Kd.C_below q4 hb)).mono ?_
    rintro e W2 ⟨rfl, hb2⟩
    cases hh : ans ts[i] us[i] with
    | false => exact .inr ⟨rfl, hb.trans (hb2.mono hb.size), _, _, List.getElem?_eq_getElem hl, List.getElem?_eq_getElem hm, hh⟩
    | true =>
      refine .inl ⟨rfl, hb.trans (hb2.mono hb.size), fun j a b hj2 ha hb3 => ?_⟩
      by_cases hji : j = i
      · subst hji
        rw [List.getElem?_eq_getElem hl] at ha
        rw [List.getElem?_eq_getElem hm] at hb3
        cases ha
        cases hb3
        exact hh
      · exact hn j a b (by omega) ha hb3
  · rintro e W1 (⟨rfl, hnm, hb, hn⟩ | ⟨rfl, (⟨hnm, hb, _⟩ | ⟨k, hk, hnm, hb, a, b, ha, hb2, hh⟩)⟩)
    · exact ⟨by rw [all2_true hnm (fun j a b ha hb => hn j a b (idx_lt ha) ha hb)], hb⟩
    · exact ⟨by rw [all2_len hnm], hb⟩
    · exact ⟨by rw [all2_false ha hb2 hh], hb⟩
end Go.Proofs.YtadjekpfehjibaaGreatDoor.PEnv
namespace Go.Proofs.YtadjekpfehjibaaGreatDoor.PEnv
open Go.RowKit Go.Shelf Go.Proofs.YtadjekpfehjibaaGreatDoorW.PrintWords Go.Proofs.YtadjekpfehjibaaGreatDoorW.PrintLast Go.Proofs.YtadjekpfehjibaaGreatDoorW.PrintMore Go.Proofs.YtadjekpfehjibaaGreatDoor.PEnvJoins
def bothE (a b : List S33) : Bool := (rightE a && rightE b) && all2 bothB a b
set_option maxHeartbeats 4000000 in
theorem envBoth (a b : List S33) (A : Option Addr) (c : Nat) (B : Option Addr) (d : Nat) (w : World) (hC : Kd.C k33 w A a.length a) (hD : Kd.C k33 w B b.length b) :
    Calls Tryz.prog 24 #[.slice A a.length c, .slice B b.length d] w fun e w' => e = .returned (.bool (bothE a b)) ∧ Below w.heap.size w w' := by
  have eg : ∀ args w, (callFunc 46 args).run Tryz.prog w = .ok (.enter 46 args) w := enters_of Tryz.func46 (by kernel_rfl) rfl
  have eR := enters_of Tryz.func6 (by kernel_rfl) rfl
  have eE := enters_of Tryz.func25 (by kernel_rfl) rfl
  have r1 := envRightE a A c w hC
  have r2 : ∀ W, Below w.heap.size w W → Calls Tryz.prog 6 #[.slice B b.length d] W fun e w' => e = .returned (.bool (rightE b)) ∧ Below W.heap.size W w' := fun W hW => envRightE b B d W (Kd.C_below hD hW)
  have r3 : ∀ W, Below w.heap.size w W → Calls Tryz.prog 25 #[.slice A a.length c, .slice B b.length d, .func (.func 46) #[] #[]] W fun e w' => e = .returned (.bool (all2 bothB a b)) ∧ Below W.heap.size W w' := fun W hW =>
    eqBinds 46 eg bothB a b both1 A c B d W (Kd.C_below hC hW) (Kd.C_below hD hW)
  have hf : bothE a b = ((rightE a && rightE b) && all2 bothB a b) := rfl
  clear hC hD
  cases h1 : rightE a with
  | false =>
    rw [h1] at r1 hf
    have hf2 : bothE a b = false := by rw [hf]; rfl
    clear h1 hf r2 r3
    go_enter Tryz.func24, Tryz.ntmps24
    go_wp2_with (go_at_call 6; refine r1.mono ?_; clear r1; rintro e w1 ⟨rfl, hb1⟩)
    go_ret
    exact ⟨by first | rfl | (rw [hf2]; rfl), hb1⟩
  | true =>
    rw [h1] at r1 hf
    clear h1
    cases h2 : rightE b with
    | false =>
      rw [h2] at r2 hf
      have hf2 : bothE a b = false := by rw [hf]; rfl
      clear h2 hf r3
      go_enter Tryz.func24, Tryz.ntmps24
      go_wp2_with (first
        | (go_at_call 6; refine r1.mono ?_; clear r1; rintro e w1 ⟨rfl, hb1⟩; have r2' := r2 w1 hb1; clear r2)
        | (go_at_call 6; refine r2'.mono ?_; clear r2'; rintro e w2 ⟨rfl, hb2⟩))
      go_ret
      exact ⟨by first | rfl | (rw [hf2]; rfl), hb1.trans (hb2.mono hb1.size)⟩
    | true =>
      rw [h2] at r2 hf
      have hf2 : bothE a b = all2 bothB a b := by rw [hf]; simp
      clear h2 hf
      go_enter Tryz.func24, Tryz.ntmps24
      go_wp2_with (first
        | (go_at_call 6; refine r1.mono ?_; clear r1; rintro e w1 ⟨rfl, hb1⟩; have r2' := r2 w1 hb1; clear r2)
        | (go_at_call 6; refine r2'.mono ?_; clear r2'; rintro e w2 ⟨rfl, hb2⟩; have hb12 := hb1.trans (hb2.mono hb1.size); have r3' := r3 w2 hb12; clear r3)
        | (go_at_call 25; refine r3'.mono ?_; clear r3'; rintro e w3 ⟨rfl, hb3⟩))
      go_ret
      exact ⟨by first | rfl | (rw [hf2]; rfl), hb12.trans (hb3.mono hb12.size)⟩
end Go.Proofs.YtadjekpfehjibaaGreatDoor.PEnv
namespace Go.Proofs.YtadjekpfehjibaaGreatDoor.PEnv
open Go.RowKit Go.Shelf Go.Proofs.YtadjekpfehjibaaGreatDoorW.PrintWords Go.Proofs.YtadjekpfehjibaaGreatDoorW.PrintLast Go.Proofs.YtadjekpfehjibaaGreatDoorW.PrintMore Go.Proofs.YtadjekpfehjibaaGreatDoor.PEnvJoins
set_option maxHeartbeats 4000000 in
theorem merged1 (a b : S44) (A2 : Option Addr) (c2 : Nat) (B2 : Option Addr) (d2 : Nat) (Bo : Nat) (w : World) (g2 : Kd.C (Kd.int .i64) w A2 a.f1.f1.length a.f1.f1) (l2 : a.f1.f1.length ≤ c2) (h2 : Kd.C (Kd.int .i64) w B2 b.f1.f1.length b.f1.f1) (m2 : b.f1.f1.length ≤ d2)
    (ho : w.cell? ⟨Bo, 0, none⟩ = some (.func (.func 48) #[] #[])) :
    Calls Tryz.prog 66 #[.agg #[.string a.f0, .string a.f1.f0, .slice A2 a.f1.f1.length c2, .bool a.f2], .agg #[.string b.f0, .string b.f1.f0, .slice B2 b.f1.f1.length d2, .bool b.f2], ptr Bo] w fun e w' => e = .returned (.bool (cmpLoan a b == 0)) ∧ Below w.heap.size w w' := by
  have eg : ∀ args w, (callFunc 48 args).run Tryz.prog w = .ok (.enter 48 args) w := enters_of Tryz.func48 (by kernel_rfl) rfl
  have hb1 : Below w.heap.size w (w.alloc (.cells #[.string a.f0, .string a.f1.f0, .slice A2 a.f1.f1.length c2, .bool a.f2] 44)) := (Below.refl _ w).alloc (Nat.le_refl _) _
  have hb2 : Below w.heap.size w ((w.alloc (.cells #[.string a.f0, .string a.f1.f0, .slice A2 a.f1.f1.length c2, .bool a.f2] 44)).alloc (.cells #[.string b.f0, .string b.f1.f0, .slice B2 b.f1.f1.length d2, .bool b.f2] 44)) := hb1.alloc (by simp) _
  have hcall := envCmp a b A2 c2 B2 d2 ((w.alloc (.cells #[.string a.f0, .string a.f1.f0, .slice A2 a.f1.f1.length c2, .bool a.f2] 44)).alloc (.cells #[.string b.f0, .string b.f1.f0, .slice B2 b.f1.f1.length d2, .bool b.f2] 44)) (Kd.C_below g2 hb2) l2 (Kd.C_below h2 hb2) m2
  have ho2 := below_cell hb2 ho
  have fin : ∀ w', Below ((w.alloc (.cells #[.string a.f0, .string a.f1.f0, .slice A2 a.f1.f1.length c2, .bool a.f2] 44)).alloc (.cells #[.string b.f0, .string b.f1.f0, .slice B2 b.f1.f1.length d2, .bool b.f2] 44)).heap.size ((w.alloc (.cells #[.string a.f0, .string a.f1.f0, .slice A2 a.f1.f1.length c2, .bool a.f2] 44)).alloc (.cells #[.string b.f0, .string b.f1.f0, .slice B2 b.f1.f1.length d2, .bool b.f2] 44)) w' → Below w.heap.size w w' := fun w' h => hb2.trans (h.mono (by simp; omega))
  clear g2 h2 ho
  unfold ptr
  go_enter Tryz.func66, Tryz.ntmps66
  go_wp2_with (go_at_fn 48; refine hcall.mono ?_; rintro e w' ⟨rfl, hb3⟩)
  go_ret
  exact ⟨rfl, fin _ hb3⟩
end Go.Proofs.YtadjekpfehjibaaGreatDoor.PEnv
namespace Go.Proofs.YtadjekpfehjibaaGreatDoor.PEnv
open Go.RowKit Go.Shelf Go.Lib Go.Proofs.YtadjekpfehjibaaGreatDoorW.PrintWords Go.Proofs.YtadjekpfehjibaaGreatDoorW.PrintLast Go.Proofs.YtadjekpfehjibaaGreatDoorW.PrintMore Go.Proofs.YtadjekpfehjibaaGreatDoor.PEnvJoins
set_option maxRecDepth 100000
/-- Are two alike? -/
def eqEl {w : World} (y x : El w) : Bool := cmpEl y x == 0
/-- Those that are not like the one ahead of them. -/
def keepF {w : World} (x : El w) : List (El w) → List (El w)
  | [] => []
  | y :: r => if eqEl y x = true then keepF y r else y :: keepF y r
def compactF {w : World} : List (El w) → List (El w)
  | [] => []
  | x :: r => x :: keepF x r
/-- What is held while the first loop runs. -/
structure KI (w : World) (bl Bo : Nat) (xs : List (El w)) (kk : Nat) (W : World) : Prop where
  bel : Below w.heap.size w W
  box : W.cell? ⟨Bo, 0, none⟩ = some (.func (.func 48) #[] #[])
  blk : bl < W.heap.size
  row : RowE W bl (xs.map encL)
  ne : ∀ (j : Nat) x y, j + 1 < kk → xs[j]? = some x → xs[j + 1]? = some y → eqEl y x = false
theorem keepF_all {w : World} : ∀ (xs : List (El w)) (x : El w), (∀ (j : Nat) a b, (x :: xs)[j]? = some a → (x :: xs)[j + 1]? = some b → eqEl b a = false) → keepF x xs = xs
  | [], _, _ => rfl
  | y :: r, x, h => by
    have h0 := h 0 x y rfl rfl
    rw [keepF, h0, if_neg (by simp), keepF_all r y (fun j a b ha hb => h (j + 1) a b ha hb)]
theorem compactF_all {w : World} (xs : List (El w)) (h : ∀ (j : Nat) x y, xs[j]? = some x → xs[j + 1]? = some y → eqEl y x = false) : compactF xs = xs := by
  cases xs with
  | nil => rfl
  | cons x r => rw [compactF, keepF_all r x h]
theorem row4 {w W : World} {bl : Nat} {xs : List (El w)} (h : RowE W bl (xs.map encL)) {j : Nat} {x : El w} (hx : xs[j]? = some x) :
    W.cell? ⟨bl, j * 4, none⟩ = some (.string x.l.f0) ∧ W.cell? ⟨bl, j * 4 + 1, none⟩ = some (.string x.l.f1.f0) ∧ W.cell? ⟨bl, j * 4 + 2, none⟩ = some (.slice x.A x.l.f1.f1.length x.c) ∧ W.cell? ⟨bl, j * 4 + 3, none⟩ = some (.bool x.l.f2) := by
  have h1 := (h j (encL x) (by rw [List.getElem?_map, hx]; rfl)).2
  exact ⟨(h1 0 _ rfl).1, (h1 1 _ rfl).1, (h1 2 _ rfl).1, (h1 3 _ rfl).1⟩
theorem row4f {w W : World} {bl : Nat} {xs : List (El w)} (h : RowE W bl (xs.map encL)) {j : Nat} {x : El w} (hx : xs[j]? = some x) :
    W.frozen? ⟨bl, j * 4, none⟩ = false ∧ W.frozen? ⟨bl, j * 4 + 1, none⟩ = false ∧ W.frozen? ⟨bl, j * 4 + 2, none⟩ = false ∧ W.frozen? ⟨bl, j * 4 + 3, none⟩ = false := by
  have h1 := (h j (encL x) (by rw [List.getElem?_map, hx]; rfl)).2
  exact ⟨(h1 0 _ rfl).2, (h1 1 _ rfl).2, (h1 2 _ rfl).2, (h1 3 _ rfl).2⟩
theorem KI.next {w W W' : World} {bl Bo : Nat} {xs : List (El w)} {kk jj : Nat} {x y : El w} (h : KI w bl Bo xs kk W) (hb : Below W.heap.size W W') (hj : jj + 1 = kk) (hy : xs[kk]? = some y) (hx : xs[jj]? = some x) (he : eqEl y x = false) : KI w bl Bo xs (kk + 1) W' := by
  refine ⟨h.bel.trans (hb.mono h.bel.size), below_cell hb h.box, Nat.lt_of_lt_of_le h.blk hb.size, h.row.keep (hb.block bl h.blk), fun j a b hjl ha hbj => ?_⟩
  by_cases h1 : j + 1 < kk
  · exact h.ne j a b h1 ha hbj
  · have e1 : j + 1 = kk := by omega
    have e2 : j = jj := by omega
    subst e2
    rw [e1] at hbj
    rw [hx] at ha
    rw [hy] at hbj
    cases ha
    cases hbj
    exact he
theorem keepF_split {w : World} : ∀ (i : Nat) (x : El w) (r : List (El w)), (∀ (j : Nat) a b, j + 1 ≤ i → (x :: r)[j]? = some a → (x :: r)[j + 1]? = some b → eqEl b a = false) → ∀ p, (x :: r)[i]? = some p → keepF x r = r.take i ++ keepF p (r.drop i)
  | 0, x, r, _, p, hp => by
    obtain rfl : x = p := by simpa using hp
    simp
  | i + 1, x, [], _, p, hp => by simp at hp
  | i + 1, x, y :: r, h, p, hp => by
    have h0 := h 0 x y (by omega) rfl rfl
    rw [keepF, h0, if_neg (by simp), keepF_split i y r (fun j a b hj ha hb => h (j + 1) a b (by omega) ha hb) p (by simpa using hp)]
    rfl
/-- What is held while the second loop runs: the row holds zs. -/
structure CIz (w : World) (bl Bo : Nat) (xs : List (El w)) (k0 kc k2 : Nat) (zs : List (El w)) (W : World) : Prop where
  bel : Below w.heap.size w W
  box : W.cell? ⟨Bo, 0, none⟩ = some (.func (.func 48) #[] #[])
  blk : bl < W.heap.size
  len : zs.length = xs.length
  row : RowE W bl (zs.map encL)
  le : kc + 1 ≤ k0 + k2
  tail : ∀ j, k0 + k2 ≤ j + 1 → zs[j]? = xs[j]?
  done : ∃ q p, q + 1 = k0 + k2 ∧ xs[q]? = some p ∧ zs.take kc ++ keepF p (xs.drop (k0 + k2)) = compactF xs
def CI (w : World) (bl Bo : Nat) (xs : List (El w)) (k0 kc k2 : Nat) (W : World) : Prop := ∃ zs, CIz w bl Bo xs k0 kc k2 zs W
theorem CI.start {w W W' : World} {bl Bo : Nat} {xs : List (El w)} {kk jj : Nat} {x y : El w} (h : KI w bl Bo xs kk W) (hb : Below W.heap.size W W') (hj : jj + 1 = kk) (hy : xs[kk]? = some y) (hx : xs[jj]? = some x) (he : eqEl y x = true) : CI w bl Bo xs kk kk 1 W' := by
  refine ⟨xs, h.bel.trans (hb.mono h.bel.size), below_cell hb h.box, Nat.lt_of_lt_of_le h.blk hb.size, rfl, h.row.keep (hb.block bl h.blk), Nat.le_refl _, fun _ _ => rfl, kk, y, rfl, hy, ?_⟩
  subst hj
  cases xs with
  | nil => simp at hx
  | cons x0 r =>
    have h1 := keepF_split jj x0 r (fun j a b hj ha hb => h.ne j a b (by omega) ha hb) x hx
    have h2 : r.drop jj = y :: r.drop (jj + 1) := by
      have hl : jj < r.length := by
        have := (List.getElem?_eq_some_iff.mp hy).1
        simpa using this
      rw [List.drop_eq_getElem_cons hl]
      have : r[jj] = y := by
        have := (List.getElem?_eq_some_iff.mp hy).2
        simpa using this
      rw [this]
    rw [compactF, h1, h2, keepF, if_pos he]
    simp
theorem CI.open {w W : World} {bl Bo : Nat} {xs : List (El w)} {k0 kc k2 m n j2 : Nat} (h : CI w bl Bo xs k0 kc k2 W) (hn : xs.length = n) (hm : n - k0 = m) (hlt : k2 < m) (hj : j2 + 1 = k2) :
    ∃ zs y2 x2 z2, zs[k0 + k2]? = some y2 ∧ zs[k0 + j2]? = some x2 ∧ zs[kc]? = some z2 ∧ xs[k0 + k2]? = some y2 ∧ xs[k0 + j2]? = some x2 ∧ CIz w bl Bo xs k0 kc k2 zs W := by
  obtain ⟨zs, hz⟩ := h
  have hl := hz.len
  have hle := hz.le
  have e1 : zs[k0 + k2]? = some zs[k0 + k2] := List.getElem?_eq_getElem (by omega)
  have e2 : zs[k0 + j2]? = some zs[k0 + j2] := List.getElem?_eq_getElem (by omega)
  exact ⟨zs, _, _, _, e1, e2, List.getElem?_eq_getElem (by omega), (hz.tail _ (by omega)).symm.trans e1, (hz.tail _ (by omega)).symm.trans e2, hz⟩
theorem CIz.same {w W W' : World} {bl Bo : Nat} {xs : List (El w)} {k0 kc k2 j2 : Nat} {zs : List (El w)} {x2 y2 : El w} (h : CIz w bl Bo xs k0 kc k2 zs W) (hb : Below W.heap.size W W') (hj : j2 + 1 = k2) (hy : xs[k0 + k2]? = some y2) (hx : xs[k0 + j2]? = some x2) (he : eqEl y2 x2 = true) : CI w bl Bo xs k0 kc (k2 + 1) W' := by
  obtain ⟨q, p, hq, hp, hd⟩ := h.done
  refine ⟨zs, h.bel.trans (hb.mono h.bel.size), below_cell hb h.box, Nat.lt_of_lt_of_le h.blk hb.size, h.len, h.row.keep (hb.block bl h.blk), by have := h.le; omega, fun j hjj => h.tail j (by omega), k0 + k2, y2, by omega, hy, ?_⟩
  have e : q = k0 + j2 := by omega
  subst e
  rw [hx] at hp
  cases hp
  have hl := (List.getElem?_eq_some_iff.mp hy).1
  have hg := (List.getElem?_eq_some_iff.mp hy).2
  rw [← hd, List.drop_eq_getElem_cons hl, hg, keepF, if_pos he]
  rfl
theorem CIz.put {w W W' : World} {bl Bo : Nat} {xs : List (El w)} {k0 kc k2 j2 : Nat} {zs : List (El w)} {x2 y2 : El w} (h : CIz w bl Bo xs k0 kc k2 zs W) (hbel : Below w.heap.size w W') (hbox : W'.cell? ⟨Bo, 0, none⟩ = some (.func (.func 48) #[] #[])) (hs : bl < W'.heap.size)
    (hrow : RowE W' bl ((zs.set kc y2).map encL)) (hj : j2 + 1 = k2) (hy : xs[k0 + k2]? = some y2) (hx : xs[k0 + j2]? = some x2) (he : eqEl y2 x2 = false) : CI w bl Bo xs k0 (kc + 1) (k2 + 1) W' := by
  obtain ⟨q, p, hq, hp, hd⟩ := h.done
  have hle := h.le
  have hl := (List.getElem?_eq_some_iff.mp hy).1
  have hg := (List.getElem?_eq_some_iff.mp hy).2
  have hzl := h.len
  refine ⟨zs.set kc y2, hbel, hbox, hs, by rw [List.length_set]; exact hzl, hrow, by omega, fun j hjj => ?_, k0 + k2, y2, by omega, hy, ?_⟩
  · rw [List.getElem?_set_ne (by omega)]
    exact h.tail j (by omega)
  · have e : q = k0 + j2 := by omega
    subst e
    rw [hx] at hp
    cases hp
    have ht : (zs.set kc y2).take (kc + 1) = zs.take kc ++ [y2] := by
      rw [List.take_add_one, List.take_set_of_le (Nat.le_refl _), List.getElem?_set_self (by omega)]
      rfl
    rw [ht, ← hd, List.drop_eq_getElem_cons hl, hg]
    conv => rhs; rw [keepF, if_neg (by rw [he]; simp)]
    simp [Nat.add_assoc]
theorem CI.last {w W : World} {bl Bo : Nat} {xs : List (El w)} {k0 kc k2 m n : Nat} (h : CI w bl Bo xs k0 kc k2 W) (hn : xs.length = n) (hm : n - k0 = m) (hk : k0 < n) (he : k2 = m) :
    ∃ zs, CIz w bl Bo xs k0 kc k2 zs W ∧ kc < n ∧ compactF xs = zs.take kc := by
  obtain ⟨zs, hz⟩ := h
  obtain ⟨q, p, hq, hp, hd⟩ := hz.done
  have hle := hz.le
  refine ⟨zs, hz, by omega, ?_⟩
  rw [← hd, List.drop_eq_nil_of_le (by omega), keepF, List.append_nil]
theorem setCells4 (W : World) (bl o : Nat) (a b c d : Value) : (((W.setCell ⟨bl, o, none⟩ a).setCell ⟨bl, o + 1, none⟩ b).setCell ⟨bl, o + 2, none⟩ c).setCell ⟨bl, o + 3, none⟩ d = W.setCells bl o [a, b, c, d] := rfl
theorem blk_setCells_other : ∀ (vs : List Value) (o : Nat) (W : World) (bl b : Nat), b ≠ bl → (W.setCells bl o vs).heap[b]? = W.heap[b]?
  | [], _, _, _, _, _ => rfl
  | v :: vs, o, W, bl, b, h => by
    rw [World.setCells, blk_setCells_other vs (o + 1) _ bl b h]
    unfold World.setCell
    simp only [Array.getElem?_modify]
    rw [if_neg (fun e => h e.symm)]
theorem RowE.put {W : World} {bl : Nat} {zs : List (List Value)} {k : Nat} {cs : List Value} (h : RowE W bl zs) (hk : k < zs.length) (hc : cs.length = 4) : RowE (W.setCells bl (k * 4) cs) bl (zs.set k cs) := by
  intro j ds hj
  by_cases e : j = k
  · subst e
    rw [List.getElem?_set_self hk] at hj
    cases hj
    refine ⟨hc, fun i u hu => ?_⟩
    obtain ⟨hi, hu2⟩ := List.getElem?_eq_some_iff.mp hu
    have h0 := h j zs[j] (List.getElem?_eq_getElem hk)
    have hsome : ∀ i, i < cs.length → (W.cell? ⟨bl, j * 4 + i, none⟩).isSome = true := fun i hi => by
      have := (h0.2 i (zs[j][i]'(by rw [h0.1]; omega)) (List.getElem?_eq_getElem _)).1
      rw [this]; rfl
    refine ⟨?_, ?_⟩
    · rw [World.cell?_setCells_in bl cs (j * 4) W hsome i hi, hu2]
    · rw [World.frozen?_setCells]
      exact (h0.2 i (zs[j][i]'(by rw [h0.1]; omega)) (List.getElem?_eq_getElem _)).2
  · rw [List.getElem?_set_ne (fun h => e h.symm)] at hj
    obtain ⟨h1, h2⟩ := h j ds hj
    refine ⟨h1, fun i u hu => ?_⟩
    have hi := (List.getElem?_eq_some_iff.mp hu).1
    refine ⟨?_, ?_⟩
    · rw [World.cell?_setCells_out bl cs (k * 4) W _ (fun _ _ => by
        show j * 4 + i < k * 4 ∨ k * 4 + cs.length ≤ j * 4 + i
        omega)]
      exact (h2 i u hu).1
    · rw [World.frozen?_setCells]
      exact (h2 i u hu).2
theorem RowE.cut {W : World} {bl : Nat} {zs : List (List Value)} {k : Nat} (cs : List Value) (h : RowE W bl zs) : RowE (W.setCells bl (k * 4) cs) bl (zs.take k) := by
  intro j ds hj
  have hlt := (List.getElem?_eq_some_iff.mp hj).1
  rw [List.length_take] at hlt
  rw [List.getElem?_take_of_lt (by omega)] at hj
  obtain ⟨h1, h2⟩ := h j ds hj
  refine ⟨h1, fun i u hu => ?_⟩
  have hi := (List.getElem?_eq_some_iff.mp hu).1
  refine ⟨?_, ?_⟩
  · rw [World.cell?_setCells_out bl cs (k * 4) W _ (fun _ _ => by
      show j * 4 + i < k * 4 ∨ k * 4 + cs.length ≤ j * 4 + i
      omega)]
    exact (h2 i u hu).1
  · rw [World.frozen?_setCells]
    exact (h2 i u hu).2
/-- clear of the rest of a row of loans. -/
theorem clearLoans (W : World) (ty : TypeId) (bl k n c : Nat) (zs : List (List Value)) (h : RowE W bl zs) (hn : zs.length = k + n) (h0 : 0 < n) :
    (Builtin.clear_ #[28] ty #[.slice (some ⟨bl, k * 4, none⟩) n c]).run Tryz.prog W = .ok (.tuple #[]) (W.setCells bl (k * 4) (Builtin.zeroCells #[.string ⟨#[]⟩, .string ⟨#[]⟩, .slice none 0 0, .bool false] n).toList) := by
  have ht : Tryz.prog.underlying 28 = some (.slice 44) := by first | kernel_rfl | rfl
  have hv : ∀ w, (zeroValue 44).run Tryz.prog w = .ok (.agg #[.string ⟨#[]⟩, .string ⟨#[]⟩, .slice none 0 0, .bool false]) w := fun w => by first | exact Tryz.zeroValue44 w | rfl
  have hl : (Builtin.zeroCells #[.string ⟨#[]⟩, .string ⟨#[]⟩, .slice none 0 0, .bool false] n).toList.length = n * 4 := by simp [Builtin.zeroCells, Nat.mul_comm]
  have hcell : ∀ j, j < n * 4 → ∃ u, W.cell? ⟨bl, k * 4 + j, none⟩ = some u ∧ W.frozen? ⟨bl, k * 4 + j, none⟩ = false := fun j hj => by
    have hlt : k + j / 4 < zs.length := by omega
    obtain ⟨h1, h2⟩ := h (k + j / 4) zs[k + j / 4] (List.getElem?_eq_getElem hlt)
    have h3 := h2 (j % 4) (zs[k + j / 4][j % 4]'(by rw [h1]; omega)) (List.getElem?_eq_getElem _)
    rw [show (k + j / 4) * 4 + j % 4 = k * 4 + j by omega] at h3
    exact ⟨_, h3⟩
  have hst := run_storeCells_cells (P := Tryz.prog) bl (k * 4) (Builtin.zeroCells #[.string ⟨#[]⟩, .string ⟨#[]⟩, .slice none 0 0, .bool false] n).toList 0 W
    (fun j hj => by obtain ⟨u, h1, _⟩ := hcell j (by omega); rw [Nat.add_zero, h1]; rfl) (fun j hj => by obtain ⟨u, _, h2⟩ := hcell j (by omega); rw [Nat.add_zero]; exact h2)
    (fun v hv' => by
      simp only [Builtin.zeroCells, Array.toList_map, List.mem_map] at hv'
      obtain ⟨i, _, rfl⟩ := hv'
      have : i % 4 = 0 ∨ i % 4 = 1 ∨ i % 4 = 2 ∨ i % 4 = 3 := by omega
      rcases this with e | e | e | e <;> simp [e] <;> rfl)
  simp only [Nat.add_zero] at hst
  obtain ⟨m, rfl⟩ : ∃ m, n = m + 1 := ⟨n - 1, by omega⟩
  simp [Builtin.clear_, run_underlying ht, hv, hst, Value.cells]
end Go.Proofs.YtadjekpfehjibaaGreatDoor.PEnv
namespace Go.Proofs.YtadjekpfehjibaaGreatDoor.PEnv
open Go.RowKit Go.Shelf Go.Lib Go.Proofs.YtadjekpfehjibaaGreatDoorW.PrintWords Go.Proofs.YtadjekpfehjibaaGreatDoorW.PrintLast Go.Proofs.YtadjekpfehjibaaGreatDoorW.PrintMore Go.Proofs.YtadjekpfehjibaaGreatDoor.PEnvJoins
/-- The closure at two loans of the row, in every world behind. -/
theorem eqCall {w W : World} {Bo : Nat} (hb : Below w.heap.size w W) (hbox : W.cell? ⟨Bo, 0, none⟩ = some (.func (.func 48) #[] #[])) (y x : El w) : ∀ Wq, Below W.heap.size W Wq →
    Calls Tryz.prog 66 #[.agg #[.string y.l.f0, .string y.l.f1.f0, .slice y.A y.l.f1.f1.length y.c, .bool y.l.f2], .agg #[.string x.l.f0, .string x.l.f1.f0, .slice x.A x.l.f1.f1.length x.c, .bool x.l.f2], .pointer (some ⟨Bo, 0, none⟩)] Wq fun e w'' =>
      e = .returned (.bool (eqEl y x)) ∧ Below W.heap.size W w'' := fun Wq hq =>
  have hbq : Below w.heap.size w Wq := hb.trans (hq.mono hb.size)
  (merged1 y.l x.l y.A y.c x.A x.c Bo Wq (Kd.C_below y.reads hbq) y.room (Kd.C_below x.reads hbq) x.room (below_cell hq hbox)).mono fun e w'' h => ⟨h.1, hq.trans (h.2.mono hq.size)⟩
set_option maxHeartbeats 4000000 in
theorem compact (w : World) (bl Bo cap : Nat) (xs : List (El w)) (W : World) (hbl : w.heap.size ≤ bl) (hBo : Bo ≠ bl) (hcap : xs.length ≤ cap) (hI : KI w bl Bo xs 1 W) (hmax : xs.length ≤ 4611686018427387904) :
    Calls Tryz.prog 65 #[.slice (some ⟨bl, 0, none⟩) xs.length cap, .func (.func 66) #[] #[ptr Bo]] W fun e w' =>
      e = .returned (.slice (some ⟨bl, 0, none⟩) (compactF xs).length cap) ∧ Below w.heap.size w w' ∧ RowE w' bl ((compactF xs).map encL) := by
  have eg : ∀ args w, (callFunc 66 args).run Tryz.prog w = .ok (.enter 66 args) w := enters_of Tryz.func66 (by kernel_rfl) rfl
  obtain ⟨n, hn⟩ : ∃ n, xs.length = n := ⟨_, rfl⟩
  rw [hn] at hcap hmax
  by_cases h2 : n < 2
  · have hc : compactF xs = xs := compactF_all xs (fun j x y hx hy => by
      have := (List.getElem?_eq_some_iff.mp hy).1
      omega)
    rw [hc, hn]
    have hI' := Aside0.mk hI
    have h2b : decide ((n : Int) < 2) = true := by simp; omega
    clear hI h2 hc hcap hmax
    unfold ptr
    go_enter Tryz.func65, Tryz.ntmps65
    go_wp2
    go_ret
    exact ⟨by first | rfl | (rw [hn]), hI'.out.bel, hI'.out.row⟩
  · have h2b : decide ((n : Int) < 2) = false := by simp; omega
    have h2' := Aside0.mk h2
    have hI' := Aside0.mk hI
    have hCap := Aside0.mk hcap
    have hMax := Aside0.mk hmax
    clear hI h2 hcap hmax
    rw [hn]
    unfold ptr
    go_enter Tryz.func65, Tryz.ntmps65
    go_wp2
    go_loopg [5] n (fun gg s5 wr => ∃ kk : Nat, 1 ≤ kk ∧ kk ≤ n ∧ n - kk ≤ gg ∧ s5 = .int .i64 kk ∧ Aside (KI w bl Bo xs kk wr))
    case atStart => exact ⟨1, Nat.le_refl _, by have := h2'.out; omega, by omega, rfl, hI'.out⟩
    case round =>
      obtain ⟨kk, hk1, hkn, hg, rfl, hK⟩ := hrel
      have hK := Aside0.mk hK.out
      by_cases hlt : kk < n
      · have hltb : decide ((kk : Int) < (n : Int)) = true := by simp; omega
        obtain ⟨jj, hjk⟩ : ∃ jj, jj + 1 = kk := ⟨kk - 1, by omega⟩
        have hltz : (kk : Int) < (n : Int) := by omega
        have hltj : (jj : Int) < (n : Int) := by omega
        have hw : wrap64 ((kk : Int) - 1) = (jj : Int) := by have := hMax.out; have := hCap.out; unfold wrap64; omega
        have hw' : IntKind.i64.wrap ((kk : Int) - 1) = (jj : Int) := by rw [IntKind.wrap_i64]; have := hMax.out; have := hCap.out; omega
        obtain ⟨y, hy⟩ : ∃ y, xs[kk]? = some y := ⟨_, List.getElem?_eq_getElem (by omega)⟩
        obtain ⟨x, hx⟩ : ∃ x, xs[jj]? = some x := ⟨_, List.getElem?_eq_getElem (by omega)⟩
        have callA := eqCall hK.out.bel hK.out.box y x
        obtain ⟨b0, b1, b2, b3⟩ := row4 hK.out.row hy
        obtain ⟨d0, d1, d2, d3⟩ := row4 hK.out.row hx
        have r0 := fun Wq (h : Below wr.heap.size wr Wq) => below_cell h b0
        have r1 := fun Wq (h : Below wr.heap.size wr Wq) => below_cell h b1
        have r2 := fun Wq (h : Below wr.heap.size wr Wq) => below_cell h b2
        have r3 := fun Wq (h : Below wr.heap.size wr Wq) => below_cell h b3
        have s0 := fun Wq (h : Below wr.heap.size wr Wq) => below_cell h d0
        have s1 := fun Wq (h : Below wr.heap.size wr Wq) => below_cell h d1
        have s2 := fun Wq (h : Below wr.heap.size wr Wq) => below_cell h d2
        have s3 := fun Wq (h : Below wr.heap.size wr Wq) => below_cell h d3
        have hJK := Aside0.mk hjk
        have hY := Aside0.mk hy
        have hX := Aside0.mk hx
        obtain ⟨bb, hbb⟩ : ∃ bb, eqEl y x = bb := ⟨_, rfl⟩
        rw [hbb] at callA
        have hE := Aside0.mk hbb
        have hN := Aside0.mk hn
        clear b0 b1 b2 b3 d0 d1 d2 d3 hjk hy hx hbb hn
        go_wp2_with fail
        refine region_cls (fun W' => Below wr.heap.size wr W') (by kernel_rfl) (by kernel_rfl) (below_drew1 (Below.refl _ wr)) ?_
        go_big_quiet_want
        refine ⟨.func (.func 66) #[] #[.pointer (some ⟨Bo, 0, none⟩)], fun Wq hWq => ?_, ?_⟩
        · have ca := callA Wq hWq
          have q0 := r0 Wq hWq
          have q1 := r1 Wq hWq
          have q2 := r2 Wq hWq
          have q3 := r3 Wq hWq
          have p0 := s0 Wq hWq
          have p1 := s1 Wq hWq
          have p2 := s2 Wq hWq
          have p3 := s3 Wq hWq
          clear callA r0 r1 r2 r3 s0 s1 s2 s3
          unfold Oper.quietAt
          go_simp
        simp only [Act.put, List.setIfInBounds_toArray, List.set_cons_zero, List.set_cons_succ]
        go_big_quiet_on
        go_big_quiet_want
        refine ⟨.slice (some ⟨bl, 0, none⟩) n cap, fun Wq hWq => ?_, ?_⟩
        · have ca := callA Wq hWq
          have q0 := r0 Wq hWq
          have q1 := r1 Wq hWq
          have q2 := r2 Wq hWq
          have q3 := r3 Wq hWq
          have p0 := s0 Wq hWq
          have p1 := s1 Wq hWq
          have p2 := s2 Wq hWq
          have p3 := s3 Wq hWq
          clear callA r0 r1 r2 r3 s0 s1 s2 s3
          unfold Oper.quietAt
          go_simp
        simp only [Act.put, List.setIfInBounds_toArray, List.set_cons_zero, List.set_cons_succ]
        go_big_quiet_on
        go_big_quiet_want
        refine ⟨.int .i64 kk, fun Wq hWq => ?_, ?_⟩
        · have ca := callA Wq hWq
          have q0 := r0 Wq hWq
          have q1 := r1 Wq hWq
          have q2 := r2 Wq hWq
          have q3 := r3 Wq hWq
          have p0 := s0 Wq hWq
          have p1 := s1 Wq hWq
          have p2 := s2 Wq hWq
          have p3 := s3 Wq hWq
          clear callA r0 r1 r2 r3 s0 s1 s2 s3
          unfold Oper.quietAt
          go_simp
        simp only [Act.put, List.setIfInBounds_toArray, List.set_cons_zero, List.set_cons_succ]
        go_big_quiet_on
        go_big_quiet_want
        refine ⟨.pointer (some ⟨bl, kk * 4, none⟩), fun Wq hWq => ?_, ?_⟩
        · have ca := callA Wq hWq
          have q0 := r0 Wq hWq
          have q1 := r1 Wq hWq
          have q2 := r2 Wq hWq
          have q3 := r3 Wq hWq
          have p0 := s0 Wq hWq
          have p1 := s1 Wq hWq
          have p2 := s2 Wq hWq
          have p3 := s3 Wq hWq
          clear callA r0 r1 r2 r3 s0 s1 s2 s3
          unfold Oper.quietAt
          go_simp
        simp only [Act.put, List.setIfInBounds_toArray, List.set_cons_zero, List.set_cons_succ]
        go_big_quiet_on
        go_big_quiet_want
        refine ⟨.agg #[.string y.l.f0, .string y.l.f1.f0, .slice y.A y.l.f1.f1.length y.c, .bool y.l.f2], fun Wq hWq => ?_, ?_⟩
        · have ca := callA Wq hWq
          have q0 := r0 Wq hWq
          have q1 := r1 Wq hWq
          have q2 := r2 Wq hWq
          have q3 := r3 Wq hWq
          have p0 := s0 Wq hWq
          have p1 := s1 Wq hWq
          have p2 := s2 Wq hWq
          have p3 := s3 Wq hWq
          clear callA r0 r1 r2 r3 s0 s1 s2 s3
          unfold Oper.quietAt
          go_simp
        simp only [Act.put, List.setIfInBounds_toArray, List.set_cons_zero, List.set_cons_succ]
        go_big_quiet_on
        go_big_quiet_want
        refine ⟨.slice (some ⟨bl, 0, none⟩) n cap, fun Wq hWq => ?_, ?_⟩
        · have ca := callA Wq hWq
          have q0 := r0 Wq hWq
          have q1 := r1 Wq hWq
          have q2 := r2 Wq hWq
          have q3 := r3 Wq hWq
          have p0 := s0 Wq hWq
          have p1 := s1 Wq hWq
          have p2 := s2 Wq hWq
          have p3 := s3 Wq hWq
          clear callA r0 r1 r2 r3 s0 s1 s2 s3
          unfold Oper.quietAt
          go_simp
        simp only [Act.put, List.setIfInBounds_toArray, List.set_cons_zero, List.set_cons_succ]
        go_big_quiet_on
        go_big_quiet_want
        refine ⟨.int .i64 kk, fun Wq hWq => ?_, ?_⟩
        · have ca := callA Wq hWq
          have q0 := r0 Wq hWq
          have q1 := r1 Wq hWq
          have q2 := r2 Wq hWq
          have q3 := r3 Wq hWq
          have p0 := s0 Wq hWq
          have p1 := s1 Wq hWq
          have p2 := s2 Wq hWq
          have p3 := s3 Wq hWq
          clear callA r0 r1 r2 r3 s0 s1 s2 s3
          unfold Oper.quietAt
          go_simp
        simp only [Act.put, List.setIfInBounds_toArray, List.set_cons_zero, List.set_cons_succ]
        go_big_quiet_on
        go_big_quiet_want
        refine ⟨.int .i64 jj, fun Wq hWq => ?_, ?_⟩
        · have ca := callA Wq hWq
          have q0 := r0 Wq hWq
          have q1 := r1 Wq hWq
          have q2 := r2 Wq hWq
          have q3 := r3 Wq hWq
          have p0 := s0 Wq hWq
          have p1 := s1 Wq hWq
          have p2 := s2 Wq hWq
          have p3 := s3 Wq hWq
          clear callA r0 r1 r2 r3 s0 s1 s2 s3
          unfold Oper.quietAt
          go_simp
        simp only [Act.put, List.setIfInBounds_toArray, List.set_cons_zero, List.set_cons_succ]
        go_big_quiet_on
        go_big_quiet_want
        refine ⟨.pointer (some ⟨bl, jj * 4, none⟩), fun Wq hWq => ?_, ?_⟩
        · have ca := callA Wq hWq
          have q0 := r0 Wq hWq
          have q1 := r1 Wq hWq
          have q2 := r2 Wq hWq
          have q3 := r3 Wq hWq
          have p0 := s0 Wq hWq
          have p1 := s1 Wq hWq
          have p2 := s2 Wq hWq
          have p3 := s3 Wq hWq
          clear callA r0 r1 r2 r3 s0 s1 s2 s3
          unfold Oper.quietAt
          go_simp
        simp only [Act.put, List.setIfInBounds_toArray, List.set_cons_zero, List.set_cons_succ]
        go_big_quiet_on
        go_big_quiet_want
        refine ⟨.agg #[.string x.l.f0, .string x.l.f1.f0, .slice x.A x.l.f1.f1.length x.c, .bool x.l.f2], fun Wq hWq => ?_, ?_⟩
        · have ca := callA Wq hWq
          have q0 := r0 Wq hWq
          have q1 := r1 Wq hWq
          have q2 := r2 Wq hWq
          have q3 := r3 Wq hWq
          have p0 := s0 Wq hWq
          have p1 := s1 Wq hWq
          have p2 := s2 Wq hWq
          have p3 := s3 Wq hWq
          clear callA r0 r1 r2 r3 s0 s1 s2 s3
          unfold Oper.quietAt
          go_simp
        simp only [Act.put, List.setIfInBounds_toArray, List.set_cons_zero, List.set_cons_succ]
        go_big_quiet_on
        go_big_quiet_want
        refine ⟨.bool bb, fun Wq hWq => ?_, ?_⟩
        · have ca := callA Wq hWq
          have q0 := r0 Wq hWq
          have q1 := r1 Wq hWq
          have q2 := r2 Wq hWq
          have q3 := r3 Wq hWq
          have p0 := s0 Wq hWq
          have p1 := s1 Wq hWq
          have p2 := s2 Wq hWq
          have p3 := s3 Wq hWq
          clear callA r0 r1 r2 r3 s0 s1 s2 s3
          unfold Oper.quietAt
          go_simp
        simp only [Act.put, List.setIfInBounds_toArray, List.set_cons_zero, List.set_cons_succ]
        go_big_quiet_on
        refine wpQuiet_nil ?_
        intro W3 hW3
        clear callA r0 r1 r2 r3 s0 s1 s2 s3
        cases bb with
        | false =>
          have hbig : n ≤ 4611686018427387904 := by have := hMax.out; have := hCap.out; omega
          go_wp2
          go_roundg (n - (kk + 1))
          case measure => omega
          case rel => exact ⟨kk + 1, by omega, by omega, by omega, by go_num, KI.next hK.out hW3 hJK.out hY.out hX.out hE.out⟩
        | true =>
          have hck : ¬ cap = kk := by have := hCap.out; omega
          go_wp2_with fail
          obtain ⟨m, hm⟩ : ∃ m, n - kk = m := ⟨_, rfl⟩
          obtain ⟨cm, hcm⟩ : ∃ cm, cap - kk = cm := ⟨_, rfl⟩
          rw [hm, hcm]
          have hM := Aside0.mk hm
          have hCm := Aside0.mk hcm
          have hLt := Aside0.mk hlt
          have hI2 := Aside0.mk (CI.start hK.out hW3 hJK.out hY.out hX.out hE.out)
          clear hm hcm hck hltb hltz hltj hw hw' hlt hg hk1 hkn
          go_loopg [5, 7] m (fun gg s5 s7 W4 => ∃ kc k2 : Nat, 1 ≤ k2 ∧ k2 ≤ m ∧ m - k2 ≤ gg ∧ s5 = .int .i64 kc ∧ s7 = .int .i64 k2 ∧ Aside (CI w bl Bo xs kk kc k2 W4))
          case atStart => exact ⟨kk, 1, Nat.le_refl _, by have := hM.out; have := hLt.out; omega, by omega, rfl, rfl, hI2.out⟩
          case round =>
            obtain ⟨kc, k2, hk1, hkn, hg, rfl, rfl, hC⟩ := hrel
            have hC := Aside0.mk hC.out
            by_cases hlt : k2 < m
            · have hltb : decide ((k2 : Int) < (m : Int)) = true := by simp; omega
              obtain ⟨j2, hjk⟩ : ∃ j2, j2 + 1 = k2 := ⟨k2 - 1, by omega⟩
              have hltz : (k2 : Int) < (m : Int) := by omega
              have hltj : (j2 : Int) < (m : Int) := by omega
              have hw : wrap64 ((k2 : Int) - 1) = (j2 : Int) := by have := hMax.out; have := hCap.out; have := hM.out; unfold wrap64; omega
              have hw' : IntKind.i64.wrap ((k2 : Int) - 1) = (j2 : Int) := by rw [IntKind.wrap_i64]; have := hMax.out; have := hCap.out; have := hM.out; omega
              obtain ⟨zs, y2, x2, z2, hy, hx, hz, hy', hx', hnext⟩ := CI.open hC.out hN.out hM.out hlt hjk
              have callA := eqCall hnext.bel hnext.box y2 x2
              obtain ⟨b0, b1, b2', b3⟩ := row4 hnext.row hy
              obtain ⟨d0, d1, d2, d3⟩ := row4 hnext.row hx
              rw [Nat.add_mul] at b0 b1 b2' b3 d0 d1 d2 d3
              have r0 := fun Wq (h : Below wr.heap.size wr Wq) => below_cell h b0
              have r1 := fun Wq (h : Below wr.heap.size wr Wq) => below_cell h b1
              have r2 := fun Wq (h : Below wr.heap.size wr Wq) => below_cell h b2'
              have r3 := fun Wq (h : Below wr.heap.size wr Wq) => below_cell h b3
              have s0 := fun Wq (h : Below wr.heap.size wr Wq) => below_cell h d0
              have s1 := fun Wq (h : Below wr.heap.size wr Wq) => below_cell h d1
              have s2 := fun Wq (h : Below wr.heap.size wr Wq) => below_cell h d2
              have s3 := fun Wq (h : Below wr.heap.size wr Wq) => below_cell h d3
              have hJ2 := Aside0.mk hjk
              have hY2 := Aside0.mk (And.intro hy hy')
              have hX2 := Aside0.mk (And.intro hx hx')
              have hZ2 := Aside0.mk hz
              have hNx := Aside0.mk hnext
              have hL2 := Aside0.mk hlt
              obtain ⟨b2, hbb⟩ : ∃ b2, eqEl y2 x2 = b2 := ⟨_, rfl⟩
              rw [hbb] at callA
              have hE2 := Aside0.mk hbb
              clear b0 b1 b2' b3 d0 d1 d2 d3 hjk hy hx hy' hx' hz hnext hbb hlt
              go_wp2_with fail
              refine region_cls (fun W' => Below wr.heap.size wr W') (by kernel_rfl) (by kernel_rfl) (below_drew1 (Below.refl _ wr)) ?_
              go_big_quiet_want
              refine ⟨.func (.func 66) #[] #[.pointer (some ⟨Bo, 0, none⟩)], fun Wq hWq => ?_, ?_⟩
              · have ca := callA Wq hWq
                have q0 := r0 Wq hWq
                have q1 := r1 Wq hWq
                have q2 := r2 Wq hWq
                have q3 := r3 Wq hWq
                have p0 := s0 Wq hWq
                have p1 := s1 Wq hWq
                have p2 := s2 Wq hWq
                have p3 := s3 Wq hWq
                clear callA r0 r1 r2 r3 s0 s1 s2 s3
                unfold Oper.quietAt
                go_simp
              simp only [Act.put, List.setIfInBounds_toArray, List.set_cons_zero, List.set_cons_succ]
              go_big_quiet_on
              go_big_quiet_want
              refine ⟨.slice (some ⟨bl, kk * 4, none⟩) m cm, fun Wq hWq => ?_, ?_⟩
              · have ca := callA Wq hWq
                have q0 := r0 Wq hWq
                have q1 := r1 Wq hWq
                have q2 := r2 Wq hWq
                have q3 := r3 Wq hWq
                have p0 := s0 Wq hWq
                have p1 := s1 Wq hWq
                have p2 := s2 Wq hWq
                have p3 := s3 Wq hWq
                clear callA r0 r1 r2 r3 s0 s1 s2 s3
                unfold Oper.quietAt
                go_simp
              simp only [Act.put, List.setIfInBounds_toArray, List.set_cons_zero, List.set_cons_succ]
              go_big_quiet_on
              go_big_quiet_want
              refine ⟨.int .i64 k2, fun Wq hWq => ?_, ?_⟩
              · have ca := callA Wq hWq
                have q0 := r0 Wq hWq
                have q1 := r1 Wq hWq
                have q2 := r2 Wq hWq
                have q3 := r3 Wq hWq
                have p0 := s0 Wq hWq
                have p1 := s1 Wq hWq
                have p2 := s2 Wq hWq
                have p3 := s3 Wq hWq
                clear callA r0 r1 r2 r3 s0 s1 s2 s3
                unfold Oper.quietAt
                go_simp
              simp only [Act.put, List.setIfInBounds_toArray, List.set_cons_zero, List.set_cons_succ]
              go_big_quiet_on
              go_big_quiet_want
              refine ⟨.pointer (some ⟨bl, kk * 4 + k2 * 4, none⟩), fun Wq hWq => ?_, ?_⟩
              · have ca := callA Wq hWq
                have q0 := r0 Wq hWq
                have q1 := r1 Wq hWq
                have q2 := r2 Wq hWq
                have q3 := r3 Wq hWq
                have p0 := s0 Wq hWq
                have p1 := s1 Wq hWq
                have p2 := s2 Wq hWq
                have p3 := s3 Wq hWq
                clear callA r0 r1 r2 r3 s0 s1 s2 s3
                unfold Oper.quietAt
                go_simp
              simp only [Act.put, List.setIfInBounds_toArray, List.set_cons_zero, List.set_cons_succ]
              go_big_quiet_on
              go_big_quiet_want
              refine ⟨.agg #[.string y2.l.f0, .string y2.l.f1.f0, .slice y2.A y2.l.f1.f1.length y2.c, .bool y2.l.f2], fun Wq hWq => ?_, ?_⟩
              · have ca := callA Wq hWq
                have q0 := r0 Wq hWq
                have q1 := r1 Wq hWq
                have q2 := r2 Wq hWq
                have q3 := r3 Wq hWq
                have p0 := s0 Wq hWq
                have p1 := s1 Wq hWq
                have p2 := s2 Wq hWq
                have p3 := s3 Wq hWq
                clear callA r0 r1 r2 r3 s0 s1 s2 s3
                unfold Oper.quietAt
                go_simp
              simp only [Act.put, List.setIfInBounds_toArray, List.set_cons_zero, List.set_cons_succ]
              go_big_quiet_on
              go_big_quiet_want
              refine ⟨.slice (some ⟨bl, kk * 4, none⟩) m cm, fun Wq hWq => ?_, ?_⟩
              · have ca := callA Wq hWq
                have q0 := r0 Wq hWq
                have q1 := r1 Wq hWq
                have q2 := r2 Wq hWq
                have q3 := r3 Wq hWq
                have p0 := s0 Wq hWq
                have p1 := s1 Wq hWq
                have p2 := s2 Wq hWq
                have p3 := s3 Wq hWq
                clear callA r0 r1 r2 r3 s0 s1 s2 s3
                unfold Oper.quietAt
                go_simp
              simp only [Act.put, List.setIfInBounds_toArray, List.set_cons_zero, List.set_cons_succ]
              go_big_quiet_on
              go_big_quiet_want
              refine ⟨.int .i64 k2, fun Wq hWq => ?_, ?_⟩
              · have ca := callA Wq hWq
                have q0 := r0 Wq hWq
                have q1 := r1 Wq hWq
                have q2 := r2 Wq hWq
                have q3 := r3 Wq hWq
                have p0 := s0 Wq hWq
                have p1 := s1 Wq hWq
                have p2 := s2 Wq hWq
                have p3 := s3 Wq hWq
                clear callA r0 r1 r2 r3 s0 s1 s2 s3
                unfold Oper.quietAt
                go_simp
              simp only [Act.put, List.setIfInBounds_toArray, List.set_cons_zero, List.set_cons_succ]
              go_big_quiet_on
              go_big_quiet_want
              refine ⟨.int .i64 j2, fun Wq hWq => ?_, ?_⟩
              · have ca := callA Wq hWq
                have q0 := r0 Wq hWq
                have q1 := r1 Wq hWq
                have q2 := r2 Wq hWq
                have q3 := r3 Wq hWq
                have p0 := s0 Wq hWq
                have p1 := s1 Wq hWq
                have p2 := s2 Wq hWq
                have p3 := s3 Wq hWq
                clear callA r0 r1 r2 r3 s0 s1 s2 s3
                unfold Oper.quietAt
                go_simp
              simp only [Act.put, List.setIfInBounds_toArray, List.set_cons_zero, List.set_cons_succ]
              go_big_quiet_on
              go_big_quiet_want
              refine ⟨.pointer (some ⟨bl, kk * 4 + j2 * 4, none⟩), fun Wq hWq => ?_, ?_⟩
              · have ca := callA Wq hWq
                have q0 := r0 Wq hWq
                have q1 := r1 Wq hWq
                have q2 := r2 Wq hWq
                have q3 := r3 Wq hWq
                have p0 := s0 Wq hWq
                have p1 := s1 Wq hWq
                have p2 := s2 Wq hWq
                have p3 := s3 Wq hWq
                clear callA r0 r1 r2 r3 s0 s1 s2 s3
                unfold Oper.quietAt
                go_simp
              simp only [Act.put, List.setIfInBounds_toArray, List.set_cons_zero, List.set_cons_succ]
              go_big_quiet_on
              go_big_quiet_want
              refine ⟨.agg #[.string x2.l.f0, .string x2.l.f1.f0, .slice x2.A x2.l.f1.f1.length x2.c, .bool x2.l.f2], fun Wq hWq => ?_, ?_⟩
              · have ca := callA Wq hWq
                have q0 := r0 Wq hWq
                have q1 := r1 Wq hWq
                have q2 := r2 Wq hWq
                have q3 := r3 Wq hWq
                have p0 := s0 Wq hWq
                have p1 := s1 Wq hWq
                have p2 := s2 Wq hWq
                have p3 := s3 Wq hWq
                clear callA r0 r1 r2 r3 s0 s1 s2 s3
                unfold Oper.quietAt
                go_simp
              simp only [Act.put, List.setIfInBounds_toArray, List.set_cons_zero, List.set_cons_succ]
              go_big_quiet_on
              go_big_quiet_want
              refine ⟨.bool b2, fun Wq hWq => ?_, ?_⟩
              · have ca := callA Wq hWq
                have q0 := r0 Wq hWq
                have q1 := r1 Wq hWq
                have q2 := r2 Wq hWq
                have q3 := r3 Wq hWq
                have p0 := s0 Wq hWq
                have p1 := s1 Wq hWq
                have p2 := s2 Wq hWq
                have p3 := s3 Wq hWq
                clear callA r0 r1 r2 r3 s0 s1 s2 s3
                unfold Oper.quietAt
                go_simp
              simp only [Act.put, List.setIfInBounds_toArray, List.set_cons_zero, List.set_cons_succ]
              go_big_quiet_on
              go_big_quiet_want
              refine ⟨.bool (!b2), fun Wq hWq => ?_, ?_⟩
              · have ca := callA Wq hWq
                have q0 := r0 Wq hWq
                have q1 := r1 Wq hWq
                have q2 := r2 Wq hWq
                have q3 := r3 Wq hWq
                have p0 := s0 Wq hWq
                have p1 := s1 Wq hWq
                have p2 := s2 Wq hWq
                have p3 := s3 Wq hWq
                clear callA r0 r1 r2 r3 s0 s1 s2 s3
                unfold Oper.quietAt
                go_simp
              simp only [Act.put, List.setIfInBounds_toArray, List.set_cons_zero, List.set_cons_succ]
              go_big_quiet_on
              refine wpQuiet_nil ?_
              intro W4 hW4
              have hbig : m ≤ 4611686018427387904 := by have := hMax.out; have := hCap.out; have := hM.out; omega
              have v0 := r0 W4 hW4
              have v1 := r1 W4 hW4
              have v2 := r2 W4 hW4
              have v3 := r3 W4 hW4
              obtain ⟨z0, z1, z2', z3⟩ := row4 (hNx.out.row.keep (hW4.block bl hNx.out.blk)) hZ2.out
              obtain ⟨f0, f1, f2, f3⟩ := row4f (hNx.out.row.keep (hW4.block bl hNx.out.blk)) hZ2.out
              have hkc : (kc : Int) < (n : Int) := by have := hNx.out.le; have := hL2.out; have := hM.out; omega
              have hB4 := Aside0.mk (hNx.out.bel.trans (hW4.mono hNx.out.bel.size))
              have hX4 := Aside0.mk (below_cell hW4 hNx.out.box)
              have hS4 := Aside0.mk (Nat.lt_of_lt_of_le hNx.out.blk hW4.size)
              have hR4 := Aside0.mk (hNx.out.row.keep (hW4.block bl hNx.out.blk))
              have hT4 := Aside0.mk hW4
              clear callA r0 r1 r2 r3 s0 s1 s2 s3
              cases b2 with
              | true =>
                clear v0 v1 v2 v3 z0 z1 z2' z3 f0 f1 f2 f3 hkc
                go_wp2
                go_roundg (m - (k2 + 1))
                case measure => omega
                case rel => exact ⟨kc, k2 + 1, by omega, by have := hL2.out; omega, by omega, rfl, by go_num, hNx.out.same hW4 hJ2.out hY2.out.2 hX2.out.2 hE2.out⟩
              | false =>
                have hkb : kc ≤ 4611686018427387904 := by have := hMax.out; have := hCap.out; omega
                go_wp2
                rw [setCells4]
                go_roundg (m - (k2 + 1))
                case measure => omega
                case rel =>
                  exact ⟨kc + 1, k2 + 1, by omega, by have := hL2.out; omega, by omega, by go_num, by go_num, hNx.out.put (W := wr) (below_setCells _ _ W4 bl hbl hB4.out) ((World.cell?_of_block (blk_setCells_other _ _ W4 bl Bo hBo)).trans hX4.out)
                    (by rw [size_setCells]; exact hS4.out) (by
                      have := hR4.out.put (k := kc) (cs := encL y2) (by rw [List.length_map]; exact (List.getElem?_eq_some_iff.mp hZ2.out).1) rfl
                      rw [List.map_set]
                      exact this) hJ2.out hY2.out.2 hX2.out.2 hE2.out⟩
            · have hke : k2 = m := by omega
              obtain ⟨zs, hz, hkn', hcmp⟩ := CI.last hC.out hN.out hM.out hLt.out hke
              have hltb : decide ((k2 : Int) < (m : Int)) = false := by simp; omega
              have hltc : decide (k2 < m) = false := by simp; omega
              have hkc : (kc : Int) ≤ (n : Int) := by omega
              have hck : ¬ cap = kc := by have := hCap.out; omega
              have hclr := fun ty => clearLoans wr ty bl kc (n - kc) (cap - kc) (zs.map encL) hz.row (by rw [List.length_map, hz.len, hN.out]; omega) (by omega)
              have hkl : kc ≤ n := by omega
              have hkcap : (kc : Int) ≤ (cap : Int) := by have := hCap.out; omega
              obtain ⟨W5, hW5⟩ : ∃ W5, wr.setCells bl (kc * 4) (Builtin.zeroCells #[.string ⟨#[]⟩, .string ⟨#[]⟩, .slice none 0 0, .bool false] (n - kc)).toList = W5 := ⟨_, rfl⟩
              have hb5 := Aside0.mk (below_setCells (Builtin.zeroCells #[.string ⟨#[]⟩, .string ⟨#[]⟩, .slice none 0 0, .bool false] (n - kc)).toList (kc * 4) wr bl hbl hz.bel)
              have hr5 := Aside0.mk (hz.row.cut (k := kc) (Builtin.zeroCells #[.string ⟨#[]⟩, .string ⟨#[]⟩, .slice none 0 0, .bool false] (n - kc)).toList)
              rw [hW5] at hclr hb5 hr5
              have hlen : (compactF xs).length = kc := by rw [hcmp, List.length_take, hz.len, hN.out]; omega
              have hcmp' := Aside0.mk hcmp
              have hlen' := Aside0.mk hlen
              clear hcmp hlen hz hW5 hke hlt hg hk1 hkn
              go_wp2_with (at_builtin; refine wpList_clear_known rfl _ 28 rfl _ rfl hclr ?_)
              go_ret
              refine ⟨by rw [hlen'.out]; rfl, hb5.out, ?_⟩
              rw [hcmp'.out, List.map_take]
              exact hr5.out
      · have hltb : decide ((kk : Int) < (n : Int)) = false := by simp; omega
        have hltc : decide (kk < n) = false := by simp; omega
        have hall : compactF xs = xs := compactF_all xs (fun j x y hx hy => by
          have := (List.getElem?_eq_some_iff.mp hy).1
          exact hK.out.ne j x y (by omega) hx hy)
        have hAll := Aside0.mk hall
        have hN := Aside0.mk hn
        clear hall hn hlt hg
        go_wp2
        go_ret
        refine ⟨by rw [hAll.out, hN.out]; rfl, hK.out.bel, ?_⟩
        rw [hAll.out]
        exact hK.out.row
end Go.Proofs.YtadjekpfehjibaaGreatDoor.PEnv
namespace Go.Proofs.YtadjekpfehjibaaGreatDoor.PEnv
open Go.RowKit Go.Shelf Go.Lib Go.Proofs.YtadjekpfehjibaaGreatDoorW.PrintWords Go.Proofs.YtadjekpfehjibaaGreatDoorW.PrintLast Go.Proofs.YtadjekpfehjibaaGreatDoorW.PrintMore Go.Proofs.YtadjekpfehjibaaGreatDoor.PEnvJoins
def keepL (x : S44) : List S44 → List S44
  | [] => []
  | y :: r => if cmpLoan y x = 0 then keepL y r else y :: keepL y r
def compactL : List S44 → List S44
  | [] => []
  | x :: r => x :: keepL x r
theorem keepF_map {w : World} : ∀ (r : List (El w)) (x : El w), (keepF x r).map El.l = keepL x.l (r.map El.l)
  | [], _ => rfl
  | y :: r, x => by
    rw [keepF, List.map_cons, keepL]
    by_cases h : cmpLoan y.l x.l = 0
    · rw [if_pos (show eqEl y x = true from by unfold eqEl cmpEl; rw [h]; rfl), if_pos h, keepF_map r y]
    · rw [if_neg (show ¬ eqEl y x = true from by unfold eqEl cmpEl; simpa using h), if_neg h, List.map_cons, keepF_map r y]
theorem compactF_map {w : World} (xs : List (El w)) : (compactF xs).map El.l = compactL (xs.map El.l) := by
  cases xs with
  | nil => rfl
  | cons x r => rw [compactF, List.map_cons, keepF_map]; rfl
/-- Two lists of loans, sorted, each loan once. -/
def MergedOf (ls ms rs : List S44) : Prop := ∃ zs : List S44, zs.Perm (ls ++ ms) ∧ zs.Pairwise (fun x y => ¬ cmpLoan y x < 0) ∧ rs = compactL zs
set_option maxHeartbeats 4000000 in
theorem compactNil (cap : Nat) (X : Option Addr) (fv : Value) (W : World) :
    Calls Tryz.prog 65 #[.slice X 0 cap, fv] W fun e w' => e = .returned (.slice X 0 cap) ∧ w' = W := by
  go_enter Tryz.func65, Tryz.ntmps65
  go_wp2
  go_ret
  exact ⟨rfl, rfl⟩
/-- What env.merged hands back, told by the loans as they lie. -/
def MergedX (w : World) (xs ys : List (El w)) (e : Ending) (w' : World) : Prop :=
  ∃ (X : Option Addr) (cap : Nat) (rs : List (El w)), e = .returned (.slice X rs.length cap) ∧ rs.length ≤ cap ∧ Below w.heap.size w w' ∧ (∃ zs : List (El w), zs.Perm (xs ++ ys) ∧ Asc zs ∧ rs = compactF zs) ∧ ((rs = [] ∧ X = none) ∨ ∃ bl, X = some ⟨bl, 0, none⟩ ∧ w.heap.size ≤ bl ∧ RowE w' bl (rs.map encL))
/-- What env.merged hands back. -/
def MergedPost (w : World) (ls ms : List S44) (e : Ending) (w' : World) : Prop :=
  ∃ (X : Option Addr) (cap : Nat) (rs : List (El w)), e = .returned (.slice X rs.length cap) ∧ rs.length ≤ cap ∧ Below w.heap.size w w' ∧ MergedOf ls ms (rs.map El.l) ∧ ((rs = [] ∧ X = none) ∨ ∃ bl, X = some ⟨bl, 0, none⟩ ∧ w.heap.size ≤ bl ∧ RowE w' bl (rs.map encL))
set_option maxHeartbeats 4000000 in
theorem merged0 (A B : Option Addr) (c d : Nat) (w : World) :
    Calls Tryz.prog 47 #[.slice A 0 c, .slice B 0 d, .func (.func 48) #[] #[]] w fun e w' => e = .returned (.slice none 0 0) ∧ Below w.heap.size w w' := by
  have hb2 : Below w.heap.size w ((w.alloc (.cells #[.func (.func 48) #[] #[]] 69)).alloc (.cells #[.slice A 0 c, .slice B 0 d] 28)) := ((Below.refl _ w).alloc (Nat.le_refl _) _).alloc (by simp) _
  have e1 := World.alloc_heap_new (w.alloc (.cells #[.func (.func 48) #[] #[]] 69)) (.cells #[.slice A 0 c, .slice B 0 d] 28)
  have hsz : (w.alloc (.cells #[.func (.func 48) #[] #[]] 69)).heap.size = w.heap.size + 1 := by simp
  have e0 : ((w.alloc (.cells #[.func (.func 48) #[] #[]] 69)).alloc (.cells #[.slice A 0 c, .slice B 0 d] 28)).heap[w.heap.size]? = some (.cells #[.func (.func 48) #[] #[]] 69) := by
    rw [heap_alloc_old _ _ (by simp)]
    exact World.alloc_heap_new w _
  rw [hsz] at e1
  obtain ⟨W2, hW2⟩ : ∃ W2, ((w.alloc (.cells #[.func (.func 48) #[] #[]] 69)).alloc (.cells #[.slice A 0 c, .slice B 0 d] 28)) = W2 := ⟨_, rfl⟩
  rw [hW2] at hb2 e1 e0
  have hconc := concat0 A B 0 c 0 d (w.heap.size + 1) W2 rfl (by unfold World.cell?; rw [e1]; rfl) (by unfold World.cell?; rw [e1]; rfl)
  have hbox : W2.cell? ⟨w.heap.size, 0, none⟩ = some (.func (.func 48) #[] #[]) := by unfold World.cell?; rw [e0]; rfl
  have hsort : ∀ (fv : Value) (W : World), Calls Tryz.prog 64 #[.slice none 0 0, fv] W fun e w' => e = .returned (.tuple #[]) ∧ w' = W := fun fv W =>
    AnyF.slices_SortFunc_none Tryz.sortLoan none 0 fv W
  have hcomp := fun fv W => compactNil 0 none fv W
  clear e0 e1 hsz
  go_enter Tryz.func47, Tryz.ntmps47
  go_wp2_with (first
    | (go_at_call 63; first | rw [hW2] | skip; refine hconc.mono ?_; clear hconc; rintro e W3 ⟨rfl, hb3⟩; have hbox3 := below_cell hb3 hbox)
    | (go_at_call 64; refine (hsort _ _).mono ?_; rintro e W4 ⟨rfl, rfl⟩)
    | (go_at_call 65; refine (hcomp _ _).mono ?_; rintro e W5 ⟨rfl, rfl⟩))
  go_ret
  exact ⟨rfl, hb2.trans (hb3.mono hb2.size)⟩
theorem asc_map {w : World} {zs : List (El w)} (h : Asc zs) : (zs.map El.l).Pairwise (fun x y => ¬ cmpLoan y x < 0) := by
  rw [List.pairwise_map]
  exact h
set_option maxHeartbeats 4000000 in
theorem mergedX (A : Option Addr) (c : Nat) (B : Option Addr) (d : Nat) (w : World) (xs ys : List (El w)) (hv : Els 4 w A xs.length (xs.map encL)) (hu : Els 4 w B ys.length (ys.map encL)) (hroom : xs.length + ys.length ≤ 1099511627776) :
    Calls Tryz.prog 47 #[.slice A xs.length c, .slice B ys.length d, .func (.func 48) #[] #[]] w (MergedX w xs ys) := by
  by_cases h0 : xs.length + ys.length = 0
  · obtain rfl : xs = [] := List.length_eq_zero_iff.mp (by omega)
    obtain rfl : ys = [] := List.length_eq_zero_iff.mp (by omega)
    refine (merged0 A B c d w).mono ?_
    rintro e w' ⟨rfl, hb⟩
    exact ⟨none, 0, [], rfl, Nat.le_refl _, hb, ⟨[], List.Perm.refl _, List.Pairwise.nil, rfl⟩, .inl ⟨rfl, rfl⟩⟩
  · have hl : (xs ++ ys).length = xs.length + ys.length := by simp
    obtain ⟨n, hn⟩ : ∃ n, xs.length = n := ⟨_, rfl⟩
    obtain ⟨m, hm⟩ : ∃ m, ys.length = m := ⟨_, rfl⟩
    rw [hn, hm] at hl h0 hroom
    rw [hn] at hv
    rw [hm] at hu
    rw [hn, hm]
    clear hn hm
    have hb2 : Below w.heap.size w ((w.alloc (.cells #[.func (.func 48) #[] #[]] 69)).alloc (.cells #[.slice A n c, .slice B m d] 28)) := ((Below.refl _ w).alloc (Nat.le_refl _) _).alloc (by simp) _
    have e1 := World.alloc_heap_new (w.alloc (.cells #[.func (.func 48) #[] #[]] 69)) (.cells #[.slice A n c, .slice B m d] 28)
    have hsz : (w.alloc (.cells #[.func (.func 48) #[] #[]] 69)).heap.size = w.heap.size + 1 := by simp
    have hsz2 : ((w.alloc (.cells #[.func (.func 48) #[] #[]] 69)).alloc (.cells #[.slice A n c, .slice B m d] 28)).heap.size = w.heap.size + 2 := by simp
    have e0 : ((w.alloc (.cells #[.func (.func 48) #[] #[]] 69)).alloc (.cells #[.slice A n c, .slice B m d] 28)).heap[w.heap.size]? = some (.cells #[.func (.func 48) #[] #[]] 69) := by
      rw [heap_alloc_old _ _ (by simp)]
      exact World.alloc_heap_new w _
    rw [hsz] at e1
    obtain ⟨W2, hW2⟩ : ∃ W2, ((w.alloc (.cells #[.func (.func 48) #[] #[]] 69)).alloc (.cells #[.slice A n c, .slice B m d] 28)) = W2 := ⟨_, rfl⟩
    rw [hW2] at hb2 e1 e0 hsz2
    have hbox : W2.cell? ⟨w.heap.size, 0, none⟩ = some (.func (.func 48) #[] #[]) := by unfold World.cell?; rw [e0]; rfl
    have hconc : Calls Tryz.prog 63 #[.slice (some ⟨w.heap.size + 1, 0, none⟩) 2 2] W2 fun e W3 => ∃ bl cap, e = .returned (.slice (some ⟨bl, 0, none⟩) (n + m) cap) ∧
        Aside0 (n + m ≤ cap ∧ w.heap.size + 2 ≤ bl ∧ bl < W3.heap.size ∧ Below w.heap.size w W3 ∧ W3.cell? ⟨w.heap.size, 0, none⟩ = some (.func (.func 48) #[] #[]) ∧ RowE W3 bl ((xs ++ ys).map encL)) := by
      refine (concat1 A B n c m d (w.heap.size + 1) (xs.map encL) (ys.map encL) W2 (by omega) hroom (hv.below hb2) (hu.below hb2) (one_enc xs) (one_enc ys) (by unfold World.cell?; rw [e1]; rfl) (by unfold World.cell?; rw [e1]; rfl)).mono ?_
      rintro e W3 ⟨X, cap, rfl, hb3, hcap, h | ⟨_, bl, rest, rfl, hbl, hrest, hx3⟩⟩
      · omega
      · refine ⟨bl, cap, rfl, hcap, by omega, (Array.getElem?_eq_some_iff.mp hx3).1, hb2.trans (hb3.mono hb2.size), below_cell hb3 hbox, ?_⟩
        rw [List.map_append]
        refine rowE_of_block hx3 (fun j cs hj => ?_)
        rw [← List.map_append, List.getElem?_map] at hj
        obtain ⟨z, _, rfl⟩ := Option.map_eq_some_iff.mp hj
        rfl
    have hsort : ∀ bl cap W3, (n + m ≤ cap ∧ w.heap.size + 2 ≤ bl ∧ bl < W3.heap.size ∧ Below w.heap.size w W3 ∧ W3.cell? ⟨w.heap.size, 0, none⟩ = some (.func (.func 48) #[] #[]) ∧ RowE W3 bl ((xs ++ ys).map encL)) →
        Calls Tryz.prog 64 #[.slice (some ⟨bl, 0, none⟩) (n + m) cap, .func (.func 48) #[] #[]] W3 fun e W4 => e = .returned (.tuple #[]) ∧ Aside0 (∃ zs : List (El w), zs.length = n + m ∧ zs.Perm (xs ++ ys) ∧ Asc zs ∧ KI w bl w.heap.size zs 1 W4) := by
      intro bl cap W3 ⟨h1, h2, h3, h4, h5, h6⟩
      have h := sortLoans w W3 h4 bl cap (by omega) h3 (xs ++ ys) (by omega) h6
      rw [hl] at h
      refine h.mono ?_
      rintro e W4 ⟨rfl, hb4, hblk, hs4, zs, hp, ha, hr⟩
      refine ⟨rfl, zs, by rw [hp.length_eq, hl], hp, ha, hb4, ?_, by omega, hr, fun j x y hj _ _ => by omega⟩
      exact (World.cell?_of_block (hblk w.heap.size (by omega) (by omega))).trans h5
    have hcomp : ∀ bl cap W4, n + m ≤ cap → w.heap.size + 2 ≤ bl → (∃ zs : List (El w), zs.length = n + m ∧ zs.Perm (xs ++ ys) ∧ Asc zs ∧ KI w bl w.heap.size zs 1 W4) →
        Calls Tryz.prog 65 #[.slice (some ⟨bl, 0, none⟩) (n + m) cap, .func (.func 66) #[] #[ptr w.heap.size]] W4 fun e W5 => ∃ rs : List (El w), e = .returned (.slice (some ⟨bl, 0, none⟩) rs.length cap) ∧
          Aside0 (rs.length ≤ cap ∧ Below w.heap.size w W5 ∧ (∃ zs : List (El w), zs.Perm (xs ++ ys) ∧ Asc zs ∧ rs = compactF zs) ∧ RowE W5 bl (rs.map encL)) := by
      rintro bl cap W4 h1 h2 ⟨zs, hz, hp, ha, hK⟩
      have h := compact w bl w.heap.size cap zs W4 (by omega) (by omega) (by omega) hK (by omega)
      rw [hz] at h
      refine h.mono ?_
      rintro e W5 ⟨rfl, hb5, hr5⟩
      refine ⟨compactF zs, rfl, ?_, hb5, ⟨zs, hp, ha, rfl⟩, hr5⟩
      · have : ∀ (r : List (El w)) (x : El w), (keepF x r).length ≤ r.length := by
          intro r
          induction r with
          | nil => intro x; exact Nat.le_refl _
          | cons y r ih =>
            intro x
            rw [keepF]
            have h1 := ih y
            split
            · exact Nat.le_trans h1 (by simp)
            · simpa using h1
        cases zs with
        | nil => simp [compactF]
        | cons z r =>
          have := this r z
          rw [compactF, List.length_cons]
          simp only [List.length_cons] at hz
          omega
    clear hv hu hb2 e0 e1 hsz hsz2 hbox hl h0 hroom
    unfold ptr at hcomp
    go_enter Tryz.func47, Tryz.ntmps47
    go_wp2_with (first
      | (go_at_call 63; first | rw [hW2] | skip; refine hconc.mono ?_; clear hconc; rintro e W3 ⟨bl, cap, rfl, hA3⟩; have hs3 := hsort bl cap W3 hA3.out; have hbox3 := hA3.out.2.2.2.2.1; clear hsort)
      | (go_at_call 64; refine hs3.mono ?_; clear hs3; rintro e W4 ⟨rfl, hA4⟩; have hs4 := hcomp bl cap W4 hA3.out.1 hA3.out.2.1 hA4.out; clear hcomp)
      | (go_at_call 65; refine hs4.mono ?_; clear hs4; rintro e W5 ⟨rs, rfl, hA5⟩))
    go_ret
    exact ⟨_, _, rs, rfl, hA5.out.1, hA5.out.2.1, hA5.out.2.2.1, .inr ⟨bl, rfl, by have := hA3.out.2.1; omega, hA5.out.2.2.2⟩⟩
theorem mergedC (ls ms : List S44) (A : Option Addr) (c : Nat) (B : Option Addr) (d : Nat) (w : World) (hC : Kd.C k44 w A ls.length ls) (hD : Kd.C k44 w B ms.length ms) (hroom : ls.length + ms.length ≤ 1099511627776) :
    Calls Tryz.prog 47 #[.slice A ls.length c, .slice B ms.length d, .func (.func 48) #[] #[]] w (MergedPost w ls ms) := by
  obtain ⟨xs, hx, hv⟩ := loans_els hC
  obtain ⟨ys, hy, hu⟩ := loans_els hD
  subst hx hy
  rw [List.length_map] at hv hu ⊢
  rw [List.length_map, List.length_map] at hroom
  rw [List.length_map]
  refine (mergedX A c B d w xs ys hv hu hroom).mono ?_
  rintro e w' ⟨X, cap, rs, rfl, h1, h2, ⟨zs, hp, ha, rfl⟩, h3⟩
  exact ⟨X, cap, compactF zs, rfl, h1, h2, ⟨zs.map El.l, by rw [← List.map_append]; exact hp.map El.l, asc_map ha, compactF_map zs⟩, h3⟩
end Go.Proofs.YtadjekpfehjibaaGreatDoor.PEnv
namespace Go.Proofs.YtadjekpfehjibaaGreatDoor.PEnv
open Go.RowKit Go.Shelf Go.Lib Go.Proofs.YtadjekpfehjibaaGreatDoorW.PrintWords Go.Proofs.YtadjekpfehjibaaGreatDoorW.PrintLast Go.Proofs.YtadjekpfehjibaaGreatDoorW.PrintMore Go.Proofs.YtadjekpfehjibaaGreatDoor.PEnvJoins
/-- No list of loans in a type is so long that two of them have no room. -/
def SmT (t : S31) : Prop := ∀ u ∈ partsT t, u.f3.length ≤ 549755813888
theorem mem_partsL' (u : S31) : ∀ ts : List S31, u ∈ partsL ts ↔ ∃ k ∈ ts, u ∈ partsT k
  | [] => by simp [partsL]
  | t :: ts => by simp [partsL, mem_partsL' u ts]
theorem SmT.kid {t k : S31} (h : SmT t) (hk : k ∈ t.f4) : SmT k := fun u hu => h u (by rw [partsT_eq]; exact List.mem_cons_of_mem _ ((mem_partsL' u _).mpr ⟨k, hk, hu⟩))
theorem SmT.self {t : S31} (h : SmT t) : t.f3.length ≤ 549755813888 := h t (by rw [partsT_eq]; exact List.mem_cons_self)
theorem ba_ext {a b : ByteArray} (h : a.toList = b.toList) : a = b := by
  rw [ByteArray.toList_eq, ByteArray.toList_eq] at h
  cases a
  cases b
  congr 1
  exact Array.toList_inj.mp h
theorem cmpLoan_zero {a b : S44} (h : cmpLoan a b = 0) : a = b := by
  rw [cmpLoan_eq] at h
  by_cases h1 : cmpS a.f0 b.f0 = 0
  · rw [if_pos h1] at h
    by_cases h2 : cmpS a.f1.f0 b.f1.f0 = 0
    · rw [if_pos h2] at h
      by_cases h3 : cmpIs a.f1.f1 b.f1.f1 = 0
      · rw [if_pos h3] at h
        have e1 := ba_ext (cmpS_zero h1)
        have e2 := ba_ext (cmpS_zero h2)
        have e3 := cmpIs_zero h3
        have e4 : a.f2 = b.f2 := by
          cases ha : a.f2 <;> cases hb : b.f2 <;> rw [ha, hb] at h <;> first | rfl | exact absurd h (by decide)
        obtain ⟨a0, ⟨a1, a2⟩, a3⟩ := a
        obtain ⟨b0, ⟨b1, b2⟩, b3⟩ := b
        simp only at e1 e2 e3 e4
        subst e1 e2 e3 e4
        rfl
      · rw [if_neg h3] at h; exact absurd h h3
    · rw [if_neg h2] at h; exact absurd h h2
  · rw [if_neg h1] at h; exact absurd h h1
/-- Two sorted lists of the same loans are one. -/
theorem sorted_one : ∀ {xs ys : List S44}, xs.Perm ys → xs.Pairwise (fun x y => ¬ cmpLoan y x < 0) → ys.Pairwise (fun x y => ¬ cmpLoan y x < 0) → xs = ys
  | [], ys, hp, _, _ => (List.nil_perm.mp hp).symm
  | x :: xs, [], hp, _, _ => absurd hp (by simp)
  | x :: xs, y :: ys, hp, h1, h2 => by
    have hx : x ∈ y :: ys := hp.subset List.mem_cons_self
    have hy : y ∈ x :: xs := hp.symm.subset List.mem_cons_self
    rw [List.pairwise_cons] at h1 h2
    have e : x = y := by
      rcases List.mem_cons.mp hx with e | hx
      · exact e
      · rcases List.mem_cons.mp hy with e | hy
        · exact e.symm
        · have a := h1.1 y hy
          have b := h2.1 x hx
          have f1 := cm_Loan.flip x y
          have f2 := cm_Loan.flip y x
          exact cmpLoan_zero (by omega)
    subst e
    rw [sorted_one (List.perm_cons _ |>.mp hp) h1.2 h2.2]
/-- What two lists of loans hold, sorted, each once. -/
def mergedL (ls ms : List S44) : List S44 := compactL ((ls ++ ms).mergeSort (fun x y => decide (cmpLoan x y ≤ 0)))
theorem mergedOf_eq {ls ms rs : List S44} (h : MergedOf ls ms rs) : rs = mergedL ls ms := by
  obtain ⟨zs, hp, ha, rfl⟩ := h
  have h1 := List.pairwise_mergeSort (le := fun x y : S44 => decide (cmpLoan x y ≤ 0)) (fun a b c h1 h2 => decide_eq_true (cm_Loan.le a b c (of_decide_eq_true h1) (of_decide_eq_true h2)))
    (fun a b => by
      have f1 := cm_Loan.flip a b
      have f2 := cm_Loan.flip b a
      simp only [Bool.or_eq_true, decide_eq_true_eq]
      omega) (ls ++ ms)
  unfold mergedL
  congr 1
  refine sorted_one (hp.trans (List.mergeSort_perm _ _).symm) ha (h1.imp (fun {x y} hxy => ?_))
  have f1 := cm_Loan.flip x y
  have f2 := cm_Loan.flip y x
  have := of_decide_eq_true hxy
  omega
mutual
/-- Is a type at most another one? -/
def lessT : S31 → S31 → Bool
  | ⟨_, _, c, d, e⟩, u => !((c && !u.f2) || decide (u.f3.length < (mergedL d u.f3).length)) && lessL e u.f4
def lessL : List S31 → List S31 → Bool
  | [], [] => true
  | t :: ts, u :: us => lessT t u && lessL ts us
  | [], _ :: _ => false
  | _ :: _, [] => false
end
theorem lessL_all2 : ∀ ts us, lessL ts us = all2 lessT ts us
  | [], [] => rfl
  | [], _ :: _ => rfl
  | _ :: _, [] => rfl
  | t :: ts, u :: us => by
    show (lessT t u && lessL ts us) = (lessT t u && all2 lessT ts us)
    rw [lessL_all2 ts us]
theorem lessT_eq (t u : S31) : lessT t u = (!((t.f2 && !u.f2) || decide (u.f3.length < (mergedL t.f3 u.f3).length)) && all2 lessT t.f4 u.f4) := by
  cases t
  show (_ && lessL _ _) = _
  rw [lessL_all2]
/-- A callee's word on two types. -/
def Ty2WordS (f : Nat) (ans : S31 → S31 → Bool) (t : S31) : Prop :=
  SmT t → ∀ (u : S31), SmT u → ∀ (A3 : Option Addr) (c3 : Nat) (A4 : Option Addr) (c4 : Nat) (B3 : Option Addr) (d3 : Nat) (B4 : Option Addr) (d4 : Nat) (w : World),
    t.f3.length ≤ c3 → Kd.C k44 w A3 t.f3.length t.f3 → t.f4.length ≤ c4 → Kd.C k31 w A4 t.f4.length t.f4 →
    u.f3.length ≤ d3 → Kd.C k44 w B3 u.f3.length u.f3 → u.f4.length ≤ d4 → Kd.C k31 w B4 u.f4.length u.f4 →
    Calls Tryz.prog f #[.agg #[.int .i64 t.f0, .bool t.f1, .bool t.f2, .slice A3 t.f3.length c3, .slice A4 t.f4.length c4], .agg #[.int .i64 u.f0, .bool u.f1, .bool u.f2, .slice B3 u.f3.length d3, .slice B4 u.f4.length d4]] w fun e w' =>
      e = .returned (.bool (ans t u)) ∧ Below w.heap.size w w'
/-- slices.EqualFunc of kids, at a function whose word is known. -/
theorem eqKidsS (f : Nat) (eg : ∀ args w, (callFunc f args).run Tryz.prog w = .ok (.enter f args) w) (ans : S31 → S31 → Bool) (ts us : List S31) (h : ∀ k ∈ ts, Ty2WordS f ans k) (hs : ∀ k ∈ ts, SmT k) (hu : ∀ k ∈ us, SmT k) (A : Option Addr) (c : Nat) (B : Option Addr) (d : Nat) (W : World)
    (hC : Kd.C k31 W A ts.length ts) (hD : Kd.C k31 W B us.length us) :
    Calls Tryz.prog 29 #[.slice A ts.length c, .slice B us.length d, .func (.func f) #[] #[]] W fun e W' => e = .returned (.bool (all2 ans ts us)) ∧ Below W.heap.size W W' := by
  obtain ⟨vs, hv, hvK⟩ := els_of_C hC
  obtain ⟨xs, hx, hxK⟩ := els_of_C hD
  have form : ∀ {n : Nat} {ys : List (List Value)} {B : Option Addr} {zs : List S31}, Els 5 W B n ys → zs.length = n → (∀ (i : Nat) x, zs[i]? = some x → ∃ cs, ys[i]? = some cs ∧ k31.K W x cs) → ∀ (j : Nat) cs, ys[j]? = some cs → TyCells cs := by
    intro n ys B zs he hz hK j cs hj
    have hl : j < zs.length := by have := idx_lt hj; have := he.1; omega
    obtain ⟨cs', e, hk⟩ := hK j _ (List.getElem?_eq_getElem hl)
    rw [hj] at e
    cases e
    obtain ⟨A3, c3, A4, c4, rfl, _⟩ := k31_open hk
    exact ⟨_, _, _, _, _, _, _, _, _, rfl⟩
  refine (eqTy f #[] eg A B ts.length c us.length d vs xs W W (fun i W' => Below W.heap.size W W' ∧ ∀ (j : Nat) a b, j < i → ts[j]? = some a → us[j]? = some b → ans a b = true) (fun i W' => Below W.heap.size W W' ∧ ∃ a b, ts[i]? = some a ∧ us[i]? = some b ∧ ans a b = false)
    hv hx (form hv rfl hvK) (form hx rfl hxK) (fun i W' h => h.1) (fun i W1 W2 h hb => ⟨h.1.trans (hb.mono h.1.size), h.2⟩) ?_ ⟨Below.refl _ _, fun j a b hj => absurd hj (Nat.not_lt_zero _)⟩).mono ?_
  · rintro i cs ds W1 hi hj ⟨hb, hn⟩
    have hl : i < ts.length := by have := idx_lt hi; have := hv.1; omega
    have hm : i < us.length := by have := idx_lt hj; have := hx.1; omega
    obtain ⟨cs', e, hK⟩ := hvK i _ (List.getElem?_eq_getElem hl)
    rw [hi] at e
    cases e
    obtain ⟨ds', e, hL⟩ := hxK i _ (List.getElem?_eq_getElem hm)
    rw [hj] at e
    cases e
    obtain ⟨A3, c3, A4, c4, rfl, l3, g3, l4, g4⟩ := k31_open hK
    obtain ⟨B3, d3, B4, d4, rfl, m3, q3, m4, q4⟩ := k31_open hL
    refine (h ts[i] (List.getElem_mem hl) (hs _ (List.getElem_mem hl)) us[i] (hu _ (List.getElem_mem hm)) A3 c3 A4 c4 B3 d3 B4 d4 W1 l3 (Kd.C_below g3 hb) l4 (Kd.C_below g4 hb) m3 (Kd.C_below q3 hb) m4 (Kd.C_below q4 hb)).mono ?_
    rintro e W2 ⟨rfl, hb2⟩
    cases hh : ans ts[i] us[i] with
    | false => exact .inr ⟨rfl, hb.trans (hb2.mono hb.size), _, _, List.getElem?_eq_getElem hl, List.getElem?_eq_getElem hm, hh⟩
    | true =>
      refine .inl ⟨rfl, hb.trans (hb2.mono hb.size), fun j a b hj2 ha hb3 => ?_⟩
      by_cases hji : j = i
      · subst hji
        rw [List.getElem?_eq_getElem hl] at ha
        rw [List.getElem?_eq_getElem hm] at hb3
        cases ha
        cases hb3
        exact hh
      · exact hn j a b (by omega) ha hb3
  · rintro e W1 (⟨rfl, hnm, hb, hn⟩ | ⟨rfl, (⟨hnm, hb, _⟩ | ⟨k, hk, hnm, hb, a, b, ha, hb2, hh⟩)⟩)
    · exact ⟨by rw [all2_true hnm (fun j a b ha hb => hn j a b (idx_lt ha) ha hb)], hb⟩
    · exact ⟨by rw [all2_len hnm], hb⟩
    · exact ⟨by rw [all2_false ha hb2 hh], hb⟩
def Bind2WordS (f : Nat) (ans : S33 → S33 → Bool) : Prop :=
  ∀ (a b : S33), SmT a.f1 → SmT b.f1 → ∀ (A4 : Option Addr) (c4 : Nat) (A5 : Option Addr) (c5 : Nat) (B4 : Option Addr) (d4 : Nat) (B5 : Option Addr) (d5 : Nat) (w : World),
    a.f1.f3.length ≤ c4 → Kd.C k44 w A4 a.f1.f3.length a.f1.f3 → a.f1.f4.length ≤ c5 → Kd.C k31 w A5 a.f1.f4.length a.f1.f4 →
    b.f1.f3.length ≤ d4 → Kd.C k44 w B4 b.f1.f3.length b.f1.f3 → b.f1.f4.length ≤ d5 → Kd.C k31 w B5 b.f1.f4.length b.f1.f4 →
    Calls Tryz.prog f #[.agg #[.string a.f0, .int .i64 a.f1.f0, .bool a.f1.f1, .bool a.f1.f2, .slice A4 a.f1.f3.length c4, .slice A5 a.f1.f4.length c5], .agg #[.string b.f0, .int .i64 b.f1.f0, .bool b.f1.f1, .bool b.f1.f2, .slice B4 b.f1.f3.length d4, .slice B5 b.f1.f4.length d5]] w fun e w' => e = .returned (.bool (ans a b)) ∧ Below w.heap.size w w'
/-- slices.EqualFunc of binds, at a function whose word is known. -/
theorem eqBindsS (f : Nat) (eg : ∀ args w, (callFunc f args).run Tryz.prog w = .ok (.enter f args) w) (ans : S33 → S33 → Bool) (ts us : List S33) (h : Bind2WordS f ans) (hs : ∀ k ∈ ts, SmT k.f1) (hu : ∀ k ∈ us, SmT k.f1) (A : Option Addr) (c : Nat) (B : Option Addr) (d : Nat) (W : World)
    (hC : Kd.C k33 W A ts.length ts) (hD : Kd.C k33 W B us.length us) :
    Calls Tryz.prog 25 #[.slice A ts.length c, .slice B us.length d, .func (.func f) #[] #[]] W fun e W' => e = .returned (.bool (all2 ans ts us)) ∧ Below W.heap.size W W' := by
  obtain ⟨vs, hv, hvK⟩ := els_of_C hC
  obtain ⟨xs, hx, hxK⟩ := els_of_C hD
  have form : ∀ {n : Nat} {ys : List (List Value)} {B : Option Addr} {zs : List S33}, Els 6 W B n ys → zs.length = n → (∀ (i : Nat) x, zs[i]? = some x → ∃ cs, ys[i]? = some cs ∧ k33.K W x cs) → ∀ (j : Nat) cs, ys[j]? = some cs → BindCells cs := by
    intro n ys B zs he hz hK j cs hj
    have hl : j < zs.length := by have := idx_lt hj; have := he.1; omega
    obtain ⟨cs', e, hk⟩ := hK j _ (List.getElem?_eq_getElem hl)
    rw [hj] at e
    cases e
    obtain ⟨A3, c3, A4, c4, rfl, _⟩ := k33_open hk
    exact ⟨_, _, _, _, _, _, _, _, _, _, rfl⟩
  refine (eqBind f #[] eg A B ts.length c us.length d vs xs W W (fun i W' => Below W.heap.size W W' ∧ ∀ (j : Nat) a b, j < i → ts[j]? = some a → us[j]? = some b → ans a b = true) (fun i W' => Below W.heap.size W W' ∧ ∃ a b, ts[i]? = some a ∧ us[i]? = some b ∧ ans a b = false)
    hv hx (form hv rfl hvK) (form hx rfl hxK) (fun i W' h => h.1) (fun i W1 W2 h hb => ⟨h.1.trans (hb.mono h.1.size), h.2⟩) ?_ ⟨Below.refl _ _, fun j a b hj => absurd hj (Nat.not_lt_zero _)⟩).mono ?_
  · rintro i cs ds W1 hi hj ⟨hb, hn⟩
    have hl : i < ts.length := by have := idx_lt hi; have := hv.1; omega
    have hm : i < us.length := by have := idx_lt hj; have := hx.1; omega
    obtain ⟨cs', e, hK⟩ := hvK i _ (List.getElem?_eq_getElem hl)
    rw [hi] at e
    cases e
    obtain ⟨ds', e, hL⟩ := hxK i _ (List.getElem?_eq_getElem hm)
    rw [hj] at e
    cases e
    obtain ⟨A3, c3, A4, c4, rfl, l3, g3, l4, g4⟩ := k33_open hK
    obtain ⟨B3, d3, B4, d4, rfl, m3, q3, m4, q4⟩ := k33_open hL
    refine (h ts[i] us[i] (hs _ (List.getElem_mem hl)) (hu _ (List.getElem_mem hm)) A3 c3 A4 c4 B3 d3 B4 d4 W1 l3 (Kd.C_below g3 hb) l4 (Kd.C_below g4 hb) m3 (Kd.C_below q3 hb) m4 (Kd.C_below q4 hb)).mono ?_
    rintro e W2 ⟨rfl, hb2⟩
    cases hh : ans ts[i] us[i] with
    | false => exact .inr ⟨rfl, hb.trans (hb2.mono hb.size), _, _, List.getElem?_eq_getElem hl, List.getElem?_eq_getElem hm, hh⟩
    | true =>
      refine .inl ⟨rfl, hb.trans (hb2.mono hb.size), fun j a b hj2 ha hb3 => ?_⟩
      by_cases hji : j = i
      · subst hji
        rw [List.getElem?_eq_getElem hl] at ha
        rw [List.getElem?_eq_getElem hm] at hb3
        cases ha
        cases hb3
        exact hh
      · exact hn j a b (by omega) ha hb3
  · rintro e W1 (⟨rfl, hnm, hb, hn⟩ | ⟨rfl, (⟨hnm, hb, _⟩ | ⟨k, hk, hnm, hb, a, b, ha, hb2, hh⟩)⟩)
    · exact ⟨by rw [all2_true hnm (fun j a b ha hb => hn j a b (idx_lt ha) ha hb)], hb⟩
    · exact ⟨by rw [all2_len hnm], hb⟩
    · exact ⟨by rw [all2_false ha hb2 hh], hb⟩
end Go.Proofs.YtadjekpfehjibaaGreatDoor.PEnv
namespace Go.Proofs.YtadjekpfehjibaaGreatDoor.PEnv
open Go.RowKit Go.Shelf Go.Lib Go.Proofs.YtadjekpfehjibaaGreatDoorW.PrintWords Go.Proofs.YtadjekpfehjibaaGreatDoorW.PrintLast Go.Proofs.YtadjekpfehjibaaGreatDoorW.PrintMore Go.Proofs.YtadjekpfehjibaaGreatDoor.PEnvJoins
section
variable {α : Type} {d : Kd α} {B lo n : Nat} {E : Nat → Prop} {w0 W W1 : World} {v v1 : Value} {A : Option Addr} {ls : List α} {xs cs : List Value} {rs : List α} {t : α}
/-- The elements of a row v: each lies in blocks below B, or from lo on, in none that E bars, and not in the row itself. -/
def KidsF (d : Kd α) (B lo : Nat) (E : Nat → Prop) (W : World) (v : Value) (xs : List Value) (rs : List α) : Prop :=
  Foot (fun W' => Reps (fun t cs => d.K W' t cs) d.sz rs xs) W (fun k => (k < B ∨ lo ≤ k) ∧ E k ∧ some k ≠ v.ownBlock)
theorem kids_nil : KidsF d B lo E W (.slice none 0 0) [] ([] : List α) := fun _ _ => Reps.none _ _
theorem kids_snoc (h : KidsF d B lo E W v xs rs) (hb : Below W.heap.size W W1) (hE : ∀ k, W.heap.size ≤ k → E k) (hEB : ∀ k, k < B → E k) (hv : ∀ k, v.ownBlock = some k → k < W.heap.size) (hvl : ∀ k, v.ownBlock = some k → lo ≤ k) (hBl : B ≤ lo) (hlo : lo ≤ W.heap.size)
    (hc : cs.length = d.sz) (hk : Kd.FK d W1 (fun k => k < B ∨ W.heap.size ≤ k) t cs) : KidsF d B lo E W1 v (xs ++ cs) (rs ++ [t]) := by
  intro W' hW
  refine Reps.snoc (Foot.step h (fun k _ hlt => hb.block k hlt) W' hW) (hk W' fun k hk hlt => hW k ?_ hlt) hc
  rcases hk with hk | hk
  · exact ⟨.inl hk, hEB k hk, fun he => by have := hvl k he.symm; omega⟩
  · exact ⟨.inr (by omega), hE k hk, fun he => by have := hv k he.symm; omega⟩
theorem kids_append (h : KidsF d B lo E W v xs rs) (hg : W.grownBy W1 v.ownBlock) (hat : v1.ownBlock = v.ownBlock ∨ ∃ b, v1.ownBlock = some b ∧ W.heap.size ≤ b) : KidsF d B lo E W1 v1 xs rs := by
  refine Foot.mono (Foot.step (Foot.bound h) (fun k hk hlt => hg.block k hlt hk.1.2.2)) (fun k hk => ⟨hk.1.1, hk.1.2.1, ?_⟩)
  rcases hat with hat | ⟨b, hb, hle⟩
  · rw [hat]; exact hk.1.2.2
  · rw [hb]
    intro he
    injection he with he
    have := hk.2
    omega
theorem kids_step (h : KidsF d B lo E W v xs rs) (hm : ∀ k, E k → k < W.heap.size → W1.heap[k]? = W.heap[k]?) : KidsF d B lo E W1 v xs rs := Foot.step h (fun k hk hlt => hm k hk.2.1 hlt)
theorem kids_below (h : KidsF d B lo E W v xs rs) (hb : Below W.heap.size W W1) : KidsF d B lo E W1 v xs rs := Foot.step h (fun k hk hlt => hb.block k hlt)
theorem own_heap {base size n : Nat} {e : TypeId} (h : W.ownsRow base e size v n xs) (hm : ∀ k, v.ownBlock = some k → W1.heap[k]? = W.heap[k]?) : W1.ownsRow base e size v n xs := by
  obtain ⟨h1, h2⟩ := h
  refine ⟨h1, ?_⟩
  rcases h2 with h2 | ⟨g, cap, cur, rfl, hb, hh, r⟩
  · exact .inl h2
  · exact .inr ⟨g, cap, cur, rfl, hb, (hm g (by simp [Value.ownBlock])).trans hh, r⟩
theorem kids_done {e : TypeId} (h : KidsF d B lo E W v xs rs) (ho : W.ownsRow lo e d.sz v rs.length xs) : ∃ A c, v = .slice A rs.length c ∧ rs.length ≤ c ∧ Kd.F d W (fun k => k < B ∨ lo ≤ k) A rs.length rs := by
  obtain ⟨A, c, rfl, hr⟩ := own_reads_row ho h.now rfl
  refine ⟨A, c, rfl, ?_, fun W' hW => ?_⟩
  · rcases ho.2 with ⟨e1, e2⟩ | ⟨g, cap, cur, e1, _, _, hc, _⟩
    · injection e1 with a1 a2 a3
      omega
    · injection e1 with a1 a2 a3
      omega
  · have ho2 : W'.ownsRow lo e d.sz (.slice A rs.length c) rs.length xs := own_heap ho fun k hk => hW k (.inr (own_base ho k hk)) (own_lt ho k hk)
    obtain ⟨A', c', he, hr2⟩ := own_reads_row ho2 (h W' fun k hk hlt => hW k hk.1 hlt) rfl
    cases he
    exact hr2
end
/-- A loan that lies in a world lies in a later one. -/
def liftE {w W : World} (hb : Below w.heap.size w W) (x : El w) : El W := ⟨x.l, x.A, x.c, Kd.C_below x.reads hb, x.room⟩
theorem enc_lift {w W : World} (hb : Below w.heap.size w W) (xs : List (El w)) : (xs.map (liftE hb)).map encL = xs.map encL := by rw [List.map_map]; rfl
theorem l_lift {w W : World} (hb : Below w.heap.size w W) (xs : List (El w)) : (xs.map (liftE hb)).map El.l = xs.map El.l := by rw [List.map_map]; rfl
/-- A row of loans: its steps lie where they lay in w0. -/
theorem F_rowE {w0 w W : World} (hb : Below w0.heap.size w0 w) (hb2 : Below w.heap.size w W) (rs : List (El w)) (h0 : ∀ z ∈ rs, ∃ x : El w0, z = liftE hb x) {bl cap : Nat} (hbl : w.heap.size ≤ bl) (hl : rs.length ≤ 9223372036854775807) (hr : RowE W bl (rs.map encL)) :
    Kd.F k44 W (fun k => k < w0.heap.size ∨ w.heap.size ≤ k) (some ⟨bl, 0, none⟩) rs.length (rs.map El.l) := by
  intro W' hW
  refine ⟨by simp, hl, fun _ => ⟨_, rfl, fun j x hx => ?_⟩⟩
  rw [List.getElem?_map] at hx
  obtain ⟨z, hz, rfl⟩ := Option.map_eq_some_iff.mp hx
  obtain ⟨x0, rfl⟩ := h0 z (List.mem_of_getElem? hz)
  have hj : (rs.map encL)[j]? = some (encL (liftE hb x0)) := by rw [List.getElem?_map, hz]; rfl
  refine ⟨encL (liftE hb x0), (hr j _ hj).1, ?_, fun i u hu => ?_⟩
  · refine k44_mk W' x0.l x0.room (Kd.Heap.C (Kd.heap_int _) (fun k hk => ?_) x0.reads)
    exact (hW k (.inl hk) (Nat.lt_of_lt_of_le hk (Nat.le_trans hb.size hb2.size))).trans ((hb2.block k (Nat.lt_of_lt_of_le hk hb.size)).trans (hb.block k hk))
  · have hc := ((hr j _ hj).2 i u hu).1
    rw [add_at, Nat.zero_add, show k44.sz = 4 from rfl]
    have hlt := World.block_lt_of_cell? W _ hc
    exact (World.cell?_of_block (hW bl (.inr hbl) hlt)).trans hc
/-- env.merged of two lists that lay in w0: a list whose steps lie there. -/
theorem mergedF (ls ms : List S44) (A : Option Addr) (c : Nat) (B : Option Addr) (d : Nat) (w0 w : World) (hb : Below w0.heap.size w0 w) (hC : Kd.C k44 w0 A ls.length ls) (hD : Kd.C k44 w0 B ms.length ms) (hroom : ls.length + ms.length ≤ 1099511627776) :
    Calls Tryz.prog 47 #[.slice A ls.length c, .slice B ms.length d, .func (.func 48) #[] #[]] w fun e w' => ∃ X cap, e = .returned (.slice X (mergedL ls ms).length cap) ∧ Below w.heap.size w w' ∧ (mergedL ls ms).length ≤ cap ∧ Kd.F k44 w' (fun k => k < w0.heap.size ∨ w.heap.size ≤ k) X (mergedL ls ms).length (mergedL ls ms) := by
  obtain ⟨xs, hx, hv⟩ := loans_els hC
  obtain ⟨ys, hy, hu⟩ := loans_els hD
  have hv2 : Els 4 w A (xs.map (liftE hb)).length ((xs.map (liftE hb)).map encL) := by rw [enc_lift, List.length_map, show xs.length = ls.length by rw [← hx, List.length_map]]; exact hv.below hb
  have hu2 : Els 4 w B (ys.map (liftE hb)).length ((ys.map (liftE hb)).map encL) := by rw [enc_lift, List.length_map, show ys.length = ms.length by rw [← hy, List.length_map]]; exact hu.below hb
  have el : (xs.map (liftE hb)).length = ls.length := by rw [List.length_map, ← hx, List.length_map]
  have em : (ys.map (liftE hb)).length = ms.length := by rw [List.length_map, ← hy, List.length_map]
  have h := mergedX A c B d w _ _ hv2 hu2 (by rw [el, em]; exact hroom)
  rw [el, em] at h
  refine h.mono ?_
  rintro e w' ⟨X, cap, rs, rfl, h1, h2, ⟨zs, hp, ha, hrs⟩, h3⟩
  have hM : rs.map El.l = mergedL ls ms := mergedOf_eq ⟨zs.map El.l, by
    rw [show ls ++ ms = ((xs.map (liftE hb)) ++ (ys.map (liftE hb))).map El.l by rw [List.map_append, l_lift, l_lift, hx, hy]]
    exact hp.map El.l, asc_map ha, by rw [hrs]; exact compactF_map zs⟩
  have hlen : rs.length = (mergedL ls ms).length := by rw [← hM, List.length_map]
  have hkeep : ∀ (r : List (El w)) (x : El w), ∀ z ∈ keepF x r, z ∈ r := by
    intro r
    induction r with
    | nil => intro x z hz; simp [keepF] at hz
    | cons y r ih =>
      intro x z hz
      rw [keepF] at hz
      split at hz
      · exact List.mem_cons_of_mem _ (ih y z hz)
      · rcases List.mem_cons.mp hz with rfl | hz
        · exact List.mem_cons_self
        · exact List.mem_cons_of_mem _ (ih y z hz)
  have hsub : ∀ z ∈ rs, z ∈ zs := by
    rw [hrs]
    intro z hz
    cases zs with
    | nil => simp [compactF] at hz
    | cons x r =>
      rw [compactF] at hz
      rcases List.mem_cons.mp hz with rfl | hz
      · exact List.mem_cons_self
      · exact List.mem_cons_of_mem _ (hkeep r x z hz)
  have hold : ∀ z ∈ rs, ∃ x : El w0, z = liftE hb x := fun z hz => by
    have hz2 := hp.subset (hsub z hz)
    rw [← List.map_append] at hz2
    obtain ⟨x, _, rfl⟩ := List.mem_map.mp hz2
    exact ⟨x, rfl⟩
  have hlz : zs.length = ls.length + ms.length := by rw [hp.length_eq, List.length_append, el, em]
  have hrl : rs.length ≤ zs.length := by
    have hk : ∀ (r : List (El w)) (x : El w), (keepF x r).length ≤ r.length := by
      intro r
      induction r with
      | nil => intro x; exact Nat.le_refl _
      | cons y r ih =>
        intro x
        rw [keepF]
        have h1 := ih y
        split
        · exact Nat.le_trans h1 (by simp)
        · simpa using h1
    rw [hrs]
    cases zs with
    | nil => simp [compactF]
    | cons z r => rw [compactF, List.length_cons, List.length_cons]; have := hk r z; omega
  refine ⟨X, cap, by rw [hlen], h2, by rw [← hlen]; exact h1, ?_⟩
  rw [← hlen, ← hM]
  rcases h3 with ⟨rfl, rfl⟩ | ⟨bl, rfl, hbl, hr⟩
  · exact Kd.F_nil _ _ _
  · exact F_rowE (cap := cap) hb h2 rs hold hbl (by omega) hr
end Go.Proofs.YtadjekpfehjibaaGreatDoor.PEnv
namespace Go.Proofs.YtadjekpfehjibaaGreatDoor.PEnv
open Go.RowKit Go.Shelf Go.Proofs.YtadjekpfehjibaaGreatDoorW.PrintWords Go.Proofs.YtadjekpfehjibaaGreatDoorW.PrintLast Go.Proofs.YtadjekpfehjibaaGreatDoorW.PrintMore Go.Proofs.YtadjekpfehjibaaGreatDoor.PEnvJoins
/-- All lists in a type are as long as lists can be. -/
def TyMax (t : S31) : Prop := ∀ u ∈ partsT t, u.f3.length ≤ 9223372036854775807 ∧ u.f4.length ≤ 9223372036854775807 ∧ ∀ l ∈ u.f3, l.f1.f1.length ≤ 9223372036854775807
theorem mem_partsL (u : S31) : ∀ ts : List S31, u ∈ partsL ts ↔ ∃ k ∈ ts, u ∈ partsT k
  | [] => by simp [partsL]
  | t :: ts => by simp [partsL, mem_partsL u ts]
theorem TyMax.kid {t k : S31} (h : TyMax t) (hk : k ∈ t.f4) : TyMax k := fun u hu => h u (by rw [partsT_eq]; exact List.mem_cons_of_mem _ ((mem_partsL u _).mpr ⟨k, hk, hu⟩))
theorem TyMax.self {t : S31} (h : TyMax t) : t.f3.length ≤ 9223372036854775807 ∧ t.f4.length ≤ 9223372036854775807 ∧ ∀ l ∈ t.f3, l.f1.f1.length ≤ 9223372036854775807 := h t (by rw [partsT_eq]; exact List.mem_cons_self)
theorem loans_max {w : World} {A : Option Addr} {ls : List S44} (h : Kd.C k44 w A ls.length ls) : ∀ l ∈ ls, l.f1.f1.length ≤ 9223372036854775807 := by
  intro l hl
  obtain ⟨i, hi⟩ := List.mem_iff_getElem?.mp hl
  obtain ⟨vs, hv, hK⟩ := els_of_C h
  obtain ⟨cs, _, hk⟩ := hK i l hi
  obtain ⟨A2, c2, _, _, g⟩ := k44_open hk
  exact Kd.C_max g
theorem tyMax_of {w : World} : ∀ (t : S31) (A3 A4 : Option Addr), Kd.C k44 w A3 t.f3.length t.f3 → Kd.C k31 w A4 t.f4.length t.f4 → TyMax t := by
  refine tyInd fun t ih A3 A4 h3 h4 u hu => ?_
  rw [partsT_eq] at hu
  rcases List.mem_cons.mp hu with rfl | hu
  · exact ⟨Kd.C_max h3, Kd.C_max h4, loans_max h3⟩
  · obtain ⟨k, hk, hu⟩ := (mem_partsL u _).mp hu
    obtain ⟨i, hi⟩ := List.mem_iff_getElem?.mp hk
    obtain ⟨vs, hv, hK⟩ := els_of_C h4
    obtain ⟨cs, _, hkk⟩ := hK i k hi
    obtain ⟨B3, c3, B4, c4, _, _, g3, _, g4⟩ := k31_open hkk
    exact ih k hk B3 B4 g3 g4 u hu
/-- All of an environment's types are so. -/
theorem bindsMax {w : World} {A : Option Addr} {es : List S33} (h : Kd.C k33 w A es.length es) : ∀ b ∈ es, TyMax b.f1 := by
  intro b hb
  obtain ⟨i, hi⟩ := List.mem_iff_getElem?.mp hb
  obtain ⟨vs, hv, hK⟩ := els_of_C h
  obtain ⟨cs, _, hk⟩ := hK i b hi
  obtain ⟨A4, c4, A5, c5, _, _, g3, _, g4⟩ := k33_open hk
  exact tyMax_of b.f1 _ _ g3 g4
theorem rd27_at (xs : List S44) (i : Nat) (h : i < xs.length) : rd_T44 xs (i : Int) = xs[i] := by
  simp [rd_T44, List.getD_eq_getElem?_getD, List.getElem?_eq_getElem h]
theorem rd37_at (xs : List S31) (i : Nat) (h : i < xs.length) : rd_T31 xs (i : Int) = xs[i] := by
  simp [rd_T31, List.getD_eq_getElem?_getD, List.getElem?_eq_getElem h]
theorem rd39_at (xs : List S33) (i : Nat) (h : i < xs.length) : rd_T33 xs (i : Int) = xs[i] := by
  simp [rd_T33, List.getD_eq_getElem?_getD, List.getElem?_eq_getElem h]
theorem dropA {α : Type} (xs : List α) (i : Nat) (h : i < xs.length) : xs.drop i = xs[i] :: xs.drop (i + 1) := List.drop_eq_getElem_cons h
/-- What a function with fuel answers as soon as there is enough of it. -/
def Ev {α : Type} (f : Nat → Option α) (r : α) : Prop := ∃ k0, ∀ k, k0 ≤ k → f k = some r
theorem Ev.step {α : Type} {f g : Nat → Option α} {r s : α} (h : Ev g r) (k1 : Nat) (e : ∀ k, k1 ≤ k → g k = some r → f (k + 1) = some s) : Ev f s := by
  obtain ⟨k0, hk⟩ := h
  refine ⟨k0 + k1 + 1, fun k hle => ?_⟩
  obtain ⟨j, rfl⟩ : ∃ j, k = j + 1 := ⟨k - 1, by omega⟩
  exact e j (by omega) (hk j (by omega))
theorem Ev.here {α : Type} {f : Nat → Option α} {r : α} (e : ∀ k, f (k + 1) = some r) : Ev f r := ⟨1, fun k hle => by
  obtain ⟨j, rfl⟩ : ∃ j, k = j + 1 := ⟨k - 1, by omega⟩
  exact e j⟩
end Go.Proofs.YtadjekpfehjibaaGreatDoor.PEnv
namespace Go.Proofs.YtadjekpfehjibaaGreatDoor.PEnv
open Go.RowKit Go.Shelf Go.Proofs.YtadjekpfehjibaaGreatDoorW.PrintWords Go.Proofs.YtadjekpfehjibaaGreatDoorW.PrintLast Go.Proofs.YtadjekpfehjibaaGreatDoorW.PrintMore Go.Proofs.YtadjekpfehjibaaGreatDoor.PEnvJoins
/-- Is there a reference in a type; is something gone. -/
def refsT (t : S31) : Bool := (partsT t).any (fun u => u.f0 == 4)
def lostT (t : S31) : Bool := (partsT t).any (fun u => u.f2)
section
variable (a : Int) (b c : Bool) (ls : List S44) (ts : List S31)
theorem refs_l (hm : ts.length ≤ 9223372036854775807) (hk : ∀ t ∈ ts, Ev (fun k => lienbookref05_Refs.f k t.f0 t.f1 t.f2 t.f3 t.f4) (refsT t)) : ∀ (n i : Nat) (x : Bool), ts.length - i = n → i ≤ ts.length →
    Ev (fun k => lienbookref05_Refs.l0 k x (i : Int) a b c ls ts) (x || (partsL (ts.drop i)).any (fun u => u.f0 == 4))
  | 0, i, x, hn, hi => by
    refine Ev.here fun k => ?_
    unfold lienbookref05_Refs.l0
    rw [if_neg (by omega), List.drop_eq_nil_of_le (by omega)]
    simp [partsL]
  | n + 1, i, x, hn, hi => by
    have h : i < ts.length := by omega
    cases x with
    | true =>
      refine (refs_l hm hk n (i + 1) true (by omega) (by omega)).step 0 fun k _ hk' => ?_
      try simp only at hk'
      unfold lienbookref05_Refs.l0
      rw [if_pos (by omega), if_pos rfl, wrap_succ i (by omega), hk']
      simp
    | false =>
      obtain ⟨k1, hk1⟩ := hk ts[i] (List.getElem_mem h)
      obtain ⟨k2, hk2⟩ := refs_l hm hk n (i + 1) (refsT ts[i]) (by omega) (by omega)
      refine ⟨k1 + k2 + 1, fun k hle => ?_⟩
      obtain ⟨j, rfl⟩ : ∃ j, k = j + 1 := ⟨k - 1, by omega⟩
      have e1 := hk1 j (by omega)
      have e2 := hk2 j (by omega)
      simp only at e1 e2 ⊢
      unfold lienbookref05_Refs.l0
      rw [if_pos (by omega), if_neg (by simp), if_pos (by omega), rd37_at ts i h, e1, Option.bind_some, wrap_succ i (by omega), e2, dropA ts i h]
      simp only [partsL, List.any_append, Bool.false_or]
      rfl
theorem lost_l (hm : ts.length ≤ 9223372036854775807) (hk : ∀ t ∈ ts, Ev (fun k => lienbookref05_Lost.f k t.f0 t.f1 t.f2 t.f3 t.f4) (lostT t)) : ∀ (n i : Nat) (x : Bool), ts.length - i = n → i ≤ ts.length →
    Ev (fun k => lienbookref05_Lost.l0 k x (i : Int) a b c ls ts) (x || (partsL (ts.drop i)).any (fun u => u.f2))
  | 0, i, x, hn, hi => by
    refine Ev.here fun k => ?_
    unfold lienbookref05_Lost.l0
    rw [if_neg (by omega), List.drop_eq_nil_of_le (by omega)]
    simp [partsL]
  | n + 1, i, x, hn, hi => by
    have h : i < ts.length := by omega
    cases x with
    | true =>
      refine (lost_l hm hk n (i + 1) true (by omega) (by omega)).step 0 fun k _ hk' => ?_
      try simp only at hk'
      unfold lienbookref05_Lost.l0
      rw [if_pos (by omega), if_pos rfl, wrap_succ i (by omega), hk']
      simp
    | false =>
      obtain ⟨k1, hk1⟩ := hk ts[i] (List.getElem_mem h)
      obtain ⟨k2, hk2⟩ := lost_l hm hk n (i + 1) (lostT ts[i]) (by omega) (by omega)
      refine ⟨k1 + k2 + 1, fun k hle => ?_⟩
      obtain ⟨j, rfl⟩ : ∃ j, k = j + 1 := ⟨k - 1, by omega⟩
      have e1 := hk1 j (by omega)
      have e2 := hk2 j (by omega)
      simp only at e1 e2 ⊢
      unfold lienbookref05_Lost.l0
      rw [if_pos (by omega), if_neg (by simp), if_pos (by omega), rd37_at ts i h, e1, Option.bind_some, wrap_succ i (by omega), e2, dropA ts i h]
      simp only [partsL, List.any_append, Bool.false_or]
      rfl
end
theorem refs_f : ∀ t, TyMax t → Ev (fun k => lienbookref05_Refs.f k t.f0 t.f1 t.f2 t.f3 t.f4) (refsT t) := by
  refine tyInd fun t ih hT => ?_
  obtain ⟨m3, m4, _⟩ := hT.self
  refine (refs_l t.f0 t.f1 t.f2 t.f3 t.f4 m4 (fun k hk => ih k hk (hT.kid hk)) _ 0 (t.f0 == 4) rfl (by omega)).step 0 fun k _ hk => ?_
  simp only [List.drop_zero] at hk
  show lienbookref05_Refs.l0 k (t.f0 == 4) 0 t.f0 t.f1 t.f2 t.f3 t.f4 = _
  rw [show (0 : Int) = ((0 : Nat) : Int) from rfl, hk, refsT, partsT_eq t, List.any_cons]
theorem lost_f : ∀ t, TyMax t → Ev (fun k => lienbookref05_Lost.f k t.f0 t.f1 t.f2 t.f3 t.f4) (lostT t) := by
  refine tyInd fun t ih hT => ?_
  obtain ⟨m3, m4, _⟩ := hT.self
  refine (lost_l t.f0 t.f1 t.f2 t.f3 t.f4 m4 (fun k hk => ih k hk (hT.kid hk)) _ 0 t.f2 rfl (by omega)).step 0 fun k _ hk => ?_
  simp only [List.drop_zero] at hk
  show lienbookref05_Lost.l0 k t.f2 0 t.f0 t.f1 t.f2 t.f3 t.f4 = _
  rw [show (0 : Int) = ((0 : Nat) : Int) from rfl, hk, lostT, partsT_eq t, List.any_cons]
end Go.Proofs.YtadjekpfehjibaaGreatDoor.PEnv
namespace Go.Proofs.YtadjekpfehjibaaGreatDoor.PEnv
open Go.RowKit Go.Shelf Go.Proofs.YtadjekpfehjibaaGreatDoorW.PrintWords Go.Proofs.YtadjekpfehjibaaGreatDoorW.PrintLast Go.Proofs.YtadjekpfehjibaaGreatDoorW.PrintMore Go.Proofs.YtadjekpfehjibaaGreatDoor.PEnvJoins
/-- Are two loans alike? -/
def sameL (a b : S44) : Bool := cmpLoan a b == 0
theorem sameL_iff (a b : S44) : sameL a b = true ↔ a = b := by
  unfold sameL
  rw [beq_iff_eq]
  exact ⟨cmpLoan_zero, fun h => by subst h; exact cm_Loan.refl a⟩
theorem sameLoan_f (a b : S44) (h : a.f1.f1.length ≤ 9223372036854775807) (k : Nat) (hk : a.f1.f1.length < k) :
    lienbookref05_SameLoan.f k a.f0 a.f1.f0 a.f1.f1 a.f2 b.f0 b.f1.f0 b.f1.f1 b.f2 = some (sameL a b) := by
  obtain ⟨a0, ⟨a1, a2⟩, a3⟩ := a
  obtain ⟨b0, ⟨b1, b2⟩, b3⟩ := b
  have hiff := sameL_iff ⟨a0, ⟨a1, a2⟩, a3⟩ ⟨b0, ⟨b1, b2⟩, b3⟩
  have hno : ¬ ((⟨a0, ⟨a1, a2⟩, a3⟩ : S44) = ⟨b0, ⟨b1, b2⟩, b3⟩) → sameL ⟨a0, ⟨a1, a2⟩, a3⟩ ⟨b0, ⟨b1, b2⟩, b3⟩ = false := fun hne => by
    cases hs : sameL ⟨a0, ⟨a1, a2⟩, a3⟩ ⟨b0, ⟨b1, b2⟩, b3⟩ with
    | false => rfl
    | true => exact absurd (hiff.mp hs) hne
  unfold lienbookref05_SameLoan.f
  simp only
  by_cases h0 : a0.toList = b0.toList
  · rw [if_pos h0]
    by_cases h3 : a3 = b3
    · rw [if_pos (by simp [h3])]
      by_cases h1 : a1.toList = b1.toList
      · rw [if_pos h1]
        by_cases hl : a2.length = b2.length
        · rw [if_pos (by rw [hl]), refBegins_f a2 b2 h k hk, Option.bind_some]
          congr 1
          unfold begB
          rw [hl, List.take_length]
          by_cases h2 : a2 = b2
          · rw [decide_eq_true h2]
            exact (hiff.mpr (by rw [ba_ext h0, ba_ext h1, h2, h3])).symm
          · rw [decide_eq_false h2]
            exact (hno (fun e => h2 (by injection e with _ e _; injection e))).symm
        · rw [if_neg (by omega), hno (fun e => hl (by injection e with _ e _; injection e with _ e; rw [e]))]
      · rw [if_neg h1, hno (fun e => h1 (by injection e with _ e _; injection e with e _; rw [e]))]
    · rw [if_neg (by simpa using h3), hno (fun e => h3 (by injection e))]
  · rw [if_neg h0, hno (fun e => h0 (by injection e with e _ _; rw [e]))]
/-- Is a loan among some? -/
def hasL (l : List S44) (x : S44) : Bool := l.any (fun y => sameL y x)
theorem has_l (l : List S44) (x : S44) (hm : l.length ≤ 9223372036854775807) (hl : ∀ y ∈ l, y.f1.f1.length ≤ 9223372036854775807) : ∀ (n i : Nat), l.length - i = n → i ≤ l.length →
    Ev (fun k => lienbookref05_Has.l0 k l (i : Int) x.f0 x.f1.f0 x.f1.f1 x.f2) (hasL (l.drop i) x)
  | 0, i, hn, hi => by
    refine Ev.here fun k => ?_
    unfold lienbookref05_Has.l0
    rw [if_neg (by omega), List.drop_eq_nil_of_le (by omega)]
    rfl
  | n + 1, i, hn, hi => by
    have h : i < l.length := by omega
    refine (has_l l x hm hl n (i + 1) (by omega) (by omega)).step (l[i].f1.f1.length + 1) fun k hk1 hk => ?_
    try simp only at hk
    have e1 := sameLoan_f l[i] x (hl _ (List.getElem_mem h)) k (by omega)
    unfold lienbookref05_Has.l0
    rw [if_pos (by omega), if_pos (by omega), rd27_at l i h, e1, Option.bind_some, wrap_succ i (by omega), hk, dropA l i h]
    unfold hasL
    rw [List.any_cons]
    cases sameL l[i] x <;> simp
theorem has_f (l : List S44) (x : S44) (hm : l.length ≤ 9223372036854775807) (hl : ∀ y ∈ l, y.f1.f1.length ≤ 9223372036854775807) : Ev (fun k => lienbookref05_Has.f k l x.f0 x.f1.f0 x.f1.f1 x.f2) (hasL l x) := by
  have := has_l l x hm hl _ 0 rfl (by omega)
  simpa [lienbookref05_Has.f] using this
mutual
/-- Is a type at most another one, by the document? -/
def lessR : S31 → S31 → Bool
  | ⟨_, _, c, d, e⟩, u => d.all (fun x => hasL u.f3 x) && (lessRL e u.f4 && (!c || u.f2))
def lessRL : List S31 → List S31 → Bool
  | [], [] => true
  | t :: ts, u :: us => lessR t u && lessRL ts us
  | [], _ :: _ => false
  | _ :: _, [] => false
end
theorem lessRL_all2 : ∀ ts us, lessRL ts us = all2 lessR ts us
  | [], [] => rfl
  | [], _ :: _ => rfl
  | _ :: _, [] => rfl
  | t :: ts, u :: us => by
    show (lessR t u && lessRL ts us) = (lessR t u && all2 lessR ts us)
    rw [lessRL_all2 ts us]
theorem lessR_eq (t u : S31) : lessR t u = (t.f3.all (fun x => hasL u.f3 x) && (all2 lessR t.f4 u.f4 && (!t.f2 || u.f2))) := by
  cases t
  show (_ && (lessRL _ _ && _)) = _
  rw [lessRL_all2]
theorem all2_at {α : Type} {p : α → α → Bool} {ts us : List α} (h : all2 p ts us = true) {i : Nat} {a b : α} (ha : ts[i]? = some a) (hb : us[i]? = some b) : p a b = true := by
  cases hp : p a b with
  | true => rfl
  | false => rw [all2_false ha hb hp] at h; cases h
theorem all2_length {α : Type} {p : α → α → Bool} {ts us : List α} (h : all2 p ts us = true) : ts.length = us.length := by
  by_cases e : ts.length = us.length
  · exact e
  · rw [all2_len e] at h; cases h
theorem pz : (∀ (a : Act) (t : Tmp) (v : Value), Act.put a (some t) v = { a with tmps := a.tmps.setIfInBounds t v }) ∧ (∀ (a : Act) (v : Value), Act.put a none v = a) ∧ (∀ (l : List Value) (i : Nat) (v : Value), l.toArray.setIfInBounds i v = (l.set i v).toArray) ∧ (∀ (x v : Value) (l : List Value), (x :: l).set 0 v = v :: l) ∧ (∀ (x v : Value) (l : List Value) (i : Nat), (x :: l).set (i + 1) v = x :: l.set i v) :=
  ⟨fun _ _ _ => rfl, fun _ _ => rfl, fun l i v => List.setIfInBounds_toArray l i v, fun _ _ _ => rfl, fun _ _ _ _ => rfl⟩
end Go.Proofs.YtadjekpfehjibaaGreatDoor.PEnv
namespace Go.Proofs.YtadjekpfehjibaaGreatDoor.PEnv
open Go.RowKit Go.Shelf Go.Lib Go.Proofs.YtadjekpfehjibaaGreatDoorW.PrintWords Go.Proofs.YtadjekpfehjibaaGreatDoorW.PrintLast Go.Proofs.YtadjekpfehjibaaGreatDoorW.PrintMore Go.Proofs.YtadjekpfehjibaaGreatDoor.PEnvJoins
def less_T : Bool × List (List Nat × List Nat) := (true, [([], []), ([0], [0]), ([1], [1]), ([2], [2]), ([3, 2], [2, 3]), ([4, 2], [2, 4]), ([2, 5], [2, 5]), ([6, 2], [6]), ([7], [7]), ([8, 7], [7, 8]), ([7], [7]), ([10, 7], [7, 10]), ([9, 11, 7, 7], [7, 9, 11]), ([12, 7], [7, 12]), ([7], [7]), ([14, 7], [7, 14]), ([15, 7], [7, 15]), ([13, 16, 7], [7, 13, 16]), ([7, 17], [7, 17])])
def less_B : List Nat := [0, 1, 3, 7, 15, 31, 63, 127, 255, 511, 255, 1279, 4095, 8191, 255, 16639, 49407, 131071, 262143]
theorem less_tab : rtab .any (opsOf Tryz.f27 1) = less_T := by kernel_rfl
theorem less_bits : waitsOk less_T.2 less_B = true := by kernel_rfl
set_option maxHeartbeats 8000000 in
set_option maxRecDepth 100000 in
theorem less_tf (w : World) (A3 : Option Addr) (c3 : Nat) (A4 : Option Addr) (c4 : Nat) (B3 : Option Addr) (d3 : Nat) (B4 : Option Addr) (d4 : Nat) (t0 u0 : Int) (t1 u1 : Bool) (n3 n4 m3 m4 L : Nat) :
    Calls Tryz.prog 27 #[.agg #[.int .i64 t0, .bool t1, .bool true, .slice A3 n3 c3, .slice A4 n4 c4], .agg #[.int .i64 u0, .bool u1, .bool false, .slice B3 m3 d3, .slice B4 m4 d4]] w fun e w' => e = .returned (.bool false) ∧ Below w.heap.size w w' := by
  have hb2 : Below w.heap.size w ((w.alloc (.cells #[.int .i64 t0, .bool t1, .bool true, .slice A3 n3 c3, .slice A4 n4 c4] 31)).alloc (.cells #[.int .i64 u0, .bool u1, .bool false, .slice B3 m3 d3, .slice B4 m4 d4] 31)) := ((Below.refl _ w).alloc (Nat.le_refl _) _).alloc (by simp) _
  have e1 := World.alloc_heap_new (w.alloc (.cells #[.int .i64 t0, .bool t1, .bool true, .slice A3 n3 c3, .slice A4 n4 c4] 31)) (.cells #[.int .i64 u0, .bool u1, .bool false, .slice B3 m3 d3, .slice B4 m4 d4] 31)
  have hsz : (w.alloc (.cells #[.int .i64 t0, .bool t1, .bool true, .slice A3 n3 c3, .slice A4 n4 c4] 31)).heap.size = w.heap.size + 1 := by simp
  have e0 : ((w.alloc (.cells #[.int .i64 t0, .bool t1, .bool true, .slice A3 n3 c3, .slice A4 n4 c4] 31)).alloc (.cells #[.int .i64 u0, .bool u1, .bool false, .slice B3 m3 d3, .slice B4 m4 d4] 31)).heap[w.heap.size]? = some (.cells #[.int .i64 t0, .bool t1, .bool true, .slice A3 n3 c3, .slice A4 n4 c4] 31) := by
    rw [heap_alloc_old _ _ (by simp)]
    exact World.alloc_heap_new w _
  rw [hsz] at e1
  obtain ⟨W2, hW2⟩ : ∃ W2, ((w.alloc (.cells #[.int .i64 t0, .bool t1, .bool true, .slice A3 n3 c3, .slice A4 n4 c4] 31)).alloc (.cells #[.int .i64 u0, .bool u1, .bool false, .slice B3 m3 d3, .slice B4 m4 d4] 31)) = W2 := ⟨_, rfl⟩
  rw [hW2] at hb2 e1 e0
  have q2 : W2.cell? ⟨w.heap.size, 2, none⟩ = some (.bool true) := by unfold World.cell?; rw [e0]; rfl
  have q3 : W2.cell? ⟨w.heap.size, 3, none⟩ = some (.slice A3 n3 c3) := by unfold World.cell?; rw [e0]; rfl
  have q4 : W2.cell? ⟨w.heap.size, 4, none⟩ = some (.slice A4 n4 c4) := by unfold World.cell?; rw [e0]; rfl
  have r2 : W2.cell? ⟨w.heap.size + 1, 2, none⟩ = some (.bool false) := by unfold World.cell?; rw [e1]; rfl
  have r3 : W2.cell? ⟨w.heap.size + 1, 3, none⟩ = some (.slice B3 m3 d3) := by unfold World.cell?; rw [e1]; rfl
  have r4 : W2.cell? ⟨w.heap.size + 1, 4, none⟩ = some (.slice B4 m4 d4) := by unfold World.cell?; rw [e1]; rfl
  clear e0 e1 hsz
  go_enter Tryz.func27, Tryz.ntmps27
  go_upto_region 1 with fail
  clear hW2
  generalize w.heap.size + 1 = b1 at *
  obtain ⟨b0, hb0⟩ : ∃ b0, w.heap.size = b0 := ⟨_, rfl⟩
  rw [hb0] at q2 q3 q4
  simp only [hb0]
  refine start_ (n := 19) (S := fun w' => w'.cell? ⟨b0, 2, none⟩ = some (.bool true) ∧ w'.cell? ⟨b1, 2, none⟩ = some (.bool false) ∧ w'.cell? ⟨b0, 3, none⟩ = some (.slice A3 n3 c3) ∧ w'.cell? ⟨b1, 3, none⟩ = some (.slice B3 m3 d3)) (ds := []) #[false, false, false, false, false, false, false, false, false, false, false, false, false, false, false, false, false, false, false] (by kernel_rfl) rfl rfl ⟨q2, r2, q3, r3⟩ (fun hHeld => ?_); refine with_tabW less_tab less_bits (fun HT_ HW_ => ?_)
  have hb3 := Aside0.mk (below_drew1 hb2)
  have q4' := Aside0.mk (show W2.drew.cell? ⟨b0, 4, none⟩ = some (.slice A4 n4 c4) from q4)
  have r4' := Aside0.mk (show W2.drew.cell? ⟨b1, 4, none⟩ = some (.slice B4 m4 d4) from r4)
  clear hb2 q2 r2 q3 r3 q4 r4
  generalize W2.drew = W3 at hb3 q4' r4' hHeld ⊢
  refine pure_ (i := 0) (N := some 5) (v := ?_) (a' := ?_) #[true, false, false, false, false, false, false, false, false, false, false, false, false, false, false, false, false, false, false] rfl rfl (any_of HT_.out (by kernel_rfl)) (fun _ _ _ h => h) (Or.inl ⟨by rfl, ?_⟩) ?_ ?_
  rotate_left
  · intro w'
    go_simp
    with_reducible rfl
  rotate_left
  · simp only [Act.put, List.setIfInBounds_toArray, List.set_cons_zero, List.set_cons_succ, i64_w, i32_w]
    rfl
  refine take_ (i := 1) (N := some 6) (v := ?_) (a' := ?_) #[true, true, false, false, false, false, false, false, false, false, false, false, false, false, false, false, false, false, false] rfl rfl (take_ofW HT_.out HW_.out (by kernel_rfl)) (fun _ _ _ h => h) (Or.inl ⟨by rfl, ?_⟩) hHeld ?_ ?_
  rotate_left
  · rintro w' ⟨s0, s1, s2, s3⟩
    go_simp
    with_reducible rfl
  rotate_left
  · simp only [Act.put, List.setIfInBounds_toArray, List.set_cons_zero, List.set_cons_succ, i64_w, i32_w]
    rfl
  refine pure_ (i := 2) (N := some 7) (v := ?_) (a' := ?_) #[true, true, true, false, false, false, false, false, false, false, false, false, false, false, false, false, false, false, false] rfl rfl (any_of HT_.out (by kernel_rfl)) (fun _ _ _ h => h) (Or.inl ⟨by rfl, ?_⟩) ?_ ?_
  rotate_left
  · intro w'
    go_simp
    with_reducible rfl
  rotate_left
  · simp only [Act.put, List.setIfInBounds_toArray, List.set_cons_zero, List.set_cons_succ, i64_w, i32_w]
    rfl
  refine pure_ (i := 3) (N := some 8) (v := ?_) (a' := ?_) #[true, true, true, true, false, false, false, false, false, false, false, false, false, false, false, false, false, false, false] rfl rfl (any_of HT_.out (by kernel_rfl)) (fun _ _ _ h => h) (Or.inl ⟨by rfl, ?_⟩) ?_ ?_
  rotate_left
  · intro w'
    go_simp
    with_reducible rfl
  rotate_left
  · simp only [Act.put, List.setIfInBounds_toArray, List.set_cons_zero, List.set_cons_succ, i64_w, i32_w]
    rfl
  refine take_ (i := 4) (N := some 9) (v := ?_) (a' := ?_) #[true, true, true, true, true, false, false, false, false, false, false, false, false, false, false, false, false, false, false] rfl rfl (take_ofW HT_.out HW_.out (by kernel_rfl)) (fun _ _ _ h => h) (Or.inl ⟨by rfl, ?_⟩) hHeld ?_ ?_
  rotate_left
  · rintro w' ⟨s0, s1, s2, s3⟩
    go_simp
    with_reducible rfl
  rotate_left
  · simp only [Act.put, List.setIfInBounds_toArray, List.set_cons_zero, List.set_cons_succ, i64_w, i32_w]
    rfl
  refine pure_ (i := 5) (N := some 10) (v := ?_) (a' := ?_) #[true, true, true, true, true, true, false, false, false, false, false, false, false, false, false, false, false, false, false] rfl rfl (any_of HT_.out (by kernel_rfl)) (fun _ _ _ h => h) (Or.inl ⟨by rfl, ?_⟩) ?_ ?_
  rotate_left
  · intro w'
    go_simp
    with_reducible rfl
  rotate_left
  · simp only [Act.put, List.setIfInBounds_toArray, List.set_cons_zero, List.set_cons_succ, i64_w, i32_w]
    rfl
  refine pure_ (i := 6) (N := some 11) (v := ?_) (a' := ?_) #[true, true, true, true, true, true, true, false, false, false, false, false, false, false, false, false, false, false, false] rfl rfl (any_of HT_.out (by kernel_rfl)) (fun _ _ _ h => h) (Or.inl ⟨by rfl, ?_⟩) ?_ ?_
  rotate_left
  · intro w'
    go_simp
    with_reducible rfl
  rotate_left
  · simp only [Act.put, List.setIfInBounds_toArray, List.set_cons_zero, List.set_cons_succ, i64_w, i32_w]
    rfl
  refine pure_ (i := 7) (N := some 12) (v := ?_) (a' := ?_) #[true, true, true, true, true, true, true, true, false, false, false, false, false, false, false, false, false, false, false] rfl rfl (any_of HT_.out (by kernel_rfl)) (fun _ _ _ h => h) (Or.inl ⟨by rfl, ?_⟩) ?_ ?_
  rotate_left
  · intro w'
    go_simp
    with_reducible rfl
  rotate_left
  · simp only [Act.put, List.setIfInBounds_toArray, List.set_cons_zero, List.set_cons_succ, i64_w, i32_w]
    rfl
  refine pure_ (i := 8) (N := some 13) (v := undef) (a' := ?_) #[true, true, true, true, true, true, true, true, true, false, false, false, false, false, false, false, false, false, false] rfl rfl (any_of HT_.out (by kernel_rfl)) (fun _ _ _ h => h) (Or.inr ⟨by rfl, rfl⟩) ?_ ?_
  rotate_left
  · simp only [Act.put, List.setIfInBounds_toArray, List.set_cons_zero, List.set_cons_succ, i64_w, i32_w]
    rfl
  refine pure_ (i := 9) (N := some 14) (v := undef) (a' := ?_) #[true, true, true, true, true, true, true, true, true, true, false, false, false, false, false, false, false, false, false] rfl rfl (any_of HT_.out (by kernel_rfl)) (fun _ _ _ h => h) (Or.inr ⟨by rfl, rfl⟩) ?_ ?_
  rotate_left
  · simp only [Act.put, List.setIfInBounds_toArray, List.set_cons_zero, List.set_cons_succ, i64_w, i32_w]
    rfl
  refine pure_ (i := 10) (N := some 15) (v := undef) (a' := ?_) #[true, true, true, true, true, true, true, true, true, true, true, false, false, false, false, false, false, false, false] rfl rfl (any_of HT_.out (by kernel_rfl)) (fun _ _ _ h => h) (Or.inr ⟨by rfl, rfl⟩) ?_ ?_
  rotate_left
  · simp only [Act.put, List.setIfInBounds_toArray, List.set_cons_zero, List.set_cons_succ, i64_w, i32_w]
    rfl
  refine pure_ (i := 11) (N := some 16) (v := undef) (a' := ?_) #[true, true, true, true, true, true, true, true, true, true, true, true, false, false, false, false, false, false, false] rfl rfl (any_of HT_.out (by kernel_rfl)) (fun _ _ _ h => h) (Or.inr ⟨by rfl, rfl⟩) ?_ ?_
  rotate_left
  · simp only [Act.put, List.setIfInBounds_toArray, List.set_cons_zero, List.set_cons_succ, i64_w, i32_w]
    rfl
  refine pure_ (i := 12) (N := some 17) (v := undef) (a' := ?_) #[true, true, true, true, true, true, true, true, true, true, true, true, true, false, false, false, false, false, false] rfl rfl (any_of HT_.out (by kernel_rfl)) (fun _ _ _ h => h) (Or.inr ⟨by rfl, rfl⟩) ?_ ?_
  rotate_left
  · simp only [Act.put, List.setIfInBounds_toArray, List.set_cons_zero, List.set_cons_succ, i64_w, i32_w]
    rfl
  refine pure_ (i := 13) (N := some 18) (v := undef) (a' := ?_) #[true, true, true, true, true, true, true, true, true, true, true, true, true, true, false, false, false, false, false] rfl rfl (any_of HT_.out (by kernel_rfl)) (fun _ _ _ h => h) (Or.inr ⟨by rfl, rfl⟩) ?_ ?_
  rotate_left
  · simp only [Act.put, List.setIfInBounds_toArray, List.set_cons_zero, List.set_cons_succ, i64_w, i32_w]
    rfl
  refine pure_ (i := 14) (N := some 19) (v := undef) (a' := ?_) #[true, true, true, true, true, true, true, true, true, true, true, true, true, true, true, false, false, false, false] rfl rfl (any_of HT_.out (by kernel_rfl)) (fun _ _ _ h => h) (Or.inr ⟨by rfl, rfl⟩) ?_ ?_
  rotate_left
  · simp only [Act.put, List.setIfInBounds_toArray, List.set_cons_zero, List.set_cons_succ, i64_w, i32_w]
    rfl
  refine pure_ (i := 15) (N := some 20) (v := undef) (a' := ?_) #[true, true, true, true, true, true, true, true, true, true, true, true, true, true, true, true, false, false, false] rfl rfl (any_of HT_.out (by kernel_rfl)) (fun _ _ _ h => h) (Or.inr ⟨by rfl, rfl⟩) ?_ ?_
  rotate_left
  · simp only [Act.put, List.setIfInBounds_toArray, List.set_cons_zero, List.set_cons_succ, i64_w, i32_w]
    rfl
  refine pure_ (i := 16) (N := some 21) (v := undef) (a' := ?_) #[true, true, true, true, true, true, true, true, true, true, true, true, true, true, true, true, true, false, false] rfl rfl (any_of HT_.out (by kernel_rfl)) (fun _ _ _ h => h) (Or.inr ⟨by rfl, rfl⟩) ?_ ?_
  rotate_left
  · simp only [Act.put, List.setIfInBounds_toArray, List.set_cons_zero, List.set_cons_succ, i64_w, i32_w]
    rfl
  refine pure_ (i := 17) (N := some 22) (v := undef) (a' := ?_) #[true, true, true, true, true, true, true, true, true, true, true, true, true, true, true, true, true, true, false] rfl rfl (any_of HT_.out (by kernel_rfl)) (fun _ _ _ h => h) (Or.inr ⟨by rfl, rfl⟩) ?_ ?_
  rotate_left
  · simp only [Act.put, List.setIfInBounds_toArray, List.set_cons_zero, List.set_cons_succ, i64_w, i32_w]
    rfl
  refine pure_ (i := 18) (N := some 23) (v := ?_) (a' := ?_) #[true, true, true, true, true, true, true, true, true, true, true, true, true, true, true, true, true, true, true] rfl rfl (any_of HT_.out (by kernel_rfl)) (fun _ _ _ h => h) (Or.inl ⟨by rfl, ?_⟩) ?_ ?_
  rotate_left
  · intro w'
    go_simp
    with_reducible rfl
  rotate_left
  · simp only [Act.put, List.setIfInBounds_toArray, List.set_cons_zero, List.set_cons_succ, i64_w, i32_w]
    rfl
  refine done_ (done_of HT_.out (by kernel_rfl)) ?_
  go_wp2
  go_ret
  exact ⟨rfl, hb3.out⟩
set_option maxHeartbeats 8000000 in
set_option maxRecDepth 100000 in
theorem less_ff (w : World) (A3 : Option Addr) (c3 : Nat) (A4 : Option Addr) (c4 : Nat) (B3 : Option Addr) (d3 : Nat) (B4 : Option Addr) (d4 : Nat) (t0 u0 : Int) (t1 u1 : Bool) (n3 n4 m3 m4 L : Nat) (hmerge : ∀ W, Below w.heap.size w W → Calls Tryz.prog 47 #[.slice A3 n3 c3, .slice B3 m3 d3, .func (.func 48) #[] #[]] W fun e w' => ∃ X cap, e = .returned (.slice X L cap) ∧ Below W.heap.size W w')
    (R : Bool) (hkids : ∀ W, Below w.heap.size w W → Calls Tryz.prog 29 #[.slice A4 n4 c4, .slice B4 m4 d4, .func (.func 27) #[] #[]] W fun e w' => e = .returned (.bool R) ∧ Below W.heap.size W w') :
    Calls Tryz.prog 27 #[.agg #[.int .i64 t0, .bool t1, .bool false, .slice A3 n3 c3, .slice A4 n4 c4], .agg #[.int .i64 u0, .bool u1, .bool false, .slice B3 m3 d3, .slice B4 m4 d4]] w fun e w' => e = .returned (.bool (!decide (m3 < L) && R)) ∧ Below w.heap.size w w' := by
  have hb2 : Below w.heap.size w ((w.alloc (.cells #[.int .i64 t0, .bool t1, .bool false, .slice A3 n3 c3, .slice A4 n4 c4] 31)).alloc (.cells #[.int .i64 u0, .bool u1, .bool false, .slice B3 m3 d3, .slice B4 m4 d4] 31)) := ((Below.refl _ w).alloc (Nat.le_refl _) _).alloc (by simp) _
  have e1 := World.alloc_heap_new (w.alloc (.cells #[.int .i64 t0, .bool t1, .bool false, .slice A3 n3 c3, .slice A4 n4 c4] 31)) (.cells #[.int .i64 u0, .bool u1, .bool false, .slice B3 m3 d3, .slice B4 m4 d4] 31)
  have hsz : (w.alloc (.cells #[.int .i64 t0, .bool t1, .bool false, .slice A3 n3 c3, .slice A4 n4 c4] 31)).heap.size = w.heap.size + 1 := by simp
  have e0 : ((w.alloc (.cells #[.int .i64 t0, .bool t1, .bool false, .slice A3 n3 c3, .slice A4 n4 c4] 31)).alloc (.cells #[.int .i64 u0, .bool u1, .bool false, .slice B3 m3 d3, .slice B4 m4 d4] 31)).heap[w.heap.size]? = some (.cells #[.int .i64 t0, .bool t1, .bool false, .slice A3 n3 c3, .slice A4 n4 c4] 31) := by
    rw [heap_alloc_old _ _ (by simp)]
    exact World.alloc_heap_new w _
  rw [hsz] at e1
  obtain ⟨W2, hW2⟩ : ∃ W2, ((w.alloc (.cells #[.int .i64 t0, .bool t1, .bool false, .slice A3 n3 c3, .slice A4 n4 c4] 31)).alloc (.cells #[.int .i64 u0, .bool u1, .bool false, .slice B3 m3 d3, .slice B4 m4 d4] 31)) = W2 := ⟨_, rfl⟩
  rw [hW2] at hb2 e1 e0
  have q2 : W2.cell? ⟨w.heap.size, 2, none⟩ = some (.bool false) := by unfold World.cell?; rw [e0]; rfl
  have q3 : W2.cell? ⟨w.heap.size, 3, none⟩ = some (.slice A3 n3 c3) := by unfold World.cell?; rw [e0]; rfl
  have q4 : W2.cell? ⟨w.heap.size, 4, none⟩ = some (.slice A4 n4 c4) := by unfold World.cell?; rw [e0]; rfl
  have r2 : W2.cell? ⟨w.heap.size + 1, 2, none⟩ = some (.bool false) := by unfold World.cell?; rw [e1]; rfl
  have r3 : W2.cell? ⟨w.heap.size + 1, 3, none⟩ = some (.slice B3 m3 d3) := by unfold World.cell?; rw [e1]; rfl
  have r4 : W2.cell? ⟨w.heap.size + 1, 4, none⟩ = some (.slice B4 m4 d4) := by unfold World.cell?; rw [e1]; rfl
  obtain ⟨bb, hbb⟩ : ∃ bb, decide (m3 < L) = bb := ⟨_, rfl⟩
  rw [hbb]
  have hbi : decide ((L : Int) > (m3 : Int)) = bb := by rw [← hbb]; exact decide_eq_decide.mpr (by omega)
  have hbj : decide ((m3 : Int) < (L : Int)) = bb := by rw [← hbb]; exact decide_eq_decide.mpr (by omega)
  clear e0 e1 hsz
  go_enter Tryz.func27, Tryz.ntmps27
  go_upto_region 1 with fail
  clear hW2
  generalize w.heap.size + 1 = b1 at *
  obtain ⟨b0, hb0⟩ : ∃ b0, w.heap.size = b0 := ⟨_, rfl⟩
  rw [hb0] at q2 q3 q4
  simp only [hb0]
  refine start_ (n := 19) (S := fun w' => w'.cell? ⟨b0, 2, none⟩ = some (.bool false) ∧ w'.cell? ⟨b1, 2, none⟩ = some (.bool false) ∧ w'.cell? ⟨b0, 3, none⟩ = some (.slice A3 n3 c3) ∧ w'.cell? ⟨b1, 3, none⟩ = some (.slice B3 m3 d3)) (ds := []) #[false, false, false, false, false, false, false, false, false, false, false, false, false, false, false, false, false, false, false] (by kernel_rfl) rfl rfl ⟨q2, r2, q3, r3⟩ (fun hHeld => ?_); refine with_tabW less_tab less_bits (fun HT_ HW_ => ?_)
  have hb3 := Aside0.mk (below_drew1 hb2)
  have q4' := Aside0.mk (show W2.drew.cell? ⟨b0, 4, none⟩ = some (.slice A4 n4 c4) from q4)
  have r4' := Aside0.mk (show W2.drew.cell? ⟨b1, 4, none⟩ = some (.slice B4 m4 d4) from r4)
  clear hb2 q2 r2 q3 r3 q4 r4
  generalize W2.drew = W3 at hb3 q4' r4' hHeld ⊢
  refine pure_ (i := 0) (N := some 5) (v := ?_) (a' := ?_) #[true, false, false, false, false, false, false, false, false, false, false, false, false, false, false, false, false, false, false] rfl rfl (any_of HT_.out (by kernel_rfl)) (fun _ _ _ h => h) (Or.inl ⟨by rfl, ?_⟩) ?_ ?_
  rotate_left
  · intro w'
    go_simp
    with_reducible rfl
  rotate_left
  · simp only [Act.put, List.setIfInBounds_toArray, List.set_cons_zero, List.set_cons_succ, i64_w, i32_w]
    rfl
  refine take_ (i := 1) (N := some 6) (v := ?_) (a' := ?_) #[true, true, false, false, false, false, false, false, false, false, false, false, false, false, false, false, false, false, false] rfl rfl (take_ofW HT_.out HW_.out (by kernel_rfl)) (fun _ _ _ h => h) (Or.inl ⟨by rfl, ?_⟩) hHeld ?_ ?_
  rotate_left
  · rintro w' ⟨s0, s1, s2, s3⟩
    go_simp
    with_reducible rfl
  rotate_left
  · simp only [Act.put, List.setIfInBounds_toArray, List.set_cons_zero, List.set_cons_succ, i64_w, i32_w]
    rfl
  refine pure_ (i := 2) (N := some 7) (v := ?_) (a' := ?_) #[true, true, true, false, false, false, false, false, false, false, false, false, false, false, false, false, false, false, false] rfl rfl (any_of HT_.out (by kernel_rfl)) (fun _ _ _ h => h) (Or.inl ⟨by rfl, ?_⟩) ?_ ?_
  rotate_left
  · intro w'
    go_simp
    with_reducible rfl
  rotate_left
  · simp only [Act.put, List.setIfInBounds_toArray, List.set_cons_zero, List.set_cons_succ, i64_w, i32_w]
    rfl
  refine pure_ (i := 3) (N := some 8) (v := undef) (a' := ?_) #[true, true, true, true, false, false, false, false, false, false, false, false, false, false, false, false, false, false, false] rfl rfl (any_of HT_.out (by kernel_rfl)) (fun _ _ _ h => h) (Or.inr ⟨by rfl, rfl⟩) ?_ ?_
  rotate_left
  · simp only [Act.put, List.setIfInBounds_toArray, List.set_cons_zero, List.set_cons_succ, i64_w, i32_w]
    rfl
  refine pure_ (i := 4) (N := some 9) (v := undef) (a' := ?_) #[true, true, true, true, true, false, false, false, false, false, false, false, false, false, false, false, false, false, false] rfl rfl (any_of HT_.out (by kernel_rfl)) (fun _ _ _ h => h) (Or.inr ⟨by rfl, rfl⟩) ?_ ?_
  rotate_left
  · simp only [Act.put, List.setIfInBounds_toArray, List.set_cons_zero, List.set_cons_succ, i64_w, i32_w]
    rfl
  refine pure_ (i := 5) (N := some 10) (v := undef) (a' := ?_) #[true, true, true, true, true, true, false, false, false, false, false, false, false, false, false, false, false, false, false] rfl rfl (any_of HT_.out (by kernel_rfl)) (fun _ _ _ h => h) (Or.inr ⟨by rfl, rfl⟩) ?_ ?_
  rotate_left
  · simp only [Act.put, List.setIfInBounds_toArray, List.set_cons_zero, List.set_cons_succ, i64_w, i32_w]
    rfl
  refine pure_ (i := 6) (N := some 11) (v := ?_) (a' := ?_) #[true, true, true, true, true, true, true, false, false, false, false, false, false, false, false, false, false, false, false] rfl rfl (any_of HT_.out (by kernel_rfl)) (fun _ _ _ h => h) (Or.inl ⟨by rfl, ?_⟩) ?_ ?_
  rotate_left
  · intro w'
    go_simp
    with_reducible rfl
  rotate_left
  · simp only [Act.put, List.setIfInBounds_toArray, List.set_cons_zero, List.set_cons_succ, i64_w, i32_w]
    rfl
  refine pure_ (i := 7) (N := some 12) (v := ?_) (a' := ?_) #[true, true, true, true, true, true, true, true, false, false, false, false, false, false, false, false, false, false, false] rfl rfl (any_of HT_.out (by kernel_rfl)) (fun _ _ _ h => h) (Or.inl ⟨by rfl, ?_⟩) ?_ ?_
  rotate_left
  · intro w'
    go_simp
    with_reducible rfl
  rotate_left
  · simp only [Act.put, List.setIfInBounds_toArray, List.set_cons_zero, List.set_cons_succ, i64_w, i32_w]
    rfl
  refine pure_ (i := 8) (N := some 13) (v := ?_) (a' := ?_) #[true, true, true, true, true, true, true, true, true, false, false, false, false, false, false, false, false, false, false] rfl rfl (any_of HT_.out (by kernel_rfl)) (fun _ _ _ h => h) (Or.inl ⟨by rfl, ?_⟩) ?_ ?_
  rotate_left
  · intro w'
    go_simp
    with_reducible rfl
  rotate_left
  · simp only [Act.put, List.setIfInBounds_toArray, List.set_cons_zero, List.set_cons_succ, i64_w, i32_w]
    rfl
  refine take_ (i := 9) (N := some 14) (v := ?_) (a' := ?_) #[true, true, true, true, true, true, true, true, true, true, false, false, false, false, false, false, false, false, false] rfl rfl (take_ofW HT_.out HW_.out (by kernel_rfl)) (fun _ _ _ h => h) (Or.inl ⟨by rfl, ?_⟩) hHeld ?_ ?_
  rotate_left
  · rintro w' ⟨s0, s1, s2, s3⟩
    go_simp
    with_reducible rfl
  rotate_left
  · simp only [Act.put, List.setIfInBounds_toArray, List.set_cons_zero, List.set_cons_succ, i64_w, i32_w]
    rfl
  refine pure_ (i := 10) (N := some 15) (v := ?_) (a' := ?_) #[true, true, true, true, true, true, true, true, true, true, true, false, false, false, false, false, false, false, false] rfl rfl (any_of HT_.out (by kernel_rfl)) (fun _ _ _ h => h) (Or.inl ⟨by rfl, ?_⟩) ?_ ?_
  rotate_left
  · intro w'
    go_simp
    with_reducible rfl
  rotate_left
  · simp only [Act.put, List.setIfInBounds_toArray, List.set_cons_zero, List.set_cons_succ, i64_w, i32_w]
    rfl
  refine take_ (i := 11) (N := some 16) (v := ?_) (a' := ?_) #[true, true, true, true, true, true, true, true, true, true, true, true, false, false, false, false, false, false, false] rfl rfl (take_ofW HT_.out HW_.out (by kernel_rfl)) (fun _ _ _ h => h) (Or.inl ⟨by rfl, ?_⟩) hHeld ?_ ?_
  rotate_left
  · rintro w' ⟨s0, s1, s2, s3⟩
    go_simp
    with_reducible rfl
  rotate_left
  · simp only [Act.put, List.setIfInBounds_toArray, List.set_cons_zero, List.set_cons_succ, i64_w, i32_w]
    rfl
  refine pure_ (i := 14) (N := some 19) (v := ?_) (a' := ?_) #[true, true, true, true, true, true, true, true, true, true, true, true, false, false, true, false, false, false, false] rfl rfl (any_of HT_.out (by kernel_rfl)) (fun _ _ _ h => h) (Or.inl ⟨by rfl, ?_⟩) ?_ ?_
  rotate_left
  · intro w'
    go_simp
    with_reducible rfl
  rotate_left
  · simp only [Act.put, List.setIfInBounds_toArray, List.set_cons_zero, List.set_cons_succ, i64_w, i32_w]
    rfl
  refine take_ (i := 15) (N := some 20) (v := ?_) (a' := ?_) #[true, true, true, true, true, true, true, true, true, true, true, true, false, false, true, true, false, false, false] rfl rfl (take_ofW HT_.out HW_.out (by kernel_rfl)) (fun _ _ _ h => h) (Or.inl ⟨by rfl, ?_⟩) hHeld ?_ ?_
  rotate_left
  · rintro w' ⟨s0, s1, s2, s3⟩
    go_simp
    with_reducible rfl
  rotate_left
  · simp only [Act.put, List.setIfInBounds_toArray, List.set_cons_zero, List.set_cons_succ, i64_w, i32_w]
    rfl
  refine pure_ (i := 16) (N := some 21) (v := ?_) (a' := ?_) #[true, true, true, true, true, true, true, true, true, true, true, true, false, false, true, true, true, false, false] rfl rfl (any_of HT_.out (by kernel_rfl)) (fun _ _ _ h => h) (Or.inl ⟨by rfl, ?_⟩) ?_ ?_
  rotate_left
  · intro w'
    go_simp
    with_reducible rfl
  rotate_left
  · simp only [Act.put, List.setIfInBounds_toArray, List.set_cons_zero, List.set_cons_succ, i64_w, i32_w]
    rfl
  refine one_ (i := 12) (N := some 17) #[true, true, true, true, true, true, true, true, true, true, true, true, true, false, true, true, true, false, false] rfl rfl (one_of HT_.out (by kernel_rfl)) (by decide) (fun K hK => ?_)
  refine goes_ Tryz.func47 (by kernel_rfl) rfl #[.slice A3 n3 c3, .slice B3 m3 d3, .func (.func 48) #[] #[]] (by rfl) rfl rfl (by (try simp only [List.map_toArray, List.map_cons, List.map_nil]); first | done | rfl) ?_
  refine (hmerge W3 hb3.out).mono ?_
  rintro e W4 ⟨X, cap, rfl, hb4⟩
  refine ⟨_, rfl, ?_⟩
  refine hK.out _ _ ⟨below_cell hb4 hHeld.1, below_cell hb4 hHeld.2.1, below_cell hb4 hHeld.2.2.1, below_cell hb4 hHeld.2.2.2⟩ (fun hHeld => ?_)
  clear hK K
  have hb5 := Aside0.mk (hb3.out.trans (hb4.mono hb3.out.size))
  have q5 := below_cell hb4 q4'.out
  have r5 := below_cell hb4 r4'.out
  clear hb3 hb4 q4' r4'
  refine norm_ (a' := ?_) ?_ ?_
  rotate_left
  · show Act.put _ (some 17) _ = _
    simp only [Act.put, List.setIfInBounds_toArray, List.set_cons_zero, List.set_cons_succ, i64_w, i32_w]
    rfl
  refine pure_ (i := 13) (N := some 18) (v := ?_) (a' := ?_) #[true, true, true, true, true, true, true, true, true, true, true, true, true, true, true, true, true, false, false] rfl rfl (any_of HT_.out (by kernel_rfl)) (fun _ _ _ h => h) (Or.inl ⟨by rfl, ?_⟩) ?_ ?_
  rotate_left
  · intro w'
    go_simp
    with_reducible rfl
  rotate_left
  · simp only [Act.put, List.setIfInBounds_toArray, List.set_cons_zero, List.set_cons_succ, i64_w, i32_w]
    rfl
  refine pure_ (i := 17) (N := some 22) (v := ?_) (a' := ?_) #[true, true, true, true, true, true, true, true, true, true, true, true, true, true, true, true, true, true, false] rfl rfl (any_of HT_.out (by kernel_rfl)) (fun _ _ _ h => h) (Or.inl ⟨by rfl, ?_⟩) ?_ ?_
  rotate_left
  · intro w'
    go_simp
    with_reducible rfl
  rotate_left
  · simp only [Act.put, List.setIfInBounds_toArray, List.set_cons_zero, List.set_cons_succ, i64_w, i32_w]
    rfl
  refine pure_ (i := 18) (N := some 23) (v := ?_) (a' := ?_) #[true, true, true, true, true, true, true, true, true, true, true, true, true, true, true, true, true, true, true] rfl rfl (any_of HT_.out (by kernel_rfl)) (fun _ _ _ h => h) (Or.inl ⟨by rfl, ?_⟩) ?_ ?_
  rotate_left
  · intro w'
    go_simp
    with_reducible rfl
  rotate_left
  · simp only [Act.put, List.setIfInBounds_toArray, List.set_cons_zero, List.set_cons_succ, i64_w, i32_w]
    rfl
  refine done_ (done_of HT_.out (by kernel_rfl)) ?_
  cases bb with
  | true =>
    go_wp2
    go_ret
    exact ⟨rfl, hb5.out⟩
  | false =>
    have hk := hkids W4 hb5.out
    go_wp2_with (go_at_call 29; refine hk.mono ?_; rintro e W6 ⟨rfl, hb6⟩)
    go_ret
    exact ⟨by first | rfl | simp, hb5.out.trans (hb6.mono hb5.out.size)⟩
set_option maxHeartbeats 8000000 in
set_option maxRecDepth 100000 in
theorem less_ft (w : World) (A3 : Option Addr) (c3 : Nat) (A4 : Option Addr) (c4 : Nat) (B3 : Option Addr) (d3 : Nat) (B4 : Option Addr) (d4 : Nat) (t0 u0 : Int) (t1 u1 : Bool) (n3 n4 m3 m4 L : Nat) (hmerge : ∀ W, Below w.heap.size w W → Calls Tryz.prog 47 #[.slice A3 n3 c3, .slice B3 m3 d3, .func (.func 48) #[] #[]] W fun e w' => ∃ X cap, e = .returned (.slice X L cap) ∧ Below W.heap.size W w')
    (R : Bool) (hkids : ∀ W, Below w.heap.size w W → Calls Tryz.prog 29 #[.slice A4 n4 c4, .slice B4 m4 d4, .func (.func 27) #[] #[]] W fun e w' => e = .returned (.bool R) ∧ Below W.heap.size W w') :
    Calls Tryz.prog 27 #[.agg #[.int .i64 t0, .bool t1, .bool false, .slice A3 n3 c3, .slice A4 n4 c4], .agg #[.int .i64 u0, .bool u1, .bool true, .slice B3 m3 d3, .slice B4 m4 d4]] w fun e w' => e = .returned (.bool (!decide (m3 < L) && R)) ∧ Below w.heap.size w w' := by
  have hb2 : Below w.heap.size w ((w.alloc (.cells #[.int .i64 t0, .bool t1, .bool false, .slice A3 n3 c3, .slice A4 n4 c4] 31)).alloc (.cells #[.int .i64 u0, .bool u1, .bool true, .slice B3 m3 d3, .slice B4 m4 d4] 31)) := ((Below.refl _ w).alloc (Nat.le_refl _) _).alloc (by simp) _
  have e1 := World.alloc_heap_new (w.alloc (.cells #[.int .i64 t0, .bool t1, .bool false, .slice A3 n3 c3, .slice A4 n4 c4] 31)) (.cells #[.int .i64 u0, .bool u1, .bool true, .slice B3 m3 d3, .slice B4 m4 d4] 31)
  have hsz : (w.alloc (.cells #[.int .i64 t0, .bool t1, .bool false, .slice A3 n3 c3, .slice A4 n4 c4] 31)).heap.size = w.heap.size + 1 := by simp
  have e0 : ((w.alloc (.cells #[.int .i64 t0, .bool t1, .bool false, .slice A3 n3 c3, .slice A4 n4 c4] 31)).alloc (.cells #[.int .i64 u0, .bool u1, .bool true, .slice B3 m3 d3, .slice B4 m4 d4] 31)).heap[w.heap.size]? = some (.cells #[.int .i64 t0, .bool t1, .bool false, .slice A3 n3 c3, .slice A4 n4 c4] 31) := by
    rw [heap_alloc_old _ _ (by simp)]
    exact World.alloc_heap_new w _
  rw [hsz] at e1
  obtain ⟨W2, hW2⟩ : ∃ W2, ((w.alloc (.cells #[.int .i64 t0, .bool t1, .bool false, .slice A3 n3 c3, .slice A4 n4 c4] 31)).alloc (.cells #[.int .i64 u0, .bool u1, .bool true, .slice B3 m3 d3, .slice B4 m4 d4] 31)) = W2 := ⟨_, rfl⟩
  rw [hW2] at hb2 e1 e0
  have q2 : W2.cell? ⟨w.heap.size, 2, none⟩ = some (.bool false) := by unfold World.cell?; rw [e0]; rfl
  have q3 : W2.cell? ⟨w.heap.size, 3, none⟩ = some (.slice A3 n3 c3) := by unfold World.cell?; rw [e0]; rfl
  have q4 : W2.cell? ⟨w.heap.size, 4, none⟩ = some (.slice A4 n4 c4) := by unfold World.cell?; rw [e0]; rfl
  have r2 : W2.cell? ⟨w.heap.size + 1, 2, none⟩ = some (.bool true) := by unfold World.cell?; rw [e1]; rfl
  have r3 : W2.cell? ⟨w.heap.size + 1, 3, none⟩ = some (.slice B3 m3 d3) := by unfold World.cell?; rw [e1]; rfl
  have r4 : W2.cell? ⟨w.heap.size + 1, 4, none⟩ = some (.slice B4 m4 d4) := by unfold World.cell?; rw [e1]; rfl
  obtain ⟨bb, hbb⟩ : ∃ bb, decide (m3 < L) = bb := ⟨_, rfl⟩
  rw [hbb]
  have hbi : decide ((L : Int) > (m3 : Int)) = bb := by rw [← hbb]; exact decide_eq_decide.mpr (by omega)
  have hbj : decide ((m3 : Int) < (L : Int)) = bb := by rw [← hbb]; exact decide_eq_decide.mpr (by omega)
  clear e0 e1 hsz
  go_enter Tryz.func27, Tryz.ntmps27
  go_upto_region 1 with fail
  clear hW2
  generalize w.heap.size + 1 = b1 at *
  obtain ⟨b0, hb0⟩ : ∃ b0, w.heap.size = b0 := ⟨_, rfl⟩
  rw [hb0] at q2 q3 q4
  simp only [hb0]
  refine start_ (n := 19) (S := fun w' => w'.cell? ⟨b0, 2, none⟩ = some (.bool false) ∧ w'.cell? ⟨b1, 2, none⟩ = some (.bool true) ∧ w'.cell? ⟨b0, 3, none⟩ = some (.slice A3 n3 c3) ∧ w'.cell? ⟨b1, 3, none⟩ = some (.slice B3 m3 d3)) (ds := []) #[false, false, false, false, false, false, false, false, false, false, false, false, false, false, false, false, false, false, false] (by kernel_rfl) rfl rfl ⟨q2, r2, q3, r3⟩ (fun hHeld => ?_); refine with_tabW less_tab less_bits (fun HT_ HW_ => ?_)
  have hb3 := Aside0.mk (below_drew1 hb2)
  have q4' := Aside0.mk (show W2.drew.cell? ⟨b0, 4, none⟩ = some (.slice A4 n4 c4) from q4)
  have r4' := Aside0.mk (show W2.drew.cell? ⟨b1, 4, none⟩ = some (.slice B4 m4 d4) from r4)
  clear hb2 q2 r2 q3 r3 q4 r4
  generalize W2.drew = W3 at hb3 q4' r4' hHeld ⊢
  refine pure_ (i := 0) (N := some 5) (v := ?_) (a' := ?_) #[true, false, false, false, false, false, false, false, false, false, false, false, false, false, false, false, false, false, false] rfl rfl (any_of HT_.out (by kernel_rfl)) (fun _ _ _ h => h) (Or.inl ⟨by rfl, ?_⟩) ?_ ?_
  rotate_left
  · intro w'
    go_simp
    with_reducible rfl
  rotate_left
  · simp only [Act.put, List.setIfInBounds_toArray, List.set_cons_zero, List.set_cons_succ, i64_w, i32_w]
    rfl
  refine take_ (i := 1) (N := some 6) (v := ?_) (a' := ?_) #[true, true, false, false, false, false, false, false, false, false, false, false, false, false, false, false, false, false, false] rfl rfl (take_ofW HT_.out HW_.out (by kernel_rfl)) (fun _ _ _ h => h) (Or.inl ⟨by rfl, ?_⟩) hHeld ?_ ?_
  rotate_left
  · rintro w' ⟨s0, s1, s2, s3⟩
    go_simp
    with_reducible rfl
  rotate_left
  · simp only [Act.put, List.setIfInBounds_toArray, List.set_cons_zero, List.set_cons_succ, i64_w, i32_w]
    rfl
  refine pure_ (i := 2) (N := some 7) (v := ?_) (a' := ?_) #[true, true, true, false, false, false, false, false, false, false, false, false, false, false, false, false, false, false, false] rfl rfl (any_of HT_.out (by kernel_rfl)) (fun _ _ _ h => h) (Or.inl ⟨by rfl, ?_⟩) ?_ ?_
  rotate_left
  · intro w'
    go_simp
    with_reducible rfl
  rotate_left
  · simp only [Act.put, List.setIfInBounds_toArray, List.set_cons_zero, List.set_cons_succ, i64_w, i32_w]
    rfl
  refine pure_ (i := 3) (N := some 8) (v := undef) (a' := ?_) #[true, true, true, true, false, false, false, false, false, false, false, false, false, false, false, false, false, false, false] rfl rfl (any_of HT_.out (by kernel_rfl)) (fun _ _ _ h => h) (Or.inr ⟨by rfl, rfl⟩) ?_ ?_
  rotate_left
  · simp only [Act.put, List.setIfInBounds_toArray, List.set_cons_zero, List.set_cons_succ, i64_w, i32_w]
    rfl
  refine pure_ (i := 4) (N := some 9) (v := undef) (a' := ?_) #[true, true, true, true, true, false, false, false, false, false, false, false, false, false, false, false, false, false, false] rfl rfl (any_of HT_.out (by kernel_rfl)) (fun _ _ _ h => h) (Or.inr ⟨by rfl, rfl⟩) ?_ ?_
  rotate_left
  · simp only [Act.put, List.setIfInBounds_toArray, List.set_cons_zero, List.set_cons_succ, i64_w, i32_w]
    rfl
  refine pure_ (i := 5) (N := some 10) (v := undef) (a' := ?_) #[true, true, true, true, true, true, false, false, false, false, false, false, false, false, false, false, false, false, false] rfl rfl (any_of HT_.out (by kernel_rfl)) (fun _ _ _ h => h) (Or.inr ⟨by rfl, rfl⟩) ?_ ?_
  rotate_left
  · simp only [Act.put, List.setIfInBounds_toArray, List.set_cons_zero, List.set_cons_succ, i64_w, i32_w]
    rfl
  refine pure_ (i := 6) (N := some 11) (v := ?_) (a' := ?_) #[true, true, true, true, true, true, true, false, false, false, false, false, false, false, false, false, false, false, false] rfl rfl (any_of HT_.out (by kernel_rfl)) (fun _ _ _ h => h) (Or.inl ⟨by rfl, ?_⟩) ?_ ?_
  rotate_left
  · intro w'
    go_simp
    with_reducible rfl
  rotate_left
  · simp only [Act.put, List.setIfInBounds_toArray, List.set_cons_zero, List.set_cons_succ, i64_w, i32_w]
    rfl
  refine pure_ (i := 7) (N := some 12) (v := ?_) (a' := ?_) #[true, true, true, true, true, true, true, true, false, false, false, false, false, false, false, false, false, false, false] rfl rfl (any_of HT_.out (by kernel_rfl)) (fun _ _ _ h => h) (Or.inl ⟨by rfl, ?_⟩) ?_ ?_
  rotate_left
  · intro w'
    go_simp
    with_reducible rfl
  rotate_left
  · simp only [Act.put, List.setIfInBounds_toArray, List.set_cons_zero, List.set_cons_succ, i64_w, i32_w]
    rfl
  refine pure_ (i := 8) (N := some 13) (v := ?_) (a' := ?_) #[true, true, true, true, true, true, true, true, true, false, false, false, false, false, false, false, false, false, false] rfl rfl (any_of HT_.out (by kernel_rfl)) (fun _ _ _ h => h) (Or.inl ⟨by rfl, ?_⟩) ?_ ?_
  rotate_left
  · intro w'
    go_simp
    with_reducible rfl
  rotate_left
  · simp only [Act.put, List.setIfInBounds_toArray, List.set_cons_zero, List.set_cons_succ, i64_w, i32_w]
    rfl
  refine take_ (i := 9) (N := some 14) (v := ?_) (a' := ?_) #[true, true, true, true, true, true, true, true, true, true, false, false, false, false, false, false, false, false, false] rfl rfl (take_ofW HT_.out HW_.out (by kernel_rfl)) (fun _ _ _ h => h) (Or.inl ⟨by rfl, ?_⟩) hHeld ?_ ?_
  rotate_left
  · rintro w' ⟨s0, s1, s2, s3⟩
    go_simp
    with_reducible rfl
  rotate_left
  · simp only [Act.put, List.setIfInBounds_toArray, List.set_cons_zero, List.set_cons_succ, i64_w, i32_w]
    rfl
  refine pure_ (i := 10) (N := some 15) (v := ?_) (a' := ?_) #[true, true, true, true, true, true, true, true, true, true, true, false, false, false, false, false, false, false, false] rfl rfl (any_of HT_.out (by kernel_rfl)) (fun _ _ _ h => h) (Or.inl ⟨by rfl, ?_⟩) ?_ ?_
  rotate_left
  · intro w'
    go_simp
    with_reducible rfl
  rotate_left
  · simp only [Act.put, List.setIfInBounds_toArray, List.set_cons_zero, List.set_cons_succ, i64_w, i32_w]
    rfl
  refine take_ (i := 11) (N := some 16) (v := ?_) (a' := ?_) #[true, true, true, true, true, true, true, true, true, true, true, true, false, false, false, false, false, false, false] rfl rfl (take_ofW HT_.out HW_.out (by kernel_rfl)) (fun _ _ _ h => h) (Or.inl ⟨by rfl, ?_⟩) hHeld ?_ ?_
  rotate_left
  · rintro w' ⟨s0, s1, s2, s3⟩
    go_simp
    with_reducible rfl
  rotate_left
  · simp only [Act.put, List.setIfInBounds_toArray, List.set_cons_zero, List.set_cons_succ, i64_w, i32_w]
    rfl
  refine pure_ (i := 14) (N := some 19) (v := ?_) (a' := ?_) #[true, true, true, true, true, true, true, true, true, true, true, true, false, false, true, false, false, false, false] rfl rfl (any_of HT_.out (by kernel_rfl)) (fun _ _ _ h => h) (Or.inl ⟨by rfl, ?_⟩) ?_ ?_
  rotate_left
  · intro w'
    go_simp
    with_reducible rfl
  rotate_left
  · simp only [Act.put, List.setIfInBounds_toArray, List.set_cons_zero, List.set_cons_succ, i64_w, i32_w]
    rfl
  refine take_ (i := 15) (N := some 20) (v := ?_) (a' := ?_) #[true, true, true, true, true, true, true, true, true, true, true, true, false, false, true, true, false, false, false] rfl rfl (take_ofW HT_.out HW_.out (by kernel_rfl)) (fun _ _ _ h => h) (Or.inl ⟨by rfl, ?_⟩) hHeld ?_ ?_
  rotate_left
  · rintro w' ⟨s0, s1, s2, s3⟩
    go_simp
    with_reducible rfl
  rotate_left
  · simp only [Act.put, List.setIfInBounds_toArray, List.set_cons_zero, List.set_cons_succ, i64_w, i32_w]
    rfl
  refine pure_ (i := 16) (N := some 21) (v := ?_) (a' := ?_) #[true, true, true, true, true, true, true, true, true, true, true, true, false, false, true, true, true, false, false] rfl rfl (any_of HT_.out (by kernel_rfl)) (fun _ _ _ h => h) (Or.inl ⟨by rfl, ?_⟩) ?_ ?_
  rotate_left
  · intro w'
    go_simp
    with_reducible rfl
  rotate_left
  · simp only [Act.put, List.setIfInBounds_toArray, List.set_cons_zero, List.set_cons_succ, i64_w, i32_w]
    rfl
  refine one_ (i := 12) (N := some 17) #[true, true, true, true, true, true, true, true, true, true, true, true, true, false, true, true, true, false, false] rfl rfl (one_of HT_.out (by kernel_rfl)) (by decide) (fun K hK => ?_)
  refine goes_ Tryz.func47 (by kernel_rfl) rfl #[.slice A3 n3 c3, .slice B3 m3 d3, .func (.func 48) #[] #[]] (by rfl) rfl rfl (by (try simp only [List.map_toArray, List.map_cons, List.map_nil]); first | done | rfl) ?_
  refine (hmerge W3 hb3.out).mono ?_
  rintro e W4 ⟨X, cap, rfl, hb4⟩
  refine ⟨_, rfl, ?_⟩
  refine hK.out _ _ ⟨below_cell hb4 hHeld.1, below_cell hb4 hHeld.2.1, below_cell hb4 hHeld.2.2.1, below_cell hb4 hHeld.2.2.2⟩ (fun hHeld => ?_)
  clear hK K
  have hb5 := Aside0.mk (hb3.out.trans (hb4.mono hb3.out.size))
  have q5 := below_cell hb4 q4'.out
  have r5 := below_cell hb4 r4'.out
  clear hb3 hb4 q4' r4'
  refine norm_ (a' := ?_) ?_ ?_
  rotate_left
  · show Act.put _ (some 17) _ = _
    simp only [Act.put, List.setIfInBounds_toArray, List.set_cons_zero, List.set_cons_succ, i64_w, i32_w]
    rfl
  refine pure_ (i := 13) (N := some 18) (v := ?_) (a' := ?_) #[true, true, true, true, true, true, true, true, true, true, true, true, true, true, true, true, true, false, false] rfl rfl (any_of HT_.out (by kernel_rfl)) (fun _ _ _ h => h) (Or.inl ⟨by rfl, ?_⟩) ?_ ?_
  rotate_left
  · intro w'
    go_simp
    with_reducible rfl
  rotate_left
  · simp only [Act.put, List.setIfInBounds_toArray, List.set_cons_zero, List.set_cons_succ, i64_w, i32_w]
    rfl
  refine pure_ (i := 17) (N := some 22) (v := ?_) (a' := ?_) #[true, true, true, true, true, true, true, true, true, true, true, true, true, true, true, true, true, true, false] rfl rfl (any_of HT_.out (by kernel_rfl)) (fun _ _ _ h => h) (Or.inl ⟨by rfl, ?_⟩) ?_ ?_
  rotate_left
  · intro w'
    go_simp
    with_reducible rfl
  rotate_left
  · simp only [Act.put, List.setIfInBounds_toArray, List.set_cons_zero, List.set_cons_succ, i64_w, i32_w]
    rfl
  refine pure_ (i := 18) (N := some 23) (v := ?_) (a' := ?_) #[true, true, true, true, true, true, true, true, true, true, true, true, true, true, true, true, true, true, true] rfl rfl (any_of HT_.out (by kernel_rfl)) (fun _ _ _ h => h) (Or.inl ⟨by rfl, ?_⟩) ?_ ?_
  rotate_left
  · intro w'
    go_simp
    with_reducible rfl
  rotate_left
  · simp only [Act.put, List.setIfInBounds_toArray, List.set_cons_zero, List.set_cons_succ, i64_w, i32_w]
    rfl
  refine done_ (done_of HT_.out (by kernel_rfl)) ?_
  cases bb with
  | true =>
    go_wp2
    go_ret
    exact ⟨rfl, hb5.out⟩
  | false =>
    have hk := hkids W4 hb5.out
    go_wp2_with (go_at_call 29; refine hk.mono ?_; rintro e W6 ⟨rfl, hb6⟩)
    go_ret
    exact ⟨by first | rfl | simp, hb5.out.trans (hb6.mono hb5.out.size)⟩
set_option maxHeartbeats 8000000 in
set_option maxRecDepth 100000 in
theorem less_tt (w : World) (A3 : Option Addr) (c3 : Nat) (A4 : Option Addr) (c4 : Nat) (B3 : Option Addr) (d3 : Nat) (B4 : Option Addr) (d4 : Nat) (t0 u0 : Int) (t1 u1 : Bool) (n3 n4 m3 m4 L : Nat) (hmerge : ∀ W, Below w.heap.size w W → Calls Tryz.prog 47 #[.slice A3 n3 c3, .slice B3 m3 d3, .func (.func 48) #[] #[]] W fun e w' => ∃ X cap, e = .returned (.slice X L cap) ∧ Below W.heap.size W w')
    (R : Bool) (hkids : ∀ W, Below w.heap.size w W → Calls Tryz.prog 29 #[.slice A4 n4 c4, .slice B4 m4 d4, .func (.func 27) #[] #[]] W fun e w' => e = .returned (.bool R) ∧ Below W.heap.size W w') :
    Calls Tryz.prog 27 #[.agg #[.int .i64 t0, .bool t1, .bool true, .slice A3 n3 c3, .slice A4 n4 c4], .agg #[.int .i64 u0, .bool u1, .bool true, .slice B3 m3 d3, .slice B4 m4 d4]] w fun e w' => e = .returned (.bool (!decide (m3 < L) && R)) ∧ Below w.heap.size w w' := by
  have hb2 : Below w.heap.size w ((w.alloc (.cells #[.int .i64 t0, .bool t1, .bool true, .slice A3 n3 c3, .slice A4 n4 c4] 31)).alloc (.cells #[.int .i64 u0, .bool u1, .bool true, .slice B3 m3 d3, .slice B4 m4 d4] 31)) := ((Below.refl _ w).alloc (Nat.le_refl _) _).alloc (by simp) _
  have e1 := World.alloc_heap_new (w.alloc (.cells #[.int .i64 t0, .bool t1, .bool true, .slice A3 n3 c3, .slice A4 n4 c4] 31)) (.cells #[.int .i64 u0, .bool u1, .bool true, .slice B3 m3 d3, .slice B4 m4 d4] 31)
  have hsz : (w.alloc (.cells #[.int .i64 t0, .bool t1, .bool true, .slice A3 n3 c3, .slice A4 n4 c4] 31)).heap.size = w.heap.size + 1 := by simp
  have e0 : ((w.alloc (.cells #[.int .i64 t0, .bool t1, .bool true, .slice A3 n3 c3, .slice A4 n4 c4] 31)).alloc (.cells #[.int .i64 u0, .bool u1, .bool true, .slice B3 m3 d3, .slice B4 m4 d4] 31)).heap[w.heap.size]? = some (.cells #[.int .i64 t0, .bool t1, .bool true, .slice A3 n3 c3, .slice A4 n4 c4] 31) := by
    rw [heap_alloc_old _ _ (by simp)]
    exact World.alloc_heap_new w _
  rw [hsz] at e1
  obtain ⟨W2, hW2⟩ : ∃ W2, ((w.alloc (.cells #[.int .i64 t0, .bool t1, .bool true, .slice A3 n3 c3, .slice A4 n4 c4] 31)).alloc (.cells #[.int .i64 u0, .bool u1, .bool true, .slice B3 m3 d3, .slice B4 m4 d4] 31)) = W2 := ⟨_, rfl⟩
  rw [hW2] at hb2 e1 e0
  have q2 : W2.cell? ⟨w.heap.size, 2, none⟩ = some (.bool true) := by unfold World.cell?; rw [e0]; rfl
  have q3 : W2.cell? ⟨w.heap.size, 3, none⟩ = some (.slice A3 n3 c3) := by unfold World.cell?; rw [e0]; rfl
  have q4 : W2.cell? ⟨w.heap.size, 4, none⟩ = some (.slice A4 n4 c4) := by unfold World.cell?; rw [e0]; rfl
  have r2 : W2.cell? ⟨w.heap.size + 1, 2, none⟩ = some (.bool true) := by unfold World.cell?; rw [e1]; rfl
  have r3 : W2.cell? ⟨w.heap.size + 1, 3, none⟩ = some (.slice B3 m3 d3) := by unfold World.cell?; rw [e1]; rfl
  have r4 : W2.cell? ⟨w.heap.size + 1, 4, none⟩ = some (.slice B4 m4 d4) := by unfold World.cell?; rw [e1]; rfl
  obtain ⟨bb, hbb⟩ : ∃ bb, decide (m3 < L) = bb := ⟨_, rfl⟩
  rw [hbb]
  have hbi : decide ((L : Int) > (m3 : Int)) = bb := by rw [← hbb]; exact decide_eq_decide.mpr (by omega)
  have hbj : decide ((m3 : Int) < (L : Int)) = bb := by rw [← hbb]; exact decide_eq_decide.mpr (by omega)
  clear e0 e1 hsz
  go_enter Tryz.func27, Tryz.ntmps27
  go_upto_region 1 with fail
  clear hW2
  generalize w.heap.size + 1 = b1 at *
  obtain ⟨b0, hb0⟩ : ∃ b0, w.heap.size = b0 := ⟨_, rfl⟩
  rw [hb0] at q2 q3 q4
  simp only [hb0]
  refine start_ (n := 19) (S := fun w' => w'.cell? ⟨b0, 2, none⟩ = some (.bool true) ∧ w'.cell? ⟨b1, 2, none⟩ = some (.bool true) ∧ w'.cell? ⟨b0, 3, none⟩ = some (.slice A3 n3 c3) ∧ w'.cell? ⟨b1, 3, none⟩ = some (.slice B3 m3 d3)) (ds := []) #[false, false, false, false, false, false, false, false, false, false, false, false, false, false, false, false, false, false, false] (by kernel_rfl) rfl rfl ⟨q2, r2, q3, r3⟩ (fun hHeld => ?_); refine with_tabW less_tab less_bits (fun HT_ HW_ => ?_)
  have hb3 := Aside0.mk (below_drew1 hb2)
  have q4' := Aside0.mk (show W2.drew.cell? ⟨b0, 4, none⟩ = some (.slice A4 n4 c4) from q4)
  have r4' := Aside0.mk (show W2.drew.cell? ⟨b1, 4, none⟩ = some (.slice B4 m4 d4) from r4)
  clear hb2 q2 r2 q3 r3 q4 r4
  generalize W2.drew = W3 at hb3 q4' r4' hHeld ⊢
  refine pure_ (i := 0) (N := some 5) (v := ?_) (a' := ?_) #[true, false, false, false, false, false, false, false, false, false, false, false, false, false, false, false, false, false, false] rfl rfl (any_of HT_.out (by kernel_rfl)) (fun _ _ _ h => h) (Or.inl ⟨by rfl, ?_⟩) ?_ ?_
  rotate_left
  · intro w'
    go_simp
    with_reducible rfl
  rotate_left
  · simp only [Act.put, List.setIfInBounds_toArray, List.set_cons_zero, List.set_cons_succ, i64_w, i32_w]
    rfl
  refine take_ (i := 1) (N := some 6) (v := ?_) (a' := ?_) #[true, true, false, false, false, false, false, false, false, false, false, false, false, false, false, false, false, false, false] rfl rfl (take_ofW HT_.out HW_.out (by kernel_rfl)) (fun _ _ _ h => h) (Or.inl ⟨by rfl, ?_⟩) hHeld ?_ ?_
  rotate_left
  · rintro w' ⟨s0, s1, s2, s3⟩
    go_simp
    with_reducible rfl
  rotate_left
  · simp only [Act.put, List.setIfInBounds_toArray, List.set_cons_zero, List.set_cons_succ, i64_w, i32_w]
    rfl
  refine pure_ (i := 2) (N := some 7) (v := ?_) (a' := ?_) #[true, true, true, false, false, false, false, false, false, false, false, false, false, false, false, false, false, false, false] rfl rfl (any_of HT_.out (by kernel_rfl)) (fun _ _ _ h => h) (Or.inl ⟨by rfl, ?_⟩) ?_ ?_
  rotate_left
  · intro w'
    go_simp
    with_reducible rfl
  rotate_left
  · simp only [Act.put, List.setIfInBounds_toArray, List.set_cons_zero, List.set_cons_succ, i64_w, i32_w]
    rfl
  refine pure_ (i := 3) (N := some 8) (v := ?_) (a' := ?_) #[true, true, true, true, false, false, false, false, false, false, false, false, false, false, false, false, false, false, false] rfl rfl (any_of HT_.out (by kernel_rfl)) (fun _ _ _ h => h) (Or.inl ⟨by rfl, ?_⟩) ?_ ?_
  rotate_left
  · intro w'
    go_simp
    with_reducible rfl
  rotate_left
  · simp only [Act.put, List.setIfInBounds_toArray, List.set_cons_zero, List.set_cons_succ, i64_w, i32_w]
    rfl
  refine take_ (i := 4) (N := some 9) (v := ?_) (a' := ?_) #[true, true, true, true, true, false, false, false, false, false, false, false, false, false, false, false, false, false, false] rfl rfl (take_ofW HT_.out HW_.out (by kernel_rfl)) (fun _ _ _ h => h) (Or.inl ⟨by rfl, ?_⟩) hHeld ?_ ?_
  rotate_left
  · rintro w' ⟨s0, s1, s2, s3⟩
    go_simp
    with_reducible rfl
  rotate_left
  · simp only [Act.put, List.setIfInBounds_toArray, List.set_cons_zero, List.set_cons_succ, i64_w, i32_w]
    rfl
  refine pure_ (i := 5) (N := some 10) (v := ?_) (a' := ?_) #[true, true, true, true, true, true, false, false, false, false, false, false, false, false, false, false, false, false, false] rfl rfl (any_of HT_.out (by kernel_rfl)) (fun _ _ _ h => h) (Or.inl ⟨by rfl, ?_⟩) ?_ ?_
  rotate_left
  · intro w'
    go_simp
    with_reducible rfl
  rotate_left
  · simp only [Act.put, List.setIfInBounds_toArray, List.set_cons_zero, List.set_cons_succ, i64_w, i32_w]
    rfl
  refine pure_ (i := 6) (N := some 11) (v := ?_) (a' := ?_) #[true, true, true, true, true, true, true, false, false, false, false, false, false, false, false, false, false, false, false] rfl rfl (any_of HT_.out (by kernel_rfl)) (fun _ _ _ h => h) (Or.inl ⟨by rfl, ?_⟩) ?_ ?_
  rotate_left
  · intro w'
    go_simp
    with_reducible rfl
  rotate_left
  · simp only [Act.put, List.setIfInBounds_toArray, List.set_cons_zero, List.set_cons_succ, i64_w, i32_w]
    rfl
  refine pure_ (i := 7) (N := some 12) (v := ?_) (a' := ?_) #[true, true, true, true, true, true, true, true, false, false, false, false, false, false, false, false, false, false, false] rfl rfl (any_of HT_.out (by kernel_rfl)) (fun _ _ _ h => h) (Or.inl ⟨by rfl, ?_⟩) ?_ ?_
  rotate_left
  · intro w'
    go_simp
    with_reducible rfl
  rotate_left
  · simp only [Act.put, List.setIfInBounds_toArray, List.set_cons_zero, List.set_cons_succ, i64_w, i32_w]
    rfl
  refine pure_ (i := 8) (N := some 13) (v := ?_) (a' := ?_) #[true, true, true, true, true, true, true, true, true, false, false, false, false, false, false, false, false, false, false] rfl rfl (any_of HT_.out (by kernel_rfl)) (fun _ _ _ h => h) (Or.inl ⟨by rfl, ?_⟩) ?_ ?_
  rotate_left
  · intro w'
    go_simp
    with_reducible rfl
  rotate_left
  · simp only [Act.put, List.setIfInBounds_toArray, List.set_cons_zero, List.set_cons_succ, i64_w, i32_w]
    rfl
  refine take_ (i := 9) (N := some 14) (v := ?_) (a' := ?_) #[true, true, true, true, true, true, true, true, true, true, false, false, false, false, false, false, false, false, false] rfl rfl (take_ofW HT_.out HW_.out (by kernel_rfl)) (fun _ _ _ h => h) (Or.inl ⟨by rfl, ?_⟩) hHeld ?_ ?_
  rotate_left
  · rintro w' ⟨s0, s1, s2, s3⟩
    go_simp
    with_reducible rfl
  rotate_left
  · simp only [Act.put, List.setIfInBounds_toArray, List.set_cons_zero, List.set_cons_succ, i64_w, i32_w]
    rfl
  refine pure_ (i := 10) (N := some 15) (v := ?_) (a' := ?_) #[true, true, true, true, true, true, true, true, true, true, true, false, false, false, false, false, false, false, false] rfl rfl (any_of HT_.out (by kernel_rfl)) (fun _ _ _ h => h) (Or.inl ⟨by rfl, ?_⟩) ?_ ?_
  rotate_left
  · intro w'
    go_simp
    with_reducible rfl
  rotate_left
  · simp only [Act.put, List.setIfInBounds_toArray, List.set_cons_zero, List.set_cons_succ, i64_w, i32_w]
    rfl
  refine take_ (i := 11) (N := some 16) (v := ?_) (a' := ?_) #[true, true, true, true, true, true, true, true, true, true, true, true, false, false, false, false, false, false, false] rfl rfl (take_ofW HT_.out HW_.out (by kernel_rfl)) (fun _ _ _ h => h) (Or.inl ⟨by rfl, ?_⟩) hHeld ?_ ?_
  rotate_left
  · rintro w' ⟨s0, s1, s2, s3⟩
    go_simp
    with_reducible rfl
  rotate_left
  · simp only [Act.put, List.setIfInBounds_toArray, List.set_cons_zero, List.set_cons_succ, i64_w, i32_w]
    rfl
  refine pure_ (i := 14) (N := some 19) (v := ?_) (a' := ?_) #[true, true, true, true, true, true, true, true, true, true, true, true, false, false, true, false, false, false, false] rfl rfl (any_of HT_.out (by kernel_rfl)) (fun _ _ _ h => h) (Or.inl ⟨by rfl, ?_⟩) ?_ ?_
  rotate_left
  · intro w'
    go_simp
    with_reducible rfl
  rotate_left
  · simp only [Act.put, List.setIfInBounds_toArray, List.set_cons_zero, List.set_cons_succ, i64_w, i32_w]
    rfl
  refine take_ (i := 15) (N := some 20) (v := ?_) (a' := ?_) #[true, true, true, true, true, true, true, true, true, true, true, true, false, false, true, true, false, false, false] rfl rfl (take_ofW HT_.out HW_.out (by kernel_rfl)) (fun _ _ _ h => h) (Or.inl ⟨by rfl, ?_⟩) hHeld ?_ ?_
  rotate_left
  · rintro w' ⟨s0, s1, s2, s3⟩
    go_simp
    with_reducible rfl
  rotate_left
  · simp only [Act.put, List.setIfInBounds_toArray, List.set_cons_zero, List.set_cons_succ, i64_w, i32_w]
    rfl
  refine pure_ (i := 16) (N := some 21) (v := ?_) (a' := ?_) #[true, true, true, true, true, true, true, true, true, true, true, true, false, false, true, true, true, false, false] rfl rfl (any_of HT_.out (by kernel_rfl)) (fun _ _ _ h => h) (Or.inl ⟨by rfl, ?_⟩) ?_ ?_
  rotate_left
  · intro w'
    go_simp
    with_reducible rfl
  rotate_left
  · simp only [Act.put, List.setIfInBounds_toArray, List.set_cons_zero, List.set_cons_succ, i64_w, i32_w]
    rfl
  refine one_ (i := 12) (N := some 17) #[true, true, true, true, true, true, true, true, true, true, true, true, true, false, true, true, true, false, false] rfl rfl (one_of HT_.out (by kernel_rfl)) (by decide) (fun K hK => ?_)
  refine goes_ Tryz.func47 (by kernel_rfl) rfl #[.slice A3 n3 c3, .slice B3 m3 d3, .func (.func 48) #[] #[]] (by rfl) rfl rfl (by (try simp only [List.map_toArray, List.map_cons, List.map_nil]); first | done | rfl) ?_
  refine (hmerge W3 hb3.out).mono ?_
  rintro e W4 ⟨X, cap, rfl, hb4⟩
  refine ⟨_, rfl, ?_⟩
  refine hK.out _ _ ⟨below_cell hb4 hHeld.1, below_cell hb4 hHeld.2.1, below_cell hb4 hHeld.2.2.1, below_cell hb4 hHeld.2.2.2⟩ (fun hHeld => ?_)
  clear hK K
  have hb5 := Aside0.mk (hb3.out.trans (hb4.mono hb3.out.size))
  have q5 := below_cell hb4 q4'.out
  have r5 := below_cell hb4 r4'.out
  clear hb3 hb4 q4' r4'
  refine norm_ (a' := ?_) ?_ ?_
  rotate_left
  · show Act.put _ (some 17) _ = _
    simp only [Act.put, List.setIfInBounds_toArray, List.set_cons_zero, List.set_cons_succ, i64_w, i32_w]
    rfl
  refine pure_ (i := 13) (N := some 18) (v := ?_) (a' := ?_) #[true, true, true, true, true, true, true, true, true, true, true, true, true, true, true, true, true, false, false] rfl rfl (any_of HT_.out (by kernel_rfl)) (fun _ _ _ h => h) (Or.inl ⟨by rfl, ?_⟩) ?_ ?_
  rotate_left
  · intro w'
    go_simp
    with_reducible rfl
  rotate_left
  · simp only [Act.put, List.setIfInBounds_toArray, List.set_cons_zero, List.set_cons_succ, i64_w, i32_w]
    rfl
  refine pure_ (i := 17) (N := some 22) (v := ?_) (a' := ?_) #[true, true, true, true, true, true, true, true, true, true, true, true, true, true, true, true, true, true, false] rfl rfl (any_of HT_.out (by kernel_rfl)) (fun _ _ _ h => h) (Or.inl ⟨by rfl, ?_⟩) ?_ ?_
  rotate_left
  · intro w'
    go_simp
    with_reducible rfl
  rotate_left
  · simp only [Act.put, List.setIfInBounds_toArray, List.set_cons_zero, List.set_cons_succ, i64_w, i32_w]
    rfl
  refine pure_ (i := 18) (N := some 23) (v := ?_) (a' := ?_) #[true, true, true, true, true, true, true, true, true, true, true, true, true, true, true, true, true, true, true] rfl rfl (any_of HT_.out (by kernel_rfl)) (fun _ _ _ h => h) (Or.inl ⟨by rfl, ?_⟩) ?_ ?_
  rotate_left
  · intro w'
    go_simp
    with_reducible rfl
  rotate_left
  · simp only [Act.put, List.setIfInBounds_toArray, List.set_cons_zero, List.set_cons_succ, i64_w, i32_w]
    rfl
  refine done_ (done_of HT_.out (by kernel_rfl)) ?_
  cases bb with
  | true =>
    go_wp2
    go_ret
    exact ⟨rfl, hb5.out⟩
  | false =>
    have hk := hkids W4 hb5.out
    go_wp2_with (go_at_call 29; refine hk.mono ?_; rintro e W6 ⟨rfl, hb6⟩)
    go_ret
    exact ⟨by first | rfl | simp, hb5.out.trans (hb6.mono hb5.out.size)⟩
/-- env.less, at every two types whose lists are short. -/
theorem envLess (t : S31) : Ty2WordS 27 lessT t := by
  revert t
  refine tyInd fun t ih ht u hu A3 c3 A4 c4 B3 d3 B4 d4 w l3 g3 l4 g4 m3 q3 m4 q4 => ?_
  have eg : ∀ args w, (callFunc 27 args).run Tryz.prog w = .ok (.enter 27 args) w := enters_of Tryz.func27 (by kernel_rfl) rfl
  have hmerge : ∀ W, Below w.heap.size w W → Calls Tryz.prog 47 #[.slice A3 t.f3.length c3, .slice B3 u.f3.length d3, .func (.func 48) #[] #[]] W fun e w' => ∃ X cap, e = .returned (.slice X (mergedL t.f3 u.f3).length cap) ∧ Below W.heap.size W w' := fun W hW => by
    refine (mergedC t.f3 u.f3 A3 c3 B3 d3 W (Kd.C_below g3 hW) (Kd.C_below q3 hW) (by have := ht.self; have := hu.self; omega)).mono ?_
    rintro e w' ⟨X, cap, rs, rfl, _, hb, hM, _⟩
    exact ⟨X, cap, by rw [← mergedOf_eq hM, List.length_map], hb⟩
  have hkids : ∀ W, Below w.heap.size w W → Calls Tryz.prog 29 #[.slice A4 t.f4.length c4, .slice B4 u.f4.length d4, .func (.func 27) #[] #[]] W fun e w' => e = .returned (.bool (all2 lessT t.f4 u.f4)) ∧ Below W.heap.size W w' := fun W hW =>
    eqKidsS 27 eg lessT t.f4 u.f4 ih (fun k hk => ht.kid hk) (fun k hk => hu.kid hk) A4 c4 B4 d4 W (Kd.C_below g4 hW) (Kd.C_below q4 hW)
  rw [lessT_eq]
  generalize (mergedL t.f3 u.f3).length = L at *
  generalize all2 lessT t.f4 u.f4 = R at *
  cases ht2 : t.f2 <;> cases hu2 : u.f2
  · refine (less_ff w A3 c3 A4 c4 B3 d3 B4 d4 _ _ _ _ _ _ _ _ L hmerge R hkids).mono ?_
    rintro e w' ⟨rfl, hb⟩
    exact ⟨by simp, hb⟩
  · refine (less_ft w A3 c3 A4 c4 B3 d3 B4 d4 _ _ _ _ _ _ _ _ L hmerge R hkids).mono ?_
    rintro e w' ⟨rfl, hb⟩
    exact ⟨by simp, hb⟩
  · refine (less_tf w A3 c3 A4 c4 B3 d3 B4 d4 _ _ _ _ _ _ _ _ L).mono ?_
    rintro e w' ⟨rfl, hb⟩
    exact ⟨by simp, hb⟩
  · refine (less_tt w A3 c3 A4 c4 B3 d3 B4 d4 _ _ _ _ _ _ _ _ L hmerge R hkids).mono ?_
    rintro e w' ⟨rfl, hb⟩
    exact ⟨by simp, hb⟩
end Go.Proofs.YtadjekpfehjibaaGreatDoor.PEnv
namespace Go.Proofs.YtadjekpfehjibaaGreatDoor.PEnv
open Go.RowKit Go.Shelf Go.Lib Go.Proofs.YtadjekpfehjibaaGreatDoorW.PrintWords Go.Proofs.YtadjekpfehjibaaGreatDoorW.PrintLast Go.Proofs.YtadjekpfehjibaaGreatDoorW.PrintMore Go.Proofs.YtadjekpfehjibaaGreatDoor.PEnvJoins
def lessB (a b : S33) : Bool := lessT a.f1 b.f1
set_option maxHeartbeats 4000000 in
/-- env.Less$1. -/
theorem less1 : Bind2WordS 26 lessB := by
  intro a b sa sb A4 c4 A5 c5 B4 d4 B5 d5 w l4 g4 l5 g5 m4 q4 m5 q5
  have eF := enters_of Tryz.func27 (by kernel_rfl) rfl
  have hb1 : Below w.heap.size w (w.alloc (.cells #[.string a.f0, .int .i64 a.f1.f0, .bool a.f1.f1, .bool a.f1.f2, .slice A4 a.f1.f3.length c4, .slice A5 a.f1.f4.length c5] 33)) := (Below.refl _ w).alloc (Nat.le_refl _) _
  have hb2 : Below w.heap.size w ((w.alloc (.cells #[.string a.f0, .int .i64 a.f1.f0, .bool a.f1.f1, .bool a.f1.f2, .slice A4 a.f1.f3.length c4, .slice A5 a.f1.f4.length c5] 33)).alloc (.cells #[.string b.f0, .int .i64 b.f1.f0, .bool b.f1.f1, .bool b.f1.f2, .slice B4 b.f1.f3.length d4, .slice B5 b.f1.f4.length d5] 33)) := hb1.alloc (by simp) _
  have hcall := envLess a.f1 sa b.f1 sb A4 c4 A5 c5 B4 d4 B5 d5 ((w.alloc (.cells #[.string a.f0, .int .i64 a.f1.f0, .bool a.f1.f1, .bool a.f1.f2, .slice A4 a.f1.f3.length c4, .slice A5 a.f1.f4.length c5] 33)).alloc (.cells #[.string b.f0, .int .i64 b.f1.f0, .bool b.f1.f1, .bool b.f1.f2, .slice B4 b.f1.f3.length d4, .slice B5 b.f1.f4.length d5] 33)) l4 (Kd.C_below g4 hb2) l5 (Kd.C_below g5 hb2) m4 (Kd.C_below q4 hb2) m5 (Kd.C_below q5 hb2)
  clear g4 g5 q4 q5
  have fin : ∀ w', Below ((w.alloc (.cells #[.string a.f0, .int .i64 a.f1.f0, .bool a.f1.f1, .bool a.f1.f2, .slice A4 a.f1.f3.length c4, .slice A5 a.f1.f4.length c5] 33)).alloc (.cells #[.string b.f0, .int .i64 b.f1.f0, .bool b.f1.f1, .bool b.f1.f2, .slice B4 b.f1.f3.length d4, .slice B5 b.f1.f4.length d5] 33)).heap.size ((w.alloc (.cells #[.string a.f0, .int .i64 a.f1.f0, .bool a.f1.f1, .bool a.f1.f2, .slice A4 a.f1.f3.length c4, .slice A5 a.f1.f4.length c5] 33)).alloc (.cells #[.string b.f0, .int .i64 b.f1.f0, .bool b.f1.f1, .bool b.f1.f2, .slice B4 b.f1.f3.length d4, .slice B5 b.f1.f4.length d5] 33)) w' → Below w.heap.size w w' := fun w' h => hb2.trans (h.mono (by simp; omega))
  unfold lessB
  generalize lessT a.f1 b.f1 = R at *
  go_enter Tryz.func26, Tryz.ntmps26
  go_wp2_with (go_at_call 27; refine hcall.mono ?_; rintro e w' ⟨rfl, hb3⟩)
  go_ret
  exact ⟨rfl, fin _ hb3⟩
def lessE (a b : List S33) : Bool := bothE a b && all2 lessB a b
set_option maxHeartbeats 4000000 in
theorem envLessE (a b : List S33) (sa : ∀ k ∈ a, SmT k.f1) (sb : ∀ k ∈ b, SmT k.f1) (A : Option Addr) (c : Nat) (B : Option Addr) (d : Nat) (w : World) (hC : Kd.C k33 w A a.length a) (hD : Kd.C k33 w B b.length b) :
    Calls Tryz.prog 8 #[.slice A a.length c, .slice B b.length d] w fun e w' => e = .returned (.bool (lessE a b)) ∧ Below w.heap.size w w' := by
  have eg : ∀ args w, (callFunc 26 args).run Tryz.prog w = .ok (.enter 26 args) w := enters_of Tryz.func26 (by kernel_rfl) rfl
  have eR := enters_of Tryz.func24 (by kernel_rfl) rfl
  have eE := enters_of Tryz.func25 (by kernel_rfl) rfl
  have r1 := envBoth a b A c B d w hC hD
  have r3 : ∀ W, Below w.heap.size w W → Calls Tryz.prog 25 #[.slice A a.length c, .slice B b.length d, .func (.func 26) #[] #[]] W fun e w' => e = .returned (.bool (all2 lessB a b)) ∧ Below W.heap.size W w' := fun W hW =>
    eqBindsS 26 eg lessB a b less1 sa sb A c B d W (Kd.C_below hC hW) (Kd.C_below hD hW)
  have hf : lessE a b = (bothE a b && all2 lessB a b) := rfl
  clear hC hD
  cases h1 : bothE a b with
  | false =>
    rw [h1] at r1 hf
    have hf2 : lessE a b = false := by rw [hf]; rfl
    clear h1 hf r3
    go_enter Tryz.func8, Tryz.ntmps8
    go_wp2_with (go_at_call 24; refine r1.mono ?_; clear r1; rintro e w1 ⟨rfl, hb1⟩)
    go_ret
    exact ⟨by first | rfl | (rw [hf2]; rfl), hb1⟩
  | true =>
    rw [h1] at r1 hf
    have hf2 : lessE a b = all2 lessB a b := by rw [hf]; rfl
    clear h1 hf
    go_enter Tryz.func8, Tryz.ntmps8
    go_wp2_with (first
      | (go_at_call 24; refine r1.mono ?_; clear r1; rintro e w1 ⟨rfl, hb1⟩; have r3' := r3 w1 hb1; clear r3)
      | (go_at_call 25; refine r3'.mono ?_; clear r3'; rintro e w3 ⟨rfl, hb3⟩))
    go_ret
    exact ⟨by first | rfl | (rw [hf2]; rfl), hb1.trans (hb3.mono hb1.size)⟩
end Go.Proofs.YtadjekpfehjibaaGreatDoor.PEnv
namespace Go.Proofs.YtadjekpfehjibaaGreatDoor.PEnv
open Go.RowKit Go.Shelf Go.Proofs.YtadjekpfehjibaaGreatDoorW.PrintWords Go.Proofs.YtadjekpfehjibaaGreatDoorW.PrintLast Go.Proofs.YtadjekpfehjibaaGreatDoorW.PrintMore Go.Proofs.YtadjekpfehjibaaGreatDoor.PEnvJoins
/-- Each loan is less than all behind it. -/
def Rises (l : List S44) : Prop := l.Pairwise (fun x y => cmpLoan x y < 0)
theorem lt_irr (x : S44) : ¬ cmpLoan x x < 0 := by rw [cm_Loan.refl]; decide
theorem lt_asym {x y : S44} (h : cmpLoan x y < 0) : ¬ cmpLoan y x < 0 := by have := cm_Loan.flip x y; omega
theorem lt_trans' {x y z : S44} (h : cmpLoan x y < 0) (k : cmpLoan y z < 0) : cmpLoan x z < 0 := cm_Loan.lt_le h (by omega)
theorem lt_or {x y : S44} (h : x ≠ y) : cmpLoan x y < 0 ∨ cmpLoan y x < 0 := by
  have a := cm_Loan.flip x y
  have b := cm_Loan.flip y x
  by_cases e : cmpLoan x y = 0
  · exact absurd (cmpLoan_zero e) h
  · omega
theorem risingFrom_some : ∀ (l : List S44) (q : S44), risingFrom (some q) l = true ↔ (∀ x ∈ l, loanOK x = true) ∧ Rises (q :: l)
  | [], q => by simp [risingFrom, Rises]
  | x :: xs, q => by
    have ih := risingFrom_some xs x
    simp only [risingFrom, Bool.and_eq_true, decide_eq_true_eq, ih, List.mem_cons, Rises, List.pairwise_cons]
    constructor
    · rintro ⟨⟨h1, h2⟩, h3, h4, h5⟩
      refine ⟨?_, ?_, h4, h5⟩
      · rintro y (rfl | hy)
        · exact h1
        · exact h3 y hy
      · rintro y (rfl | hy)
        · exact h2
        · exact lt_trans' h2 (h4 y hy)
    · rintro ⟨h1, h2, h3, h4⟩
      exact ⟨⟨h1 x (.inl rfl), h2 x (.inl rfl)⟩, fun y hy => h1 y (.inr hy), h3, h4⟩
theorem risingB_iff (l : List S44) : risingB l = true ↔ (∀ x ∈ l, loanOK x = true) ∧ Rises l := by
  cases l with
  | nil => simp [risingB, risingFrom, Rises]
  | cons x xs =>
    have := risingFrom_some xs x
    simp only [risingB, risingFrom, Bool.and_eq_true, this, List.mem_cons]
    constructor
    · rintro ⟨h1, h2, h3⟩
      exact ⟨by rintro y (rfl | hy); exact h1; exact h2 y hy, h3⟩
    · rintro ⟨h1, h2⟩
      exact ⟨h1 x (.inl rfl), fun y hy => h1 y (.inr hy), h2⟩
theorem rises_sub : ∀ (m l : List S44), Rises l → Rises m → (∀ x ∈ l, x ∈ m) → l.Sublist m
  | [], l, _, _, h => by
    cases l with
    | nil => exact List.Sublist.refl _
    | cons x xs => exact absurd (h x List.mem_cons_self) (by simp)
  | y :: m, l, hl, hm, h => by
    cases l with
    | nil => exact List.nil_sublist _
    | cons x l =>
      unfold Rises at hl hm
      rw [List.pairwise_cons] at hl hm
      by_cases e : x = y
      · subst e
        refine List.Sublist.cons_cons _ (rises_sub m l hl.2 hm.2 fun z hz => ?_)
        rcases List.mem_cons.mp (h z (List.mem_cons_of_mem _ hz)) with rfl | h1
        · exact absurd (hl.1 z hz) (lt_irr z)
        · exact h1
      · have hx : x ∈ m := by
          rcases List.mem_cons.mp (h x List.mem_cons_self) with h1 | h1
          · exact absurd h1 e
          · exact h1
        refine List.Sublist.cons _ (rises_sub m (x :: l) (List.pairwise_cons.mpr hl) hm.2 fun z hz => ?_)
        rcases List.mem_cons.mp (h z hz) with rfl | h1
        · rcases List.mem_cons.mp hz with rfl | hz
          · exact hx
          · exact absurd (hl.1 z hz) (lt_asym (hm.1 x hx))
        · exact h1
theorem rises_eq {l m : List S44} (hl : Rises l) (hm : Rises m) (h : ∀ x, x ∈ l ↔ x ∈ m) : l = m :=
  let s1 := rises_sub m l hl hm fun x hx => (h x).mp hx
  let s2 := rises_sub l m hm hl fun x hx => (h x).mpr hx
  s1.eq_of_length (Nat.le_antisymm s1.length_le s2.length_le)
theorem keepL_mem : ∀ (r : List S44) (x y : S44), y ∈ x :: keepL x r ↔ y ∈ x :: r
  | [], x, y => by simp [keepL]
  | z :: r, x, y => by
    have ih := keepL_mem r z y
    rw [keepL]
    by_cases h : cmpLoan z x = 0
    · have e := cmpLoan_zero h
      subst e
      rw [if_pos h]
      simp only [List.mem_cons] at ih ⊢
      rw [ih]
      simp
    · rw [if_neg h]
      simp only [List.mem_cons] at ih ⊢
      rw [ih]
theorem keepL_rises : ∀ (r : List S44) (x : S44), (x :: r).Pairwise (fun x y => ¬ cmpLoan y x < 0) → Rises (x :: keepL x r)
  | [], x, _ => by simp [keepL, Rises]
  | z :: r, x, h => by
    rw [List.pairwise_cons] at h
    have ih := keepL_rises r z h.2
    rw [keepL]
    by_cases hz : cmpLoan z x = 0
    · have e := cmpLoan_zero hz
      subst e
      rw [if_pos hz]
      exact ih
    · rw [if_neg hz]
      unfold Rises at ih ⊢
      rw [List.pairwise_cons]
      refine ⟨fun y hy => ?_, ih⟩
      have hy' := (keepL_mem r z y).mp hy
      have h1 := h.1 z List.mem_cons_self
      have h2 : cmpLoan x z < 0 := by
        have a := cm_Loan.flip x z
        have b := cm_Loan.flip z x
        omega
      rcases List.mem_cons.mp hy with rfl | hy2
      · exact h2
      · rw [List.pairwise_cons] at ih
        exact lt_trans' h2 (ih.1 y hy2)
theorem merged_spec (ls ms : List S44) : Rises (mergedL ls ms) ∧ ∀ x, x ∈ mergedL ls ms ↔ x ∈ ls ∨ x ∈ ms := by
  have h1 := List.pairwise_mergeSort (le := fun x y : S44 => decide (cmpLoan x y ≤ 0)) (fun a b c h1 h2 => decide_eq_true (cm_Loan.le a b c (of_decide_eq_true h1) (of_decide_eq_true h2)))
    (fun a b => by
      have f1 := cm_Loan.flip a b
      have f2 := cm_Loan.flip b a
      simp only [Bool.or_eq_true, decide_eq_true_eq]
      omega) (ls ++ ms)
  have h2 := List.mergeSort_perm (ls ++ ms) (fun x y : S44 => decide (cmpLoan x y ≤ 0))
  unfold mergedL
  generalize (ls ++ ms).mergeSort (fun x y : S44 => decide (cmpLoan x y ≤ 0)) = zs at *
  have h3 : zs.Pairwise (fun x y => ¬ cmpLoan y x < 0) := h1.imp (fun {x y} hxy => by
    have f1 := cm_Loan.flip x y
    have f2 := cm_Loan.flip y x
    have := of_decide_eq_true hxy
    omega)
  have h4 : ∀ x, x ∈ zs ↔ x ∈ ls ∨ x ∈ ms := fun x => by rw [h2.mem_iff, List.mem_append]
  cases zs with
  | nil => exact ⟨List.Pairwise.nil, fun x => by rw [compactL]; exact h4 x⟩
  | cons z r => exact ⟨keepL_rises r z h3, fun x => by rw [compactL, keepL_mem]; exact h4 x⟩
theorem hasL_iff (l : List S44) (x : S44) : hasL l x = true ↔ x ∈ l := by
  unfold hasL
  rw [List.any_eq_true]
  exact ⟨fun ⟨y, hy, h⟩ => by rw [← (sameL_iff y x).mp h]; exact hy, fun h => ⟨x, h, (sameL_iff x x).mpr rfl⟩⟩
/-- Is a list longer than one of its parts: then some loan is new. -/
theorem merged_len (ls ms : List S44) (hm : Rises ms) : decide (ms.length < (mergedL ls ms).length) = !(ls.all (fun x => hasL ms x)) := by
  obtain ⟨h1, h2⟩ := merged_spec ls ms
  have hs := rises_sub (mergedL ls ms) ms hm h1 (fun x hx => (h2 x).mpr (.inr hx))
  cases ha : ls.all (fun x => hasL ms x) with
  | true =>
    rw [List.all_eq_true] at ha
    have e : mergedL ls ms = ms := rises_eq h1 hm fun x => by
      rw [h2]
      exact ⟨fun h => h.elim (fun h => (hasL_iff ms x).mp (ha x h)) id, .inr⟩
    rw [e]
    simp
  | false =>
    have hne : ¬ ms.length = (mergedL ls ms).length := fun hl => by
      have e := hs.eq_of_length hl
      have : ls.all (fun x => hasL ms x) = true := List.all_eq_true.mpr fun x hx => (hasL_iff ms x).mpr (by
        have := (h2 x).mpr (.inl hx)
        rw [← e] at this
        exact this)
      rw [this] at ha
      cases ha
    have := hs.length_le
    simp
    omega
theorem rightT_rises {t : S31} (h : rightT t = true) : risingB t.f3 = true := by
  rw [rightT_eq] at h
  simp only [Bool.and_eq_true, Bool.not_eq_true'] at h
  have := h.1.1
  unfold headBad at this
  simp only [Bool.or_eq_false_iff, Bool.not_eq_false'] at this
  exact this.2
theorem rightT_kids {t : S31} (h : rightT t = true) : ∀ k ∈ t.f4, rightT k = true := by
  rw [rightT_eq] at h
  simp only [Bool.and_eq_true] at h
  have := h.1.2
  rw [rightL_all, List.all_eq_true] at this
  exact this
theorem fits_kids {t u : S31} (h : fitsT t u = true) : all2 fitsT t.f4 u.f4 = true := by
  rw [fitsT_eq] at h
  simp only [Bool.and_eq_true] at h
  exact h.2
theorem all2_congr {α : Type} {p q : α → α → Bool} : ∀ {ts us : List α}, (∀ (i : Nat) a b, ts[i]? = some a → us[i]? = some b → p a b = q a b) → all2 p ts us = all2 q ts us
  | [], [], _ => rfl
  | [], _ :: _, _ => rfl
  | _ :: _, [], _ => rfl
  | t :: ts, u :: us, h => by
    simp only [all2, h 0 t u rfl rfl]
    rw [all2_congr (ts := ts) (us := us) fun i a b ha hb => h (i + 1) a b (by simpa using ha) (by simpa using hb)]
/-- The program's less is the document's, at right types that fit. -/
theorem less_eq : ∀ t, ∀ u, rightT t = true → rightT u = true → fitsT t u = true → lessT t u = lessR t u := by
  refine tyInd fun t ih u ht hu hf => ?_
  have hk := fits_kids hf
  have e : all2 lessT t.f4 u.f4 = all2 lessR t.f4 u.f4 := all2_congr fun i a b ha hb => ih a (List.mem_of_getElem? ha) b (rightT_kids ht a (List.mem_of_getElem? ha)) (rightT_kids hu b (List.mem_of_getElem? hb)) (all2_at hk ha hb)
  rw [lessT_eq, lessR_eq, merged_len _ _ ((risingB_iff _).mp (rightT_rises hu)).2, e]
  cases t.f2 <;> cases u.f2 <;> cases (t.f3.all fun x => hasL u.f3 x) <;> cases all2 lessR t.f4 u.f4 <;> rfl
mutual
/-- The join of types that fit. -/
def joinT : S31 → S31 → S31
  | ⟨a, b, c, d, e⟩, u => ⟨a, b, c || u.f2, mergedL d u.f3, joinL e u.f4⟩
def joinL : List S31 → List S31 → List S31
  | t :: ts, u :: us => joinT t u :: joinL ts us
  | [], _ => []
  | _ :: _, [] => []
end
theorem joinT_eq (t u : S31) : joinT t u = ⟨t.f0, t.f1, t.f2 || u.f2, mergedL t.f3 u.f3, joinL t.f4 u.f4⟩ := by cases t; rfl
theorem joinL_length : ∀ (ts us : List S31), ts.length = us.length → (joinL ts us).length = ts.length
  | [], [], _ => rfl
  | [], _ :: _, h => by cases h
  | _ :: _, [], h => by cases h
  | t :: ts, u :: us, h => by rw [joinL, List.length_cons, joinL_length ts us (by simpa using h), List.length_cons]
theorem joinL_mem : ∀ (ts us : List S31) (k : S31), k ∈ joinL ts us → ∃ (i : Nat) (t u : S31), ts[i]? = some t ∧ us[i]? = some u ∧ k = joinT t u
  | [], _, k, h => by simp [joinL] at h
  | _ :: _, [], k, h => by simp [joinL] at h
  | t :: ts, u :: us, k, h => by
    rw [joinL] at h
    rcases List.mem_cons.mp h with rfl | h
    · exact ⟨0, t, u, rfl, rfl, rfl⟩
    · obtain ⟨i, a, b, ha, hb, hk⟩ := joinL_mem ts us k h
      exact ⟨i + 1, a, b, by simpa using ha, by simpa using hb, hk⟩
theorem joinL_get : ∀ (ts us : List S31) (i : Nat) (t u : S31), ts[i]? = some t → us[i]? = some u → (joinL ts us)[i]? = some (joinT t u)
  | [], _, i, t, u, h, _ => by simp at h
  | _ :: _, [], i, t, u, _, h => by simp at h
  | a :: ts, b :: us, 0, t, u, h, h' => by
    simp only [List.getElem?_cons_zero, Option.some.injEq] at h h'
    subst h h'
    rfl
  | a :: ts, b :: us, i + 1, t, u, h, h' => by
    rw [joinL, List.getElem?_cons_succ]
    exact joinL_get ts us i t u (by simpa using h) (by simpa using h')
theorem plain_join : ∀ t, ∀ u, fitsT t u = true → plainT t = true → plainT u = true → plainT (joinT t u) = true := by
  refine tyInd fun t ih u hf ht hu => ?_
  have hk := fits_kids hf
  unfold plainT at ht hu ⊢
  rw [partsT_eq, List.any_cons, Bool.not_or, Bool.and_eq_true] at ht hu ⊢
  rw [joinT_eq]
  refine ⟨?_, ?_⟩
  · have h1 := ht.1
    have h2 := hu.1
    unfold badT at h1 h2 ⊢
    simp only [Bool.not_eq_true', Bool.or_eq_false_iff] at h1 h2 ⊢
    exact ⟨h1.1, h1.2, h2.2⟩
  · have h1 := ht.2
    have h2 := hu.2
    simp only [Bool.not_eq_true', List.any_eq_false] at h1 h2 ⊢
    intro x hx
    obtain ⟨k, hk1, hk2⟩ := (mem_partsL x _).mp hx
    obtain ⟨i, a, b, ha, hb, rfl⟩ := joinL_mem _ _ k hk1
    have ma := List.mem_of_getElem? ha
    have mb := List.mem_of_getElem? hb
    have h3 := ih a ma b (all2_at hk ha hb) (by
      unfold plainT
      simp only [Bool.not_eq_true', List.any_eq_false]
      exact fun y hy => h1 y ((mem_partsL y _).mpr ⟨a, ma, hy⟩)) (by
      unfold plainT
      simp only [Bool.not_eq_true', List.any_eq_false]
      exact fun y hy => h2 y ((mem_partsL y _).mpr ⟨b, mb, hy⟩))
    unfold plainT at h3
    simp only [Bool.not_eq_true', List.any_eq_false] at h3
    exact h3 x hk2
theorem fits_heads {t u : S31} (h : fitsT t u = true) : t.f0 = u.f0 ∧ t.f1 = u.f1 := by
  rw [fitsT_eq] at h
  simp only [Bool.and_eq_true, decide_eq_true_eq, beq_iff_eq] at h
  exact h.1
/-- A join of right types that fit is right. -/
theorem right_join : ∀ t, ∀ u, rightT t = true → rightT u = true → fitsT t u = true → rightT (joinT t u) = true := by
  refine tyInd fun t ih u ht hu hf => ?_
  have hk := fits_kids hf
  have hlen := all2_length hk
  obtain ⟨e0, e1⟩ := fits_heads hf
  have rt := (risingB_iff _).mp (rightT_rises ht)
  have ru := (risingB_iff _).mp (rightT_rises hu)
  have hkids : ∀ k ∈ joinL t.f4 u.f4, rightT k = true := fun k hk1 => by
    obtain ⟨i, a, b, ha, hb, rfl⟩ := joinL_mem _ _ k hk1
    exact ih a (List.mem_of_getElem? ha) b (rightT_kids ht a (List.mem_of_getElem? ha)) (rightT_kids hu b (List.mem_of_getElem? hb)) (all2_at hk ha hb)
  obtain ⟨hm1, hm2⟩ := merged_spec t.f3 u.f3
  have hrise : risingB (mergedL t.f3 u.f3) = true := (risingB_iff _).mpr ⟨fun x hx => by
    rcases (hm2 x).mp hx with h | h
    · exact rt.1 x h
    · exact ru.1 x h, hm1⟩
  have hjl := joinL_length _ _ hlen
  rw [rightT_eq] at ht hu ⊢
  simp only [Bool.and_eq_true, Bool.not_eq_true'] at ht hu ⊢
  rw [joinT_eq]
  refine ⟨⟨?_, ?_⟩, ?_⟩
  · have h1 := ht.1.1
    have h2 := hu.1.1
    unfold headBad at h1 h2 ⊢
    simp only at h1 h2 ⊢
    rw [hrise]
    simp only [Bool.or_eq_false_iff, Bool.and_eq_false_iff, Bool.not_eq_false', Bool.not_true, and_true] at h1 h2 ⊢
    refine ⟨?_, ?_⟩
    · by_cases hk4 : t.f0 = 4
      · exact .inl (by first | exact hk4 | exact decide_eq_true hk4)
      · right
        rw [← e0, ← e1] at h2
        have h3 : t.f1 = false ∧ decide (0 < t.f3.length) = false := by
          rcases h1.1.1 with h3 | h3
          · exact absurd h3 (by simp [hk4])
          · exact h3
        have h4 : t.f1 = false ∧ decide (0 < u.f3.length) = false := by
          rcases h2.1.1 with h4 | h4
          · exact absurd h4 (by simp [hk4])
          · exact h4
        have a1 : t.f3 = [] := List.length_eq_zero_iff.mp (by have := of_decide_eq_false h3.2; omega)
        have a2 : u.f3 = [] := List.length_eq_zero_iff.mp (by have := of_decide_eq_false h4.2; omega)
        have a3 : mergedL t.f3 u.f3 = [] := by
          refine List.eq_nil_iff_forall_not_mem.mpr fun x hx => ?_
          rcases (hm2 x).mp hx with h | h
          · rw [a1] at h; cases h
          · rw [a2] at h; cases h
        rw [a3]
        exact ⟨h3.1, rfl⟩
    · rcases h1.1.2 with (h3 | h3) | h3
      · exact .inl (.inl h3)
      · rw [← e0, ← e1] at h2
        rcases h2.1.2 with (h4 | h4) | h4
        · exact .inl (.inl h4)
        · exact .inl (.inr ⟨h3, h4⟩)
        · exact .inr h4
      · exact .inr h3
  · rw [rightL_all, List.all_eq_true]
    exact hkids
  · have h1 := ht.2
    have h2 := hu.2
    unfold tailOK at h1 h2 ⊢
    simp only
    rw [← e0, ← hlen] at h2
    by_cases k1 : t.f0 = 1
    · rw [if_pos k1] at h1 h2 ⊢
      rw [hjl]
      simp only [Bool.and_eq_true, Bool.not_eq_true', Bool.or_eq_false_iff] at h1 h2 ⊢
      exact ⟨h1.1, h1.2, h2.2⟩
    · rw [if_neg k1] at h1 h2 ⊢
      by_cases k3 : t.f0 = 3
      · rw [if_pos k3] at h1 h2 ⊢
        rw [hjl]
        simp only [Bool.and_eq_true, Bool.not_eq_true', Bool.or_eq_false_iff] at h1 h2 ⊢
        exact ⟨h1.1, h1.2, h2.2⟩
      · rw [if_neg k3] at h1 h2 ⊢
        rw [hjl]
        simp only [Bool.and_eq_true] at h1 h2 ⊢
        refine ⟨h1.1, ?_⟩
        have g1 := h1.2
        have g2 := h2.2
        cases ht4 : t.f4 with
        | nil => rfl
        | cons k ks =>
          cases hu4 : u.f4 with
          | nil => rfl
          | cons k' ks' =>
            rw [ht4] at g1 hk
            rw [hu4] at g2 hk
            exact plain_join k k' (all2_at hk (i := 0) rfl rfl) g1 g2
end Go.Proofs.YtadjekpfehjibaaGreatDoor.PEnv
