/- slices.EqualFunc, env.Fits and env.both, at every input. -/
import Derived.Test.YtadjekpfehjibaaKh

namespace Go.Proofs.Ytadjekpfehjibaa.PEnv
open Go.RowKit Go.Shelf Go.Proofs.YtadjekpfehjibaaW.PrintWords Go.Proofs.YtadjekpfehjibaaW.PrintLast Go.Proofs.YtadjekpfehjibaaW.PrintMore Go.Proofs.Ytadjekpfehjibaa.PEnvHits
set_option linter.unusedVariables false
set_option linter.unusedSimpArgs false

/-- The cells of a type; of a bind. -/
def TyCells (cs : List Value) : Prop := ∃ (f0 : Int) (f1 f2 : Bool) (A3 : Option Addr) (n3 c3 : Nat) (A4 : Option Addr) (n4 c4 : Nat), cs = [.int .i64 f0, .bool f1, .bool f2, .slice A3 n3 c3, .slice A4 n4 c4]
def BindCells (cs : List Value) : Prop := ∃ (s : ByteArray) (f0 : Int) (f1 f2 : Bool) (A3 : Option Addr) (n3 c3 : Nat) (A4 : Option Addr) (n4 c4 : Nat), cs = [.string s, .int .i64 f0, .bool f1, .bool f2, .slice A3 n3 c3, .slice A4 n4 c4]

set_option maxRecDepth 100000 in
set_option maxHeartbeats 4000000 in
theorem eqTy (g : Nat) (lb : Array Value) (eg : ∀ args w, (callFunc g args).run Try.prog w = .ok (.enter g args) w) (A B : Option Addr) (n c m d : Nat) (vs us : List (List Value)) (w0 w : World) (Inv Out : Nat → World → Prop)
    (hv : Els 5 w0 A n vs) (hu : Els 5 w0 B m us) (hvc : ∀ (j : Nat) cs, vs[j]? = some cs → TyCells cs) (huc : ∀ (j : Nat) cs, us[j]? = some cs → TyCells cs) (hB : ∀ i W, Inv i W → Below w0.heap.size w0 W) (hI : ∀ i W W', Inv i W → Below W.heap.size W W' → Inv i W')
    (hs : ∀ (i : Nat) (cs ds : List Value) (W : World), vs[i]? = some cs → us[i]? = some ds → Inv i W → Calls Try.prog g (#[.agg cs.toArray, .agg ds.toArray] ++ lb) W fun e W' => (e = .returned (.bool true) ∧ Inv (i + 1) W') ∨ (e = .returned (.bool false) ∧ Out i W'))
    (h0 : Inv 0 w) :
    Calls Try.prog 48 #[.slice A n c, .slice B m d, .func (.func g) #[] lb] w fun e w' =>
      (e = .returned (.bool true) ∧ n = m ∧ Inv n w') ∨ (e = .returned (.bool false) ∧ (n ≠ m ∧ Inv 0 w' ∨ ∃ k, k < n ∧ n = m ∧ Out k w')) := by
  have hbig := hv.2.1
  have hbig2 := hu.2.1
  by_cases hnm : n = m
  · subst hnm
    go_enter Try.func48, Try.ntmps48
    go_wp2
    go_loopg [17] n (fun gg s17 wr => ∃ kk : Nat, kk ≤ n ∧ n - kk ≤ gg ∧ s17 = .int .i64 kk ∧ Aside (Inv kk wr))
    case atStart => exact ⟨0, Nat.zero_le _, by omega, rfl, h0⟩
    case round =>
      obtain ⟨kk, hkk, hg, rfl, BW⟩ := hrel
      by_cases hlt : kk < n
      · have hltz : (kk : Int) < (n : Int) := by omega
        obtain ⟨ad, rfl, _⟩ := hv.2.2.2 (by omega)
        obtain ⟨bd, rfl, _⟩ := hu.2.2.2 (by omega)
        obtain ⟨cs, hcs⟩ : ∃ cs, vs[kk]? = some cs := ⟨_, List.getElem?_eq_getElem (by rw [hv.1]; exact hlt)⟩
        obtain ⟨ds, hds⟩ : ∃ ds, us[kk]? = some ds := ⟨_, List.getElem?_eq_getElem (by rw [hu.1]; exact hlt)⟩
        obtain ⟨xf0, xf1, xf2, xA3, xn3, xc3, xA4, xn4, xc4, rfl⟩ := hvc kk cs hcs
        obtain ⟨yf0, yf1, yf2, yA3, yn3, yc3, yA4, yn4, yc4, rfl⟩ := huc kk ds hds
        have hb0 := hB kk wr BW.out
        have l0 := hv.cell0 hb0 kk _ hcs _ rfl
        have l1 := hv.cellS hb0 kk _ hcs 1 _ (by omega) rfl
        have l2 := hv.cellS hb0 kk _ hcs 2 _ (by omega) rfl
        have l3 := hv.cellS hb0 kk _ hcs 3 _ (by omega) rfl
        have l4 := hv.cellS hb0 kk _ hcs 4 _ (by omega) rfl
        have hb1 : Below wr.heap.size wr (wr.alloc (.cells #[.int .i64 xf0, .bool xf1, .bool xf2, .slice xA3 xn3 xc3, .slice xA4 xn4 xc4] 37)) := (Below.refl _ wr).alloc (Nat.le_refl _) _
        have hb0' := hb0.trans (hb1.mono hb0.size)
        have k0 := hu.cell0 hb0' kk _ hds _ rfl
        have k1 := hu.cellS hb0' kk _ hds 1 _ (by omega) rfl
        have k2 := hu.cellS hb0' kk _ hds 2 _ (by omega) rfl
        have k3 := hu.cellS hb0' kk _ hds 3 _ (by omega) rfl
        have k4 := hu.cellS hb0' kk _ hds 4 _ (by omega) rfl
        have hb2 : Below wr.heap.size wr ((wr.alloc (.cells #[.int .i64 xf0, .bool xf1, .bool xf2, .slice xA3 xn3 xc3, .slice xA4 xn4 xc4] 37)).alloc (.cells #[.int .i64 yf0, .bool yf1, .bool yf2, .slice yA3 yn3 yc3, .slice yA4 yn4 yc4] 37)) := hb1.alloc (by simp) _
        have hcall := hs kk _ _ _ hcs hds (hI kk wr _ BW.out hb2)
        clear hs hv hu hvc huc hB hI hb0 hb0' hb1 hb2
        go_wp2_with (go_at_fn g; refine hcall.mono ?_; rintro e w' (⟨rfl, hi⟩ | ⟨rfl, ho⟩))
        · go_roundg (n - (kk + 1))
          case measure => omega
          case rel => exact ⟨kk + 1, by omega, by omega, by go_num, hi⟩
        · go_ret
          first | exact .inr ⟨rfl, .inr ⟨kk, hlt, rfl, ho⟩⟩ | exact .inr ⟨rfl, .inr ⟨kk, hlt, ho⟩⟩ | exact .inr ⟨rfl, kk, hlt, ho⟩ | (refine .inr ⟨rfl, ?_⟩; simp; exact ⟨kk, hlt, ho⟩)
      · have hltz : ¬ (kk : Int) < (n : Int) := by omega
        have : kk = n := by omega
        subst this
        go_wp2
        go_ret
        first | exact .inl ⟨rfl, rfl, BW.out⟩ | exact .inl ⟨rfl, BW.out⟩
  · have hnm1 : ((n : Int) != (m : Int)) = true := bne_iff_ne.mpr (by omega)
    have hnm2 : (n != m) = true := bne_iff_ne.mpr hnm
    have hnm3 : (n == m) = false := beq_eq_false_iff_ne.mpr hnm
    go_enter Try.func48, Try.ntmps48
    go_wp2
    go_ret
    exact .inr ⟨rfl, .inl ⟨hnm, h0⟩⟩

set_option maxRecDepth 100000 in
set_option maxHeartbeats 4000000 in
theorem eqBind (g : Nat) (lb : Array Value) (eg : ∀ args w, (callFunc g args).run Try.prog w = .ok (.enter g args) w) (A B : Option Addr) (n c m d : Nat) (vs us : List (List Value)) (w0 w : World) (Inv Out : Nat → World → Prop)
    (hv : Els 6 w0 A n vs) (hu : Els 6 w0 B m us) (hvc : ∀ (j : Nat) cs, vs[j]? = some cs → BindCells cs) (huc : ∀ (j : Nat) cs, us[j]? = some cs → BindCells cs) (hB : ∀ i W, Inv i W → Below w0.heap.size w0 W) (hI : ∀ i W W', Inv i W → Below W.heap.size W W' → Inv i W')
    (hs : ∀ (i : Nat) (cs ds : List Value) (W : World), vs[i]? = some cs → us[i]? = some ds → Inv i W → Calls Try.prog g (#[.agg cs.toArray, .agg ds.toArray] ++ lb) W fun e W' => (e = .returned (.bool true) ∧ Inv (i + 1) W') ∨ (e = .returned (.bool false) ∧ Out i W'))
    (h0 : Inv 0 w) :
    Calls Try.prog 30 #[.slice A n c, .slice B m d, .func (.func g) #[] lb] w fun e w' =>
      (e = .returned (.bool true) ∧ n = m ∧ Inv n w') ∨ (e = .returned (.bool false) ∧ (n ≠ m ∧ Inv 0 w' ∨ ∃ k, k < n ∧ n = m ∧ Out k w')) := by
  have hbig := hv.2.1
  have hbig2 := hu.2.1
  by_cases hnm : n = m
  · subst hnm
    go_enter Try.func30, Try.ntmps30
    go_wp2
    go_loopg [17] n (fun gg s17 wr => ∃ kk : Nat, kk ≤ n ∧ n - kk ≤ gg ∧ s17 = .int .i64 kk ∧ Aside (Inv kk wr))
    case atStart => exact ⟨0, Nat.zero_le _, by omega, rfl, h0⟩
    case round =>
      obtain ⟨kk, hkk, hg, rfl, BW⟩ := hrel
      by_cases hlt : kk < n
      · have hltz : (kk : Int) < (n : Int) := by omega
        obtain ⟨ad, rfl, _⟩ := hv.2.2.2 (by omega)
        obtain ⟨bd, rfl, _⟩ := hu.2.2.2 (by omega)
        obtain ⟨cs, hcs⟩ : ∃ cs, vs[kk]? = some cs := ⟨_, List.getElem?_eq_getElem (by rw [hv.1]; exact hlt)⟩
        obtain ⟨ds, hds⟩ : ∃ ds, us[kk]? = some ds := ⟨_, List.getElem?_eq_getElem (by rw [hu.1]; exact hlt)⟩
        obtain ⟨xs, xf0, xf1, xf2, xA3, xn3, xc3, xA4, xn4, xc4, rfl⟩ := hvc kk cs hcs
        obtain ⟨ys, yf0, yf1, yf2, yA3, yn3, yc3, yA4, yn4, yc4, rfl⟩ := huc kk ds hds
        have hb0 := hB kk wr BW.out
        have l0 := hv.cell0 hb0 kk _ hcs _ rfl
        have l1 := hv.cellS hb0 kk _ hcs 1 _ (by omega) rfl
        have l2 := hv.cellS hb0 kk _ hcs 2 _ (by omega) rfl
        have l3 := hv.cellS hb0 kk _ hcs 3 _ (by omega) rfl
        have l4 := hv.cellS hb0 kk _ hcs 4 _ (by omega) rfl
        have l5 := hv.cellS hb0 kk _ hcs 5 _ (by omega) rfl
        have hb1 : Below wr.heap.size wr (wr.alloc (.cells #[.string xs, .int .i64 xf0, .bool xf1, .bool xf2, .slice xA3 xn3 xc3, .slice xA4 xn4 xc4] 39)) := (Below.refl _ wr).alloc (Nat.le_refl _) _
        have hb0' := hb0.trans (hb1.mono hb0.size)
        have k0 := hu.cell0 hb0' kk _ hds _ rfl
        have k1 := hu.cellS hb0' kk _ hds 1 _ (by omega) rfl
        have k2 := hu.cellS hb0' kk _ hds 2 _ (by omega) rfl
        have k3 := hu.cellS hb0' kk _ hds 3 _ (by omega) rfl
        have k4 := hu.cellS hb0' kk _ hds 4 _ (by omega) rfl
        have k5 := hu.cellS hb0' kk _ hds 5 _ (by omega) rfl
        have hb2 : Below wr.heap.size wr ((wr.alloc (.cells #[.string xs, .int .i64 xf0, .bool xf1, .bool xf2, .slice xA3 xn3 xc3, .slice xA4 xn4 xc4] 39)).alloc (.cells #[.string ys, .int .i64 yf0, .bool yf1, .bool yf2, .slice yA3 yn3 yc3, .slice yA4 yn4 yc4] 39)) := hb1.alloc (by simp) _
        have hcall := hs kk _ _ _ hcs hds (hI kk wr _ BW.out hb2)
        clear hs hv hu hvc huc hB hI hb0 hb0' hb1 hb2
        go_wp2_with (go_at_fn g; refine hcall.mono ?_; rintro e w' (⟨rfl, hi⟩ | ⟨rfl, ho⟩))
        · go_roundg (n - (kk + 1))
          case measure => omega
          case rel => exact ⟨kk + 1, by omega, by omega, by go_num, hi⟩
        · go_ret
          first | exact .inr ⟨rfl, .inr ⟨kk, hlt, rfl, ho⟩⟩ | exact .inr ⟨rfl, .inr ⟨kk, hlt, ho⟩⟩ | exact .inr ⟨rfl, kk, hlt, ho⟩ | (refine .inr ⟨rfl, ?_⟩; simp; exact ⟨kk, hlt, ho⟩)
      · have hltz : ¬ (kk : Int) < (n : Int) := by omega
        have : kk = n := by omega
        subst this
        go_wp2
        go_ret
        first | exact .inl ⟨rfl, rfl, BW.out⟩ | exact .inl ⟨rfl, BW.out⟩
  · have hnm1 : ((n : Int) != (m : Int)) = true := bne_iff_ne.mpr (by omega)
    have hnm2 : (n != m) = true := bne_iff_ne.mpr hnm
    have hnm3 : (n == m) = false := beq_eq_false_iff_ne.mpr hnm
    go_enter Try.func30, Try.ntmps30
    go_wp2
    go_ret
    exact .inr ⟨rfl, .inl ⟨hnm, h0⟩⟩

end Go.Proofs.Ytadjekpfehjibaa.PEnv

namespace Go.Proofs.Ytadjekpfehjibaa.PEnv
open Go.RowKit Go.Shelf Go.Proofs.YtadjekpfehjibaaW.PrintWords Go.Proofs.YtadjekpfehjibaaW.PrintLast Go.Proofs.YtadjekpfehjibaaW.PrintMore Go.Proofs.Ytadjekpfehjibaa.PEnvHits
set_option linter.unusedVariables false
set_option linter.unusedSimpArgs false

/-- Do two lists agree, element by element? -/
def all2 {α : Type} (p : α → α → Bool) : List α → List α → Bool
  | [], [] => true
  | t :: ts, u :: us => p t u && all2 p ts us
  | _, _ => false
theorem all2_len {α : Type} {p : α → α → Bool} : ∀ {ts us : List α}, ts.length ≠ us.length → all2 p ts us = false
  | [], [], h => absurd rfl h
  | [], _ :: _, _ => rfl
  | _ :: _, [], _ => rfl
  | t :: ts, u :: us, h => by
    simp only [all2, all2_len (ts := ts) (us := us) (fun e => h (by simp [e])), Bool.and_false]
theorem all2_true {α : Type} {p : α → α → Bool} : ∀ {ts us : List α}, ts.length = us.length → (∀ (j : Nat) a b, ts[j]? = some a → us[j]? = some b → p a b = true) → all2 p ts us = true
  | [], [], _, _ => rfl
  | [], _ :: _, h, _ => by cases h
  | _ :: _, [], h, _ => by cases h
  | t :: ts, u :: us, h, hp => by
    simp only [all2, hp 0 t u rfl rfl, Bool.true_and]
    exact all2_true (by simpa using h) (fun j a b ha hb => hp (j + 1) a b (by simpa using ha) (by simpa using hb))
theorem all2_false {α : Type} {p : α → α → Bool} : ∀ {ts us : List α} {j : Nat} {a b : α}, ts[j]? = some a → us[j]? = some b → p a b = false → all2 p ts us = false
  | [], _, j, a, b, ha, _, _ => by simp at ha
  | _ :: _, [], j, a, b, _, hb, _ => by simp at hb
  | t :: ts, u :: us, 0, a, b, ha, hb, h => by
    simp only [List.getElem?_cons_zero, Option.some.injEq] at ha hb
    subst ha
    subst hb
    simp [all2, h]
  | t :: ts, u :: us, j + 1, a, b, ha, hb, h => by
    simp only [all2, all2_false (ts := ts) (us := us) (j := j) (by simpa using ha) (by simpa using hb) h, Bool.and_false]

mutual
def fitsT : S37 → S37 → Bool
  | ⟨a, b, _, _, e⟩, u => (decide (a = u.f0) && (b == u.f1)) && fitsL e u.f4
def fitsL : List S37 → List S37 → Bool
  | [], [] => true
  | t :: ts, u :: us => fitsT t u && fitsL ts us
  | [], _ :: _ => false
  | _ :: _, [] => false
end
theorem fitsL_all2 : ∀ ts us, fitsL ts us = all2 fitsT ts us
  | [], [] => rfl
  | [], _ :: _ => rfl
  | _ :: _, [] => rfl
  | t :: ts, u :: us => by
    show (fitsT t u && fitsL ts us) = (fitsT t u && all2 fitsT ts us)
    rw [fitsL_all2 ts us]
theorem fitsT_eq (t u : S37) : fitsT t u = ((decide (t.f0 = u.f0) && (t.f1 == u.f1)) && all2 fitsT t.f4 u.f4) := by
  cases t
  show (_ && fitsL _ _) = _
  rw [fitsL_all2]

/-- A callee's word on two types. -/
def Ty2Word (f : Nat) (ans : S37 → S37 → Bool) (t : S37) : Prop :=
  ∀ (u : S37) (A3 : Option Addr) (c3 : Nat) (A4 : Option Addr) (c4 : Nat) (B3 : Option Addr) (d3 : Nat) (B4 : Option Addr) (d4 : Nat) (w : World),
    t.f3.length ≤ c3 → Kd.C k27 w A3 t.f3.length t.f3 → t.f4.length ≤ c4 → Kd.C k37 w A4 t.f4.length t.f4 →
    u.f3.length ≤ d3 → Kd.C k27 w B3 u.f3.length u.f3 → u.f4.length ≤ d4 → Kd.C k37 w B4 u.f4.length u.f4 →
    Calls Try.prog f #[.agg #[.int .i64 t.f0, .bool t.f1, .bool t.f2, .slice A3 t.f3.length c3, .slice A4 t.f4.length c4], .agg #[.int .i64 u.f0, .bool u.f1, .bool u.f2, .slice B3 u.f3.length d3, .slice B4 u.f4.length d4]] w fun e w' =>
      e = .returned (.bool (ans t u)) ∧ Below w.heap.size w w'

/-- slices.EqualFunc of kids, at a function whose word is known. -/
theorem eqKids (f : Nat) (eg : ∀ args w, (callFunc f args).run Try.prog w = .ok (.enter f args) w) (ans : S37 → S37 → Bool) (ts us : List S37) (h : ∀ k ∈ ts, Ty2Word f ans k) (A : Option Addr) (c : Nat) (B : Option Addr) (d : Nat) (W : World)
    (hC : Kd.C k37 W A ts.length ts) (hD : Kd.C k37 W B us.length us) :
    Calls Try.prog 48 #[.slice A ts.length c, .slice B us.length d, .func (.func f) #[] #[]] W fun e W' => e = .returned (.bool (all2 ans ts us)) ∧ Below W.heap.size W W' := by
  obtain ⟨vs, hv, hvK⟩ := els_of_C hC
  obtain ⟨xs, hx, hxK⟩ := els_of_C hD
  have form : ∀ {n : Nat} {ys : List (List Value)} {B : Option Addr} {zs : List S37}, Els 5 W B n ys → zs.length = n → (∀ (i : Nat) x, zs[i]? = some x → ∃ cs, ys[i]? = some cs ∧ k37.K W x cs) → ∀ (j : Nat) cs, ys[j]? = some cs → TyCells cs := by
    intro n ys B zs he hz hK j cs hj
    have hl : j < zs.length := by have := idx_lt hj; have := he.1; omega
    obtain ⟨cs', e, hk⟩ := hK j _ (List.getElem?_eq_getElem hl)
    rw [hj] at e
    cases e
    obtain ⟨A3, c3, A4, c4, rfl, _⟩ := k37_open hk
    exact ⟨_, _, _, _, _, _, _, _, _, rfl⟩
  refine (eqTy f #[] eg A B ts.length c us.length d vs xs W W (fun i W' => Below W.heap.size W W' ∧ ∀ (j : Nat) a b, j < i → ts[j]? = some a → us[j]? = some b → ans a b = true) (fun i W' => Below W.heap.size W W' ∧ ∃ a b, ts[i]? = some a ∧ us[i]? = some b ∧ ans a b = false)
    hv hx (form hv rfl hvK) (form hx rfl hxK) (fun i W' h => h.1) (fun i W1 W2 h hb => ⟨h.1.trans (hb.mono h.1.size), h.2⟩) ?_ ⟨Below.refl _ _, fun j a b hj => absurd hj (Nat.not_lt_zero _)⟩).mono ?_
  · rintro i cs ds W1 hi hj ⟨hb, hn⟩
    have hl : i < ts.length := by have := idx_lt hi; have := hv.1; omega
    have hm : i < us.length := by have := idx_lt hj; have := hx.1; omega
    obtain ⟨cs', e, hK⟩ := hvK i _ (List.getElem?_eq_getElem hl)
    rw [hi] at e
    cases e
    obtain ⟨ds', e, hL⟩ := hxK i _ (List.getElem?_eq_getElem hm)
    rw [hj] at e
    cases e
    obtain ⟨A3, c3, A4, c4, rfl, l3, g3, l4, g4⟩ := k37_open hK
    obtain ⟨B3, d3, B4, d4, rfl, m3, q3, m4, q4⟩ := k37_open hL
    refine (h ts[i] (List.getElem_mem hl) us[i] A3 c3 A4 c4 B3 d3 B4 d4 W1 l3 (Kd.C_below g3 hb) l4 (Kd.C_below g4 hb) m3 (Kd.C_below q3 hb) m4 (Kd.C_below q4 hb)).mono ?_
    rintro e W2 ⟨rfl, hb2⟩
    cases hh : ans ts[i] us[i] with
    | false => exact .inr ⟨rfl, hb.trans (hb2.mono hb.size), _, _, List.getElem?_eq_getElem hl, List.getElem?_eq_getElem hm, hh⟩
    | true =>
      refine .inl ⟨rfl, hb.trans (hb2.mono hb.size), fun j a b hj2 ha hb3 => ?_⟩
      by_cases hji : j = i
      · subst hji
        rw [List.getElem?_eq_getElem hl] at ha
        rw [List.getElem?_eq_getElem hm] at hb3
        cases ha
        cases hb3
        exact hh
      · exact hn j a b (by omega) ha hb3
  · rintro e W1 (⟨rfl, hnm, hb, hn⟩ | ⟨rfl, (⟨hnm, hb, _⟩ | ⟨k, hk, hnm, hb, a, b, ha, hb2, hh⟩)⟩)
    · exact ⟨by rw [all2_true hnm (fun j a b ha hb => hn j a b (idx_lt ha) ha hb)], hb⟩
    · exact ⟨by rw [all2_len hnm], hb⟩
    · exact ⟨by rw [all2_false ha hb2 hh], hb⟩

end Go.Proofs.Ytadjekpfehjibaa.PEnv

namespace Go.Proofs.Ytadjekpfehjibaa.PEnv
open Go.RowKit Go.Shelf Go.Proofs.YtadjekpfehjibaaW.PrintWords Go.Proofs.YtadjekpfehjibaaW.PrintLast Go.Proofs.YtadjekpfehjibaaW.PrintMore Go.Proofs.Ytadjekpfehjibaa.PEnvHits
set_option linter.unusedVariables false
set_option linter.unusedSimpArgs false

set_option maxHeartbeats 4000000 in
theorem fitsStep (t : S37) (hk : ∀ k ∈ t.f4, Ty2Word 46 fitsT k) : Ty2Word 46 fitsT t := by
  intro u A3 c3 A4 c4 B3 d3 B4 d4 w l3 g3 l4 g4 m3 q3 m4 q4
  have eg : ∀ args w, (callFunc 46 args).run Try.prog w = .ok (.enter 46 args) w := enters_of Try.func46 (by kernel_rfl) rfl
  have eE := enters_of Try.func48 (by kernel_rfl) rfl
  have hb1 : Below w.heap.size w (w.alloc (.cells #[.int .i64 t.f0, .bool t.f1, .bool t.f2, .slice A3 t.f3.length c3, .slice A4 t.f4.length c4] 37)) := (Below.refl _ w).alloc (Nat.le_refl _) _
  have hb2 : Below w.heap.size w ((w.alloc (.cells #[.int .i64 t.f0, .bool t.f1, .bool t.f2, .slice A3 t.f3.length c3, .slice A4 t.f4.length c4] 37)).alloc (.cells #[.int .i64 u.f0, .bool u.f1, .bool u.f2, .slice B3 u.f3.length d3, .slice B4 u.f4.length d4] 37)) := hb1.alloc (by simp) _
  have hcall := eqKids 46 eg fitsT t.f4 u.f4 hk A4 c4 B4 d4 ((w.alloc (.cells #[.int .i64 t.f0, .bool t.f1, .bool t.f2, .slice A3 t.f3.length c3, .slice A4 t.f4.length c4] 37)).alloc (.cells #[.int .i64 u.f0, .bool u.f1, .bool u.f2, .slice B3 u.f3.length d3, .slice B4 u.f4.length d4] 37)) (Kd.C_below g4 hb2) (Kd.C_below q4 hb2)
  have hf := fitsT_eq t u
  clear hk g3 g4 q3 q4
  have fin : ∀ w', Below ((w.alloc (.cells #[.int .i64 t.f0, .bool t.f1, .bool t.f2, .slice A3 t.f3.length c3, .slice A4 t.f4.length c4] 37)).alloc (.cells #[.int .i64 u.f0, .bool u.f1, .bool u.f2, .slice B3 u.f3.length d3, .slice B4 u.f4.length d4] 37)).heap.size ((w.alloc (.cells #[.int .i64 t.f0, .bool t.f1, .bool t.f2, .slice A3 t.f3.length c3, .slice A4 t.f4.length c4] 37)).alloc (.cells #[.int .i64 u.f0, .bool u.f1, .bool u.f2, .slice B3 u.f3.length d3, .slice B4 u.f4.length d4] 37)) w' → Below w.heap.size w w' := fun w' h => hb2.trans (h.mono (by simp; omega))
  by_cases h0 : t.f0 = u.f0
  · have h0b : (t.f0 == u.f0) = true := beq_iff_eq.mpr h0
    rw [decide_eq_true h0, Bool.true_and] at hf
    clear h0
    cases h1 : (t.f1 == u.f1) with
    | true =>
      have hf2 : fitsT t u = all2 fitsT t.f4 u.f4 := by rw [hf, h1]; rfl
      clear hf
      go_enter Try.func46, Try.ntmps46
      go_wp2_with (go_at_call 48; refine hcall.mono ?_; rintro e w' ⟨rfl, hb3⟩)
      go_ret
      exact ⟨by first | rfl | (rw [hf2]; rfl), fin _ hb3⟩
    | false =>
      have hf2 : fitsT t u = false := by rw [hf, h1]; rfl
      clear hf hcall
      go_enter Try.func46, Try.ntmps46
      go_wp2
      go_ret
      exact ⟨by first | rfl | (rw [hf2]; rfl), hb2⟩
  · have h0b : (t.f0 == u.f0) = false := beq_eq_false_iff_ne.mpr h0
    have hf2 : fitsT t u = false := by rw [hf, decide_eq_false h0]; rfl
    clear hf h0 hcall
    go_enter Try.func46, Try.ntmps46
    go_wp2
    go_ret
    exact ⟨by first | rfl | (rw [hf2]; rfl), hb2⟩

/-- env.Fits, at every two types. -/
theorem envFits (t : S37) : Ty2Word 46 fitsT t := by
  induction t using tyInd with
  | h t ih => exact fitsStep t ih

end Go.Proofs.Ytadjekpfehjibaa.PEnv

namespace Go.Proofs.Ytadjekpfehjibaa.PEnv
open Go.RowKit Go.Shelf Go.Proofs.YtadjekpfehjibaaW.PrintWords Go.Proofs.YtadjekpfehjibaaW.PrintLast Go.Proofs.YtadjekpfehjibaaW.PrintMore Go.Proofs.Ytadjekpfehjibaa.PEnvHits
set_option linter.unusedVariables false
set_option linter.unusedSimpArgs false

/-- A callee's word on two binds. -/
def Bind2Word (f : Nat) (ans : S39 → S39 → Bool) : Prop :=
  ∀ (a b : S39) (A4 : Option Addr) (c4 : Nat) (A5 : Option Addr) (c5 : Nat) (B4 : Option Addr) (d4 : Nat) (B5 : Option Addr) (d5 : Nat) (w : World),
    a.f1.f3.length ≤ c4 → Kd.C k27 w A4 a.f1.f3.length a.f1.f3 → a.f1.f4.length ≤ c5 → Kd.C k37 w A5 a.f1.f4.length a.f1.f4 →
    b.f1.f3.length ≤ d4 → Kd.C k27 w B4 b.f1.f3.length b.f1.f3 → b.f1.f4.length ≤ d5 → Kd.C k37 w B5 b.f1.f4.length b.f1.f4 →
    Calls Try.prog f #[.agg #[.string a.f0, .int .i64 a.f1.f0, .bool a.f1.f1, .bool a.f1.f2, .slice A4 a.f1.f3.length c4, .slice A5 a.f1.f4.length c5], .agg #[.string b.f0, .int .i64 b.f1.f0, .bool b.f1.f1, .bool b.f1.f2, .slice B4 b.f1.f3.length d4, .slice B5 b.f1.f4.length d5]] w fun e w' => e = .returned (.bool (ans a b)) ∧ Below w.heap.size w w'

def bothB (a b : S39) : Bool := decide (a.f0.toList = b.f0.toList) && fitsT a.f1 b.f1

set_option maxHeartbeats 4000000 in
/-- env.both$1. -/
theorem both1 : Bind2Word 45 bothB := by
  intro a b A4 c4 A5 c5 B4 d4 B5 d5 w l4 g4 l5 g5 m4 q4 m5 q5
  have eF := enters_of Try.func46 (by kernel_rfl) rfl
  have hb1 : Below w.heap.size w (w.alloc (.cells #[.string a.f0, .int .i64 a.f1.f0, .bool a.f1.f1, .bool a.f1.f2, .slice A4 a.f1.f3.length c4, .slice A5 a.f1.f4.length c5] 39)) := (Below.refl _ w).alloc (Nat.le_refl _) _
  have hb2 : Below w.heap.size w ((w.alloc (.cells #[.string a.f0, .int .i64 a.f1.f0, .bool a.f1.f1, .bool a.f1.f2, .slice A4 a.f1.f3.length c4, .slice A5 a.f1.f4.length c5] 39)).alloc (.cells #[.string b.f0, .int .i64 b.f1.f0, .bool b.f1.f1, .bool b.f1.f2, .slice B4 b.f1.f3.length d4, .slice B5 b.f1.f4.length d5] 39)) := hb1.alloc (by simp) _
  have hcall := envFits a.f1 b.f1 A4 c4 A5 c5 B4 d4 B5 d5 ((w.alloc (.cells #[.string a.f0, .int .i64 a.f1.f0, .bool a.f1.f1, .bool a.f1.f2, .slice A4 a.f1.f3.length c4, .slice A5 a.f1.f4.length c5] 39)).alloc (.cells #[.string b.f0, .int .i64 b.f1.f0, .bool b.f1.f1, .bool b.f1.f2, .slice B4 b.f1.f3.length d4, .slice B5 b.f1.f4.length d5] 39)) l4 (Kd.C_below g4 hb2) l5 (Kd.C_below g5 hb2) m4 (Kd.C_below q4 hb2) m5 (Kd.C_below q5 hb2)
  have hf : bothB a b = (decide (a.f0.toList = b.f0.toList) && fitsT a.f1 b.f1) := rfl
  clear g4 g5 q4 q5
  have fin : ∀ w', Below ((w.alloc (.cells #[.string a.f0, .int .i64 a.f1.f0, .bool a.f1.f1, .bool a.f1.f2, .slice A4 a.f1.f3.length c4, .slice A5 a.f1.f4.length c5] 39)).alloc (.cells #[.string b.f0, .int .i64 b.f1.f0, .bool b.f1.f1, .bool b.f1.f2, .slice B4 b.f1.f3.length d4, .slice B5 b.f1.f4.length d5] 39)).heap.size ((w.alloc (.cells #[.string a.f0, .int .i64 a.f1.f0, .bool a.f1.f1, .bool a.f1.f2, .slice A4 a.f1.f3.length c4, .slice A5 a.f1.f4.length c5] 39)).alloc (.cells #[.string b.f0, .int .i64 b.f1.f0, .bool b.f1.f1, .bool b.f1.f2, .slice B4 b.f1.f3.length d4, .slice B5 b.f1.f4.length d5] 39)) w' → Below w.heap.size w w' := fun w' h => hb2.trans (h.mono (by simp; omega))
  by_cases h0 : a.f0.toList = b.f0.toList
  · have h0b : (a.f0.toList == b.f0.toList) = true := beq_iff_eq.mpr h0
    rw [decide_eq_true h0, Bool.true_and] at hf
    clear h0
    go_enter Try.func45, Try.ntmps45
    go_wp2_with (go_at_call 46; refine hcall.mono ?_; rintro e w' ⟨rfl, hb3⟩)
    go_ret
    exact ⟨by first | rfl | (rw [hf]; rfl), fin _ hb3⟩
  · have h0b : (a.f0.toList == b.f0.toList) = false := by simpa using h0
    rw [decide_eq_false h0, Bool.false_and] at hf
    clear h0 hcall
    go_enter Try.func45, Try.ntmps45
    go_wp2
    go_ret
    exact ⟨by first | rfl | (rw [hf]; rfl), hb2⟩

/-- slices.EqualFunc of binds, at a function whose word is known. -/
theorem eqBinds (f : Nat) (eg : ∀ args w, (callFunc f args).run Try.prog w = .ok (.enter f args) w) (ans : S39 → S39 → Bool) (ts us : List S39) (h : Bind2Word f ans) (A : Option Addr) (c : Nat) (B : Option Addr) (d : Nat) (W : World)
    (hC : Kd.C k39 W A ts.length ts) (hD : Kd.C k39 W B us.length us) :
    Calls Try.prog 30 #[.slice A ts.length c, .slice B us.length d, .func (.func f) #[] #[]] W fun e W' => e = .returned (.bool (all2 ans ts us)) ∧ Below W.heap.size W W' := by
  obtain ⟨vs, hv, hvK⟩ := els_of_C hC
  obtain ⟨xs, hx, hxK⟩ := els_of_C hD
  have form : ∀ {n : Nat} {ys : List (List Value)} {B : Option Addr} {zs : List S39}, Els 6 W B n ys → zs.length = n → (∀ (i : Nat) x, zs[i]? = some x → ∃ cs, ys[i]? = some cs ∧ k39.K W x cs) → ∀ (j : Nat) cs, ys[j]? = some cs → BindCells cs := by
    intro n ys B zs he hz hK j cs hj
    have hl : j < zs.length := by have := idx_lt hj; have := he.1; omega
    obtain ⟨cs', e, hk⟩ := hK j _ (List.getElem?_eq_getElem hl)
    rw [hj] at e
    cases e
    obtain ⟨A3, c3, A4, c4, rfl, _⟩ := k39_open hk
    exact ⟨_, _, _, _, _, _, _, _, _, _, rfl⟩
  refine (eqBind f #[] eg A B ts.length c us.length d vs xs W W (fun i W' => Below W.heap.size W W' ∧ ∀ (j : Nat) a b, j < i → ts[j]? = some a → us[j]? = some b → ans a b = true) (fun i W' => Below W.heap.size W W' ∧ ∃ a b, ts[i]? = some a ∧ us[i]? = some b ∧ ans a b = false)
    hv hx (form hv rfl hvK) (form hx rfl hxK) (fun i W' h => h.1) (fun i W1 W2 h hb => ⟨h.1.trans (hb.mono h.1.size), h.2⟩) ?_ ⟨Below.refl _ _, fun j a b hj => absurd hj (Nat.not_lt_zero _)⟩).mono ?_
  · rintro i cs ds W1 hi hj ⟨hb, hn⟩
    have hl : i < ts.length := by have := idx_lt hi; have := hv.1; omega
    have hm : i < us.length := by have := idx_lt hj; have := hx.1; omega
    obtain ⟨cs', e, hK⟩ := hvK i _ (List.getElem?_eq_getElem hl)
    rw [hi] at e
    cases e
    obtain ⟨ds', e, hL⟩ := hxK i _ (List.getElem?_eq_getElem hm)
    rw [hj] at e
    cases e
    obtain ⟨A3, c3, A4, c4, rfl, l3, g3, l4, g4⟩ := k39_open hK
    obtain ⟨B3, d3, B4, d4, rfl, m3, q3, m4, q4⟩ := k39_open hL
    refine (h ts[i] us[i] A3 c3 A4 c4 B3 d3 B4 d4 W1 l3 (Kd.C_below g3 hb) l4 (Kd.C_below g4 hb) m3 (Kd.C_below q3 hb) m4 (Kd.C_below q4 hb)).mono ?_
    rintro e W2 ⟨rfl, hb2⟩
    cases hh : ans ts[i] us[i] with
    | false => exact .inr ⟨rfl, hb.trans (hb2.mono hb.size), _, _, List.getElem?_eq_getElem hl, List.getElem?_eq_getElem hm, hh⟩
    | true =>
      refine .inl ⟨rfl, hb.trans (hb2.mono hb.size), fun j a b hj2 ha hb3 => ?_⟩
      by_cases hji : j = i
      · subst hji
        rw [List.getElem?_eq_getElem hl] at ha
        rw [List.getElem?_eq_getElem hm] at hb3
        cases ha
        cases hb3
        exact hh
      · exact hn j a b (by omega) ha hb3
  · rintro e W1 (⟨rfl, hnm, hb, hn⟩ | ⟨rfl, (⟨hnm, hb, _⟩ | ⟨k, hk, hnm, hb, a, b, ha, hb2, hh⟩)⟩)
    · exact ⟨by rw [all2_true hnm (fun j a b ha hb => hn j a b (idx_lt ha) ha hb)], hb⟩
    · exact ⟨by rw [all2_len hnm], hb⟩
    · exact ⟨by rw [all2_false ha hb2 hh], hb⟩

end Go.Proofs.Ytadjekpfehjibaa.PEnv

namespace Go.Proofs.Ytadjekpfehjibaa.PEnv
open Go.RowKit Go.Shelf Go.Proofs.YtadjekpfehjibaaW.PrintWords Go.Proofs.YtadjekpfehjibaaW.PrintLast Go.Proofs.YtadjekpfehjibaaW.PrintMore Go.Proofs.Ytadjekpfehjibaa.PEnvHits
set_option linter.unusedVariables false
set_option linter.unusedSimpArgs false

def bothE (a b : List S39) : Bool := (rightE a && rightE b) && all2 bothB a b

set_option maxHeartbeats 4000000 in
theorem envBoth (a b : List S39) (A : Option Addr) (c : Nat) (B : Option Addr) (d : Nat) (w : World) (hC : Kd.C k39 w A a.length a) (hD : Kd.C k39 w B b.length b) :
    Calls Try.prog 29 #[.slice A a.length c, .slice B b.length d] w fun e w' => e = .returned (.bool (bothE a b)) ∧ Below w.heap.size w w' := by
  have eg : ∀ args w, (callFunc 45 args).run Try.prog w = .ok (.enter 45 args) w := enters_of Try.func45 (by kernel_rfl) rfl
  have eR := enters_of Try.func12 (by kernel_rfl) rfl
  have eE := enters_of Try.func30 (by kernel_rfl) rfl
  have r1 := envRightE a A c w hC
  have r2 : ∀ W, Below w.heap.size w W → Calls Try.prog 12 #[.slice B b.length d] W fun e w' => e = .returned (.bool (rightE b)) ∧ Below W.heap.size W w' := fun W hW => envRightE b B d W (Kd.C_below hD hW)
  have r3 : ∀ W, Below w.heap.size w W → Calls Try.prog 30 #[.slice A a.length c, .slice B b.length d, .func (.func 45) #[] #[]] W fun e w' => e = .returned (.bool (all2 bothB a b)) ∧ Below W.heap.size W w' := fun W hW =>
    eqBinds 45 eg bothB a b both1 A c B d W (Kd.C_below hC hW) (Kd.C_below hD hW)
  have hf : bothE a b = ((rightE a && rightE b) && all2 bothB a b) := rfl
  clear hC hD
  cases h1 : rightE a with
  | false =>
    rw [h1] at r1 hf
    have hf2 : bothE a b = false := by rw [hf]; rfl
    clear h1 hf r2 r3
    go_enter Try.func29, Try.ntmps29
    go_wp2_with (go_at_call 12; refine r1.mono ?_; clear r1; rintro e w1 ⟨rfl, hb1⟩)
    go_ret
    exact ⟨by first | rfl | (rw [hf2]; rfl), hb1⟩
  | true =>
    rw [h1] at r1 hf
    clear h1
    cases h2 : rightE b with
    | false =>
      rw [h2] at r2 hf
      have hf2 : bothE a b = false := by rw [hf]; rfl
      clear h2 hf r3
      go_enter Try.func29, Try.ntmps29
      go_wp2_with (first
        | (go_at_call 12; refine r1.mono ?_; clear r1; rintro e w1 ⟨rfl, hb1⟩; have r2' := r2 w1 hb1; clear r2)
        | (go_at_call 12; refine r2'.mono ?_; clear r2'; rintro e w2 ⟨rfl, hb2⟩))
      go_ret
      exact ⟨by first | rfl | (rw [hf2]; rfl), hb1.trans (hb2.mono hb1.size)⟩
    | true =>
      rw [h2] at r2 hf
      have hf2 : bothE a b = all2 bothB a b := by rw [hf]; simp
      clear h2 hf
      go_enter Try.func29, Try.ntmps29
      go_wp2_with (first
        | (go_at_call 12; refine r1.mono ?_; clear r1; rintro e w1 ⟨rfl, hb1⟩; have r2' := r2 w1 hb1; clear r2)
        | (go_at_call 12; refine r2'.mono ?_; clear r2'; rintro e w2 ⟨rfl, hb2⟩; have hb12 := hb1.trans (hb2.mono hb1.size); have r3' := r3 w2 hb12; clear r3)
        | (go_at_call 30; refine r3'.mono ?_; clear r3'; rintro e w3 ⟨rfl, hb3⟩))
      go_ret
      exact ⟨by first | rfl | (rw [hf2]; rfl), hb12.trans (hb3.mono hb12.size)⟩

end Go.Proofs.Ytadjekpfehjibaa.PEnv

namespace Go.Proofs.Ytadjekpfehjibaa.PEnv
open Go.RowKit Go.Shelf Go.Proofs.YtadjekpfehjibaaW.PrintWords Go.Proofs.YtadjekpfehjibaaW.PrintLast Go.Proofs.YtadjekpfehjibaaW.PrintMore Go.Proofs.Ytadjekpfehjibaa.PEnvHits
set_option linter.unusedVariables false
set_option linter.unusedSimpArgs false

set_option maxHeartbeats 4000000 in
theorem merged1 (a b : S27) (A2 : Option Addr) (c2 : Nat) (B2 : Option Addr) (d2 : Nat) (Bo : Nat) (w : World) (g2 : Kd.C (Kd.int .i64) w A2 a.f1.f1.length a.f1.f1) (l2 : a.f1.f1.length ≤ c2) (h2 : Kd.C (Kd.int .i64) w B2 b.f1.f1.length b.f1.f1) (m2 : b.f1.f1.length ≤ d2)
    (ho : w.cell? ⟨Bo, 0, none⟩ = some (.func (.func 8) #[] #[])) :
    Calls Try.prog 55 #[.agg #[.string a.f0, .string a.f1.f0, .slice A2 a.f1.f1.length c2, .bool a.f2], .agg #[.string b.f0, .string b.f1.f0, .slice B2 b.f1.f1.length d2, .bool b.f2], ptr Bo] w fun e w' => e = .returned (.bool (cmpLoan a b == 0)) ∧ Below w.heap.size w w' := by
  have eg : ∀ args w, (callFunc 8 args).run Try.prog w = .ok (.enter 8 args) w := enters_of Try.func8 (by kernel_rfl) rfl
  have hb1 : Below w.heap.size w (w.alloc (.cells #[.string a.f0, .string a.f1.f0, .slice A2 a.f1.f1.length c2, .bool a.f2] 27)) := (Below.refl _ w).alloc (Nat.le_refl _) _
  have hb2 : Below w.heap.size w ((w.alloc (.cells #[.string a.f0, .string a.f1.f0, .slice A2 a.f1.f1.length c2, .bool a.f2] 27)).alloc (.cells #[.string b.f0, .string b.f1.f0, .slice B2 b.f1.f1.length d2, .bool b.f2] 27)) := hb1.alloc (by simp) _
  have hcall := envCmp a b A2 c2 B2 d2 ((w.alloc (.cells #[.string a.f0, .string a.f1.f0, .slice A2 a.f1.f1.length c2, .bool a.f2] 27)).alloc (.cells #[.string b.f0, .string b.f1.f0, .slice B2 b.f1.f1.length d2, .bool b.f2] 27)) (Kd.C_below g2 hb2) l2 (Kd.C_below h2 hb2) m2
  have ho2 := below_cell hb2 ho
  have fin : ∀ w', Below ((w.alloc (.cells #[.string a.f0, .string a.f1.f0, .slice A2 a.f1.f1.length c2, .bool a.f2] 27)).alloc (.cells #[.string b.f0, .string b.f1.f0, .slice B2 b.f1.f1.length d2, .bool b.f2] 27)).heap.size ((w.alloc (.cells #[.string a.f0, .string a.f1.f0, .slice A2 a.f1.f1.length c2, .bool a.f2] 27)).alloc (.cells #[.string b.f0, .string b.f1.f0, .slice B2 b.f1.f1.length d2, .bool b.f2] 27)) w' → Below w.heap.size w w' := fun w' h => hb2.trans (h.mono (by simp; omega))
  clear g2 h2 ho
  unfold ptr
  go_enter Try.func55, Try.ntmps55
  go_wp2_with (go_at_fn 8; refine hcall.mono ?_; rintro e w' ⟨rfl, hb3⟩)
  go_ret
  exact ⟨rfl, fin _ hb3⟩

end Go.Proofs.Ytadjekpfehjibaa.PEnv
