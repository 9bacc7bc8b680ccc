/- env.merged: what two lists of loans hold, sorted, each once; where both are not too long. -/
import Derived.Test.YtadjekpfehjibaaKd
import Derived.Test.YtadjekpfehjibaaKf
import Derived.ArgAppend
import Derived.Shelf.GgSortFunc.RowK
import Derived.Test.YtadjekpfehjibaaShelf
import Derived.Test.YtadjekpfehjibaaKe
import Derived.Test.YtadjekpfehjibaaKi
import Derived.BigQuiet
import Derived.Shelf.SlSortCmp.NoneTotal

namespace Go.Proofs.Ytadjekpfehjibaa.PEnv
open Go.RowKit Go.Shelf Go.Proofs.YtadjekpfehjibaaW.PrintWords Go.Proofs.YtadjekpfehjibaaW.PrintLast Go.Proofs.YtadjekpfehjibaaW.PrintMore Go.Proofs.Ytadjekpfehjibaa.PEnvHits
set_option linter.unusedVariables false
set_option linter.unusedSimpArgs false

theorem setMany_list : ∀ (vs : List Value) (pre rest : List Value), Sort.setMany (pre ++ rest).toArray pre.length vs = (pre ++ vs ++ rest.drop vs.length).toArray ∨ rest.length < vs.length
  | [], pre, rest => .inl (by simp [Sort.setMany])
  | v :: vs, pre, [] => .inr (by simp)
  | v :: vs, pre, r :: rest => by
    rcases setMany_list vs (pre ++ [v]) rest with h | h
    · left
      have e : ((pre ++ r :: rest).toArray.setIfInBounds pre.length v) = ((pre ++ [v]) ++ rest).toArray := by
        apply Array.ext'
        simp
      rw [Sort.setMany, e]
      have hl : pre.length + 1 = (pre ++ [v]).length := by simp
      rw [hl, h]
      simp
    · right
      simpa using h
theorem setCells_block : ∀ (vs : List Value) (o : Nat) (W : World) (bl : Nat) (arr : Array Value) (t : TypeId) (f : Nat × Nat), W.heap[bl]? = some (.cells arr t f) → (W.setCells bl o vs).heap[bl]? = some (.cells (Sort.setMany arr o vs) t f)
  | [], _, _, _, _, _, _, h => h
  | v :: vs, o, W, bl, arr, t, f, h => by
    refine setCells_block vs (o + 1) _ bl _ t f ?_
    unfold World.setCell
    simp [Array.getElem?_modify, h]
theorem below_setCells {B : Nat} {w : World} : ∀ (vs : List Value) (o : Nat) (W : World) (bl : Nat), B ≤ bl → Below B w W → Below B w (W.setCells bl o vs)
  | [], _, _, _, _, h => h
  | v :: vs, o, W, bl, hb, h => below_setCells vs (o + 1) _ bl hb (h.setCell hb v)
theorem size_setCells : ∀ (vs : List Value) (o : Nat) (W : World) (bl : Nat), (W.setCells bl o vs).heap.size = W.heap.size
  | [], _, _, _ => rfl
  | v :: vs, o, W, bl => by rw [World.setCells, size_setCells]; simp [World.setCell]

/-- An append whose run is known. -/
theorem wpList_append_known {P : Program} {w w1 : World} {v : Value} {ops : Array Oper} {rest : List Oper} {o : Oper} {a : Act} {Q : Exit → Act → World → Prop} (hg : o.guard = none) (s x : Operand) (t : TypeId)
    (hop : o.op = Op.call { callee := Callee.builtin Builtin.append, args := #[s, x], argTypes := #[t, t] }) (vs vx : Value) (hs : a.eval s = vs) (hx : a.eval x = vx) (hrun : ∀ ty, (Builtin.append_ #[t, t] ty #[vs, vx]).run P w = .ok v w1)
    (h : wpList P ops Q rest (a.put o.dst v) w1) : wpList P ops Q (o :: rest) a w := by
  refine wpList_plain hg fun K hK' => ?_
  have hr := hrun o.type
  unfold Oper.wp
  simp [execOp, hop, resolve, invoke, builtin, hs, hx, hr, Result.andThen]
  exact hK' _ _ h
/-- A clear whose run is known. -/
theorem wpList_clear_known {P : Program} {w w1 : World} {v : Value} {ops : Array Oper} {rest : List Oper} {o : Oper} {a : Act} {Q : Exit → Act → World → Prop} (hg : o.guard = none) (s : Operand) (t : TypeId)
    (hop : o.op = Op.call { callee := Callee.builtin Builtin.clear, args := #[s], argTypes := #[t] }) (vs : Value) (hs : a.eval s = vs) (hrun : ∀ ty, (Builtin.clear_ #[t] ty #[vs]).run P w = .ok v w1)
    (h : wpList P ops Q rest (a.put o.dst v) w1) : wpList P ops Q (o :: rest) a w := by
  refine wpList_plain hg fun K hK' => ?_
  have hr := hrun o.type
  unfold Oper.wp
  simp [execOp, hop, resolve, invoke, builtin, hs, hr, Result.andThen]
  exact hK' _ _ h

theorem appNothing (w : World) (ty : TypeId) (base : Option Addr) (s cap : Nat) (hle : s ≤ cap) (A : Option Addr) (c : Nat) :
    (Builtin.append_ #[34, 34] ty #[.slice base s cap, .slice A 0 c]).run Try.prog w = .ok (.slice base s cap) w := by
  have ht : Try.prog.underlying 34 = some (.slice 27) := by first | rfl | kernel_rfl
  have hi : Try.prog.info? 27 = some Try.t27 := by first | rfl | kernel_rfl
  have hfc : (Builtin.firstCells Try.t27.size 0 (.slice A 0 c)).run Try.prog w = .ok #[] w := by
    cases A with
    | none => exact run_firstCells_none w _ 0 0 c
    | some a => exact run_firstCells_some w _ 0 a 0 c [] (by simp) (fun j u h => by simp at h)
  cases base <;> simp [Builtin.append_, run_underlying ht, sizeOf, typeInfo, hi, Builtin.lenOf, hle, hfc, storeCells]

/-- An append within the room of a row of one's own. -/
theorem appendRoom {w : World} {A : Option Addr} {n c : Nat} {vs : List (List Value)} (hv : Els 4 w A n vs) (h1 : ∀ u ∈ vs.flatten, u.oneCell' = true) (ty : TypeId) (bl s cap : Nat) (pre rest : List Value) (hb : w.heap[bl]? = some (.cells (pre ++ rest).toArray 27 (0, 0)))
    (hp : pre.length = s * 4) (hr : rest.length = (cap - s) * 4) (hc : s + n ≤ cap) :
    (Builtin.append_ #[34, 34] ty #[.slice (some ⟨bl, 0, none⟩) s cap, .slice A n c]).run Try.prog w = .ok (.slice (some ⟨bl, 0, none⟩) (s + n) cap) (w.setCells bl (s * 4) vs.flatten) := by
  have hlen : vs.flatten.length = n * 4 := by
    rw [← hv.1]
    have := hv.2.2.1
    clear hv h1
    induction vs with
    | nil => rfl
    | cons c vs ih =>
      rw [List.flatten_cons, List.length_append, this 0 c rfl, ih (fun j cs hj => this (j + 1) cs hj), List.length_cons]
      omega
  by_cases h0 : 0 < n
  · obtain ⟨ad, rfl, hcell⟩ := hv.2.2.2 h0
    have hnew : ∀ j u, vs.flatten[j]? = some u → w.cell? (ad.add j) = some u := by
      have gen : ∀ (us : List (List Value)) (k : Nat), (∀ (j : Nat) cs, us[j]? = some cs → cs.length = 4) → (∀ (j : Nat) cs, us[j]? = some cs → ∀ i u, cs[i]? = some u → w.cell? (ad.add ((k + j) * 4 + i)) = some u) → ∀ j u, us.flatten[j]? = some u → w.cell? (ad.add (k * 4 + j)) = some u := by
        intro us
        induction us with
        | nil => intro k _ _ j u h; simp at h
        | cons x us ih =>
          intro k hl hx j u h
          have hl0 := hl 0 x rfl
          by_cases hj : j < 4
          · rw [List.flatten_cons, List.getElem?_append_left (by omega)] at h
            exact hx 0 x rfl j u h
          · rw [List.flatten_cons, List.getElem?_append_right (by omega)] at h
            have := ih (k + 1) (fun j cs hj => hl (j + 1) cs hj) (fun j cs hj i u hu => by
              have := hx (j + 1) cs hj i u hu
              rw [show k + 1 + j = k + (j + 1) by omega]; exact this) (j - x.length) u h
            rw [show (k + 1) * 4 + (j - x.length) = k * 4 + j by omega] at this
            exact this
      intro j u h
      have := gen vs 0 hv.2.2.1 (fun j cs hj i u hu => by rw [Nat.zero_add]; exact hcell j cs hj i u hu) j u h
      simpa using this
    have hcs : ∀ j, j < vs.flatten.length → (w.cell? ⟨bl, 0 + s * 4 + j, none⟩).isSome = true := fun j hj => by
      unfold World.cell?
      rw [hb]
      simp
      omega
    have hfs : ∀ j, j < vs.flatten.length → w.frozen? ⟨bl, 0 + s * 4 + j, none⟩ = false := fun j hj => by
      unfold World.frozen?
      rw [hb]
      simp
    have := run_append_room_cells (P := Try.prog) w 34 ty 27 Try.t27 (by first | rfl | kernel_rfl) (by first | rfl | kernel_rfl) bl 0 s cap ad n c vs.flatten hlen hnew h1 hc hcs hfs
    rw [Nat.zero_add] at this
    exact this
  · have e0 : n = 0 := by omega
    subst e0
    have : vs.flatten = [] := List.length_eq_zero_iff.mp (by omega)
    rw [this]
    exact appNothing w ty (some ⟨bl, 0, none⟩) s cap (by omega) A c

/-- A loan that lies in a world. -/
structure El (w : World) where
  l : S27
  A : Option Addr
  c : Nat
  reads : Kd.C (Kd.int .i64) w A l.f1.f1.length l.f1.f1
  room : l.f1.f1.length ≤ c

def noLoan : S27 := ⟨⟨#[]⟩, ⟨⟨#[]⟩, []⟩, false⟩
instance {w : World} : Inhabited (El w) := ⟨⟨noLoan, none, 0, ⟨rfl, Nat.zero_le _, fun h => absurd h (Nat.lt_irrefl 0)⟩, Nat.le_refl _⟩⟩
def encL {w : World} (x : El w) : List Value := [.string x.l.f0, .string x.l.f1.f0, .slice x.A x.l.f1.f1.length x.c, .bool x.l.f2]
def cmpEl {w : World} (x y : El w) : Int := cmpLoan x.l y.l

theorem els_of_loans {w : World} : ∀ (ls : List S27) (vs : List (List Value)), ls.length = vs.length → (∀ (i : Nat) x, ls[i]? = some x → ∃ cs, vs[i]? = some cs ∧ k27.K w x cs) → ∃ xs : List (El w), xs.map El.l = ls ∧ xs.map encL = vs
  | [], [], _, _ => ⟨[], rfl, rfl⟩
  | [], _ :: _, h, _ => by cases h
  | _ :: _, [], h, _ => by cases h
  | l :: ls, v :: vs, h, hK => by
    obtain ⟨xs, h1, h2⟩ := els_of_loans ls vs (by simpa using h) (fun i x hx => by simpa using hK (i + 1) x hx)
    obtain ⟨cs, hc, hk⟩ := hK 0 l rfl
    obtain rfl : v = cs := Option.some.inj hc
    obtain ⟨A2, c2, rfl, l2, g2⟩ := k27_open hk
    exact ⟨⟨l, A2, c2, g2, l2⟩ :: xs, by rw [List.map_cons, h1], by rw [List.map_cons, h2]; rfl⟩
theorem loans_els {w : World} {A : Option Addr} {ls : List S27} (h : Kd.C k27 w A ls.length ls) : ∃ xs : List (El w), xs.map El.l = ls ∧ Els 4 w A ls.length (xs.map encL) := by
  obtain ⟨vs, hv, hK⟩ := els_of_C h
  obtain ⟨xs, h1, h2⟩ := els_of_loans ls vs hv.1.symm hK
  exact ⟨xs, h1, by rw [h2]; exact hv⟩
theorem one_enc {w : World} (xs : List (El w)) : ∀ u ∈ (xs.map encL).flatten, u.oneCell' = true := by
  intro u hu
  rw [List.mem_flatten] at hu
  obtain ⟨cs, hcs, hu⟩ := hu
  obtain ⟨x, _, rfl⟩ := List.mem_map.mp hcs
  simp only [encL, List.mem_cons, List.not_mem_nil, or_false] at hu
  rcases hu with rfl | rfl | rfl | rfl <;> rfl

/-- A row's cells: what they hold, none frozen. -/
def RowE (W : World) (bl : Nat) (zs : List (List Value)) : Prop :=
  ∀ (j : Nat) (cs : List Value), zs[j]? = some cs → cs.length = 4 ∧ ∀ (i : Nat) (u : Value), cs[i]? = some u → W.cell? ⟨bl, j * 4 + i, none⟩ = some u ∧ W.frozen? ⟨bl, j * 4 + i, none⟩ = false
theorem flat_get : ∀ (zs : List (List Value)) (r : List Value), (∀ (j : Nat) (cs : List Value), zs[j]? = some cs → cs.length = 4) → ∀ (j : Nat) cs, zs[j]? = some cs → ∀ (i : Nat) u, cs[i]? = some u → (zs.flatten ++ r)[j * 4 + i]? = some u
  | [], _, _, j, cs, h, _, _, _ => by simp at h
  | z :: zs, r, hl, 0, cs, h, i, u, hu => by
    obtain rfl : z = cs := by simpa using h
    have hi : i < z.length := by
      rcases Nat.lt_or_ge i z.length with h | h
      · exact h
      · rw [List.getElem?_eq_none h] at hu; cases hu
    rw [List.flatten_cons, List.append_assoc, List.getElem?_append_left (by omega)]
    simpa using hu
  | z :: zs, r, hl, j + 1, cs, h, i, u, hu => by
    have h0 := hl 0 z rfl
    rw [List.flatten_cons, List.append_assoc, List.getElem?_append_right (by omega), show (j + 1) * 4 + i - z.length = j * 4 + i by omega]
    exact flat_get zs r (fun j cs hj => hl (j + 1) cs hj) j cs (by simpa using h) i u hu
theorem rowE_of_block {W : World} {bl : Nat} {zs : List (List Value)} {rest : List Value} {t : TypeId} (h : W.heap[bl]? = some (.cells (zs.flatten ++ rest).toArray t (0, 0))) (hl : ∀ (j : Nat) (cs : List Value), zs[j]? = some cs → cs.length = 4) : RowE W bl zs := by
  intro j cs hj
  refine ⟨hl j cs hj, fun i u hu => ⟨?_, ?_⟩⟩
  · unfold World.cell?
    rw [h]
    simpa using flat_get zs rest hl j cs hj i u hu
  · unfold World.frozen?
    rw [h]
    simp
theorem RowE.keep {W W' : World} {bl : Nat} {zs : List (List Value)} (h : RowE W bl zs) (e : W'.heap[bl]? = W.heap[bl]?) : RowE W' bl zs := fun j cs hj => ⟨(h j cs hj).1, fun i u hu => by
  obtain ⟨h1, h2⟩ := (h j cs hj).2 i u hu
  refine ⟨(World.cell?_of_block e).trans h1, ?_⟩
  unfold World.frozen? at h2 ⊢
  rw [show W'.heap[(⟨bl, j * 4 + i, none⟩ : Addr).block]? = W.heap[(⟨bl, j * 4 + i, none⟩ : Addr).block]? from e]
  exact h2⟩

end Go.Proofs.Ytadjekpfehjibaa.PEnv

namespace Go.Proofs.Ytadjekpfehjibaa.PEnv
open Go.RowKit Go.Shelf Go.Proofs.YtadjekpfehjibaaW.PrintWords Go.Proofs.YtadjekpfehjibaaW.PrintLast Go.Proofs.YtadjekpfehjibaaW.PrintMore Go.Proofs.Ytadjekpfehjibaa.PEnvHits
set_option linter.unusedVariables false
set_option linter.unusedSimpArgs false

/-- A row of loans that the call itself has laid (behind B): k elements, room for cap. -/
def RowAt (B : Nat) (W : World) (X : Option Addr) (k cap : Nat) (es : List (List Value)) : Prop :=
  k ≤ cap ∧ ((k = 0 ∧ X = none) ∨ (0 < k ∧ ∃ (bl : Nat) (rest : List Value), X = some ⟨bl, 0, none⟩ ∧ B ≤ bl ∧ rest.length = (cap - k) * 4 ∧ W.heap[bl]? = some (.cells (es.flatten ++ rest).toArray 27 (0, 0))))

/-- slices.Grow of nil. -/
theorem growNil (k : Nat) (hk : 0 < k) (hm : k ≤ 1099511627776) (W : World) :
    Calls Try.prog 56 #[.slice none 0 0, .int .i64 (k : Int)] W fun e w' => ∃ (cap : Nat) (rest : List Value), e = .returned (.slice (some ⟨W.heap.size, 0, none⟩) 0 cap) ∧ k ≤ cap ∧ rest.length = cap * 4 ∧ Below W.heap.size W w' ∧ w'.heap[W.heap.size]? = some (.cells rest.toArray 27 (0, 0)) := by
  have h := Any8.slices_Grow_grow Try.growLoan Try.t27 _ (by first | rfl | kernel_rfl) (by first | rfl | kernel_rfl) (by decide) none 0 0 k [] W (Nat.le_refl _) (by omega) (by show (0 + k) * 64 ≤ _; omega) (by omega) rfl (fun _ => rfl) (fun a ha => by cases ha)
  change Calls Try.prog 56 _ _ _ at h
  have e25 : Try.growLoan_ren.t 25 = 27 := rfl
  rw [e25] at h
  refine h.mono ?_
  rintro e w' ⟨rfl, hw⟩
  have hge := grownCap_ge W (0 + k) 0 27
  obtain ⟨G, hG⟩ : ∃ G, grownCap W (0 + k) 0 27 = G := ⟨_, rfl⟩
  rw [hG] at hw hge ⊢
  obtain ⟨arr, harr, hsz⟩ : ∃ arr : Array Value, w' = W.drew.alloc (.cells arr 27) ∧ arr.size = G * 4 := ⟨_, hw, by
    simp only [Array.size_append, size_zeroCells, List.size_toArray, List.length_nil]
    show 0 + (0 + k - 0) * 4 + (G - (0 + k)) * 4 = G * 4
    omega⟩
  subst harr
  exact ⟨G, arr.toList, rfl, by omega, by simpa using hsz, (below_drew1 (Below.refl _ W)).alloc (Nat.le_refl _) _, heap_alloc_new W.drew _⟩

set_option maxHeartbeats 4000000 in
theorem concat0 (A B : Option Addr) (n c m d L : Nat) (w : World) (h0 : n + m = 0) (c0 : w.cell? ⟨L, 0, none⟩ = some (.slice A n c)) (c1 : w.cell? ⟨L, 1, none⟩ = some (.slice B m d)) :
    Calls Try.prog 52 #[.slice (some ⟨L, 0, none⟩) 2 2] w fun e w' => e = .returned (.slice none 0 0) ∧ Below w.heap.size w w' := by
  obtain rfl : n = 0 := by omega
  obtain rfl : m = 0 := by omega
  have hgrow : ∀ W, Calls Try.prog 56 #[.slice none 0 0, .int .i64 0] W fun e w' => e = .returned (.slice none 0 0) ∧ w' = W := fun W => by
    have h := Any8.slices_Grow_room Try.growLoan none 0 0 0 W (Nat.le_refl _) (by omega) (by omega) (by omega)
    change Calls Try.prog 56 _ _ _ at h
    exact h
  have hap : ∀ (W : World) (X : Option Addr) (cc : Nat) (ty : TypeId), (Builtin.append_ #[34, 34] ty #[.slice none 0 0, .slice X 0 cc]).run Try.prog W = .ok (.slice none 0 0) W := fun W X cc ty =>
    appNothing W ty none 0 0 (Nat.le_refl _) X cc
  have hpure : ∀ W, Sem.run Try.prog (pure (#[] : Array Value)) W = .ok #[] W := fun _ => rfl
  clear h0
  go_enter Try.func52, Try.ntmps52
  go_wp2
  go_loopg [3, 11] 2 (fun gg s3 s11 wr => s3 = .int .i64 0 ∧ Aside (Below w.heap.size w wr) ∧ ((s11 = .int .i64 0 ∧ Aside (2 ≤ gg)) ∨ (s11 = .int .i64 1 ∧ Aside (1 ≤ gg)) ∨ s11 = .int .i64 2))
  case atStart => exact ⟨rfl, Below.refl _ _, .inl ⟨rfl, Nat.le_refl _⟩⟩
  case round =>
    obtain ⟨rfl, BW, ⟨rfl, hg⟩ | ⟨rfl, hg⟩ | rfl⟩ := hrel
    · have q0 := below_cell BW.out c0
      have hg' := hg.out
      clear c0 c1
      go_wp2
      go_roundg 1
      case measure => omega
      case rel => exact ⟨rfl, BW.out, .inr (.inl ⟨rfl, Nat.le_refl _⟩)⟩
    · have q1 := below_cell BW.out c1
      have hg' := hg.out
      clear c0 c1
      go_wp2
      go_roundg 0
      case measure => omega
      case rel => exact ⟨rfl, BW.out, .inr (.inr rfl)⟩
    · go_wp2_with (go_at_call 56; refine (hgrow _).mono ?_; rintro e w' ⟨rfl, rfl⟩)
      go_loopg [6, 27] 2 (fun gg s6 s27 wr => s6 = .slice none 0 0 ∧ Aside (Below w.heap.size w wr) ∧ ((s27 = .int .i64 0 ∧ Aside (2 ≤ gg)) ∨ (s27 = .int .i64 1 ∧ Aside (1 ≤ gg)) ∨ s27 = .int .i64 2))
      case atStart => exact ⟨rfl, BW.out, .inl ⟨rfl, Nat.le_refl _⟩⟩
      case round =>
        obtain ⟨rfl, BX, ⟨rfl, hg⟩ | ⟨rfl, hg⟩ | rfl⟩ := hrel
        · have q0 := below_cell BX.out c0
          have hg' := hg.out
          have hap' := hap wr A c
          clear c0 c1 hgrow hap
          go_wp2_with (at_builtin; refine wpList_append_known rfl _ _ 34 rfl _ _ rfl rfl hap' ?_)
          go_roundg 1
          case measure => omega
          case rel => exact ⟨rfl, BX.out, .inr (.inl ⟨rfl, Nat.le_refl _⟩)⟩
        · have q1 := below_cell BX.out c1
          have hg' := hg.out
          have hap' := hap wr B d
          clear c0 c1 hgrow hap
          go_wp2_with (at_builtin; refine wpList_append_known rfl _ _ 34 rfl _ _ rfl rfl hap' ?_)
          go_roundg 0
          case measure => omega
          case rel => exact ⟨rfl, BX.out, .inr (.inr rfl)⟩
        · go_wp2
          go_ret
          exact ⟨rfl, BX.out⟩

/-- What is held while Concat appends. -/
def CatI (w : World) (bl cap k : Nat) (pre : List Value) (W : World) : Prop :=
  Below w.heap.size w W ∧ ∃ rest : List Value, rest.length = (cap - k) * 4 ∧ pre.length = k * 4 ∧ W.heap[bl]? = some (.cells (pre ++ rest).toArray 27 (0, 0))

theorem CatI.next {w W : World} {bl cap k n : Nat} {pre vs : List Value} (h : CatI w bl cap k pre W) (hb : w.heap.size ≤ bl) (hv : vs.length = n * 4) (hc : k + n ≤ cap) : CatI w bl cap (k + n) (pre ++ vs) (W.setCells bl (k * 4) vs) := by
  obtain ⟨h1, rest, hr, hp, hx⟩ := h
  refine ⟨below_setCells vs _ W bl hb h1, rest.drop vs.length, ?_, ?_, ?_⟩
  · rw [List.length_drop, hr, hv, ← Nat.sub_mul]
    congr 1
    omega
  · rw [List.length_append, hp, hv, Nat.add_mul]
  · have := setCells_block vs (k * 4) W bl _ _ _ hx
    rw [this, ← hp]
    rcases setMany_list vs pre rest with h | h
    · rw [h]
    · have : (cap - k) * 4 < n * 4 := by omega
      omega

theorem flat_len {vs : List (List Value)} (h : ∀ (j : Nat) (cs : List Value), vs[j]? = some cs → cs.length = 4) : vs.flatten.length = vs.length * 4 := by
  induction vs with
  | nil => rfl
  | cons c vs ih =>
    rw [List.flatten_cons, List.length_append, h 0 c rfl, ih (fun j cs hj => h (j + 1) cs hj), List.length_cons]
    omega

set_option maxHeartbeats 4000000 in
theorem concat1 (A B : Option Addr) (n c m d L : Nat) (vs us : List (List Value)) (w : World) (h0 : 0 < n + m) (hroom : n + m ≤ 1099511627776) (hv : Els 4 w A n vs) (hu : Els 4 w B m us)
    (o1 : ∀ u ∈ vs.flatten, u.oneCell' = true) (o2 : ∀ u ∈ us.flatten, u.oneCell' = true) (c0 : w.cell? ⟨L, 0, none⟩ = some (.slice A n c)) (c1 : w.cell? ⟨L, 1, none⟩ = some (.slice B m d)) :
    Calls Try.prog 52 #[.slice (some ⟨L, 0, none⟩) 2 2] w fun e w' => ∃ X cap, e = .returned (.slice X (n + m) cap) ∧ Below w.heap.size w w' ∧ RowAt w.heap.size w' X (n + m) cap (vs ++ us) := by
  have hgrow := growNil (n + m) h0 hroom
  have l1 : vs.flatten.length = n * 4 := by rw [flat_len hv.2.2.1, hv.1]
  have l2 : us.flatten.length = m * 4 := by rw [flat_len hu.2.2.1, hu.1]
  have wn : wrap64 (n : Int) = (n : Int) := by unfold wrap64; omega
  have wm : wrap64 ((n : Int) + (m : Int)) = (n : Int) + (m : Int) := by unfold wrap64; omega
  have p1 : decide ((n : Int) < 0) = false := decide_eq_false (by omega)
  have p2 : decide ((n : Int) + (m : Int) < 0) = false := decide_eq_false (by omega)
  rw [Int.natCast_add] at hgrow
  go_enter Try.func52, Try.ntmps52
  go_wp2
  go_loopg [3, 11] 2 (fun gg s3 s11 wr => Aside (Below w.heap.size w wr) ∧ ((s11 = .int .i64 0 ∧ s3 = .int .i64 0 ∧ Aside (2 ≤ gg)) ∨ (s11 = .int .i64 1 ∧ s3 = .int .i64 n ∧ Aside (1 ≤ gg)) ∨ (s11 = .int .i64 2 ∧ s3 = .int .i64 ((n : Int) + (m : Int)))))
  case atStart => exact ⟨Below.refl _ _, .inl ⟨rfl, rfl, Nat.le_refl _⟩⟩
  case round =>
    obtain ⟨BW, ⟨rfl, rfl, hg⟩ | ⟨rfl, rfl, hg⟩ | ⟨rfl, rfl⟩⟩ := hrel
    · have q0 := below_cell BW.out c0
      have hg' := hg.out
      clear c0 c1 hgrow hv hu o1 o2 l1 l2 h0 hroom
      go_wp2
      go_roundg 1
      case measure => omega
      case rel => exact ⟨BW.out, .inr (.inl ⟨rfl, by first | rfl | simp [wn], Nat.le_refl _⟩)⟩
    · have q1 := below_cell BW.out c1
      have hg' := hg.out
      clear c0 c1 hgrow hv hu o1 o2 l1 l2 h0 hroom
      go_wp2
      go_roundg 0
      case measure => omega
      case rel => exact ⟨BW.out, .inr (.inr ⟨rfl, by first | rfl | simp [wm]⟩)⟩
    · have hgr := hgrow wr
      have hA := Aside0.mk hv
      have hB := Aside0.mk hu
      have hO := Aside0.mk o1
      have hP := Aside0.mk o2
      have hL := Aside0.mk (And.intro l1 l2)
      have hR := Aside0.mk hroom
      have hZ := Aside0.mk h0
      clear hgrow hv hu o1 o2 l1 l2 h0 hroom
      go_wp2_with (go_at_call 56; refine hgr.mono ?_; clear hgr; rintro e w1 ⟨cap, rest0, rfl, hcap, hr0, hb1, hx1⟩; have hC := Aside0.mk hcap; have hB1 := Aside0.mk (BW.out.trans (hb1.mono BW.out.size)); have hI0 := Aside0.mk (show CatI w wr.heap.size cap 0 [] w1 from ⟨hB1.out, rest0, hr0, rfl, hx1⟩); have hbl := Aside0.mk BW.out.size; clear hcap hr0 hb1 hx1)
      generalize wr.heap.size = bl at *
      go_loopg [6, 27] 2 (fun gg s6 s27 W => (s27 = .int .i64 0 ∧ s6 = .slice (some ⟨bl, 0, none⟩) 0 cap ∧ Aside (2 ≤ gg ∧ CatI w bl cap 0 [] W)) ∨ (s27 = .int .i64 1 ∧ s6 = .slice (some ⟨bl, 0, none⟩) n cap ∧ Aside (1 ≤ gg ∧ CatI w bl cap n vs.flatten W)) ∨ (s27 = .int .i64 2 ∧ s6 = .slice (some ⟨bl, 0, none⟩) (n + m) cap ∧ Aside (CatI w bl cap (n + m) (vs.flatten ++ us.flatten) W)))
      case atStart => exact .inl ⟨rfl, rfl, Nat.le_refl _, hI0.out⟩
      case round =>
        rcases hrel with ⟨rfl, rfl, hg⟩ | ⟨rfl, rfl, hg⟩ | ⟨rfl, rfl, hg⟩
        · obtain ⟨hg', hI⟩ := hg.out
          have q0 := below_cell hI.1 c0
          have hnext := hI.next hbl.out hL.out.1 (by have := hC.out; omega)
          obtain ⟨_, rest, hr, hp, hx⟩ := hI
          have hap := fun ty => appendRoom (hA.out.below ‹_›) (c := c) hO.out ty bl 0 cap [] rest hx hp hr (by have := hC.out; omega)
          obtain ⟨W2, hW2⟩ : ∃ W2, wr.setCells bl (0 * 4) vs.flatten = W2 := ⟨_, rfl⟩
          rw [hW2] at hnext
          simp only [hW2, Nat.zero_add] at hap
          rw [Nat.zero_add, List.nil_append] at hnext
          have hN := Aside0.mk hnext
          clear hnext hW2 hr hp hx hg c0 c1
          go_wp2_with (at_builtin; refine wpList_append_known rfl _ _ 34 rfl _ _ rfl rfl hap ?_)
          go_roundg 1
          case measure => omega
          case rel => exact .inr (.inl ⟨rfl, rfl, Nat.le_refl _, hN.out⟩)
        · obtain ⟨hg', hI⟩ := hg.out
          have q1 := below_cell hI.1 c1
          have hnext := hI.next hbl.out hL.out.2 (by have := hC.out; omega)
          obtain ⟨_, rest, hr, hp, hx⟩ := hI
          have hap := fun ty => appendRoom (hB.out.below ‹_›) (c := d) hP.out ty bl n cap vs.flatten rest hx hp hr (by have := hC.out; omega)
          obtain ⟨W2, hW2⟩ : ∃ W2, wr.setCells bl (n * 4) us.flatten = W2 := ⟨_, rfl⟩
          rw [hW2] at hnext
          simp only [hW2] at hap
          have hN := Aside0.mk hnext
          clear hnext hW2 hr hp hx hg c0 c1
          go_wp2_with (at_builtin; refine wpList_append_known rfl _ _ 34 rfl _ _ rfl rfl hap ?_)
          go_roundg 0
          case measure => omega
          case rel => exact .inr (.inr ⟨rfl, rfl, hN.out⟩)
        · have hI := hg.out
          clear hg
          have hI' := Aside0.mk hI
          clear hI
          go_wp2
          go_ret
          obtain ⟨hb, rest, hr, hp, hx⟩ := hI'.out
          exact ⟨_, _, rfl, hb, hC.out, .inr ⟨hZ.out, bl, rest, rfl, hbl.out, hr, by rw [List.flatten_append]; exact hx⟩⟩

end Go.Proofs.Ytadjekpfehjibaa.PEnv

namespace Go.Proofs.Ytadjekpfehjibaa.PEnv
open Go.RowKit Go.Shelf Go.Lib Go.Proofs.YtadjekpfehjibaaW.PrintWords Go.Proofs.YtadjekpfehjibaaW.PrintLast Go.Proofs.YtadjekpfehjibaaW.PrintMore Go.Proofs.Ytadjekpfehjibaa.PEnvHits
set_option linter.unusedVariables false
set_option linter.unusedSimpArgs false

/-- env.Cmp, at every two loans: it draws, and lays blocks behind; no more. -/
theorem envCmpG (a b : S27) (A2 : Option Addr) (c2 : Nat) (B2 : Option Addr) (d2 : Nat) (W : World) (g2 : Kd.C (Kd.int .i64) W A2 a.f1.f1.length a.f1.f1) (l2 : a.f1.f1.length ≤ c2) (h2 : Kd.C (Kd.int .i64) W B2 b.f1.f1.length b.f1.f1) (m2 : b.f1.f1.length ≤ d2) :
    Calls Try.prog 8 #[.agg #[.string a.f0, .string a.f1.f0, .slice A2 a.f1.f1.length c2, .bool a.f2], .agg #[.string b.f0, .string b.f1.f0, .slice B2 b.f1.f1.length d2, .bool b.f2]] W fun e W' =>
      e = .returned (.int .i64 (cmpLoan a b)) ∧ Gr W W' :=
  env_Cmp.callsG (a.f1.f1.length + 5) _ _ _ _ _ _ _ _ _ _ _ _ _ W g2 l2 h2 m2 (cmp4_f _ _ _ _ _ _ _ _ (Kd.C_max g2) (Kd.C_max h2) _ (by omega) (by omega))

theorem sortWorld_old {α : Type} [Inhabited α] (enc : α → List Value) (k : Nat) (W : World) (bl off m : Nat) (d : Array α) (os : Array Obj) : (sortWorldK enc k W bl off m d os).os = W.os ∧ (sortWorldK enc k W bl off m d os).tape = W.tape ∧ (sortWorldK enc k W bl off m d os).output = W.output ∧ W.heap.size ≤ (sortWorldK enc k W bl off m d os).heap.size ∧ ∀ b, b < W.heap.size → b ≠ bl → (sortWorldK enc k W bl off m d os).heap[b]? = W.heap[b]? := by
  refine ⟨rfl, rfl, rfl, ?_, fun b hb hne => ?_⟩
  · simp [sortWorldK, Sort.grow, Sort.putRowK, Sort.putRow, Sort.mapBlock, Sort.ahead]
  · simp only [sortWorldK, Sort.grow, Sort.putRowK, Sort.putRow, Sort.mapBlock, Sort.ahead]
    rw [Array.getElem?_append_left (by simpa using hb), Array.getElem?_modify, if_neg (fun e => hne e.symm)]
theorem below_sortWorld {α : Type} [Inhabited α] {B : Nat} {w W : World} (h : Below B w W) (enc : α → List Value) (k bl off m : Nat) (d : Array α) (os : Array Obj) (hB : B ≤ bl) (hW : B ≤ W.heap.size) : Below B w (sortWorldK enc k W bl off m d os) := by
  obtain ⟨h1, h2, h3, h4, h5⟩ := sortWorld_old enc k W bl off m d os
  exact ⟨h1.trans h.os, h2.trans h.tape, h3.trans h.output, Nat.le_trans h.size h4, fun b hb => (h5 b (by omega) (by omega)).trans (h.block b hb)⟩

theorem lt_El {w : World} (x y : El w) : ltOf cmpEl x y = decide (cmpLoan x.l y.l < 0) := rfl
theorem swo_El (w : World) : Sort.SWO (ltOf (cmpEl (w := w))) where
  irrefl x := by
    have := cm_Loan.refl x.l
    rw [lt_El, this]
    rfl
  trans x y z h1 h2 := by
    rw [lt_El] at *
    have h1' := of_decide_eq_true h1
    have h2' := of_decide_eq_true h2
    exact decide_eq_true (cm_Loan.lt_le h1' (by omega))
  ntrans x y z h1 h2 := by
    rw [lt_El] at *
    have h1' := of_decide_eq_false h1
    have h2' := of_decide_eq_false h2
    have a := cm_Loan.flip y.l x.l
    have b := cm_Loan.flip z.l y.l
    have c := cm_Loan.flip x.l z.l
    have d := cm_Loan.le z.l y.l x.l
    have e := cm_Loan.flip z.l x.l
    have f := cm_Loan.flip x.l y.l
    have g := cm_Loan.flip y.l z.l
    refine decide_eq_false ?_
    omega

/-- Ascending: no later one is less than an earlier one. -/
def Asc {w : World} (ys : List (El w)) : Prop := ys.Pairwise (fun x y => ¬ cmpEl y x < 0)

theorem holds_of_row {w W : World} {bl : Nat} {xs : List (El w)} (h : RowE W bl (xs.map encL)) : Sort.HoldsK encL 4 W bl 0 xs.toArray := by
  intro j hj
  have hj' : j < xs.length * 4 := by simpa using hj
  have hd : j / 4 < xs.length := by omega
  obtain ⟨_, h2⟩ := h (j / 4) (encL xs[j / 4]) (by rw [List.getElem?_map, List.getElem?_eq_getElem hd]; rfl)
  have hg : (Sort.flatK encL 4 xs.toArray)[j]! = (encL xs[j / 4])[j % 4]! := by
    rw [Sort.get_flatK _ _ _ _ (by simpa using hj'), getElem!_pos xs.toArray (j / 4) (by simpa using hd)]
    simp
  have hm : j % 4 < (encL xs[j / 4]).length := by show j % 4 < 4; omega
  have := h2 (j % 4) ((encL xs[j / 4])[j % 4]'hm) (List.getElem?_eq_getElem hm)
  rw [show j / 4 * 4 + j % 4 = j by omega] at this
  rw [hg, getElem!_pos (encL xs[j / 4]) (j % 4) hm, Nat.zero_add]
  exact this
theorem row_of_holds {w W : World} {bl : Nat} {d : Array (El w)} (h : Sort.HoldsK encL 4 W bl 0 d) : RowE W bl (d.toList.map encL) := by
  intro j cs hj
  rw [List.getElem?_map] at hj
  obtain ⟨x, hx, rfl⟩ := Option.map_eq_some_iff.mp hj
  have hlt : j < d.size := by
    have := List.getElem?_eq_some_iff.mp hx
    simpa using this.1
  refine ⟨rfl, fun i u hu => ?_⟩
  have hi : i < 4 := by
    have := (List.getElem?_eq_some_iff.mp hu).1
    simpa [encL] using this
  have hc := Sort.HoldsK.cell h hlt hi
  have e1 : d[j]! = x := by
    rw [getElem!_pos d j hlt]
    have := (List.getElem?_eq_some_iff.mp hx).2
    simpa using this
  have e2 : (encL x)[i]! = u := by
    obtain ⟨h1, h2⟩ := List.getElem?_eq_some_iff.mp hu
    rw [getElem!_pos (encL x) i h1]; exact h2
  rw [e1, e2, Nat.zero_add] at hc
  exact hc

/-- slices.SortFunc at a row of loans, by env.Cmp. -/
theorem sortLoans (w W : World) (hb : Below w.heap.size w W) (bl cap : Nat) (hbl : w.heap.size ≤ bl) (hlt : bl < W.heap.size) (xs : List (El w)) (hsm : xs.length < 4611686018427387904) (hrow : RowE W bl (xs.map encL)) :
    Calls Try.prog 53 #[.slice (some ⟨bl, 0, none⟩) xs.length cap, .func (.func 8) #[] #[]] W fun e w' =>
      e = .returned (.tuple #[]) ∧ Below w.heap.size w w' ∧ (∀ b, b < W.heap.size → b ≠ bl → w'.heap[b]? = W.heap[b]?) ∧ W.heap.size ≤ w'.heap.size ∧ ∃ ys : List (El w), ys.Perm xs ∧ Asc ys ∧ RowE w' bl (ys.map encL) := by
  have eg : ∀ args w, (callFunc 8 args).run Try.prog w = .ok (.enter 8 args) w := enters_of Try.func8 (by kernel_rfl) rfl
  have hH := holds_of_row hrow
  have hcon := AnyQ.slices_SortFunc Try.sortLoan 4 Try.isAgg27 Try.sizeOf27 (encL (w := w)) (fun _ => rfl)
    (fun x v hv => by simp only [encL, List.mem_cons, List.not_mem_nil, or_false] at hv; rcases hv with rfl | rfl | rfl | rfl <;> rfl) cmpEl (swo_El w) 8 #[] bl 0 cap xs.toArray W eg
    (fun m os dk hs x y => by
      have hB := below_sortWorld hb encL 4 bl 0 m dk os hbl hb.size
      exact envCmpG x.l y.l x.A x.c y.A y.c _ (Kd.C_below x.reads hB) x.room (Kd.C_below y.reads hB) y.room) hH hlt (by simpa using hsm)
  change Calls Try.prog 53 _ _ _ at hcon
  refine hcon.mono ?_
  rintro e w' ⟨rfl, d', q, os, hp, hs, rfl⟩
  obtain ⟨h1, h2, h3, h4, h5⟩ := sortWorld_old (encL (w := w)) 4 W bl 0 q d' os
  refine ⟨rfl, below_sortWorld hb encL 4 bl 0 q d' os hbl hb.size, h5, h4, d'.toList, ?_, ?_, row_of_holds (holdsK_sortWorldK_c encL 4 W bl 0 xs.toArray d' q os hH hlt hp.1)⟩
  · have h6 := hp.2.2
    have e1 : d'.extract 0 xs.toArray.size = d' := by rw [← hp.1]; simp
    have e2 : xs.toArray.extract 0 xs.toArray.size = xs.toArray := by simp
    rw [e1, e2] at h6
    exact h6
  · unfold Asc
    rw [List.pairwise_iff_getElem]
    intro i j hi hj hij
    have hj' : j < d'.size := by simpa using hj
    have := hs i j (Nat.zero_le _) hij (by rw [← hp.1]; exact hj')
    rw [getElem!_pos d' j hj', getElem!_pos d' i (by omega)] at this
    simp only [ltOf, decide_eq_false_iff_not] at this
    simpa using this

end Go.Proofs.Ytadjekpfehjibaa.PEnv

namespace Go.Proofs.Ytadjekpfehjibaa.PEnv
open Go.RowKit Go.Shelf Go.Lib Go.Proofs.YtadjekpfehjibaaW.PrintWords Go.Proofs.YtadjekpfehjibaaW.PrintLast Go.Proofs.YtadjekpfehjibaaW.PrintMore Go.Proofs.Ytadjekpfehjibaa.PEnvHits
set_option linter.unusedVariables false
set_option linter.unusedSimpArgs false

/-- Are two alike? -/
def eqEl {w : World} (y x : El w) : Bool := cmpEl y x == 0
/-- Those that are not like the one ahead of them. -/
def keepF {w : World} (x : El w) : List (El w) → List (El w)
  | [] => []
  | y :: r => if eqEl y x = true then keepF y r else y :: keepF y r
def compactF {w : World} : List (El w) → List (El w)
  | [] => []
  | x :: r => x :: keepF x r

/-- What is held while the first loop runs. -/
structure KI (w : World) (bl Bo : Nat) (xs : List (El w)) (kk : Nat) (W : World) : Prop where
  bel : Below w.heap.size w W
  box : W.cell? ⟨Bo, 0, none⟩ = some (.func (.func 8) #[] #[])
  blk : bl < W.heap.size
  row : RowE W bl (xs.map encL)
  ne : ∀ (j : Nat) x y, j + 1 < kk → xs[j]? = some x → xs[j + 1]? = some y → eqEl y x = false

theorem keepF_all {w : World} : ∀ (xs : List (El w)) (x : El w), (∀ (j : Nat) a b, (x :: xs)[j]? = some a → (x :: xs)[j + 1]? = some b → eqEl b a = false) → keepF x xs = xs
  | [], _, _ => rfl
  | y :: r, x, h => by
    have h0 := h 0 x y rfl rfl
    rw [keepF, h0, if_neg (by simp), keepF_all r y (fun j a b ha hb => h (j + 1) a b ha hb)]
theorem compactF_all {w : World} (xs : List (El w)) (h : ∀ (j : Nat) x y, xs[j]? = some x → xs[j + 1]? = some y → eqEl y x = false) : compactF xs = xs := by
  cases xs with
  | nil => rfl
  | cons x r => rw [compactF, keepF_all r x h]

theorem row4 {w W : World} {bl : Nat} {xs : List (El w)} (h : RowE W bl (xs.map encL)) {j : Nat} {x : El w} (hx : xs[j]? = some x) :
    W.cell? ⟨bl, j * 4, none⟩ = some (.string x.l.f0) ∧ W.cell? ⟨bl, j * 4 + 1, none⟩ = some (.string x.l.f1.f0) ∧ W.cell? ⟨bl, j * 4 + 2, none⟩ = some (.slice x.A x.l.f1.f1.length x.c) ∧ W.cell? ⟨bl, j * 4 + 3, none⟩ = some (.bool x.l.f2) := by
  have h1 := (h j (encL x) (by rw [List.getElem?_map, hx]; rfl)).2
  exact ⟨(h1 0 _ rfl).1, (h1 1 _ rfl).1, (h1 2 _ rfl).1, (h1 3 _ rfl).1⟩

theorem row4f {w W : World} {bl : Nat} {xs : List (El w)} (h : RowE W bl (xs.map encL)) {j : Nat} {x : El w} (hx : xs[j]? = some x) :
    W.frozen? ⟨bl, j * 4, none⟩ = false ∧ W.frozen? ⟨bl, j * 4 + 1, none⟩ = false ∧ W.frozen? ⟨bl, j * 4 + 2, none⟩ = false ∧ W.frozen? ⟨bl, j * 4 + 3, none⟩ = false := by
  have h1 := (h j (encL x) (by rw [List.getElem?_map, hx]; rfl)).2
  exact ⟨(h1 0 _ rfl).2, (h1 1 _ rfl).2, (h1 2 _ rfl).2, (h1 3 _ rfl).2⟩

theorem KI.next {w W W' : World} {bl Bo : Nat} {xs : List (El w)} {kk jj : Nat} {x y : El w} (h : KI w bl Bo xs kk W) (hb : Below W.heap.size W W') (hj : jj + 1 = kk) (hy : xs[kk]? = some y) (hx : xs[jj]? = some x) (he : eqEl y x = false) : KI w bl Bo xs (kk + 1) W' := by
  refine ⟨h.bel.trans (hb.mono h.bel.size), below_cell hb h.box, Nat.lt_of_lt_of_le h.blk hb.size, h.row.keep (hb.block bl h.blk), fun j a b hjl ha hbj => ?_⟩
  by_cases h1 : j + 1 < kk
  · exact h.ne j a b h1 ha hbj
  · have e1 : j + 1 = kk := by omega
    have e2 : j = jj := by omega
    subst e2
    rw [e1] at hbj
    rw [hx] at ha
    rw [hy] at hbj
    cases ha
    cases hbj
    exact he

theorem keepF_split {w : World} : ∀ (i : Nat) (x : El w) (r : List (El w)), (∀ (j : Nat) a b, j + 1 ≤ i → (x :: r)[j]? = some a → (x :: r)[j + 1]? = some b → eqEl b a = false) → ∀ p, (x :: r)[i]? = some p → keepF x r = r.take i ++ keepF p (r.drop i)
  | 0, x, r, _, p, hp => by
    obtain rfl : x = p := by simpa using hp
    simp
  | i + 1, x, [], _, p, hp => by simp at hp
  | i + 1, x, y :: r, h, p, hp => by
    have h0 := h 0 x y (by omega) rfl rfl
    rw [keepF, h0, if_neg (by simp), keepF_split i y r (fun j a b hj ha hb => h (j + 1) a b (by omega) ha hb) p (by simpa using hp)]
    rfl

/-- What is held while the second loop runs: the row holds zs. -/
structure CIz (w : World) (bl Bo : Nat) (xs : List (El w)) (k0 kc k2 : Nat) (zs : List (El w)) (W : World) : Prop where
  bel : Below w.heap.size w W
  box : W.cell? ⟨Bo, 0, none⟩ = some (.func (.func 8) #[] #[])
  blk : bl < W.heap.size
  len : zs.length = xs.length
  row : RowE W bl (zs.map encL)
  le : kc + 1 ≤ k0 + k2
  tail : ∀ j, k0 + k2 ≤ j + 1 → zs[j]? = xs[j]?
  done : ∃ q p, q + 1 = k0 + k2 ∧ xs[q]? = some p ∧ zs.take kc ++ keepF p (xs.drop (k0 + k2)) = compactF xs
def CI (w : World) (bl Bo : Nat) (xs : List (El w)) (k0 kc k2 : Nat) (W : World) : Prop := ∃ zs, CIz w bl Bo xs k0 kc k2 zs W

theorem CI.start {w W W' : World} {bl Bo : Nat} {xs : List (El w)} {kk jj : Nat} {x y : El w} (h : KI w bl Bo xs kk W) (hb : Below W.heap.size W W') (hj : jj + 1 = kk) (hy : xs[kk]? = some y) (hx : xs[jj]? = some x) (he : eqEl y x = true) : CI w bl Bo xs kk kk 1 W' := by
  refine ⟨xs, h.bel.trans (hb.mono h.bel.size), below_cell hb h.box, Nat.lt_of_lt_of_le h.blk hb.size, rfl, h.row.keep (hb.block bl h.blk), Nat.le_refl _, fun _ _ => rfl, kk, y, rfl, hy, ?_⟩
  subst hj
  cases xs with
  | nil => simp at hx
  | cons x0 r =>
    have h1 := keepF_split jj x0 r (fun j a b hj ha hb => h.ne j a b (by omega) ha hb) x hx
    have h2 : r.drop jj = y :: r.drop (jj + 1) := by
      have hl : jj < r.length := by
        have := (List.getElem?_eq_some_iff.mp hy).1
        simpa using this
      rw [List.drop_eq_getElem_cons hl]
      have : r[jj] = y := by
        have := (List.getElem?_eq_some_iff.mp hy).2
        simpa using this
      rw [this]
    rw [compactF, h1, h2, keepF, if_pos he]
    simp

theorem CI.open {w W : World} {bl Bo : Nat} {xs : List (El w)} {k0 kc k2 m n j2 : Nat} (h : CI w bl Bo xs k0 kc k2 W) (hn : xs.length = n) (hm : n - k0 = m) (hlt : k2 < m) (hj : j2 + 1 = k2) :
    ∃ zs y2 x2 z2, zs[k0 + k2]? = some y2 ∧ zs[k0 + j2]? = some x2 ∧ zs[kc]? = some z2 ∧ xs[k0 + k2]? = some y2 ∧ xs[k0 + j2]? = some x2 ∧ CIz w bl Bo xs k0 kc k2 zs W := by
  obtain ⟨zs, hz⟩ := h
  have hl := hz.len
  have hle := hz.le
  have e1 : zs[k0 + k2]? = some zs[k0 + k2] := List.getElem?_eq_getElem (by omega)
  have e2 : zs[k0 + j2]? = some zs[k0 + j2] := List.getElem?_eq_getElem (by omega)
  exact ⟨zs, _, _, _, e1, e2, List.getElem?_eq_getElem (by omega), (hz.tail _ (by omega)).symm.trans e1, (hz.tail _ (by omega)).symm.trans e2, hz⟩

theorem CIz.same {w W W' : World} {bl Bo : Nat} {xs : List (El w)} {k0 kc k2 j2 : Nat} {zs : List (El w)} {x2 y2 : El w} (h : CIz w bl Bo xs k0 kc k2 zs W) (hb : Below W.heap.size W W') (hj : j2 + 1 = k2) (hy : xs[k0 + k2]? = some y2) (hx : xs[k0 + j2]? = some x2) (he : eqEl y2 x2 = true) : CI w bl Bo xs k0 kc (k2 + 1) W' := by
  obtain ⟨q, p, hq, hp, hd⟩ := h.done
  refine ⟨zs, h.bel.trans (hb.mono h.bel.size), below_cell hb h.box, Nat.lt_of_lt_of_le h.blk hb.size, h.len, h.row.keep (hb.block bl h.blk), by have := h.le; omega, fun j hjj => h.tail j (by omega), k0 + k2, y2, by omega, hy, ?_⟩
  have e : q = k0 + j2 := by omega
  subst e
  rw [hx] at hp
  cases hp
  have hl := (List.getElem?_eq_some_iff.mp hy).1
  have hg := (List.getElem?_eq_some_iff.mp hy).2
  rw [← hd, List.drop_eq_getElem_cons hl, hg, keepF, if_pos he]
  rfl

theorem CIz.put {w W W' : World} {bl Bo : Nat} {xs : List (El w)} {k0 kc k2 j2 : Nat} {zs : List (El w)} {x2 y2 : El w} (h : CIz w bl Bo xs k0 kc k2 zs W) (hbel : Below w.heap.size w W') (hbox : W'.cell? ⟨Bo, 0, none⟩ = some (.func (.func 8) #[] #[])) (hs : bl < W'.heap.size)
    (hrow : RowE W' bl ((zs.set kc y2).map encL)) (hj : j2 + 1 = k2) (hy : xs[k0 + k2]? = some y2) (hx : xs[k0 + j2]? = some x2) (he : eqEl y2 x2 = false) : CI w bl Bo xs k0 (kc + 1) (k2 + 1) W' := by
  obtain ⟨q, p, hq, hp, hd⟩ := h.done
  have hle := h.le
  have hl := (List.getElem?_eq_some_iff.mp hy).1
  have hg := (List.getElem?_eq_some_iff.mp hy).2
  have hzl := h.len
  refine ⟨zs.set kc y2, hbel, hbox, hs, by rw [List.length_set]; exact hzl, hrow, by omega, fun j hjj => ?_, k0 + k2, y2, by omega, hy, ?_⟩
  · rw [List.getElem?_set_ne (by omega)]
    exact h.tail j (by omega)
  · have e : q = k0 + j2 := by omega
    subst e
    rw [hx] at hp
    cases hp
    have ht : (zs.set kc y2).take (kc + 1) = zs.take kc ++ [y2] := by
      rw [List.take_add_one, List.take_set_of_le (Nat.le_refl _), List.getElem?_set_self (by omega)]
      rfl
    rw [ht, ← hd, List.drop_eq_getElem_cons hl, hg]
    conv => rhs; rw [keepF, if_neg (by rw [he]; simp)]
    simp [Nat.add_assoc]

theorem CI.last {w W : World} {bl Bo : Nat} {xs : List (El w)} {k0 kc k2 m n : Nat} (h : CI w bl Bo xs k0 kc k2 W) (hn : xs.length = n) (hm : n - k0 = m) (hk : k0 < n) (he : k2 = m) :
    ∃ zs, CIz w bl Bo xs k0 kc k2 zs W ∧ kc < n ∧ compactF xs = zs.take kc := by
  obtain ⟨zs, hz⟩ := h
  obtain ⟨q, p, hq, hp, hd⟩ := hz.done
  have hle := hz.le
  refine ⟨zs, hz, by omega, ?_⟩
  rw [← hd, List.drop_eq_nil_of_le (by omega), keepF, List.append_nil]

theorem setCells4 (W : World) (bl o : Nat) (a b c d : Value) : (((W.setCell ⟨bl, o, none⟩ a).setCell ⟨bl, o + 1, none⟩ b).setCell ⟨bl, o + 2, none⟩ c).setCell ⟨bl, o + 3, none⟩ d = W.setCells bl o [a, b, c, d] := rfl
theorem blk_setCells_other : ∀ (vs : List Value) (o : Nat) (W : World) (bl b : Nat), b ≠ bl → (W.setCells bl o vs).heap[b]? = W.heap[b]?
  | [], _, _, _, _, _ => rfl
  | v :: vs, o, W, bl, b, h => by
    rw [World.setCells, blk_setCells_other vs (o + 1) _ bl b h]
    unfold World.setCell
    simp only [Array.getElem?_modify]
    rw [if_neg (fun e => h e.symm)]
theorem RowE.put {W : World} {bl : Nat} {zs : List (List Value)} {k : Nat} {cs : List Value} (h : RowE W bl zs) (hk : k < zs.length) (hc : cs.length = 4) : RowE (W.setCells bl (k * 4) cs) bl (zs.set k cs) := by
  intro j ds hj
  by_cases e : j = k
  · subst e
    rw [List.getElem?_set_self hk] at hj
    cases hj
    refine ⟨hc, fun i u hu => ?_⟩
    obtain ⟨hi, hu2⟩ := List.getElem?_eq_some_iff.mp hu
    have h0 := h j zs[j] (List.getElem?_eq_getElem hk)
    have hsome : ∀ i, i < cs.length → (W.cell? ⟨bl, j * 4 + i, none⟩).isSome = true := fun i hi => by
      have := (h0.2 i (zs[j][i]'(by rw [h0.1]; omega)) (List.getElem?_eq_getElem _)).1
      rw [this]; rfl
    refine ⟨?_, ?_⟩
    · rw [World.cell?_setCells_in bl cs (j * 4) W hsome i hi, hu2]
    · rw [World.frozen?_setCells]
      exact (h0.2 i (zs[j][i]'(by rw [h0.1]; omega)) (List.getElem?_eq_getElem _)).2
  · rw [List.getElem?_set_ne (fun h => e h.symm)] at hj
    obtain ⟨h1, h2⟩ := h j ds hj
    refine ⟨h1, fun i u hu => ?_⟩
    have hi := (List.getElem?_eq_some_iff.mp hu).1
    refine ⟨?_, ?_⟩
    · rw [World.cell?_setCells_out bl cs (k * 4) W _ (fun _ _ => by
        show j * 4 + i < k * 4 ∨ k * 4 + cs.length ≤ j * 4 + i
        omega)]
      exact (h2 i u hu).1
    · rw [World.frozen?_setCells]
      exact (h2 i u hu).2
theorem RowE.cut {W : World} {bl : Nat} {zs : List (List Value)} {k : Nat} (cs : List Value) (h : RowE W bl zs) : RowE (W.setCells bl (k * 4) cs) bl (zs.take k) := by
  intro j ds hj
  have hlt := (List.getElem?_eq_some_iff.mp hj).1
  rw [List.length_take] at hlt
  rw [List.getElem?_take_of_lt (by omega)] at hj
  obtain ⟨h1, h2⟩ := h j ds hj
  refine ⟨h1, fun i u hu => ?_⟩
  have hi := (List.getElem?_eq_some_iff.mp hu).1
  refine ⟨?_, ?_⟩
  · rw [World.cell?_setCells_out bl cs (k * 4) W _ (fun _ _ => by
      show j * 4 + i < k * 4 ∨ k * 4 + cs.length ≤ j * 4 + i
      omega)]
    exact (h2 i u hu).1
  · rw [World.frozen?_setCells]
    exact (h2 i u hu).2

/-- clear of the rest of a row of loans. -/
theorem clearLoans (W : World) (ty : TypeId) (bl k n c : Nat) (zs : List (List Value)) (h : RowE W bl zs) (hn : zs.length = k + n) (h0 : 0 < n) :
    (Builtin.clear_ #[34] ty #[.slice (some ⟨bl, k * 4, none⟩) n c]).run Try.prog W = .ok (.tuple #[]) (W.setCells bl (k * 4) (Builtin.zeroCells #[.string ⟨#[]⟩, .string ⟨#[]⟩, .slice none 0 0, .bool false] n).toList) := by
  have ht : Try.prog.underlying 34 = some (.slice 27) := by first | rfl | kernel_rfl
  have hv : ∀ w, (zeroValue 27).run Try.prog w = .ok (.agg #[.string ⟨#[]⟩, .string ⟨#[]⟩, .slice none 0 0, .bool false]) w := fun w => by first | exact Try.zeroValue27 w | rfl
  have hl : (Builtin.zeroCells #[.string ⟨#[]⟩, .string ⟨#[]⟩, .slice none 0 0, .bool false] n).toList.length = n * 4 := by simp [Builtin.zeroCells, Nat.mul_comm]
  have hcell : ∀ j, j < n * 4 → ∃ u, W.cell? ⟨bl, k * 4 + j, none⟩ = some u ∧ W.frozen? ⟨bl, k * 4 + j, none⟩ = false := fun j hj => by
    have hlt : k + j / 4 < zs.length := by omega
    obtain ⟨h1, h2⟩ := h (k + j / 4) zs[k + j / 4] (List.getElem?_eq_getElem hlt)
    have h3 := h2 (j % 4) (zs[k + j / 4][j % 4]'(by rw [h1]; omega)) (List.getElem?_eq_getElem _)
    rw [show (k + j / 4) * 4 + j % 4 = k * 4 + j by omega] at h3
    exact ⟨_, h3⟩
  have hst := run_storeCells_cells (P := Try.prog) bl (k * 4) (Builtin.zeroCells #[.string ⟨#[]⟩, .string ⟨#[]⟩, .slice none 0 0, .bool false] n).toList 0 W
    (fun j hj => by obtain ⟨u, h1, _⟩ := hcell j (by omega); rw [Nat.add_zero, h1]; rfl) (fun j hj => by obtain ⟨u, _, h2⟩ := hcell j (by omega); rw [Nat.add_zero]; exact h2)
    (fun v hv' => by
      simp only [Builtin.zeroCells, Array.toList_map, List.mem_map] at hv'
      obtain ⟨i, _, rfl⟩ := hv'
      have : i % 4 = 0 ∨ i % 4 = 1 ∨ i % 4 = 2 ∨ i % 4 = 3 := by omega
      rcases this with e | e | e | e <;> simp [e] <;> rfl)
  simp only [Nat.add_zero] at hst
  obtain ⟨m, rfl⟩ : ∃ m, n = m + 1 := ⟨n - 1, by omega⟩
  simp [Builtin.clear_, run_underlying ht, hv, hst, Value.cells]

end Go.Proofs.Ytadjekpfehjibaa.PEnv

namespace Go.Proofs.Ytadjekpfehjibaa.PEnv
open Go.RowKit Go.Shelf Go.Lib Go.Proofs.YtadjekpfehjibaaW.PrintWords Go.Proofs.YtadjekpfehjibaaW.PrintLast Go.Proofs.YtadjekpfehjibaaW.PrintMore Go.Proofs.Ytadjekpfehjibaa.PEnvHits
set_option linter.unusedVariables false
set_option linter.unusedSimpArgs false

/-- The closure at two loans of the row, in every world behind. -/
theorem eqCall {w W : World} {Bo : Nat} (hb : Below w.heap.size w W) (hbox : W.cell? ⟨Bo, 0, none⟩ = some (.func (.func 8) #[] #[])) (y x : El w) : ∀ Wq, Below W.heap.size W Wq →
    Calls Try.prog 55 #[.agg #[.string y.l.f0, .string y.l.f1.f0, .slice y.A y.l.f1.f1.length y.c, .bool y.l.f2], .agg #[.string x.l.f0, .string x.l.f1.f0, .slice x.A x.l.f1.f1.length x.c, .bool x.l.f2], .pointer (some ⟨Bo, 0, none⟩)] Wq fun e w'' =>
      e = .returned (.bool (eqEl y x)) ∧ Below W.heap.size W w'' := fun Wq hq =>
  have hbq : Below w.heap.size w Wq := hb.trans (hq.mono hb.size)
  (merged1 y.l x.l y.A y.c x.A x.c Bo Wq (Kd.C_below y.reads hbq) y.room (Kd.C_below x.reads hbq) x.room (below_cell hq hbox)).mono fun e w'' h => ⟨h.1, hq.trans (h.2.mono hq.size)⟩

set_option maxHeartbeats 4000000 in
theorem compact (w : World) (bl Bo cap : Nat) (xs : List (El w)) (W : World) (hbl : w.heap.size ≤ bl) (hBo : Bo ≠ bl) (hcap : xs.length ≤ cap) (hI : KI w bl Bo xs 1 W) (hmax : xs.length ≤ 4611686018427387904) :
    Calls Try.prog 54 #[.slice (some ⟨bl, 0, none⟩) xs.length cap, .func (.func 55) #[] #[ptr Bo]] W fun e w' =>
      e = .returned (.slice (some ⟨bl, 0, none⟩) (compactF xs).length cap) ∧ Below w.heap.size w w' ∧ RowE w' bl ((compactF xs).map encL) := by
  have eg : ∀ args w, (callFunc 55 args).run Try.prog w = .ok (.enter 55 args) w := enters_of Try.func55 (by kernel_rfl) rfl
  obtain ⟨n, hn⟩ : ∃ n, xs.length = n := ⟨_, rfl⟩
  rw [hn] at hcap hmax
  by_cases h2 : n < 2
  · have hc : compactF xs = xs := compactF_all xs (fun j x y hx hy => by
      have := (List.getElem?_eq_some_iff.mp hy).1
      omega)
    rw [hc, hn]
    have hI' := Aside0.mk hI
    have h2b : decide ((n : Int) < 2) = true := by simp; omega
    clear hI h2 hc hcap hmax
    unfold ptr
    go_enter Try.func54, Try.ntmps54
    go_wp2
    go_ret
    exact ⟨by first | rfl | (rw [hn]), hI'.out.bel, hI'.out.row⟩
  · have h2b : decide ((n : Int) < 2) = false := by simp; omega
    have h2' := Aside0.mk h2
    have hI' := Aside0.mk hI
    have hCap := Aside0.mk hcap
    have hMax := Aside0.mk hmax
    clear hI h2 hcap hmax
    rw [hn]
    unfold ptr
    go_enter Try.func54, Try.ntmps54
    go_wp2
    go_loopg [5] n (fun gg s5 wr => ∃ kk : Nat, 1 ≤ kk ∧ kk ≤ n ∧ n - kk ≤ gg ∧ s5 = .int .i64 kk ∧ Aside (KI w bl Bo xs kk wr))
    case atStart => exact ⟨1, Nat.le_refl _, by have := h2'.out; omega, by omega, rfl, hI'.out⟩
    case round =>
      obtain ⟨kk, hk1, hkn, hg, rfl, hK⟩ := hrel
      have hK := Aside0.mk hK.out
      by_cases hlt : kk < n
      · have hltb : decide ((kk : Int) < (n : Int)) = true := by simp; omega
        obtain ⟨jj, hjk⟩ : ∃ jj, jj + 1 = kk := ⟨kk - 1, by omega⟩
        have hltz : (kk : Int) < (n : Int) := by omega
        have hltj : (jj : Int) < (n : Int) := by omega
        have hw : wrap64 ((kk : Int) - 1) = (jj : Int) := by have := hMax.out; have := hCap.out; unfold wrap64; omega
        have hw' : IntKind.i64.wrap ((kk : Int) - 1) = (jj : Int) := by rw [IntKind.wrap_i64]; have := hMax.out; have := hCap.out; omega
        obtain ⟨y, hy⟩ : ∃ y, xs[kk]? = some y := ⟨_, List.getElem?_eq_getElem (by omega)⟩
        obtain ⟨x, hx⟩ : ∃ x, xs[jj]? = some x := ⟨_, List.getElem?_eq_getElem (by omega)⟩
        have callA := eqCall hK.out.bel hK.out.box y x
        obtain ⟨b0, b1, b2, b3⟩ := row4 hK.out.row hy
        obtain ⟨d0, d1, d2, d3⟩ := row4 hK.out.row hx
        have r0 := fun Wq (h : Below wr.heap.size wr Wq) => below_cell h b0
        have r1 := fun Wq (h : Below wr.heap.size wr Wq) => below_cell h b1
        have r2 := fun Wq (h : Below wr.heap.size wr Wq) => below_cell h b2
        have r3 := fun Wq (h : Below wr.heap.size wr Wq) => below_cell h b3
        have s0 := fun Wq (h : Below wr.heap.size wr Wq) => below_cell h d0
        have s1 := fun Wq (h : Below wr.heap.size wr Wq) => below_cell h d1
        have s2 := fun Wq (h : Below wr.heap.size wr Wq) => below_cell h d2
        have s3 := fun Wq (h : Below wr.heap.size wr Wq) => below_cell h d3
        have hJK := Aside0.mk hjk
        have hY := Aside0.mk hy
        have hX := Aside0.mk hx
        obtain ⟨bb, hbb⟩ : ∃ bb, eqEl y x = bb := ⟨_, rfl⟩
        rw [hbb] at callA
        have hE := Aside0.mk hbb
        have hN := Aside0.mk hn
        clear b0 b1 b2 b3 d0 d1 d2 d3 hjk hy hx hbb hn
        go_wp2_with fail
        refine region_cls (fun W' => Below wr.heap.size wr W') (by kernel_rfl) (by kernel_rfl) (below_drew1 (Below.refl _ wr)) ?_
        go_big_quiet_want
        refine ⟨.func (.func 55) #[] #[.pointer (some ⟨Bo, 0, none⟩)], fun Wq hWq => ?_, ?_⟩
        · have ca := callA Wq hWq
          have q0 := r0 Wq hWq
          have q1 := r1 Wq hWq
          have q2 := r2 Wq hWq
          have q3 := r3 Wq hWq
          have p0 := s0 Wq hWq
          have p1 := s1 Wq hWq
          have p2 := s2 Wq hWq
          have p3 := s3 Wq hWq
          clear callA r0 r1 r2 r3 s0 s1 s2 s3
          unfold Oper.quietAt
          go_simp
        simp only [Act.put, List.setIfInBounds_toArray, List.set_cons_zero, List.set_cons_succ]
        go_big_quiet_on
        go_big_quiet_want
        refine ⟨.slice (some ⟨bl, 0, none⟩) n cap, fun Wq hWq => ?_, ?_⟩
        · have ca := callA Wq hWq
          have q0 := r0 Wq hWq
          have q1 := r1 Wq hWq
          have q2 := r2 Wq hWq
          have q3 := r3 Wq hWq
          have p0 := s0 Wq hWq
          have p1 := s1 Wq hWq
          have p2 := s2 Wq hWq
          have p3 := s3 Wq hWq
          clear callA r0 r1 r2 r3 s0 s1 s2 s3
          unfold Oper.quietAt
          go_simp
        simp only [Act.put, List.setIfInBounds_toArray, List.set_cons_zero, List.set_cons_succ]
        go_big_quiet_on
        go_big_quiet_want
        refine ⟨.int .i64 kk, fun Wq hWq => ?_, ?_⟩
        · have ca := callA Wq hWq
          have q0 := r0 Wq hWq
          have q1 := r1 Wq hWq
          have q2 := r2 Wq hWq
          have q3 := r3 Wq hWq
          have p0 := s0 Wq hWq
          have p1 := s1 Wq hWq
          have p2 := s2 Wq hWq
          have p3 := s3 Wq hWq
          clear callA r0 r1 r2 r3 s0 s1 s2 s3
          unfold Oper.quietAt
          go_simp
        simp only [Act.put, List.setIfInBounds_toArray, List.set_cons_zero, List.set_cons_succ]
        go_big_quiet_on
        go_big_quiet_want
        refine ⟨.pointer (some ⟨bl, kk * 4, none⟩), fun Wq hWq => ?_, ?_⟩
        · have ca := callA Wq hWq
          have q0 := r0 Wq hWq
          have q1 := r1 Wq hWq
          have q2 := r2 Wq hWq
          have q3 := r3 Wq hWq
          have p0 := s0 Wq hWq
          have p1 := s1 Wq hWq
          have p2 := s2 Wq hWq
          have p3 := s3 Wq hWq
          clear callA r0 r1 r2 r3 s0 s1 s2 s3
          unfold Oper.quietAt
          go_simp
        simp only [Act.put, List.setIfInBounds_toArray, List.set_cons_zero, List.set_cons_succ]
        go_big_quiet_on
        go_big_quiet_want
        refine ⟨.agg #[.string y.l.f0, .string y.l.f1.f0, .slice y.A y.l.f1.f1.length y.c, .bool y.l.f2], fun Wq hWq => ?_, ?_⟩
        · have ca := callA Wq hWq
          have q0 := r0 Wq hWq
          have q1 := r1 Wq hWq
          have q2 := r2 Wq hWq
          have q3 := r3 Wq hWq
          have p0 := s0 Wq hWq
          have p1 := s1 Wq hWq
          have p2 := s2 Wq hWq
          have p3 := s3 Wq hWq
          clear callA r0 r1 r2 r3 s0 s1 s2 s3
          unfold Oper.quietAt
          go_simp
        simp only [Act.put, List.setIfInBounds_toArray, List.set_cons_zero, List.set_cons_succ]
        go_big_quiet_on
        go_big_quiet_want
        refine ⟨.slice (some ⟨bl, 0, none⟩) n cap, fun Wq hWq => ?_, ?_⟩
        · have ca := callA Wq hWq
          have q0 := r0 Wq hWq
          have q1 := r1 Wq hWq
          have q2 := r2 Wq hWq
          have q3 := r3 Wq hWq
          have p0 := s0 Wq hWq
          have p1 := s1 Wq hWq
          have p2 := s2 Wq hWq
          have p3 := s3 Wq hWq
          clear callA r0 r1 r2 r3 s0 s1 s2 s3
          unfold Oper.quietAt
          go_simp
        simp only [Act.put, List.setIfInBounds_toArray, List.set_cons_zero, List.set_cons_succ]
        go_big_quiet_on
        go_big_quiet_want
        refine ⟨.int .i64 kk, fun Wq hWq => ?_, ?_⟩
        · have ca := callA Wq hWq
          have q0 := r0 Wq hWq
          have q1 := r1 Wq hWq
          have q2 := r2 Wq hWq
          have q3 := r3 Wq hWq
          have p0 := s0 Wq hWq
          have p1 := s1 Wq hWq
          have p2 := s2 Wq hWq
          have p3 := s3 Wq hWq
          clear callA r0 r1 r2 r3 s0 s1 s2 s3
          unfold Oper.quietAt
          go_simp
        simp only [Act.put, List.setIfInBounds_toArray, List.set_cons_zero, List.set_cons_succ]
        go_big_quiet_on
        go_big_quiet_want
        refine ⟨.int .i64 jj, fun Wq hWq => ?_, ?_⟩
        · have ca := callA Wq hWq
          have q0 := r0 Wq hWq
          have q1 := r1 Wq hWq
          have q2 := r2 Wq hWq
          have q3 := r3 Wq hWq
          have p0 := s0 Wq hWq
          have p1 := s1 Wq hWq
          have p2 := s2 Wq hWq
          have p3 := s3 Wq hWq
          clear callA r0 r1 r2 r3 s0 s1 s2 s3
          unfold Oper.quietAt
          go_simp
        simp only [Act.put, List.setIfInBounds_toArray, List.set_cons_zero, List.set_cons_succ]
        go_big_quiet_on
        go_big_quiet_want
        refine ⟨.pointer (some ⟨bl, jj * 4, none⟩), fun Wq hWq => ?_, ?_⟩
        · have ca := callA Wq hWq
          have q0 := r0 Wq hWq
          have q1 := r1 Wq hWq
          have q2 := r2 Wq hWq
          have q3 := r3 Wq hWq
          have p0 := s0 Wq hWq
          have p1 := s1 Wq hWq
          have p2 := s2 Wq hWq
          have p3 := s3 Wq hWq
          clear callA r0 r1 r2 r3 s0 s1 s2 s3
          unfold Oper.quietAt
          go_simp
        simp only [Act.put, List.setIfInBounds_toArray, List.set_cons_zero, List.set_cons_succ]
        go_big_quiet_on
        go_big_quiet_want
        refine ⟨.agg #[.string x.l.f0, .string x.l.f1.f0, .slice x.A x.l.f1.f1.length x.c, .bool x.l.f2], fun Wq hWq => ?_, ?_⟩
        · have ca := callA Wq hWq
          have q0 := r0 Wq hWq
          have q1 := r1 Wq hWq
          have q2 := r2 Wq hWq
          have q3 := r3 Wq hWq
          have p0 := s0 Wq hWq
          have p1 := s1 Wq hWq
          have p2 := s2 Wq hWq
          have p3 := s3 Wq hWq
          clear callA r0 r1 r2 r3 s0 s1 s2 s3
          unfold Oper.quietAt
          go_simp
        simp only [Act.put, List.setIfInBounds_toArray, List.set_cons_zero, List.set_cons_succ]
        go_big_quiet_on
        go_big_quiet_want
        refine ⟨.bool bb, fun Wq hWq => ?_, ?_⟩
        · have ca := callA Wq hWq
          have q0 := r0 Wq hWq
          have q1 := r1 Wq hWq
          have q2 := r2 Wq hWq
          have q3 := r3 Wq hWq
          have p0 := s0 Wq hWq
          have p1 := s1 Wq hWq
          have p2 := s2 Wq hWq
          have p3 := s3 Wq hWq
          clear callA r0 r1 r2 r3 s0 s1 s2 s3
          unfold Oper.quietAt
          go_simp
        simp only [Act.put, List.setIfInBounds_toArray, List.set_cons_zero, List.set_cons_succ]
        go_big_quiet_on
        refine wpQuiet_nil ?_
        intro W3 hW3
        clear callA r0 r1 r2 r3 s0 s1 s2 s3
        cases bb with
        | false =>
          have hbig : n ≤ 4611686018427387904 := by have := hMax.out; have := hCap.out; omega
          go_wp2
          go_roundg (n - (kk + 1))
          case measure => omega
          case rel => exact ⟨kk + 1, by omega, by omega, by omega, by go_num, KI.next hK.out hW3 hJK.out hY.out hX.out hE.out⟩
        | true =>
          have hck : ¬ cap = kk := by have := hCap.out; omega
          go_wp2_with fail
          obtain ⟨m, hm⟩ : ∃ m, n - kk = m := ⟨_, rfl⟩
          obtain ⟨cm, hcm⟩ : ∃ cm, cap - kk = cm := ⟨_, rfl⟩
          rw [hm, hcm]
          have hM := Aside0.mk hm
          have hCm := Aside0.mk hcm
          have hLt := Aside0.mk hlt
          have hI2 := Aside0.mk (CI.start hK.out hW3 hJK.out hY.out hX.out hE.out)
          clear hm hcm hck hltb hltz hltj hw hw' hlt hg hk1 hkn
          go_loopg [5, 7] m (fun gg s5 s7 W4 => ∃ kc k2 : Nat, 1 ≤ k2 ∧ k2 ≤ m ∧ m - k2 ≤ gg ∧ s5 = .int .i64 kc ∧ s7 = .int .i64 k2 ∧ Aside (CI w bl Bo xs kk kc k2 W4))
          case atStart => exact ⟨kk, 1, Nat.le_refl _, by have := hM.out; have := hLt.out; omega, by omega, rfl, rfl, hI2.out⟩
          case round =>
            obtain ⟨kc, k2, hk1, hkn, hg, rfl, rfl, hC⟩ := hrel
            have hC := Aside0.mk hC.out
            by_cases hlt : k2 < m
            · have hltb : decide ((k2 : Int) < (m : Int)) = true := by simp; omega
              obtain ⟨j2, hjk⟩ : ∃ j2, j2 + 1 = k2 := ⟨k2 - 1, by omega⟩
              have hltz : (k2 : Int) < (m : Int) := by omega
              have hltj : (j2 : Int) < (m : Int) := by omega
              have hw : wrap64 ((k2 : Int) - 1) = (j2 : Int) := by have := hMax.out; have := hCap.out; have := hM.out; unfold wrap64; omega
              have hw' : IntKind.i64.wrap ((k2 : Int) - 1) = (j2 : Int) := by rw [IntKind.wrap_i64]; have := hMax.out; have := hCap.out; have := hM.out; omega
              obtain ⟨zs, y2, x2, z2, hy, hx, hz, hy', hx', hnext⟩ := CI.open hC.out hN.out hM.out hlt hjk
              have callA := eqCall hnext.bel hnext.box y2 x2
              obtain ⟨b0, b1, b2', b3⟩ := row4 hnext.row hy
              obtain ⟨d0, d1, d2, d3⟩ := row4 hnext.row hx
              rw [Nat.add_mul] at b0 b1 b2' b3 d0 d1 d2 d3
              have r0 := fun Wq (h : Below wr.heap.size wr Wq) => below_cell h b0
              have r1 := fun Wq (h : Below wr.heap.size wr Wq) => below_cell h b1
              have r2 := fun Wq (h : Below wr.heap.size wr Wq) => below_cell h b2'
              have r3 := fun Wq (h : Below wr.heap.size wr Wq) => below_cell h b3
              have s0 := fun Wq (h : Below wr.heap.size wr Wq) => below_cell h d0
              have s1 := fun Wq (h : Below wr.heap.size wr Wq) => below_cell h d1
              have s2 := fun Wq (h : Below wr.heap.size wr Wq) => below_cell h d2
              have s3 := fun Wq (h : Below wr.heap.size wr Wq) => below_cell h d3
              have hJ2 := Aside0.mk hjk
              have hY2 := Aside0.mk (And.intro hy hy')
              have hX2 := Aside0.mk (And.intro hx hx')
              have hZ2 := Aside0.mk hz
              have hNx := Aside0.mk hnext
              have hL2 := Aside0.mk hlt
              obtain ⟨b2, hbb⟩ : ∃ b2, eqEl y2 x2 = b2 := ⟨_, rfl⟩
              rw [hbb] at callA
              have hE2 := Aside0.mk hbb
              clear b0 b1 b2' b3 d0 d1 d2 d3 hjk hy hx hy' hx' hz hnext hbb hlt
              go_wp2_with fail
              refine region_cls (fun W' => Below wr.heap.size wr W') (by kernel_rfl) (by kernel_rfl) (below_drew1 (Below.refl _ wr)) ?_
              go_big_quiet_want
              refine ⟨.func (.func 55) #[] #[.pointer (some ⟨Bo, 0, none⟩)], fun Wq hWq => ?_, ?_⟩
              · have ca := callA Wq hWq
                have q0 := r0 Wq hWq
                have q1 := r1 Wq hWq
                have q2 := r2 Wq hWq
                have q3 := r3 Wq hWq
                have p0 := s0 Wq hWq
                have p1 := s1 Wq hWq
                have p2 := s2 Wq hWq
                have p3 := s3 Wq hWq
                clear callA r0 r1 r2 r3 s0 s1 s2 s3
                unfold Oper.quietAt
                go_simp
              simp only [Act.put, List.setIfInBounds_toArray, List.set_cons_zero, List.set_cons_succ]
              go_big_quiet_on
              go_big_quiet_want
              refine ⟨.slice (some ⟨bl, kk * 4, none⟩) m cm, fun Wq hWq => ?_, ?_⟩
              · have ca := callA Wq hWq
                have q0 := r0 Wq hWq
                have q1 := r1 Wq hWq
                have q2 := r2 Wq hWq
                have q3 := r3 Wq hWq
                have p0 := s0 Wq hWq
                have p1 := s1 Wq hWq
                have p2 := s2 Wq hWq
                have p3 := s3 Wq hWq
                clear callA r0 r1 r2 r3 s0 s1 s2 s3
                unfold Oper.quietAt
                go_simp
              simp only [Act.put, List.setIfInBounds_toArray, List.set_cons_zero, List.set_cons_succ]
              go_big_quiet_on
              go_big_quiet_want
              refine ⟨.int .i64 k2, fun Wq hWq => ?_, ?_⟩
              · have ca := callA Wq hWq
                have q0 := r0 Wq hWq
                have q1 := r1 Wq hWq
                have q2 := r2 Wq hWq
                have q3 := r3 Wq hWq
                have p0 := s0 Wq hWq
                have p1 := s1 Wq hWq
                have p2 := s2 Wq hWq
                have p3 := s3 Wq hWq
                clear callA r0 r1 r2 r3 s0 s1 s2 s3
                unfold Oper.quietAt
                go_simp
              simp only [Act.put, List.setIfInBounds_toArray, List.set_cons_zero, List.set_cons_succ]
              go_big_quiet_on
              go_big_quiet_want
              refine ⟨.pointer (some ⟨bl, kk * 4 + k2 * 4, none⟩), fun Wq hWq => ?_, ?_⟩
              · have ca := callA Wq hWq
                have q0 := r0 Wq hWq
                have q1 := r1 Wq hWq
                have q2 := r2 Wq hWq
                have q3 := r3 Wq hWq
                have p0 := s0 Wq hWq
                have p1 := s1 Wq hWq
                have p2 := s2 Wq hWq
                have p3 := s3 Wq hWq
                clear callA r0 r1 r2 r3 s0 s1 s2 s3
                unfold Oper.quietAt
                go_simp
              simp only [Act.put, List.setIfInBounds_toArray, List.set_cons_zero, List.set_cons_succ]
              go_big_quiet_on
              go_big_quiet_want
              refine ⟨.agg #[.string y2.l.f0, .string y2.l.f1.f0, .slice y2.A y2.l.f1.f1.length y2.c, .bool y2.l.f2], fun Wq hWq => ?_, ?_⟩
              · have ca := callA Wq hWq
                have q0 := r0 Wq hWq
                have q1 := r1 Wq hWq
                have q2 := r2 Wq hWq
                have q3 := r3 Wq hWq
                have p0 := s0 Wq hWq
                have p1 := s1 Wq hWq
                have p2 := s2 Wq hWq
                have p3 := s3 Wq hWq
                clear callA r0 r1 r2 r3 s0 s1 s2 s3
                unfold Oper.quietAt
                go_simp
              simp only [Act.put, List.setIfInBounds_toArray, List.set_cons_zero, List.set_cons_succ]
              go_big_quiet_on
              go_big_quiet_want
              refine ⟨.slice (some ⟨bl, kk * 4, none⟩) m cm, fun Wq hWq => ?_, ?_⟩
              · have ca := callA Wq hWq
                have q0 := r0 Wq hWq
                have q1 := r1 Wq hWq
                have q2 := r2 Wq hWq
                have q3 := r3 Wq hWq
                have p0 := s0 Wq hWq
                have p1 := s1 Wq hWq
                have p2 := s2 Wq hWq
                have p3 := s3 Wq hWq
                clear callA r0 r1 r2 r3 s0 s1 s2 s3
                unfold Oper.quietAt
                go_simp
              simp only [Act.put, List.setIfInBounds_toArray, List.set_cons_zero, List.set_cons_succ]
              go_big_quiet_on
              go_big_quiet_want
              refine ⟨.int .i64 k2, fun Wq hWq => ?_, ?_⟩
              · have ca := callA Wq hWq
                have q0 := r0 Wq hWq
                have q1 := r1 Wq hWq
                have q2 := r2 Wq hWq
                have q3 := r3 Wq hWq
                have p0 := s0 Wq hWq
                have p1 := s1 Wq hWq
                have p2 := s2 Wq hWq
                have p3 := s3 Wq hWq
                clear callA r0 r1 r2 r3 s0 s1 s2 s3
                unfold Oper.quietAt
                go_simp
              simp only [Act.put, List.setIfInBounds_toArray, List.set_cons_zero, List.set_cons_succ]
              go_big_quiet_on
              go_big_quiet_want
              refine ⟨.int .i64 j2, fun Wq hWq => ?_, ?_⟩
              · have ca := callA Wq hWq
                have q0 := r0 Wq hWq
                have q1 := r1 Wq hWq
                have q2 := r2 Wq hWq
                have q3 := r3 Wq hWq
                have p0 := s0 Wq hWq
                have p1 := s1 Wq hWq
                have p2 := s2 Wq hWq
                have p3 := s3 Wq hWq
                clear callA r0 r1 r2 r3 s0 s1 s2 s3
                unfold Oper.quietAt
                go_simp
              simp only [Act.put, List.setIfInBounds_toArray, List.set_cons_zero, List.set_cons_succ]
              go_big_quiet_on
              go_big_quiet_want
              refine ⟨.pointer (some ⟨bl, kk * 4 + j2 * 4, none⟩), fun Wq hWq => ?_, ?_⟩
              · have ca := callA Wq hWq
                have q0 := r0 Wq hWq
                have q1 := r1 Wq hWq
                have q2 := r2 Wq hWq
                have q3 := r3 Wq hWq
                have p0 := s0 Wq hWq
                have p1 := s1 Wq hWq
                have p2 := s2 Wq hWq
                have p3 := s3 Wq hWq
                clear callA r0 r1 r2 r3 s0 s1 s2 s3
                unfold Oper.quietAt
                go_simp
              simp only [Act.put, List.setIfInBounds_toArray, List.set_cons_zero, List.set_cons_succ]
              go_big_quiet_on
              go_big_quiet_want
              refine ⟨.agg #[.string x2.l.f0, .string x2.l.f1.f0, .slice x2.A x2.l.f1.f1.length x2.c, .bool x2.l.f2], fun Wq hWq => ?_, ?_⟩
              · have ca := callA Wq hWq
                have q0 := r0 Wq hWq
                have q1 := r1 Wq hWq
                have q2 := r2 Wq hWq
                have q3 := r3 Wq hWq
                have p0 := s0 Wq hWq
                have p1 := s1 Wq hWq
                have p2 := s2 Wq hWq
                have p3 := s3 Wq hWq
                clear callA r0 r1 r2 r3 s0 s1 s2 s3
                unfold Oper.quietAt
                go_simp
              simp only [Act.put, List.setIfInBounds_toArray, List.set_cons_zero, List.set_cons_succ]
              go_big_quiet_on
              go_big_quiet_want
              refine ⟨.bool b2, fun Wq hWq => ?_, ?_⟩
              · have ca := callA Wq hWq
                have q0 := r0 Wq hWq
                have q1 := r1 Wq hWq
                have q2 := r2 Wq hWq
                have q3 := r3 Wq hWq
                have p0 := s0 Wq hWq
                have p1 := s1 Wq hWq
                have p2 := s2 Wq hWq
                have p3 := s3 Wq hWq
                clear callA r0 r1 r2 r3 s0 s1 s2 s3
                unfold Oper.quietAt
                go_simp
              simp only [Act.put, List.setIfInBounds_toArray, List.set_cons_zero, List.set_cons_succ]
              go_big_quiet_on
              go_big_quiet_want
              refine ⟨.bool (!b2), fun Wq hWq => ?_, ?_⟩
              · have ca := callA Wq hWq
                have q0 := r0 Wq hWq
                have q1 := r1 Wq hWq
                have q2 := r2 Wq hWq
                have q3 := r3 Wq hWq
                have p0 := s0 Wq hWq
                have p1 := s1 Wq hWq
                have p2 := s2 Wq hWq
                have p3 := s3 Wq hWq
                clear callA r0 r1 r2 r3 s0 s1 s2 s3
                unfold Oper.quietAt
                go_simp
              simp only [Act.put, List.setIfInBounds_toArray, List.set_cons_zero, List.set_cons_succ]
              go_big_quiet_on
              refine wpQuiet_nil ?_
              intro W4 hW4
              have hbig : m ≤ 4611686018427387904 := by have := hMax.out; have := hCap.out; have := hM.out; omega
              have v0 := r0 W4 hW4
              have v1 := r1 W4 hW4
              have v2 := r2 W4 hW4
              have v3 := r3 W4 hW4
              obtain ⟨z0, z1, z2', z3⟩ := row4 (hNx.out.row.keep (hW4.block bl hNx.out.blk)) hZ2.out
              obtain ⟨f0, f1, f2, f3⟩ := row4f (hNx.out.row.keep (hW4.block bl hNx.out.blk)) hZ2.out
              have hkc : (kc : Int) < (n : Int) := by have := hNx.out.le; have := hL2.out; have := hM.out; omega
              have hB4 := Aside0.mk (hNx.out.bel.trans (hW4.mono hNx.out.bel.size))
              have hX4 := Aside0.mk (below_cell hW4 hNx.out.box)
              have hS4 := Aside0.mk (Nat.lt_of_lt_of_le hNx.out.blk hW4.size)
              have hR4 := Aside0.mk (hNx.out.row.keep (hW4.block bl hNx.out.blk))
              have hT4 := Aside0.mk hW4
              clear callA r0 r1 r2 r3 s0 s1 s2 s3
              cases b2 with
              | true =>
                clear v0 v1 v2 v3 z0 z1 z2' z3 f0 f1 f2 f3 hkc
                go_wp2
                go_roundg (m - (k2 + 1))
                case measure => omega
                case rel => exact ⟨kc, k2 + 1, by omega, by have := hL2.out; omega, by omega, rfl, by go_num, hNx.out.same hW4 hJ2.out hY2.out.2 hX2.out.2 hE2.out⟩
              | false =>
                have hkb : kc ≤ 4611686018427387904 := by have := hMax.out; have := hCap.out; omega
                go_wp2
                rw [setCells4]
                go_roundg (m - (k2 + 1))
                case measure => omega
                case rel =>
                  exact ⟨kc + 1, k2 + 1, by omega, by have := hL2.out; omega, by omega, by go_num, by go_num, hNx.out.put (W := wr) (below_setCells _ _ W4 bl hbl hB4.out) ((World.cell?_of_block (blk_setCells_other _ _ W4 bl Bo hBo)).trans hX4.out)
                    (by rw [size_setCells]; exact hS4.out) (by
                      have := hR4.out.put (k := kc) (cs := encL y2) (by rw [List.length_map]; exact (List.getElem?_eq_some_iff.mp hZ2.out).1) rfl
                      rw [List.map_set]
                      exact this) hJ2.out hY2.out.2 hX2.out.2 hE2.out⟩
            · have hke : k2 = m := by omega
              obtain ⟨zs, hz, hkn', hcmp⟩ := CI.last hC.out hN.out hM.out hLt.out hke
              have hltb : decide ((k2 : Int) < (m : Int)) = false := by simp; omega
              have hltc : decide (k2 < m) = false := by simp; omega
              have hkc : (kc : Int) ≤ (n : Int) := by omega
              have hck : ¬ cap = kc := by have := hCap.out; omega
              have hclr := fun ty => clearLoans wr ty bl kc (n - kc) (cap - kc) (zs.map encL) hz.row (by rw [List.length_map, hz.len, hN.out]; omega) (by omega)
              have hkl : kc ≤ n := by omega
              have hkcap : (kc : Int) ≤ (cap : Int) := by have := hCap.out; omega
              obtain ⟨W5, hW5⟩ : ∃ W5, wr.setCells bl (kc * 4) (Builtin.zeroCells #[.string ⟨#[]⟩, .string ⟨#[]⟩, .slice none 0 0, .bool false] (n - kc)).toList = W5 := ⟨_, rfl⟩
              have hb5 := Aside0.mk (below_setCells (Builtin.zeroCells #[.string ⟨#[]⟩, .string ⟨#[]⟩, .slice none 0 0, .bool false] (n - kc)).toList (kc * 4) wr bl hbl hz.bel)
              have hr5 := Aside0.mk (hz.row.cut (k := kc) (Builtin.zeroCells #[.string ⟨#[]⟩, .string ⟨#[]⟩, .slice none 0 0, .bool false] (n - kc)).toList)
              rw [hW5] at hclr hb5 hr5
              have hlen : (compactF xs).length = kc := by rw [hcmp, List.length_take, hz.len, hN.out]; omega
              have hcmp' := Aside0.mk hcmp
              have hlen' := Aside0.mk hlen
              clear hcmp hlen hz hW5 hke hlt hg hk1 hkn
              go_wp2_with (at_builtin; refine wpList_clear_known rfl _ 34 rfl _ rfl hclr ?_)
              go_ret
              refine ⟨by rw [hlen'.out]; rfl, hb5.out, ?_⟩
              rw [hcmp'.out, List.map_take]
              exact hr5.out
      · have hltb : decide ((kk : Int) < (n : Int)) = false := by simp; omega
        have hltc : decide (kk < n) = false := by simp; omega
        have hall : compactF xs = xs := compactF_all xs (fun j x y hx hy => by
          have := (List.getElem?_eq_some_iff.mp hy).1
          exact hK.out.ne j x y (by omega) hx hy)
        have hAll := Aside0.mk hall
        have hN := Aside0.mk hn
        clear hall hn hlt hg
        go_wp2
        go_ret
        refine ⟨by rw [hAll.out, hN.out]; rfl, hK.out.bel, ?_⟩
        rw [hAll.out]
        exact hK.out.row

end Go.Proofs.Ytadjekpfehjibaa.PEnv

namespace Go.Proofs.Ytadjekpfehjibaa.PEnv
open Go.RowKit Go.Shelf Go.Lib Go.Proofs.YtadjekpfehjibaaW.PrintWords Go.Proofs.YtadjekpfehjibaaW.PrintLast Go.Proofs.YtadjekpfehjibaaW.PrintMore Go.Proofs.Ytadjekpfehjibaa.PEnvHits
set_option linter.unusedVariables false
set_option linter.unusedSimpArgs false

def keepL (x : S27) : List S27 → List S27
  | [] => []
  | y :: r => if cmpLoan y x = 0 then keepL y r else y :: keepL y r
def compactL : List S27 → List S27
  | [] => []
  | x :: r => x :: keepL x r
theorem keepF_map {w : World} : ∀ (r : List (El w)) (x : El w), (keepF x r).map El.l = keepL x.l (r.map El.l)
  | [], _ => rfl
  | y :: r, x => by
    rw [keepF, List.map_cons, keepL]
    by_cases h : cmpLoan y.l x.l = 0
    · rw [if_pos (show eqEl y x = true from by unfold eqEl cmpEl; rw [h]; rfl), if_pos h, keepF_map r y]
    · rw [if_neg (show ¬ eqEl y x = true from by unfold eqEl cmpEl; simpa using h), if_neg h, List.map_cons, keepF_map r y]
theorem compactF_map {w : World} (xs : List (El w)) : (compactF xs).map El.l = compactL (xs.map El.l) := by
  cases xs with
  | nil => rfl
  | cons x r => rw [compactF, List.map_cons, keepF_map]; rfl

/-- Two lists of loans, sorted, each loan once. -/
def MergedOf (ls ms rs : List S27) : Prop := ∃ zs : List S27, zs.Perm (ls ++ ms) ∧ zs.Pairwise (fun x y => ¬ cmpLoan y x < 0) ∧ rs = compactL zs

set_option maxHeartbeats 4000000 in
theorem compactNil (cap : Nat) (X : Option Addr) (fv : Value) (W : World) :
    Calls Try.prog 54 #[.slice X 0 cap, fv] W fun e w' => e = .returned (.slice X 0 cap) ∧ w' = W := by
  go_enter Try.func54, Try.ntmps54
  go_wp2
  go_ret
  exact ⟨rfl, rfl⟩

/-- What env.merged hands back. -/
def MergedPost (w : World) (ls ms : List S27) (e : Ending) (w' : World) : Prop :=
  ∃ (X : Option Addr) (cap : Nat) (rs : List (El w)), e = .returned (.slice X rs.length cap) ∧ rs.length ≤ cap ∧ Below w.heap.size w w' ∧ MergedOf ls ms (rs.map El.l) ∧ ((rs = [] ∧ X = none) ∨ ∃ bl, X = some ⟨bl, 0, none⟩ ∧ w.heap.size ≤ bl ∧ RowE w' bl (rs.map encL))

set_option maxHeartbeats 4000000 in
theorem merged0 (A B : Option Addr) (c d : Nat) (w : World) :
    Calls Try.prog 47 #[.slice A 0 c, .slice B 0 d, .func (.func 8) #[] #[]] w fun e w' => e = .returned (.slice none 0 0) ∧ Below w.heap.size w w' := by
  have hb2 : Below w.heap.size w ((w.alloc (.cells #[.func (.func 8) #[] #[]] 31)).alloc (.cells #[.slice A 0 c, .slice B 0 d] 34)) := ((Below.refl _ w).alloc (Nat.le_refl _) _).alloc (by simp) _
  have e1 := World.alloc_heap_new (w.alloc (.cells #[.func (.func 8) #[] #[]] 31)) (.cells #[.slice A 0 c, .slice B 0 d] 34)
  have hsz : (w.alloc (.cells #[.func (.func 8) #[] #[]] 31)).heap.size = w.heap.size + 1 := by simp
  have e0 : ((w.alloc (.cells #[.func (.func 8) #[] #[]] 31)).alloc (.cells #[.slice A 0 c, .slice B 0 d] 34)).heap[w.heap.size]? = some (.cells #[.func (.func 8) #[] #[]] 31) := by
    rw [heap_alloc_old _ _ (by simp)]
    exact World.alloc_heap_new w _
  rw [hsz] at e1
  obtain ⟨W2, hW2⟩ : ∃ W2, ((w.alloc (.cells #[.func (.func 8) #[] #[]] 31)).alloc (.cells #[.slice A 0 c, .slice B 0 d] 34)) = W2 := ⟨_, rfl⟩
  rw [hW2] at hb2 e1 e0
  have hconc := concat0 A B 0 c 0 d (w.heap.size + 1) W2 rfl (by unfold World.cell?; rw [e1]; rfl) (by unfold World.cell?; rw [e1]; rfl)
  have hbox : W2.cell? ⟨w.heap.size, 0, none⟩ = some (.func (.func 8) #[] #[]) := by unfold World.cell?; rw [e0]; rfl
  have hsort : ∀ (fv : Value) (W : World), Calls Try.prog 53 #[.slice none 0 0, fv] W fun e w' => e = .returned (.tuple #[]) ∧ w' = W := fun fv W =>
    AnyF.slices_SortFunc_none Try.sortLoan none 0 fv W
  have hcomp := fun fv W => compactNil 0 none fv W
  clear e0 e1 hsz
  go_enter Try.func47, Try.ntmps47
  go_wp2_with (first
    | (go_at_call 52; first | rw [hW2] | skip; refine hconc.mono ?_; clear hconc; rintro e W3 ⟨rfl, hb3⟩; have hbox3 := below_cell hb3 hbox)
    | (go_at_call 53; refine (hsort _ _).mono ?_; rintro e W4 ⟨rfl, rfl⟩)
    | (go_at_call 54; refine (hcomp _ _).mono ?_; rintro e W5 ⟨rfl, rfl⟩))
  go_ret
  exact ⟨rfl, hb2.trans (hb3.mono hb2.size)⟩

theorem asc_map {w : World} {zs : List (El w)} (h : Asc zs) : (zs.map El.l).Pairwise (fun x y => ¬ cmpLoan y x < 0) := by
  rw [List.pairwise_map]
  exact h

set_option maxHeartbeats 4000000 in
theorem mergedC (ls ms : List S27) (A : Option Addr) (c : Nat) (B : Option Addr) (d : Nat) (w : World) (hC : Kd.C k27 w A ls.length ls) (hD : Kd.C k27 w B ms.length ms) (hroom : ls.length + ms.length ≤ 1099511627776) :
    Calls Try.prog 47 #[.slice A ls.length c, .slice B ms.length d, .func (.func 8) #[] #[]] w (MergedPost w ls ms) := by
  by_cases h0 : ls.length + ms.length = 0
  · obtain rfl : ls = [] := List.length_eq_zero_iff.mp (by omega)
    obtain rfl : ms = [] := List.length_eq_zero_iff.mp (by omega)
    refine (merged0 A B c d w).mono ?_
    rintro e w' ⟨rfl, hb⟩
    exact ⟨none, 0, [], rfl, Nat.le_refl _, hb, ⟨[], List.Perm.refl _, List.Pairwise.nil, rfl⟩, .inl ⟨rfl, rfl⟩⟩
  · obtain ⟨xs, hx, hv⟩ := loans_els hC
    obtain ⟨ys, hy, hu⟩ := loans_els hD
    have hl : (xs ++ ys).length = ls.length + ms.length := by rw [← hx, ← hy]; simp
    have hperm : (xs ++ ys).map El.l = ls ++ ms := by rw [List.map_append, hx, hy]
    generalize ls.length = n at *
    generalize ms.length = m at *
    have hb2 : Below w.heap.size w ((w.alloc (.cells #[.func (.func 8) #[] #[]] 31)).alloc (.cells #[.slice A n c, .slice B m d] 34)) := ((Below.refl _ w).alloc (Nat.le_refl _) _).alloc (by simp) _
    have e1 := World.alloc_heap_new (w.alloc (.cells #[.func (.func 8) #[] #[]] 31)) (.cells #[.slice A n c, .slice B m d] 34)
    have hsz : (w.alloc (.cells #[.func (.func 8) #[] #[]] 31)).heap.size = w.heap.size + 1 := by simp
    have hsz2 : ((w.alloc (.cells #[.func (.func 8) #[] #[]] 31)).alloc (.cells #[.slice A n c, .slice B m d] 34)).heap.size = w.heap.size + 2 := by simp
    have e0 : ((w.alloc (.cells #[.func (.func 8) #[] #[]] 31)).alloc (.cells #[.slice A n c, .slice B m d] 34)).heap[w.heap.size]? = some (.cells #[.func (.func 8) #[] #[]] 31) := by
      rw [heap_alloc_old _ _ (by simp)]
      exact World.alloc_heap_new w _
    rw [hsz] at e1
    obtain ⟨W2, hW2⟩ : ∃ W2, ((w.alloc (.cells #[.func (.func 8) #[] #[]] 31)).alloc (.cells #[.slice A n c, .slice B m d] 34)) = W2 := ⟨_, rfl⟩
    rw [hW2] at hb2 e1 e0 hsz2
    have hbox : W2.cell? ⟨w.heap.size, 0, none⟩ = some (.func (.func 8) #[] #[]) := by unfold World.cell?; rw [e0]; rfl
    have hconc : Calls Try.prog 52 #[.slice (some ⟨w.heap.size + 1, 0, none⟩) 2 2] W2 fun e W3 => ∃ bl cap, e = .returned (.slice (some ⟨bl, 0, none⟩) (n + m) cap) ∧
        Aside0 (n + m ≤ cap ∧ w.heap.size + 2 ≤ bl ∧ bl < W3.heap.size ∧ Below w.heap.size w W3 ∧ W3.cell? ⟨w.heap.size, 0, none⟩ = some (.func (.func 8) #[] #[]) ∧ RowE W3 bl ((xs ++ ys).map encL)) := by
      refine (concat1 A B n c m d (w.heap.size + 1) (xs.map encL) (ys.map encL) W2 (by omega) hroom (hv.below hb2) (hu.below hb2) (one_enc xs) (one_enc ys) (by unfold World.cell?; rw [e1]; rfl) (by unfold World.cell?; rw [e1]; rfl)).mono ?_
      rintro e W3 ⟨X, cap, rfl, hb3, hcap, h | ⟨_, bl, rest, rfl, hbl, hrest, hx3⟩⟩
      · omega
      · refine ⟨bl, cap, rfl, hcap, by omega, (Array.getElem?_eq_some_iff.mp hx3).1, hb2.trans (hb3.mono hb2.size), below_cell hb3 hbox, ?_⟩
        rw [List.map_append]
        refine rowE_of_block hx3 (fun j cs hj => ?_)
        rw [← List.map_append, List.getElem?_map] at hj
        obtain ⟨z, _, rfl⟩ := Option.map_eq_some_iff.mp hj
        rfl
    have hsort : ∀ bl cap W3, (n + m ≤ cap ∧ w.heap.size + 2 ≤ bl ∧ bl < W3.heap.size ∧ Below w.heap.size w W3 ∧ W3.cell? ⟨w.heap.size, 0, none⟩ = some (.func (.func 8) #[] #[]) ∧ RowE W3 bl ((xs ++ ys).map encL)) →
        Calls Try.prog 53 #[.slice (some ⟨bl, 0, none⟩) (n + m) cap, .func (.func 8) #[] #[]] W3 fun e W4 => e = .returned (.tuple #[]) ∧ Aside0 (∃ zs : List (El w), zs.length = n + m ∧ zs.Perm (xs ++ ys) ∧ Asc zs ∧ KI w bl w.heap.size zs 1 W4) := by
      intro bl cap W3 ⟨h1, h2, h3, h4, h5, h6⟩
      have h := sortLoans w W3 h4 bl cap (by omega) h3 (xs ++ ys) (by omega) h6
      rw [hl] at h
      refine h.mono ?_
      rintro e W4 ⟨rfl, hb4, hblk, hs4, zs, hp, ha, hr⟩
      refine ⟨rfl, zs, by rw [hp.length_eq, hl], hp, ha, hb4, ?_, by omega, hr, fun j x y hj _ _ => by omega⟩
      exact (World.cell?_of_block (hblk w.heap.size (by omega) (by omega))).trans h5
    have hcomp : ∀ bl cap W4, n + m ≤ cap → w.heap.size + 2 ≤ bl → (∃ zs : List (El w), zs.length = n + m ∧ zs.Perm (xs ++ ys) ∧ Asc zs ∧ KI w bl w.heap.size zs 1 W4) →
        Calls Try.prog 54 #[.slice (some ⟨bl, 0, none⟩) (n + m) cap, .func (.func 55) #[] #[ptr w.heap.size]] W4 fun e W5 => ∃ rs : List (El w), e = .returned (.slice (some ⟨bl, 0, none⟩) rs.length cap) ∧
          Aside0 (rs.length ≤ cap ∧ Below w.heap.size w W5 ∧ MergedOf ls ms (rs.map El.l) ∧ RowE W5 bl (rs.map encL)) := by
      rintro bl cap W4 h1 h2 ⟨zs, hz, hp, ha, hK⟩
      have h := compact w bl w.heap.size cap zs W4 (by omega) (by omega) (by omega) hK (by omega)
      rw [hz] at h
      refine h.mono ?_
      rintro e W5 ⟨rfl, hb5, hr5⟩
      refine ⟨compactF zs, rfl, ?_, hb5, ⟨zs.map El.l, ?_, asc_map ha, compactF_map zs⟩, hr5⟩
      · have : ∀ (r : List (El w)) (x : El w), (keepF x r).length ≤ r.length := by
          intro r
          induction r with
          | nil => intro x; exact Nat.le_refl _
          | cons y r ih =>
            intro x
            rw [keepF]
            have h1 := ih y
            split
            · exact Nat.le_trans h1 (by simp)
            · simpa using h1
        cases zs with
        | nil => simp [compactF]
        | cons z r =>
          have := this r z
          rw [compactF, List.length_cons]
          simp only [List.length_cons] at hz
          omega
      · rw [← hperm]
        exact hp.map El.l
    clear hv hu hb2 e0 e1 hsz hsz2 hbox hC hD hl hperm hx hy h0 hroom
    unfold ptr at hcomp
    go_enter Try.func47, Try.ntmps47
    go_wp2_with (first
      | (go_at_call 52; first | rw [hW2] | skip; refine hconc.mono ?_; clear hconc; rintro e W3 ⟨bl, cap, rfl, hA3⟩; have hs3 := hsort bl cap W3 hA3.out; have hbox3 := hA3.out.2.2.2.2.1; clear hsort)
      | (go_at_call 53; refine hs3.mono ?_; clear hs3; rintro e W4 ⟨rfl, hA4⟩; have hs4 := hcomp bl cap W4 hA3.out.1 hA3.out.2.1 hA4.out; clear hcomp)
      | (go_at_call 54; refine hs4.mono ?_; clear hs4; rintro e W5 ⟨rs, rfl, hA5⟩))
    go_ret
    exact ⟨_, _, rs, rfl, hA5.out.1, hA5.out.2.1, hA5.out.2.2.1, .inr ⟨bl, rfl, by have := hA3.out.2.1; omega, hA5.out.2.2.2⟩⟩

end Go.Proofs.Ytadjekpfehjibaa.PEnv
