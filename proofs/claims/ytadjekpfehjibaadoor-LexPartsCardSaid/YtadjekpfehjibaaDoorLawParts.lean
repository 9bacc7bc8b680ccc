/-
The law LexParts, walked: it answers true. Condition: errors.errorType holds its handle.
-/
import Derived.Test.YtadjekpfehjibaaDoorAwake
import Derived.Test.YtadjekpfehjibaaDoorPlain
import Derived.Test.YtadjekpfehjibaaDoorLawTokens
namespace Go.Proofs.YtadjekpfehjibaaDoor
open Go.RowKit

set_option maxRecDepth 100000 in
set_option maxHeartbeats 1600000 in
theorem parts_long (s t : ByteArray) (w : World) (hg : Held w) (h : 300 < s.size ∨ (¬ 300 < s.size ∧ 300 < t.size)) (hs : s.size ≤ 9223372036854775807) (ht : t.size ≤ 9223372036854775807) :
    Calls Tryd.prog 5 #[.string s, .string t] w fun e w' => e = .returned (.bool true) ∧ Below w.heap.size w w' := by
  rcases h with h | ⟨h, h'⟩
  all_goals
    go_enter Tryd.func5, Tryd.ntmps5
    go_wp2_with fail
    refine (awake_any _ hg).mono ?_
    rintro e w1 ⟨rfl, hb1⟩
    go_wp2_with fail
    go_ret
    exact ⟨rfl, hb1⟩

theorem both_data (s t : ByteArray) : (s ++ ⟨#[10]⟩ ++ t).data.toList = s.data.toList ++ 10 :: t.data.toList := by
  simp [ByteArray.data_append]
theorem both_size (s t : ByteArray) : (s ++ ⟨#[10]⟩ ++ t).size = s.size + 1 + t.size := by
  simp [ByteArray.size_append]
  rfl
theorem lex_both (s t : ByteArray) (w : World) (h1 : ¬ 300 < s.size) (h2 : ¬ 300 < t.size) (xs ys : List Tok) (hx : lexL 0 s.data.toList = .ok xs) (hy : lexL 0 t.data.toList = .ok ys) :
    Calls Tryd.prog 7 #[.string (s ++ ⟨#[10]⟩ ++ t)] w fun e w' => LexPost w (.ok (xs ++ ys.map (Tok.move (s.size + 1)))) e w' := by
  have h := lex_any (s ++ ⟨#[10]⟩ ++ t) w (by rw [both_size]; omega)
  have e : lexL 0 (s ++ ⟨#[10]⟩ ++ t).data.toList = .ok (xs ++ ys.map (Tok.move (s.size + 1))) := by
    rw [both_data, lexL_two _ 0 _ _ xs (Nat.le_refl _) hx, show 0 + s.data.toList.length + 1 = 0 + (s.size + 1) by simp, lexL_move, hy]
    rfl
  rw [e] at h
  exact h
theorem lex_some (s : ByteArray) (w : World) (h : s.size ≤ 20000) :
    Calls Tryd.prog 7 #[.string s] w fun e w' => ∃ a b, e = .returned (.tuple #[a, b]) ∧ Below w.heap.size w w' :=
  (lex_any s w h).mono fun e w' hp => by
    cases hr : lexL 0 s.data.toList with
    | ok ts =>
      rw [hr] at hp
      obtain ⟨v, he, _, _, hb⟩ := hp
      exact ⟨_, _, he, hb⟩
    | bad a =>
      rw [hr] at hp
      obtain ⟨b, he, _, _, hb⟩ := hp
      exact ⟨_, _, he, hb⟩

set_option maxRecDepth 100000 in
set_option maxHeartbeats 1600000 in
theorem parts_bad1 (s t : ByteArray) (w : World) (hg : Held w) (h1 : ¬ 300 < s.size) (h2 : ¬ 300 < t.size) (a : Nat) (hx : lexL 0 s.data.toList = .bad a) :
    Calls Tryd.prog 5 #[.string s, .string t] w fun e w' => e = .returned (.bool true) ∧ Below w.heap.size w w' := by
  have HG := Lib.hid hg
  have HX := Lib.hid hx
  have HS := Lib.hid (show (s ++ ⟨#[10]⟩ ++ t).size ≤ 20000 by rw [both_size]; omega)
  clear hg hx
  go_enter Tryd.func5, Tryd.ntmps5
  go_wp2_with fail
  refine (awake_any _ HG.out).mono ?_
  rintro e w1 ⟨rfl, hb1⟩
  go_wp2_with fail
  refine (lex_any s w1 (by omega)).mono ?_
  intro e w2 hp
  rw [HX.out] at hp
  obtain ⟨b, rfl, hbge, hblk, hb2⟩ := hp
  clear hblk
  go_wp2_with fail
  refine (lex_some t w2 (by omega)).mono ?_
  rintro e w3 ⟨vy, ey, rfl, hb3⟩
  go_wp2_with fail
  refine (lex_some _ w3 HS.out).mono ?_
  rintro e w4 ⟨vz, ez, rfl, hb4⟩
  go_wp2_with fail
  go_ret
  have h12 := hb1.trans (hb2.mono hb1.size)
  have h13 := h12.trans (hb3.mono h12.size)
  exact ⟨rfl, h13.trans (hb4.mono h13.size)⟩

set_option maxRecDepth 100000 in
set_option maxHeartbeats 1600000 in
theorem parts_bad2 (s t : ByteArray) (w : World) (hg : Held w) (h1 : ¬ 300 < s.size) (h2 : ¬ 300 < t.size) (xs : List Tok) (a : Nat) (hx : lexL 0 s.data.toList = .ok xs) (hy : lexL 0 t.data.toList = .bad a) :
    Calls Tryd.prog 5 #[.string s, .string t] w fun e w' => e = .returned (.bool true) ∧ Below w.heap.size w w' := by
  have HG := Lib.hid hg
  have HX := Lib.hid hx
  have HY := Lib.hid hy
  have HS := Lib.hid (show (s ++ ⟨#[10]⟩ ++ t).size ≤ 20000 by rw [both_size]; omega)
  clear hg hx hy
  go_enter Tryd.func5, Tryd.ntmps5
  go_wp2_with fail
  refine (awake_any _ HG.out).mono ?_
  rintro e w1 ⟨rfl, hb1⟩
  go_wp2_with fail
  refine (lex_any s w1 (by omega)).mono ?_
  intro e w2 hp
  rw [HX.out] at hp
  obtain ⟨vx, rfl, hown, hnil, hb2⟩ := hp
  clear hown hnil
  go_wp2_with fail
  refine (lex_any t w2 (by omega)).mono ?_
  intro e w3 hp
  rw [HY.out] at hp
  obtain ⟨b, rfl, hbge, hblk, hb3⟩ := hp
  clear hblk
  go_wp2_with fail
  refine (lex_some _ w3 HS.out).mono ?_
  rintro e w4 ⟨vz, ez, rfl, hb4⟩
  go_wp2_with fail
  go_ret
  have h12 := hb1.trans (hb2.mono hb1.size)
  have h13 := h12.trans (hb3.mono h12.size)
  exact ⟨rfl, h13.trans (hb4.mono h13.size)⟩

/-- The second tokens, moved up to k. -/
def movedTo (m k : Nat) (ys : List Tok) : List Tok := (ys.take k).map (Tok.move m) ++ ys.drop k
def MoveRel (m : Nat) (w4 : World) (base : Nat) (v : Value) (ys : List Tok) (i : Value) (wr : World) : Prop :=
  ∃ k : Nat, k ≤ ys.length ∧ i = .int .i64 k ∧ wr.ownsRow base 35 3 v ys.length (tvals (movedTo m k ys)) ∧ w4.grownBy wr v.ownBlock
theorem movedTo_at (m k : Nat) (ys : List Tok) (h : k < ys.length) : (movedTo m k ys)[k]? = some ys[k] := by
  unfold movedTo
  have hl : ((ys.take k).map (Tok.move m)).length = k := by rw [List.length_map, List.length_take]; omega
  rw [List.getElem?_append_right (by omega), hl, Nat.sub_self, List.getElem?_drop, Nat.add_zero, List.getElem?_eq_getElem h]
theorem tvals_append (a b : List Tok) : tvals (a ++ b) = tvals a ++ tvals b := by simp [tvals]
theorem movedTo_set (m k : Nat) (ys : List Tok) (h : k < ys.length) : (tvals (movedTo m k ys)).set (k * 3 + 1) (.int .i64 ((ys[k].pos : Int) + (m : Int))) = tvals (movedTo m (k + 1) ys) := by
  unfold movedTo
  have hd : ys.drop k = ys[k] :: ys.drop (k + 1) := List.drop_eq_getElem_cons h
  have ht : ys.take (k + 1) = ys.take k ++ [ys[k]] := List.take_succ_eq_append_getElem h
  have hl : (tvals ((ys.take k).map (Tok.move m))).length = k * 3 := by rw [tvals_length, List.length_map, List.length_take]; omega
  rw [hd, ht, List.map_append, tvals_append, tvals_append, tvals_append, List.append_assoc]
  have e : tvals (ys[k] :: ys.drop (k + 1)) = tcells ys[k] ++ tvals (ys.drop (k + 1)) := by unfold tvals; rw [List.flatMap_cons]
  rw [e, List.set_append_right _ _ (by omega), hl]
  congr 1
  have e2 : tvals (List.map (Tok.move m) [ys[k]]) = tcells (Tok.move m ys[k]) := by simp [tvals]
  rw [e2, show k * 3 + 1 - k * 3 = 1 by omega]
  have e3 : (ys[k].pos : Int) + (m : Int) = ((ys[k].pos + m : Nat) : Int) := by omega
  rw [e3]
  rfl
theorem own_add {wr : World} {base m k g c : Nat} {ys : List Tok} {w4 : World} (h : k < ys.length)
    (hown : wr.ownsRow base 35 3 (.slice (some ⟨g, 0, none⟩) ys.length c) ys.length (tvals (movedTo m k ys))) (hgr : w4.grownBy wr (Value.slice (some ⟨g, 0, none⟩) ys.length c).ownBlock) (x : Int) (hx : x = (ys[k].pos : Int) + (m : Int)) :
    MoveRel m w4 base (.slice (some ⟨g, 0, none⟩) ys.length c) ys (.int .i64 ((k : Int) + 1)) (wr.setCell ⟨g, k * 3 + 1, none⟩ (.int .i64 x)) := by
  subst hx
  obtain ⟨h1, h2⟩ := hown.stored (k * 3 + 1) (.int .i64 ((ys[k].pos : Int) + (m : Int)))
  rw [movedTo_set m k ys h] at h1
  exact ⟨k + 1, by omega, rfl, h1, World.grownBy.trans hgr h2⟩
theorem own_cell {wr : World} {base m k g c : Nat} {ys : List Tok} (h : k < ys.length)
    (hown : wr.ownsRow base 35 3 (.slice (some ⟨g, 0, none⟩) ys.length c) ys.length (tvals (movedTo m k ys))) : wr.cell? ⟨g, k * 3 + 1, none⟩ = some (.int .i64 (ys[k].pos : Int)) := by
  have hl : (movedTo m k ys).length = ys.length := by unfold movedTo; rw [List.length_append, List.length_map, List.length_take, List.length_drop]; omega
  rw [hown.cellAt _ (by omega)]
  exact (tvals_at _ _ _ (movedTo_at m k ys h)).2.1

/-- An append whose run is known, behind a guard that wants it. -/
theorem wpList_append_run {P : Program} {ops : Array Oper} {rest : List Oper} {o : Oper} {a : Act} {Q : Exit → Act → World → Prop} {w : World} (hw : Region.wanted o (yielded ops a.tmps) = true) (s x : Operand) (t : TypeId)
    (ho : o.op = .call { callee := .builtin .append, args := #[s, x], argTypes := #[t, t] }) (v' : Value) (w' : World)
    (hrun : (Builtin.append_ #[t, t] o.type #[a.eval s, a.eval x]).run P w = .ok v' w') (h : wpList P ops Q rest (a.put o.dst v') w') : wpList P ops Q (o :: rest) a w := by
  unfold wpList
  rw [if_pos hw]
  refine .inl ?_
  unfold Oper.wp execOp
  simp only [ho, resolve, invoke, builtin, Sem.run_bind, Sem.run_pure, Result.andThen_ok, List.map_toArray, List.map_cons, List.map_nil, hrun]
  exact h
/-- append of a row of tokens to a row of the call's own. -/
theorem app_run (w : World) (base base' : Nat) (v : Value) (xs ys : List Tok) (A : Option Addr) (c : Nat) (hown : w.ownsRow base 35 3 v xs.length (tvals xs))
    (hys : w.ownsRow base' 35 3 (.slice A ys.length c) ys.length (tvals ys)) (hb : base ≤ w.heap.size) (hl : xs.length + ys.length ≤ 100000) :
    ∃ v' w', (Builtin.append_ #[23, 23] 23 #[v, .slice A ys.length c]).run Tryd.prog w = .ok v' w' ∧ w'.ownsRow base 35 3 v' (xs ++ ys).length (tvals (xs ++ ys)) ∧ w.grownBy w' v.ownBlock ∧ (v'.ownBlock = v.ownBlock ∨ v'.ownBlock = some w.heap.size) := by
  obtain ⟨i0, hi, hz0, hz1, hz2⟩ := info_parts info35
  rw [tvals_append, List.length_append]
  cases A with
  | none =>
    have hn : ys.length = 0 := by
      rcases hys.2 with ⟨_, h⟩ | ⟨g, cap, cur, h, _⟩
      · exact h
      · simp at h
    have hy : ys = [] := List.eq_nil_of_length_eq_zero hn
    subst hy
    refine ⟨v, w, ?_, by simpa [tvals] using hown, World.grownBy.refl w _, .inl rfl⟩
    rcases hown.2 with ⟨rfl, _⟩ | ⟨g, cap, cur, rfl, _, _, hnc, _⟩
    · simp [Builtin.append_, run_underlying Tryd.underlying23, sizeOf, typeInfo, hi, Builtin.lenOf, Builtin.firstCells]
    · simp [Builtin.append_, run_underlying Tryd.underlying23, sizeOf, typeInfo, hi, Builtin.lenOf, Builtin.firstCells, hnc, storeCells]
  | some a =>
    have hcells : ∀ (j : Nat) (u : Value), (tvals ys)[j]? = some u → w.cell? (a.add j) = some u := by
      intro j u hu
      rcases hys.2 with ⟨h, _⟩ | ⟨g, cap, cur, h, _⟩
      · simp at h
      · simp only [Value.slice.injEq, Option.some.injEq] at h
        obtain ⟨rfl, _⟩ := h
        exact hys.cells (g := g) rfl j u hu
    obtain ⟨v', w', hrun, h2, h3, _, h5⟩ := run_append_own_at (P := Tryd.prog) w base 23 23 35 i0 _ 3 32 Tryd.underlying23 hi hz0 hz1 hz2 rfl (by decide) v xs.length (tvals xs) hown a ys.length c (tvals ys) (tvals_length ys) hcells
      (by
        intro u hu
        unfold tvals at hu
        rw [List.mem_flatMap] at hu
        obtain ⟨t, _, ht⟩ := hu
        unfold tcells at ht
        simp only [List.mem_cons, List.not_mem_nil, or_false] at ht
        rcases ht with rfl | rfl | rfl <;> rfl) (by simp only [maxLen]; omega) (by omega) hb
    exact ⟨v', w', hrun, h2, h3, h5⟩

theorem lexF_pos (n off : Nat) (l : List UInt8) (ts : List Tok) (h : lexF n off l = .ok ts) : ∀ t ∈ ts, off ≤ t.pos ∧ t.pos < off + l.length := by
  induction n generalizing off l ts with
  | zero => simp [lexF] at h
  | succ n ih =>
    unfold lexF at h
    by_cases h0 : l = []
    · rw [if_pos h0] at h
      injection h with h
      subst h
      simp
    rw [if_neg h0] at h
    have hp : 0 < l.length := List.length_pos_iff.2 h0
    by_cases h1 : 0 < blankN l
    · rw [if_pos h1] at h
      have hb := blankN_le l
      intro t ht
      have := ih _ _ _ h t ht
      rw [List.length_drop] at this
      omega
    rw [if_neg h1] at h
    by_cases h2 : (tokenN l).2 = 0
    · rw [if_pos h2] at h
      cases h
    rw [if_neg h2] at h
    have hle := tokenN_le l h0
    cases hr : lexF n (off + (tokenN l).2) (l.drop (tokenN l).2) with
    | bad a => rw [hr] at h; cases h
    | ok us =>
      rw [hr] at h
      injection h with h
      subst h
      intro t ht
      rcases List.mem_cons.1 ht with rfl | ht
      · exact ⟨Nat.le_refl _, by dsimp only; omega⟩
      · have := ih _ _ _ hr t ht
        rw [List.length_drop] at this
        omega
theorem movedTo_all (m : Nat) (ys : List Tok) : movedTo m ys.length ys = ys.map (Tok.move m) := by
  unfold movedTo
  rw [List.take_of_length_le (Nat.le_refl _), List.drop_of_length_le (Nat.le_refl _), List.append_nil]
/-- What stands behind the loop: both appends, and what lies where. -/
theorem tail_facts {w1 w2 w3 w4 wr : World} {vx vz : Value} {A : Option Addr} {c m : Nat} {xs ys : List Tok} (hl : xs.length + ys.length ≤ 100000)
    (hb3 : Below w2.heap.size w2 w3) (hb4 : Below w3.heap.size w3 w4)
    (hx : w2.ownsRow w1.heap.size 35 3 vx xs.length (tvals xs)) (hy : wr.ownsRow w2.heap.size 35 3 (.slice A ys.length c) ys.length (tvals (ys.map (Tok.move m))))
    (hy4 : w3.ownsRow w2.heap.size 35 3 (.slice A ys.length c) ys.length (tvals ys))
    (hz : w4.ownsRow w3.heap.size 35 3 vz (xs ++ ys.map (Tok.move m)).length (tvals (xs ++ ys.map (Tok.move m)))) (hgr : w4.grownBy wr (Value.slice A ys.length c).ownBlock) :
    ∃ Ax cx Az cz A2 c2 v1 W1 W2, vx = .slice Ax xs.length cx ∧ vz = .slice Az (xs ++ ys.map (Tok.move m)).length cz ∧
      (Builtin.append_ #[23, 23] 23 #[.slice (some ⟨wr.heap.size, 0, none⟩) 0 0, .slice Ax xs.length cx]).run Tryd.prog (wr.alloc (.cells #[] 35)) = .ok v1 W1 ∧
      (Builtin.append_ #[23, 23] 23 #[v1, .slice A ys.length c]).run Tryd.prog W1 = .ok (.slice A2 (xs ++ ys.map (Tok.move m)).length c2) W2 ∧
      TReads W2 Az (xs ++ ys.map (Tok.move m)) ∧ TReads W2 A2 (xs ++ ys.map (Tok.move m)) ∧ Below wr.heap.size wr W2 := by
  have hsz3 : w3.heap.size ≤ w4.heap.size := hb4.size
  have hsz4 : w4.heap.size ≤ wr.heap.size := hgr.size
  have hyl := hy4.lt
  have hxl := hx.lt
  have hzl := hz.lt
  -- x, in wr
  have hx3 := own_below hx hb3
  have hx4 := own_below hx3 hb4
  have hxr : wr.ownsRow w1.heap.size 35 3 vx xs.length (tvals xs) := hx4.kept hgr (by
    cases hv : vx.ownBlock with
    | none => exact .inl rfl
    | some k =>
      refine .inr fun he => ?_
      have h1 := (hxl k hv).2
      have h2 := (hyl k he.symm).1
      omega)
  have hzr : wr.ownsRow w3.heap.size 35 3 vz (xs ++ ys.map (Tok.move m)).length (tvals (xs ++ ys.map (Tok.move m))) := hz.kept hgr (by
    cases hv : vz.ownBlock with
    | none => exact .inl rfl
    | some k =>
      refine .inr fun he => ?_
      have h1 := (hzl k hv).1
      have h2 := (hyl k he.symm).2
      omega)
  obtain ⟨Ax, cx, rfl, _⟩ := reads_of_own hxr rfl
  obtain ⟨Az, cz, rfl, _⟩ := reads_of_own hzr rfl
  have hy' : wr.ownsRow w2.heap.size 35 3 (.slice A (ys.map (Tok.move m)).length c) (ys.map (Tok.move m)).length (tvals (ys.map (Tok.move m))) := by
    rw [List.length_map]
    exact hy
  have h0 : (wr.alloc (.cells #[] 35)).ownsRow wr.heap.size 35 3 (.slice (some ⟨wr.heap.size, 0, none⟩) 0 0) ([] : List Tok).length (tvals []) := World.ownsRow_lit (base := wr.heap.size) (e := 35) (size := 3) wr #[] 0 (Nat.le_refl _) (by simp [maxLen]) (by simp)
  obtain ⟨v1, W1, r1, own1, g1, at1⟩ := app_run (wr.alloc (.cells #[] 35)) wr.heap.size w1.heap.size _ [] xs Ax cx h0 (hxr.alloc _) (by simp) (by simp; omega)
  rw [List.nil_append] at own1
  have hxlr := hxr.lt
  have hylr := hy.lt
  have hzlr := hzr.lt
  have hb0 : Below wr.heap.size wr (wr.alloc (.cells #[] 35)) := (Below.refl _ _).alloc (Nat.le_refl _) _
  have hb1 : Below wr.heap.size wr W1 := hb0.grown g1 (by simp) (fun k hk => by simp [Value.ownBlock] at hk; omega)
  have hyW1 := own_below hy' hb1
  obtain ⟨v2, W2, r2, own2, g2, at2⟩ := app_run W1 wr.heap.size w2.heap.size v1 xs (ys.map (Tok.move m)) A c own1 hyW1 hb1.size (by rw [List.length_map]; omega)
  have hb2' : Below wr.heap.size wr W2 := hb1.grown g2 hb1.size (own_base own1)
  obtain ⟨A2, c2, rfl, hr2⟩ := reads_of_own own2 rfl
  obtain ⟨Az', cz', he, hrz⟩ := reads_of_own (own_below hzr hb2') rfl
  simp only [Value.slice.injEq, true_and] at he
  obtain ⟨rfl, rfl⟩ := he
  rw [List.length_map] at r2
  exact ⟨Ax, cx, Az, cz, A2, c2, v1, W1, W2, rfl, rfl, r1, r2, hrz, hr2, hb2'⟩

set_option maxRecDepth 100000 in
set_option maxHeartbeats 1600000 in
theorem parts_ok (s t : ByteArray) (w : World) (hg : Held w) (h1 : ¬ 300 < s.size) (h2 : ¬ 300 < t.size) (xs ys : List Tok) (hx : lexL 0 s.data.toList = .ok xs) (hy : lexL 0 t.data.toList = .ok ys) :
    Calls Tryd.prog 5 #[.string s, .string t] w fun e w' => e = .returned (.bool true) ∧ Below w.heap.size w w' := by
  have HG := Lib.hid hg
  have HX := Lib.hid hx
  have HY := Lib.hid hy
  have HB := Lib.hid (fun w => lex_both s t w h1 h2 xs ys hx hy)
  have hxl : xs.length ≤ s.size := by have := lexF_length _ _ _ _ hx; simpa using this
  have hyl : ys.length ≤ t.size := by have := lexF_length _ _ _ _ hy; simpa using this
  have HP0 := Lib.hid (lexF_pos _ _ _ _ hy)
  clear hg hx hy
  go_enter Tryd.func5, Tryd.ntmps5
  go_wp2_with fail
  refine (awake_any _ HG.out).mono ?_
  rintro e w1 ⟨rfl, hb1⟩
  go_wp2_with fail
  refine (lex_any s w1 (by omega)).mono ?_
  intro e w2 hp
  rw [HX.out] at hp
  obtain ⟨vx, rfl, hownx, hnil, hb2⟩ := hp
  clear hnil
  have HOX := Lib.hid hownx
  clear hownx
  go_wp2_with fail
  refine (lex_any t w2 (by omega)).mono ?_
  intro e w3 hp
  rw [HY.out] at hp
  obtain ⟨vy, rfl, howny, hnil, hb3⟩ := hp
  clear hnil
  obtain ⟨A, c, rfl, _⟩ := reads_of_own howny rfl
  have HOY := Lib.hid howny
  clear howny
  go_wp2_with fail
  refine (HB.out w3).mono ?_
  intro e w4 hp
  obtain ⟨vz, rfl, hownz, hnil, hb4⟩ := hp
  clear hnil
  have HOZ := Lib.hid hownz
  clear hownz
  have HOY4 := Lib.hid (own_below HOY.out hb4)
  go_wp2_with fail
  go_loopw [11] (fun i wr => MoveRel (s.size + 1) w4 w2.heap.size (.slice A ys.length c) ys i wr) (fun i _ => ys.length - (intOf i).toNat)
  case atStart => exact ⟨0, Nat.zero_le _, rfl, HOY4.out, World.grownBy.refl w4 _⟩
  case round =>
    obtain ⟨k, hk, rfl, hown, hgr⟩ := hrel
    by_cases hlt : k < ys.length
    · obtain ⟨g, rfl⟩ : ∃ g, A = some ⟨g, 0, none⟩ := by
        obtain ⟨g, cap, hv, _⟩ := hown.form (by omega)
        simp only [Value.slice.injEq] at hv
        exact ⟨g, hv.1⟩
      have hc := own_cell hlt hown
      have hf := hown.frozenAt (k * 3 + 1)
      have hpos : (ys[k].pos : Int) ≤ 1000000 := by have := (HP0.out ys[k] (List.getElem_mem hlt)).2; simp at this; omega
      have hpos0 : (0 : Int) ≤ (ys[k].pos : Int) := by omega
      have HO := Lib.hid hown
      have HGR := Lib.hid hgr
      clear hown hgr
      generalize hp : (ys[k].pos : Int) = p at hc hpos hpos0
      have HP := Lib.hid hp
      clear hp
      go_wp2_with fail
      exact ⟨own_add hlt HO.out HGR.out _ (by rw [HP.out]; omega), by simp [intOf]; omega⟩
    · obtain rfl : k = ys.length := by omega
      rw [movedTo_all] at hown
      obtain ⟨Ax, cx, Az, cz, A2, c2, v1, W1, W2, rfl, rfl, r1, r2, hrz, hr2, hbW⟩ := tail_facts (by omega) hb3 hb4 HOX.out hown HOY.out HOZ.out hgr
      have HGR := Lib.hid hgr
      have HRZ := Lib.hid hrz
      have HR2 := Lib.hid hr2
      have hll : (xs ++ ys.map (Tok.move (s.size + 1))).length ≤ 1000000 := by rw [List.length_append, List.length_map]; omega
      generalize hn : (xs ++ ys.map (Tok.move (s.size + 1))).length = n at r2 hll
      have HN := Lib.hid hn
      have R1 := Lib.hid r1
      have R2 := Lib.hid r2
      clear hown hgr hrz hr2 hn r1 r2
      go_wp2_with (first
        | (at_builtin; refine wpList_append_run (by rfl) (.tmp 76) (.tmp 77) 23 rfl _ _ R1.out ?_; clear R1)
        | (at_builtin; refine wpList_append_run (by rfl) (.tmp 78) (.tmp 79) 23 rfl _ _ R2.out ?_; clear R2))
      have hS := refSame_any Az A2 cz c2 _ W2 HRZ.out HR2.out (by rw [HN.out]; exact hll)
      rw [HN.out] at hS
      refine hS.mono ?_
      clear hS
      rintro e w5 ⟨rfl, q, rfl⟩
      go_wp2_with fail
      go_ret
      have h12 := hb1.trans (hb2.mono hb1.size)
      have h13 := h12.trans (hb3.mono h12.size)
      have h14 := h13.trans (hb4.mono h13.size)
      have h1r := h14.grown HGR.out h14.size (fun k hk => Nat.le_trans h12.size (own_base HOY.out k hk))
      have h1W := h1r.trans (hbW.mono h1r.size)
      exact ⟨rfl, h1W.trans ((below_same q).mono h1W.size)⟩

theorem partsLaw_any (s t : ByteArray) (w : World) (hg : Held w) (hs : s.size ≤ 9223372036854775807) (ht : t.size ≤ 9223372036854775807) :
    Calls Tryd.prog 5 #[.string s, .string t] w fun e w' => e = .returned (.bool true) ∧ Below w.heap.size w w' := by
  by_cases h1 : 300 < s.size
  · exact parts_long s t w hg (.inl h1) hs ht
  by_cases h2 : 300 < t.size
  · exact parts_long s t w hg (.inr ⟨h1, h2⟩) hs ht
  cases hx : lexL 0 s.data.toList with
  | bad a => exact parts_bad1 s t w hg h1 h2 a hx
  | ok xs =>
    cases hy : lexL 0 t.data.toList with
    | bad a => exact parts_bad2 s t w hg h1 h2 xs a hx hy
    | ok ys => exact parts_ok s t w hg h1 h2 xs ys hx hy
end Go.Proofs.YtadjekpfehjibaaDoor
