/- EnvJoins, the texts AsFacts, As, Code, RowKit, JWalk, ERow0, JRow0: walks and laws that the card leans on, merged by packj.py. Conditions stand in each theorem. -/
import Derived.Test.YtadjekpfehjibaaGreatDoorProg
import Derived.WalkKit
import Derived.LaidEql
import Derived.Stop.Asserts
import Derived.RowKitTokens
import Derived.Lib.Hide
import Derived.WalkSpells
import Derived.WalkLawsBesides
import Derived.Test.YtadjekpfehjibaaGreatDoorCards
import Derived.Test.YtadjekpfehjibaaGreatDoorTie
import Derived.ProofKit
import Derived.OpenShut
import Derived.ChangeSame
import Derived.ChangeVars
import Derived.JoinedOf
import Derived.LaidLaws
import Derived.LaidHandle
import Derived.Stop.Joined
import Derived.Deep.DeepHandedRow
import Derived.Test.YtadjekpfehjibaaGreatDoorKg
import Derived.Test.YtadjekpfehjibaaGreatDoorKf
import Derived.Test.YtadjekpfehjibaaGreatDoorKb
import Derived.Deep.Slices
import Derived.ChangeArms
import Derived.DataReads
import Derived.Test.YtadjekpfehjibaaGreatDoorKe
import Derived.Test.YtadjekpfehjibaaGreatDoorRows
set_option linter.unusedVariables false
set_option linter.unusedSimpArgs false
namespace Go.Proofs.YtadjekpfehjibaaGreatDoor
open Go.RowKit Go.Extern.Stop Go.Stop Go.Extern
theorem valueOf57 (t : Addr) (w : World) : (ReflectliteValue.unpack (.iface 57 (.pointer (some t)))).run Tryz.prog w
    = .ok (.agg #[.pointer (some ⟨1, 57, none⟩), .pointer (some ⟨w.heap.size, 0, none⟩), .int .u64 150]) (w.alloc (.cells #[.pointer (some t)] 57)) := by kernel_rfl
theorem type57 (a : Addr) (w : World) : (ReflectliteValue.methodAny (ReflectliteValue.valueError "reflectlite.Value.Type" 0) (fun t _ _ _ => ReflectliteType.toType t) #[.agg #[.pointer (some ⟨1, 57, none⟩), .pointer (some a), .int .u64 150]]).run Tryz.prog w
    = .ok (.iface 94 (.agg #[.pointer (some ⟨1, 57, none⟩)])) w := by kernel_rfl
theorem kind57 (w : World) : ((ReflectliteType.abiMethod fun t => (fun a : Nat => Value.int IntKind.u8 (a : Int)) <$> Rtype.kind t) #[.pointer (some ⟨1, 57, none⟩)]).run Tryz.prog w = .ok (.int .u8 22) w := by kernel_rfl
theorem elem57 (w : World) : (ReflectliteType.method ReflectliteType.elem #[.agg #[.pointer (some ⟨1, 57, none⟩)]]).run Tryz.prog w = .ok (.iface 94 (.agg #[.pointer (some ⟨1, 54, none⟩)])) w := by kernel_rfl
theorem parts57 (a : Addr) (w : World) : (ReflectliteValue.parts (.agg #[.pointer (some ⟨1, 57, none⟩), .pointer (some a), .int .u64 150])).run Tryz.prog w = .ok (some (57, a, 150)) w := by kernel_rfl
theorem elemOf57 (w : World) : (Rtype.elem? 57).run Tryz.prog w = .ok (some 54) w := by kernel_rfl
theorem mk54 (p : Addr) (w : World) : (ReflectliteValue.mk 54 p ReflectliteValue.flagAddr).run Tryz.prog w = .ok (.agg #[.pointer (some ⟨1, 54, none⟩), .pointer (some p), .int .u64 386]) w := by kernel_rfl
theorem kind54 (w : World) : ((ReflectliteType.abiMethod fun t => (fun a : Nat => Value.int IntKind.u8 (a : Int)) <$> Rtype.kind t) #[.pointer (some ⟨1, 54, none⟩)]).run Tryz.prog w = .ok (.int .u8 2) w := by kernel_rfl
theorem implements54 (w : World) : (ReflectliteType.relation "Implements" ReflectliteType.implements_ #[.agg #[.pointer (some ⟨1, 54, none⟩)], .iface 94 (.agg #[.pointer (some ⟨1, 35, none⟩)])]).run Tryz.prog w = .ok (.bool true) w := by kernel_rfl
theorem parts54a (a : Addr) (w : World) : (ReflectliteValue.parts (.agg #[.pointer (some ⟨1, 54, none⟩), .pointer (some a), .int .u64 386])).run Tryz.prog w = .ok (some (54, a, 386)) w := by kernel_rfl
theorem parts54 (a : Addr) (w : World) : (ReflectliteValue.parts (.agg #[.pointer (some ⟨1, 54, none⟩), .pointer (some a), .int .u64 130])).run Tryz.prog w = .ok (some (54, a, 130)) w := by kernel_rfl
theorem direct54 (w : World) : (Rtype.directlyAssignable 54 54).run Tryz.prog w = .ok true w := by kernel_rfl
theorem assignable54 (w : World) : (ReflectliteType.relation "AssignableTo" ReflectliteType.assignableTo #[.agg #[.pointer (some ⟨1, 54, none⟩)], .iface 94 (.agg #[.pointer (some ⟨1, 54, none⟩)])]).run Tryz.prog w = .ok (.bool true) w := by kernel_rfl
theorem typeOf54 (v : Value) (w : World) : (ReflectliteType.typeOf #[.iface 54 v]).run Tryz.prog w = .ok (.iface 94 (.agg #[.pointer (some ⟨1, 54, none⟩)])) w := by kernel_rfl
theorem valueOf54 (n : Int) (w : World) : (ReflectliteValue.unpack (.iface 54 (.int .i64 n))).run Tryz.prog w
    = .ok (.agg #[.pointer (some ⟨1, 54, none⟩), .pointer (some ⟨w.heap.size, 0, none⟩), .int .u64 130]) (w.alloc (.cells #[.int .i64 n] 54)) := by kernel_rfl
theorem methodKind (h : Value) (w : World) : (Go.method 265 94 (.agg #[h]) "Kind").run Tryz.prog w = .ok (111, h) w := by kernel_rfl
theorem methodElem (h : Value) (w : World) : (Go.method 265 94 (.agg #[h]) "Elem").run Tryz.prog w = .ok (121, .agg #[h]) w := by kernel_rfl
theorem methodImplements (h : Value) (w : World) : (Go.method 265 94 (.agg #[h]) "Implements").run Tryz.prog w = .ok (122, .agg #[h]) w := by kernel_rfl
theorem methodAssignableTo (h : Value) (w : World) : (Go.method 265 94 (.agg #[h]) "AssignableTo").run Tryz.prog w = .ok (119, .agg #[h]) w := by kernel_rfl
theorem rlm (z : Sem Value) (f : TypeId → Addr → Nat → Nat → Sem Value) (v : Value) :
    ReflectliteValue.method z f #[v] = (do match ← ReflectliteValue.parts v with | none => z | some (t, a, fl) => f t a fl (fl % 32)) := rfl
theorem rls (v x : Value) : ReflectliteValue.set #[v, x] = (do
    let (some (dst, a, fl), some (src, b, _)) := (← ReflectliteValue.parts v, ← ReflectliteValue.parts x)
      | unsupported (.noEntry "extern/(internal/reflectlite.Value).Set.zeroValue")
    if fl / ReflectliteValue.flagAddr % 2 == 0 then unsupported (.noEntry "extern/(internal/reflectlite.Value).Set.unaddressable")
    let val ← loadVar src b
    if ← Rtype.directlyAssignable dst src then storeVar dst a val
    else if ← Rtype.implements dst src then
      if (← Rtype.kind src) == 20 then
        match val with
        | .nilIface => unsupported (.noEntry "extern/reflectlite: a nil value of one interface type handed on as a value of another")
        | _ => storeVar dst a val
      else storeVar dst a (.iface src val)
    else panicString ("reflectlite.Set: value of type " ++ (← Rtype.spelt src) ++ " is not assignable to type " ++ (← Rtype.spelt dst))
    pure (.tuple #[])) := rfl
theorem isNil57 (a p : Addr) (W : World) (ha : W.cell? a = some (.pointer (some p))) :
    (ReflectliteValue.method (ReflectliteValue.valueError "reflectlite.Value.IsNil" 0) ReflectliteValue.isNil #[.agg #[.pointer (some ⟨1, 57, none⟩), .pointer (some a), .int .u64 150]]).run Tryz.prog W = .ok (.bool false) W := by
  rw [rlm]
  simp only [Sem.run_bind, parts57, Result.andThen]
  simp [ReflectliteValue.isNil, loadVar, isAgg, underlying, Tryz.underlying57, ha, Result.andThen]
theorem elemV57 (a p : Addr) (W : World) (ha : W.cell? a = some (.pointer (some p))) :
    (ReflectliteValue.method (ReflectliteValue.valueError "reflectlite.Value.Elem" 0) ReflectliteValue.elem #[.agg #[.pointer (some ⟨1, 57, none⟩), .pointer (some a), .int .u64 150]]).run Tryz.prog W
      = .ok (.agg #[.pointer (some ⟨1, 54, none⟩), .pointer (some p), .int .u64 386]) W := by
  rw [rlm]
  simp only [Sem.run_bind, parts57, Result.andThen]
  simp [ReflectliteValue.elem, loadVar, isAgg, underlying, Tryz.underlying57, ha, Result.andThen, elemOf57, mk54]
theorem set54 (ta b : Addr) (n : Int) (x old : Value) (hx : x = .int .i64 n) (W : World) (hb : W.cell? b = some x) (ht : W.cell? ta = some old) (hf : W.frozen? ta = false) :
    (ReflectliteValue.set #[.agg #[.pointer (some ⟨1, 54, none⟩), .pointer (some ta), .int .u64 386], .agg #[.pointer (some ⟨1, 54, none⟩), .pointer (some b), .int .u64 130]]).run Tryz.prog W
      = .ok (.tuple #[]) (W.setCell ta x) := by
  subst hx
  rw [rls]
  simp only [Sem.run_bind, parts54a, parts54, Result.andThen]
  simp [ReflectliteValue.flagAddr, loadVar, isAgg, underlying, Tryz.underlying54, hb, Result.andThen, direct54, storeVar, Value.cells, storeCells, Addr.add]
  rw [run_store Tryz.prog W ta _ _ (by rfl)]
  simp [ht, hf]
end Go.Proofs.YtadjekpfehjibaaGreatDoor
namespace Go.Proofs.YtadjekpfehjibaaGreatDoor
open Go.RowKit Go.Extern.Stop Go.Stop Go.Extern
/-- Beyond what was there only new blocks; then the target is set. -/
def AsPost (w : World) (t : Addr) (x : Value) (e : Ending) (w' : World) : Prop := e = .returned (.bool true) ∧ ∃ W, Below w.heap.size w W ∧ w' = W.setCell t x
set_option maxHeartbeats 4000000 in
theorem as_hit54 (n : Int) (t : Addr) (old : Value) (w : World) (hg : w.cell? ⟨0, 0, none⟩ = some (.iface 94 (.agg #[.pointer (some ⟨1, 35, none⟩)]))) (ht0 : w.cell? t = some old) (hf0 : w.frozen? t = false) :
    Calls Tryz.prog 31 #[.iface 54 (.int .i64 n), .iface 57 (.pointer (some t))] w fun ev w' => AsPost w t (.int .i64 n) ev w' := by
  have h50 := @run_callFunc_extern Tryz.prog 50 _ (fun args => ReflectliteValue.unpack (args.getD 0 (.tuple #[]))) Tryz.func50 (by kernel_rfl) (by kernel_rfl) (by kernel_rfl) (by kernel_rfl)
  have h51 := @run_callFunc_extern Tryz.prog 51 _ (ReflectliteValue.methodAny (ReflectliteValue.valueError "reflectlite.Value.Type" 0) (fun t _ _ _ => ReflectliteType.toType t)) Tryz.func51 (by kernel_rfl) (by kernel_rfl) (by kernel_rfl) (by kernel_rfl)
  have h52 := @run_callFunc_extern Tryz.prog 52 _ (ReflectliteValue.method (ReflectliteValue.valueError "reflectlite.Value.IsNil" 0) ReflectliteValue.isNil) Tryz.func52 (by kernel_rfl) (by kernel_rfl) (by kernel_rfl) (by kernel_rfl)
  have h111 := @run_callFunc_extern Tryz.prog 111 _ (ReflectliteType.abiMethod fun t => do pure (.int .u8 (← Rtype.kind t))) Tryz.func111 (by kernel_rfl) (by kernel_rfl) (by kernel_rfl) (by kernel_rfl)
  have h121 := @run_callFunc_extern Tryz.prog 121 _ (ReflectliteType.method ReflectliteType.elem) Tryz.func121 (by kernel_rfl) (by kernel_rfl) (by kernel_rfl) (by kernel_rfl)
  have h122 := @run_callFunc_extern Tryz.prog 122 _ (ReflectliteType.relation "Implements" ReflectliteType.implements_) Tryz.func122 (by kernel_rfl) (by kernel_rfl) (by kernel_rfl) (by kernel_rfl)
  have h71 := @run_callFunc_extern Tryz.prog 71 _ ReflectliteType.typeOf Tryz.func71 (by kernel_rfl) (by kernel_rfl) (by kernel_rfl) (by kernel_rfl)
  have h119 := @run_callFunc_extern Tryz.prog 119 _ (ReflectliteType.relation "AssignableTo" ReflectliteType.assignableTo) Tryz.func119 (by kernel_rfl) (by kernel_rfl) (by kernel_rfl) (by kernel_rfl)
  have h72 := @run_callFunc_extern Tryz.prog 72 _ (ReflectliteValue.method (ReflectliteValue.valueError "reflectlite.Value.Elem" 0) ReflectliteValue.elem) Tryz.func72 (by kernel_rfl) (by kernel_rfl) (by kernel_rfl) (by kernel_rfl)
  have h73 := @run_callFunc_extern Tryz.prog 73 _ ReflectliteValue.set Tryz.func73 (by kernel_rfl) (by kernel_rfl) (by kernel_rfl) (by kernel_rfl)
  have tO := typeOf54
  have mA := methodAssignableTo
  have aE := assignable54
  have vE := valueOf54
  have f6 := valueOf57
  have f7 := type57
  have mK := methodKind
  have mE := methodElem
  have mI := methodImplements
  have kp := kind57
  have ke := kind54
  have ep := elem57
  have ie := implements54
  have n8 := isNil57 ⟨w.heap.size, 0, none⟩ t ((w.alloc (.cells #[.pointer (some t)] 57)).alloc (.cells #[.pointer (some ⟨1, 57, none⟩), .pointer (some ⟨w.heap.size, 0, none⟩), .int .u64 150] 74)) (by simp)
  have hlt : 0 < w.heap.size := by
    rcases Nat.eq_zero_or_pos w.heap.size with h0 | h
    · simp [World.cell?, h0] at hg
    · exact h
  have hg2 : ((w.alloc (.cells #[.pointer (some t)] 57)).alloc (.cells #[.pointer (some ⟨1, 57, none⟩), .pointer (some ⟨w.heap.size, 0, none⟩), .int .u64 150] 74)).cell? ⟨0, 0, none⟩ = some (.iface 94 (.agg #[.pointer (some ⟨1, 35, none⟩)])) := by
    rw [World.cell?_alloc_lt _ _ ⟨0, 0, none⟩ (by simp), World.cell?_alloc_lt _ _ ⟨0, 0, none⟩ hlt]; exact hg
  have htl : t.block < w.heap.size := by
    rcases Nat.lt_or_ge t.block w.heap.size with h | h
    · exact h
    · simp [World.cell?, Array.getElem?_eq_none h] at ht0
  have el := elemV57 ⟨w.heap.size, 0, none⟩ t (((w.alloc (.cells #[.pointer (some t)] 57)).alloc (.cells #[.pointer (some ⟨1, 57, none⟩), .pointer (some ⟨w.heap.size, 0, none⟩), .int .u64 150] 74)).alloc (.cells #[.pointer (some ⟨1, 57, none⟩), .pointer (some ⟨w.heap.size, 0, none⟩), .int .u64 150] 74)) (by rw [World.cell?_alloc_lt _ _ ⟨w.heap.size, 0, none⟩ (by simp; omega)]; simp)
  have st := set54 t ⟨w.heap.size + 1 + 1 + 1, 0, none⟩ n (.int .i64 n) old rfl ((((w.alloc (.cells #[.pointer (some t)] 57)).alloc (.cells #[.pointer (some ⟨1, 57, none⟩), .pointer (some ⟨w.heap.size, 0, none⟩), .int .u64 150] 74)).alloc (.cells #[.pointer (some ⟨1, 57, none⟩), .pointer (some ⟨w.heap.size, 0, none⟩), .int .u64 150] 74)).alloc (.cells #[.int .i64 n] 54))
    (by rw [World.cell?_alloc_at _ _ _ _ (by simp)]; rfl)
    (by rw [World.cell?_alloc_lt _ _ t (by simp; omega), World.cell?_alloc_lt _ _ t (by simp; omega), World.cell?_alloc_lt _ _ t (by simp; omega), World.cell?_alloc_lt _ _ t htl]; exact ht0)
    (by rw [World.frozen?_alloc_old _ _ t (by simp; omega), World.frozen?_alloc_old _ _ t (by simp; omega), World.frozen?_alloc_old _ _ t (by simp; omega), World.frozen?_alloc_old _ _ t (Nat.ne_of_lt htl)]; exact hf0)
  go_enter Tryz.func31, Tryz.ntmps31
  go_wp2
  refine wp_loop_rounds 1 ?_
  rw [rounds_succ]
  go_wp2
  go_ret
  exact ⟨rfl, _, ((((Below.refl _ w).alloc (Nat.le_refl _) _).alloc (by simp) _).alloc (by simp; omega) _).alloc (by simp; omega) _, rfl⟩
end Go.Proofs.YtadjekpfehjibaaGreatDoor
namespace Go.Proofs.YtadjekpfehjibaaGreatDoor
open Go.RowKit
/-- errors.errorType holds its handle. -/
def Held (w : World) : Prop := w.cell? ⟨0, 0, none⟩ = some (.iface 94 (.agg #[.pointer (some ⟨1, 35, none⟩)]))
theorem held_below {w w1 : World} (h : Held w) (hb : Below w.heap.size w w1) : Held w1 :=
  (hb.cell (World.block_lt_of_cell? w _ h)).trans h
theorem post_below {w : World} {t : Nat} {o : Obj} {x : Value} {W : World} (ht : t = w.heap.size) (hb : Below (w.alloc o).heap.size (w.alloc o) W) : Below w.heap.size w (W.setCell ⟨t, 0, none⟩ x) := by
  subst ht
  have h1 : Below w.heap.size w W := ((Below.refl w.heap.size w).alloc (Nat.le_refl _) o).trans (hb.mono (by simp))
  exact h1.setCell (by simp) _
set_option maxHeartbeats 800000 in
theorem code_five (w : World) (hg : Held w) :
    Calls Tryz.prog 14 #[.iface 54 (.int .i64 5)] w fun e w' => e = .returned (.int .i64 5) ∧ Below w.heap.size w w' := by
  have HG : Hid (Held (w.alloc (.cells #[.int .i64 0] 54))) := by
    have : Held (w.alloc (.cells #[.int .i64 0] 54)) := held_below hg ((Below.refl _ _).alloc (Nat.le_refl _) _)
    exact this
  clear hg
  go_enter Tryz.func14, Tryz.ntmps14
  go_wp2_with fail
  refine (as_hit54 5 ⟨w.heap.size, 0, none⟩ (.int .i64 0) _ HG.out (by simp) (by simp)).mono ?_
  rintro e w' ⟨rfl, W, hW, rfl⟩
  have hc : W.cell? ⟨w.heap.size, 0, none⟩ = some (.int .i64 0) := (hW.cell (p := ⟨w.heap.size, 0, none⟩) (by simp)).trans (by simp)
  go_wp2_with fail
  go_ret
  exact ⟨by first | rfl | simp, post_below rfl hW⟩
end Go.Proofs.YtadjekpfehjibaaGreatDoor
namespace Go.Proofs.YtadjekpfehjibaaGreatDoor
open Go.ChangeShapes Go.WideShapes Go.ChangeAt Go.RowKit
theorem own : ownKnob Tryz.prog.godebug = none := by kernel_rfl
theorem gEt : Tryz.prog.globalNamed "errors.errorType" = some 0 := by kernel_rfl
theorem gRt : (Tryz.prog.cutTypes.find? (·.1 == "internal/reflectlite.rtype")).map (·.2) = some 94 := by kernel_rfl
theorem oneRow : ((List.range 165).filter fun t => Tryz.prog.rowNamed t [101, 114, 114, 111, 114]) = [35] := by kernel_rfl
theorem typesSize : Tryz.prog.types.size = 165 := by kernel_rfl
def laidList : List (String × DataW Unit) := [("errors.errorType", Rows.laid_errors_errorType)]
/-- WHAT THE CONDITION GIVES A WALK: the variable's one cell. -/
theorem held_of_laid {W : World} (h : laidMetH Tryz.prog laidList W) : Held W := by
  have h' : laidMet Tryz.prog [] W ∧ handlesMet Tryz.prog laidList W := h
  obtain ⟨name, u, ty, e1, e2, e3, e4, e5⟩ := h'.2 _ (List.mem_singleton.2 rfl)
  have en : name = [101, 114, 114, 111, 114] := (Option.some.inj e1).symm
  subst en
  obtain rfl := Option.some.inj (gRt.symm.trans e2)
  have hm : ty ∈ (List.range 165).filter fun t => Tryz.prog.rowNamed t [101, 114, 114, 111, 114] := List.mem_filter.2 ⟨List.mem_range.2 (by rw [← typesSize]; exact e3), e4⟩
  rw [oneRow] at hm
  obtain rfl := List.mem_singleton.1 hm
  have hh : typeHandle Tryz.prog 35 = .pointer (some ⟨1, 35, none⟩) := by kernel_rfl
  rw [hh] at e5
  have := World.var?_cell gEt e5 0
  unfold Held
  simpa using this
/-- A world that meets the condition: the settled one, the variable's cell laid. -/
noncomputable def laidWorld (os : Os) : World :=
  let w0 := World.holding Tryz.prog os ⟨#[], #[], []⟩
  { w0 with heap := w0.heap.modify 0 fun
      | .cells _ t frozen => .cells #[.iface 94 (.agg #[.pointer (some ⟨1, 35, none⟩)])] t frozen
      | o => o }
theorem laidWorld_met (os : Os) (args : Array Value) : laidMetH Tryz.prog laidList ((laidWorld os).forCall (fun _ _ => 0) ⟨#[], args, []⟩).memory :=
  laidMetH_of_parts (laidMet_nil _ _) (by kernel_rfl)
end Go.Proofs.YtadjekpfehjibaaGreatDoor
namespace Go.Proofs.YtadjekpfehjibaaGreatDoor.PEnv
open Go.RowKit Go.Shelf Go.Lib Go.Proofs.YtadjekpfehjibaaGreatDoorW.PrintWords Go.Proofs.YtadjekpfehjibaaGreatDoorW.PrintLast Go.Proofs.YtadjekpfehjibaaGreatDoorW.PrintMore Go.Proofs.YtadjekpfehjibaaGreatDoor.PEnvJoins
set_option maxRecDepth 100000
theorem sizeC (es : List S33) (A : Option Addr) (c : Nat) (w : World) (hc : es.length ≤ c) (hC : Kd.C k33 w A es.length es) :
    ∃ r, ∀ W, Below w.heap.size w W → Calls Tryz.prog 5 #[.slice A es.length c] W fun e w' => e = .returned (.int .i64 r) ∧ Below W.heap.size W w' := by
  obtain ⟨k, r, hk⟩ := refSize_f es (Kd.C_max hC) (bindsMax hC)
  exact ⟨r, fun W hW => lienbookref05_Size.calls k _ _ _ _ W (Kd.C_below hC hW) hc hk⟩
theorem sameJ {js : List S33} {n : Nat} (hl : js.length = n) {Y Z : Option Addr} {cY cZ : Nat} (w : World) (hY : n ≤ cY) (hZ : n ≤ cZ) (hC : Kd.C k33 w Y n js) (hD : Kd.C k33 w Z n js) :
    Calls Tryz.prog 15 #[.slice Y n cY, .slice Z n cZ] w fun e w' => e = .returned (.bool true) ∧ Below w.heap.size w w' := by
  subst hl
  exact sameC js Y cY Z cZ w hY hZ hC hD
theorem rightJ {js : List S33} {n : Nat} (hl : js.length = n) (hr : rightE js = true) {Y : Option Addr} (w : World) (cY : Nat) (hC : Kd.C k33 w Y n js) :
    Calls Tryz.prog 6 #[.slice Y n cY] w fun e w' => e = .returned (.bool true) ∧ Below w.heap.size w w' := by
  subst hl
  have := envRightE js Y cY w hC
  rw [hr] at this
  exact this
theorem bnext {w W W' : World} (h : Below w.heap.size w W) (k : Below W.heap.size W W') : Below w.heap.size w W' := h.trans (k.mono h.size)
set_option maxHeartbeats 4000000 in
theorem law_big1 (xs ys : List S33) (A : Option Addr) (c : Nat) (B : Option Addr) (d : Nat) (w : World) (r1 r2 : Int) (s1 : ∀ W, Below w.heap.size w W → Calls Tryz.prog 5 #[.slice A xs.length c] W fun e w' => e = .returned (.int .i64 r1) ∧ Below W.heap.size W w') (s2 : ∀ W, Below w.heap.size w W → Calls Tryz.prog 5 #[.slice B ys.length d] W fun e w' => e = .returned (.int .i64 r2) ∧ Below W.heap.size W w') (hr1 : r1 > 400) :
    Calls Tryz.prog 3 #[.slice A xs.length c, .slice B ys.length d] w fun e w' => e = .returned (.bool true) ∧ Below w.heap.size w w' := by
  have br11 : decide (r1 > 400) = true := decide_eq_true hr1
  have br12 : decide (400 < r1) = true := br11
  clear hr1 s2
  go_enter Tryz.func3, Tryz.ntmps3
  go_wp2_with (first
    | (go_at_call 4; refine (awake_any w).mono ?_; rintro e w1 ⟨rfl, hb1⟩; have s1' := s1 w1 hb1; clear s1)
    | (go_at_call 5; refine s1'.mono ?_; clear s1'; rintro e w2 ⟨rfl, hb2⟩; have hb2 := bnext hb1 hb2; clear hb1))
  go_ret
  exact ⟨rfl, hb2⟩
set_option maxHeartbeats 4000000 in
theorem law_big2 (xs ys : List S33) (A : Option Addr) (c : Nat) (B : Option Addr) (d : Nat) (w : World) (r1 r2 : Int) (s1 : ∀ W, Below w.heap.size w W → Calls Tryz.prog 5 #[.slice A xs.length c] W fun e w' => e = .returned (.int .i64 r1) ∧ Below W.heap.size W w') (s2 : ∀ W, Below w.heap.size w W → Calls Tryz.prog 5 #[.slice B ys.length d] W fun e w' => e = .returned (.int .i64 r2) ∧ Below W.heap.size W w') (hr1 : ¬ r1 > 400) (hr2 : r2 > 400) :
    Calls Tryz.prog 3 #[.slice A xs.length c, .slice B ys.length d] w fun e w' => e = .returned (.bool true) ∧ Below w.heap.size w w' := by
  have br11 : decide (r1 > 400) = false := decide_eq_false hr1
  have br12 : decide (400 < r1) = false := br11
  have br21 : decide (r2 > 400) = true := decide_eq_true hr2
  have br22 : decide (400 < r2) = true := br21
  clear hr1 hr2
  go_enter Tryz.func3, Tryz.ntmps3
  go_wp2_with (first
    | (go_at_call 4; refine (awake_any w).mono ?_; rintro e w1 ⟨rfl, hb1⟩; have s1' := s1 w1 hb1; clear s1)
    | (go_at_call 5; refine s1'.mono ?_; clear s1'; rintro e w2 ⟨rfl, hb2⟩; have hb2 := bnext hb1 hb2; clear hb1; have s2' := s2 w2 hb2; clear s2)
    | (go_at_call 5; refine s2'.mono ?_; clear s2'; rintro e w3 ⟨rfl, hb3⟩; have hb3 := bnext hb2 hb3; clear hb2))
  go_ret
  exact ⟨rfl, hb3⟩
set_option maxHeartbeats 16000000 in
theorem law_small (xs ys : List S33) (A : Option Addr) (c : Nat) (B : Option Addr) (d : Nat) (w : World) (r1 r2 : Int) (s1 : ∀ W, Below w.heap.size w W → Calls Tryz.prog 5 #[.slice A xs.length c] W fun e w' => e = .returned (.int .i64 r1) ∧ Below W.heap.size W w') (s2 : ∀ W, Below w.heap.size w W → Calls Tryz.prog 5 #[.slice B ys.length d] W fun e w' => e = .returned (.int .i64 r2) ∧ Below W.heap.size W w') (hr1 : ¬ r1 > 400) (hr2 : ¬ r2 > 400) (hc : xs.length ≤ c) (hd : ys.length ≤ d) (hC : Kd.C k33 w A xs.length xs) (hD : Kd.C k33 w B ys.length ys) (hsx : ∀ k ∈ xs, SmT k.f1) (hsy : ∀ k ∈ ys, SmT k.f1) (hmx : xs.length ≤ 1073741824) (hg : Held w) :
    Calls Tryz.prog 3 #[.slice A xs.length c, .slice B ys.length d] w fun e w' => e = .returned (.bool true) ∧ Below w.heap.size w w' := by
  have br11 : decide (r1 > 400) = false := decide_eq_false hr1
  have br12 : decide (400 < r1) = false := br11
  have br21 : decide (r2 > 400) = false := decide_eq_false hr2
  have br22 : decide (400 < r2) = false := br21
  clear hr1 hr2
  replace hmx := Aside0.mk hmx
  replace hg := Aside0.mk hg
  have t1 : ∀ W, Below w.heap.size w W → Calls Tryz.prog 6 #[.slice A xs.length c] W fun e w' => e = .returned (.bool (rightE xs)) ∧ Below W.heap.size W w' := fun W hW => envRightE xs A c W (Kd.C_below hC hW)
  have t2 : ∀ W, Below w.heap.size w W → Calls Tryz.prog 7 #[.slice A xs.length c] W fun e w' => e = .returned (.bool (rightE xs)) ∧ Below W.heap.size W w' := fun W hW => refRight xs A c W (Kd.C_below hC hW)
  have t3 : ∀ W, Below w.heap.size w W → Calls Tryz.prog 8 #[.slice A xs.length c, .slice B ys.length d] W fun e w' => e = .returned (.bool (lessE xs ys)) ∧ Below W.heap.size W w' := fun W hW => envLessE xs ys hsx hsy A c B d W (Kd.C_below hC hW) (Kd.C_below hD hW)
  have t4 : ∀ W, Below w.heap.size w W → Calls Tryz.prog 9 #[.slice A xs.length c, .slice B ys.length d] W fun e w' => e = .returned (.bool (lessE xs ys)) ∧ Below W.heap.size W w' := fun W hW => refLess xs ys A c B d W (Kd.C_below hC hW) (Kd.C_below hD hW)
  generalize rightE xs = rx at t1 t2
  generalize lessE xs ys = lx at t3 t4
  replace t1 := Aside0.mk t1
  replace t2 := Aside0.mk t2
  replace t3 := Aside0.mk t3
  replace t4 := Aside0.mk t4
  replace hC := Aside0.mk hC
  replace hD := Aside0.mk hD
  replace hsx := Aside0.mk hsx
  replace hsy := Aside0.mk hsy
  replace hc := Aside0.mk hc
  replace hd := Aside0.mk hd
  have eF := enters_of Tryz.func10 (by kernel_rfl) rfl
  have eG := enters_of Tryz.func11 (by kernel_rfl) rfl
  go_enter Tryz.func3, Tryz.ntmps3
  go_upto_block 0 with (first
    | (go_at_call 4; refine (awake_any w).mono ?_; rintro e w1 ⟨rfl, hb1⟩; have s1' := s1 w1 hb1; clear s1)
    | (go_at_call 5; refine s1'.mono ?_; clear s1'; rintro e w2 ⟨rfl, hb2⟩; have hb2 := bnext hb1 hb2; clear hb1; have s2' := s2 w2 hb2; clear s2)
    | (go_at_call 5; refine s2'.mono ?_; clear s2'; rintro e w3 ⟨rfl, hb3⟩; have hb3 := bnext hb2 hb3; clear hb2)
    | (go_at_call 6; refine (t1.out w3 hb3).mono ?_; rintro e w4 ⟨rfl, hb4⟩; have hb4 := bnext hb3 hb4; clear hb3)
    | (go_at_call 7; refine (t2.out w4 hb4).mono ?_; rintro e w5 ⟨rfl, hb5⟩; have hb5 := bnext hb4 hb5; clear hb4)
    | (go_at_call 8; refine (t3.out w5 hb5).mono ?_; rintro e w6 ⟨rfl, hb6⟩; have hb6 := bnext hb5 hb6; clear hb5)
    | (go_at_call 9; refine (t4.out w6 hb6).mono ?_; rintro e w7 ⟨rfl, hb7⟩; have hb7 := bnext hb6 hb7; clear hb6))
  clear t1 t2 t3 t4 br11 br12 br21 br22
  have hb7 := Aside0.mk hb7
  go_cut [5] from 32 to 66 (fun s5 wx => Below w.heap.size w wx)
  case first =>
    go_wp2_with fail
    go_loopg [5] xs.length (fun gg s5 wr => ∃ kk : Nat, kk ≤ xs.length ∧ xs.length - kk ≤ gg ∧ s5 = .int .i64 kk ∧ Aside (Below w.heap.size w wr))
    case atStart => exact ⟨0, Nat.zero_le _, by omega, rfl, hb7.out⟩
    case round =>
      clear hb7
      obtain ⟨kk, hkk, hgg, rfl, hR⟩ := hrel
      have hR := Aside0.mk hR.out
      by_cases hlt : kk < xs.length
      · have hltz : (kk : Int) < (xs.length : Int) := by omega
        by_cases hlty : kk < ys.length
        · have hltyz : (kk : Int) < (ys.length : Int) := by omega
          obtain ⟨ad, D3, e3, D4, e4, eA, x0, x1, x2, x3, x4, x5, xl3, xg3, xl4, xg4⟩ := at_T33 (Kd.C_below hC.out hR.out) (kk : Int) (by omega) hltz
          subst eA
          obtain ⟨bd, G3, h3, G4, h4, eB, y0, y1, y2, y3, y4, y5, yl3, yg3, yl4, yg4⟩ := at_T33 (Kd.C_below hD.out hR.out) (kk : Int) (by omega) hltyz
          subst eB
          simp only [Int.toNat_natCast] at x0 x1 x2 x3 x4 x5 y0 y1 y2 y3 y4 y5
          generalize rd_T33 xs (kk : Int) = x at *
          generalize rd_T33 ys (kk : Int) = y at *
          have kx1 := fun Wq (h : Below wr.heap.size wr Wq) => below_cell h x1
          have kx2 := fun Wq (h : Below wr.heap.size wr Wq) => below_cell h x2
          have kx3 := fun Wq (h : Below wr.heap.size wr Wq) => below_cell h x3
          have kx4 := fun Wq (h : Below wr.heap.size wr Wq) => below_cell h x4
          have kx5 := fun Wq (h : Below wr.heap.size wr Wq) => below_cell h x5
          have ky1 := fun Wq (h : Below wr.heap.size wr Wq) => below_cell h y1
          have ky2 := fun Wq (h : Below wr.heap.size wr Wq) => below_cell h y2
          have ky3 := fun Wq (h : Below wr.heap.size wr Wq) => below_cell h y3
          have ky4 := fun Wq (h : Below wr.heap.size wr Wq) => below_cell h y4
          have ky5 := fun Wq (h : Below wr.heap.size wr Wq) => below_cell h y5
          have cF := fun Wq (h : Below wr.heap.size wr Wq) => (envFits x.f1 y.f1 D3 e3 D4 e4 G3 h3 G4 h4 Wq xl3 (Kd.C_below xg3 h) xl4 (Kd.C_below xg4 h) yl3 (Kd.C_below yg3 h) yl4 (Kd.C_below yg4 h)).mono (fun e w' q => And.intro q.1 (h.trans (q.2.mono h.size)))
          have cG := fun Wq (h : Below wr.heap.size wr Wq) => (refFitsC x.f1 y.f1 D3 e3 D4 e4 G3 h3 G4 h4 Wq xl3 (Kd.C_below xg3 h) xl4 (Kd.C_below xg4 h) yl3 (Kd.C_below yg3 h) yl4 (Kd.C_below yg4 h)).mono (fun e w' q => And.intro q.1 (h.trans (q.2.mono h.size)))
          generalize fitsT x.f1 y.f1 = ff at cF cG
          clear x0 x1 x2 x3 x4 x5 y0 y1 y2 y3 y4 y5 xl3 xg3 xl4 xg4 yl3 yg3 yl4 yg4
          go_wp2_with fail
          refine region_cls (fun W' => Below wr.heap.size wr W') (by kernel_rfl) (by kernel_rfl) (below_drew1 (Below.refl _ wr)) ?_
          go_big_quiet_want
          refine ⟨.slice (some ad) xs.length c, fun Wq hWq => ?_, ?_⟩
          · clear kx1 kx2 kx3 kx4 kx5 ky1 ky2 ky3 ky4 ky5 cF cG
            unfold Oper.quietAt
            go_simp
          simp only [Act.put, List.setIfInBounds_toArray, List.set_cons_zero, List.set_cons_succ]
          go_big_quiet_on
          go_big_quiet_want
          refine ⟨.int .i64 kk, fun Wq hWq => ?_, ?_⟩
          · clear kx1 kx2 kx3 kx4 kx5 ky1 ky2 ky3 ky4 ky5 cF cG
            unfold Oper.quietAt
            go_simp
          simp only [Act.put, List.setIfInBounds_toArray, List.set_cons_zero, List.set_cons_succ]
          go_big_quiet_on
          go_big_quiet_want
          refine ⟨.pointer (some (ad.add (kk * 6))), fun Wq hWq => ?_, ?_⟩
          · clear kx1 kx2 kx3 kx4 kx5 ky1 ky2 ky3 ky4 ky5 cF cG
            unfold Oper.quietAt
            go_simp
          simp only [Act.put, List.setIfInBounds_toArray, List.set_cons_zero, List.set_cons_succ]
          go_big_quiet_on
          go_big_quiet_want
          refine ⟨.pointer (some ⟨(ad.add (kk * 6)).block, (ad.add (kk * 6)).off + 1, none⟩), fun Wq hWq => ?_, ?_⟩
          · clear kx1 kx2 kx3 kx4 kx5 ky1 ky2 ky3 ky4 ky5 cF cG
            unfold Oper.quietAt
            go_simp
          simp only [Act.put, List.setIfInBounds_toArray, List.set_cons_zero, List.set_cons_succ]
          go_big_quiet_on
          go_big_quiet_want
          refine ⟨.agg #[.int .i64 x.f1.f0, .bool x.f1.f1, .bool x.f1.f2, .slice D3 x.f1.f3.length e3, .slice D4 x.f1.f4.length e4], fun Wq hWq => ?_, ?_⟩
          · have q_kx1 := kx1 Wq hWq
            have q_kx2 := kx2 Wq hWq
            have q_kx3 := kx3 Wq hWq
            have q_kx4 := kx4 Wq hWq
            have q_kx5 := kx5 Wq hWq
            clear kx1 kx2 kx3 kx4 kx5 ky1 ky2 ky3 ky4 ky5 cF cG
            unfold Oper.quietAt
            go_simp
          simp only [Act.put, List.setIfInBounds_toArray, List.set_cons_zero, List.set_cons_succ]
          go_big_quiet_on
          go_big_quiet_want
          refine ⟨.slice (some bd) ys.length d, fun Wq hWq => ?_, ?_⟩
          · clear kx1 kx2 kx3 kx4 kx5 ky1 ky2 ky3 ky4 ky5 cF cG
            unfold Oper.quietAt
            go_simp
          simp only [Act.put, List.setIfInBounds_toArray, List.set_cons_zero, List.set_cons_succ]
          go_big_quiet_on
          go_big_quiet_want
          refine ⟨.int .i64 kk, fun Wq hWq => ?_, ?_⟩
          · clear kx1 kx2 kx3 kx4 kx5 ky1 ky2 ky3 ky4 ky5 cF cG
            unfold Oper.quietAt
            go_simp
          simp only [Act.put, List.setIfInBounds_toArray, List.set_cons_zero, List.set_cons_succ]
          go_big_quiet_on
          go_big_quiet_want
          refine ⟨.pointer (some (bd.add (kk * 6))), fun Wq hWq => ?_, ?_⟩
          · clear kx1 kx2 kx3 kx4 kx5 ky1 ky2 ky3 ky4 ky5 cF cG
            unfold Oper.quietAt
            go_simp
          simp only [Act.put, List.setIfInBounds_toArray, List.set_cons_zero, List.set_cons_succ]
          go_big_quiet_on
          go_big_quiet_want
          refine ⟨.pointer (some ⟨(bd.add (kk * 6)).block, (bd.add (kk * 6)).off + 1, none⟩), fun Wq hWq => ?_, ?_⟩
          · clear kx1 kx2 kx3 kx4 kx5 ky1 ky2 ky3 ky4 ky5 cF cG
            unfold Oper.quietAt
            go_simp
          simp only [Act.put, List.setIfInBounds_toArray, List.set_cons_zero, List.set_cons_succ]
          go_big_quiet_on
          go_big_quiet_want
          refine ⟨.agg #[.int .i64 y.f1.f0, .bool y.f1.f1, .bool y.f1.f2, .slice G3 y.f1.f3.length h3, .slice G4 y.f1.f4.length h4], fun Wq hWq => ?_, ?_⟩
          · have q_ky1 := ky1 Wq hWq
            have q_ky2 := ky2 Wq hWq
            have q_ky3 := ky3 Wq hWq
            have q_ky4 := ky4 Wq hWq
            have q_ky5 := ky5 Wq hWq
            clear kx1 kx2 kx3 kx4 kx5 ky1 ky2 ky3 ky4 ky5 cF cG
            unfold Oper.quietAt
            go_simp
          simp only [Act.put, List.setIfInBounds_toArray, List.set_cons_zero, List.set_cons_succ]
          go_big_quiet_on
          go_big_quiet_want
          refine ⟨.bool ff, fun Wq hWq => ?_, ?_⟩
          · have q_cF := cF Wq hWq
            clear kx1 kx2 kx3 kx4 kx5 ky1 ky2 ky3 ky4 ky5 cF cG
            unfold Oper.quietAt
            go_simp
          simp only [Act.put, List.setIfInBounds_toArray, List.set_cons_zero, List.set_cons_succ]
          go_big_quiet_on
          go_big_quiet_want
          refine ⟨.slice (some ad) xs.length c, fun Wq hWq => ?_, ?_⟩
          · clear kx1 kx2 kx3 kx4 kx5 ky1 ky2 ky3 ky4 ky5 cF cG
            unfold Oper.quietAt
            go_simp
          simp only [Act.put, List.setIfInBounds_toArray, List.set_cons_zero, List.set_cons_succ]
          go_big_quiet_on
          go_big_quiet_want
          refine ⟨.int .i64 kk, fun Wq hWq => ?_, ?_⟩
          · clear kx1 kx2 kx3 kx4 kx5 ky1 ky2 ky3 ky4 ky5 cF cG
            unfold Oper.quietAt
            go_simp
          simp only [Act.put, List.setIfInBounds_toArray, List.set_cons_zero, List.set_cons_succ]
          go_big_quiet_on
          go_big_quiet_want
          refine ⟨.pointer (some (ad.add (kk * 6))), fun Wq hWq => ?_, ?_⟩
          · clear kx1 kx2 kx3 kx4 kx5 ky1 ky2 ky3 ky4 ky5 cF cG
            unfold Oper.quietAt
            go_simp
          simp only [Act.put, List.setIfInBounds_toArray, List.set_cons_zero, List.set_cons_succ]
          go_big_quiet_on
          go_big_quiet_want
          refine ⟨.pointer (some ⟨(ad.add (kk * 6)).block, (ad.add (kk * 6)).off + 1, none⟩), fun Wq hWq => ?_, ?_⟩
          · clear kx1 kx2 kx3 kx4 kx5 ky1 ky2 ky3 ky4 ky5 cF cG
            unfold Oper.quietAt
            go_simp
          simp only [Act.put, List.setIfInBounds_toArray, List.set_cons_zero, List.set_cons_succ]
          go_big_quiet_on
          go_big_quiet_want
          refine ⟨.agg #[.int .i64 x.f1.f0, .bool x.f1.f1, .bool x.f1.f2, .slice D3 x.f1.f3.length e3, .slice D4 x.f1.f4.length e4], fun Wq hWq => ?_, ?_⟩
          · have q_kx1 := kx1 Wq hWq
            have q_kx2 := kx2 Wq hWq
            have q_kx3 := kx3 Wq hWq
            have q_kx4 := kx4 Wq hWq
            have q_kx5 := kx5 Wq hWq
            clear kx1 kx2 kx3 kx4 kx5 ky1 ky2 ky3 ky4 ky5 cF cG
            unfold Oper.quietAt
            go_simp
          simp only [Act.put, List.setIfInBounds_toArray, List.set_cons_zero, List.set_cons_succ]
          go_big_quiet_on
          go_big_quiet_want
          refine ⟨.slice (some bd) ys.length d, fun Wq hWq => ?_, ?_⟩
          · clear kx1 kx2 kx3 kx4 kx5 ky1 ky2 ky3 ky4 ky5 cF cG
            unfold Oper.quietAt
            go_simp
          simp only [Act.put, List.setIfInBounds_toArray, List.set_cons_zero, List.set_cons_succ]
          go_big_quiet_on
          go_big_quiet_want
          refine ⟨.int .i64 kk, fun Wq hWq => ?_, ?_⟩
          · clear kx1 kx2 kx3 kx4 kx5 ky1 ky2 ky3 ky4 ky5 cF cG
            unfold Oper.quietAt
            go_simp
          simp only [Act.put, List.setIfInBounds_toArray, List.set_cons_zero, List.set_cons_succ]
          go_big_quiet_on
          go_big_quiet_want
          refine ⟨.pointer (some (bd.add (kk * 6))), fun Wq hWq => ?_, ?_⟩
          · clear kx1 kx2 kx3 kx4 kx5 ky1 ky2 ky3 ky4 ky5 cF cG
            unfold Oper.quietAt
            go_simp
          simp only [Act.put, List.setIfInBounds_toArray, List.set_cons_zero, List.set_cons_succ]
          go_big_quiet_on
          go_big_quiet_want
          refine ⟨.pointer (some ⟨(bd.add (kk * 6)).block, (bd.add (kk * 6)).off + 1, none⟩), fun Wq hWq => ?_, ?_⟩
          · clear kx1 kx2 kx3 kx4 kx5 ky1 ky2 ky3 ky4 ky5 cF cG
            unfold Oper.quietAt
            go_simp
          simp only [Act.put, List.setIfInBounds_toArray, List.set_cons_zero, List.set_cons_succ]
          go_big_quiet_on
          go_big_quiet_want
          refine ⟨.agg #[.int .i64 y.f1.f0, .bool y.f1.f1, .bool y.f1.f2, .slice G3 y.f1.f3.length h3, .slice G4 y.f1.f4.length h4], fun Wq hWq => ?_, ?_⟩
          · have q_ky1 := ky1 Wq hWq
            have q_ky2 := ky2 Wq hWq
            have q_ky3 := ky3 Wq hWq
            have q_ky4 := ky4 Wq hWq
            have q_ky5 := ky5 Wq hWq
            clear kx1 kx2 kx3 kx4 kx5 ky1 ky2 ky3 ky4 ky5 cF cG
            unfold Oper.quietAt
            go_simp
          simp only [Act.put, List.setIfInBounds_toArray, List.set_cons_zero, List.set_cons_succ]
          go_big_quiet_on
          go_big_quiet_want
          refine ⟨.bool ff, fun Wq hWq => ?_, ?_⟩
          · have q_cG := cG Wq hWq
            clear kx1 kx2 kx3 kx4 kx5 ky1 ky2 ky3 ky4 ky5 cF cG
            unfold Oper.quietAt
            go_simp
          simp only [Act.put, List.setIfInBounds_toArray, List.set_cons_zero, List.set_cons_succ]
          go_big_quiet_on
          go_big_quiet_want
          refine ⟨.bool false, fun Wq hWq => ?_, ?_⟩
          · clear kx1 kx2 kx3 kx4 kx5 ky1 ky2 ky3 ky4 ky5 cF cG
            unfold Oper.quietAt
            go_simp
          simp only [Act.put, List.setIfInBounds_toArray, List.set_cons_zero, List.set_cons_succ]
          go_big_quiet_on
          refine wpQuiet_nil ?_
          intro W3 hW3
          clear kx1 kx2 kx3 kx4 kx5 ky1 ky2 ky3 ky4 ky5 cF cG
          have hbig := hmx.out
          go_wp2
          go_roundg (xs.length - (kk + 1))
          case measure => omega
          case rel => exact ⟨kk + 1, by omega, by omega, by go_num, hR.out.trans (hW3.mono hR.out.size)⟩
        · have hy1 : decide ((kk : Int) < (ys.length : Int)) = false := decide_eq_false (by omega)
          have hy2 : decide (kk < ys.length) = false := decide_eq_false hlty
          clear hlty
          go_wp2
          go_meet
          case rel => exact hR.out
      · have hx1 : decide ((kk : Int) < (xs.length : Int)) = false := decide_eq_false (by omega)
        have hx2 : decide (kk < xs.length) = false := decide_eq_false hlt
        clear hlt
        go_wp2
        go_meet
        case rel => exact hR.out
  case rest =>
    clear hb7 eF eG
    have hb7 := Aside0.mk hcut
    clear hcut
    by_cases hBoth : bothE xs ys = true
    · have j1 := Aside0.mk (envJoinE xs ys A c B d wc (Kd.C_below hC.out hb7.out) (Kd.C_below hD.out hb7.out) hsx.out hsy.out hmx.out hBoth)
      have j2 := Aside0.mk (fun W (hW : Below w.heap.size w W) => refBoth xs ys A c B d W (Kd.C_below hC.out hW) (Kd.C_below hD.out hW))
      rw [hBoth] at j2
      have j3 := Aside0.mk (fun W (hW : Below w.heap.size w W) => refJoinE xs ys A c B d W (Kd.C_below hC.out hW) (Kd.C_below hD.out hW) hsx.out hsy.out hmx.out hBoth)
      have hlen := Aside0.mk (joinE_length xs ys (both_len hBoth))
      have hrt := Aside0.mk (right_joinE hBoth)
      clear hBoth
      go_wp2_with (first
        | (go_at_call 12; refine j1.out.mono ?_; clear j1; rintro e w2 ⟨Y, cY, rfl, hb2, hcY, hFY⟩; have hb2 := bnext hb7.out hb2; clear hb7)
        | (go_at_call 13; refine (j2.out w2 hb2).mono ?_; clear j2; rintro e w3 ⟨rfl, hb23⟩; have hb3 := bnext hb2 hb23; have hFY := Kd.F_below hFY hb23; clear hb2 hb23)
        | (go_at_call 16; refine (j3.out w3 hb3).mono ?_; clear j3; rintro e w4 ⟨Z, cZ, rfl, hb34, hcZ, hFZ⟩; have hb4 := bnext hb3 hb34; have hFY := Kd.F_below hFY hb34; clear hb3 hb34; have k4 := sameJ hlen.out w4 hcY hcZ hFY.now hFZ.now; clear hFZ)
        | (go_at_call 15; refine k4.mono ?_; clear k4; rintro e w5 ⟨rfl, hb45⟩; have hb5 := bnext hb4 hb45; have hFY := Kd.F_below hFY hb45; clear hb4 hb45; have k5 := rightJ hlen.out hrt.out w5 cY hFY.now)
        | (go_at_call 6; refine k5.mono ?_; clear k5; rintro e w6 ⟨rfl, hb56⟩; have hb6 := bnext hb5 hb56; clear hb5 hb56))
      go_ret
      exact ⟨rfl, hb6⟩
    · have hBoth := Bool.eq_false_iff.mpr hBoth
      have j1 := Aside0.mk (envJoinNo xs ys A c B d wc (Kd.C_below hC.out hb7.out) (Kd.C_below hD.out hb7.out) hBoth)
      have j2 := Aside0.mk (fun W (hW : Below w.heap.size w W) => refBoth xs ys A c B d W (Kd.C_below hC.out hW) (Kd.C_below hD.out hW))
      rw [hBoth] at j2
      clear hBoth
      go_wp2_with (first
        | (go_at_call 12; refine j1.out.mono ?_; clear j1; rintro e w2 ⟨rfl, hb2⟩; have hb2 := bnext hb7.out hb2; clear hb7)
        | (go_at_call 13; refine (j2.out w2 hb2).mono ?_; clear j2; rintro e w3 ⟨rfl, hb23⟩; have hb3 := bnext hb2 hb23; clear hb2 hb23; have k4 := code_five w3 (held_below hg.out hb3))
        | (go_at_call 14; refine k4.mono ?_; clear k4; rintro e w4 ⟨rfl, hb34⟩; have hb4 := bnext hb3 hb34; clear hb3 hb34))
      go_ret
      exact ⟨rfl, hb4⟩
/-- EnvJoins, whatever the environments, where no list is too long. -/
theorem envJoins_any (xs ys : List S33) (A : Option Addr) (c : Nat) (B : Option Addr) (d : Nat) (w : World) (hc : xs.length ≤ c) (hd : ys.length ≤ d) (hC : Kd.C k33 w A xs.length xs) (hD : Kd.C k33 w B ys.length ys) (hsx : ∀ k ∈ xs, SmT k.f1) (hsy : ∀ k ∈ ys, SmT k.f1) (hmx : xs.length ≤ 1073741824) (hg : Held w) :
    Calls Tryz.prog 3 #[.slice A xs.length c, .slice B ys.length d] w fun e w' => e = .returned (.bool true) ∧ Below w.heap.size w w' := by
  obtain ⟨r1, s1⟩ := sizeC xs A c w hc hC
  obtain ⟨r2, s2⟩ := sizeC ys B d w hd hD
  by_cases h1 : r1 > 400
  · exact law_big1 xs ys A c B d w r1 r2 s1 s2 h1
  · by_cases h2 : r2 > 400
    · exact law_big2 xs ys A c B d w r1 r2 s1 s2 h1 h2
    · exact law_small xs ys A c B d w r1 r2 s1 s2 h1 h2 hc hd hC hD hsx hsy hmx hg
end Go.Proofs.YtadjekpfehjibaaGreatDoor.PEnv
namespace Go.Proofs.YtadjekpfehjibaaGreatDoor.PEnv
open Go.RowKit Go.Proofs.YtadjekpfehjibaaGreatDoorW.PrintWords Go.Proofs.YtadjekpfehjibaaGreatDoorW.PrintLast Go.Proofs.YtadjekpfehjibaaGreatDoor.PEnvJoins
set_option maxRecDepth 100000
theorem addr_add_add (a : Addr) (i j : Nat) : (a.add i).add j = a.add (i + j) := by
  unfold Addr.add
  by_cases hi : i = 0 <;> by_cases hj : j = 0 <;> simp [hi, hj, Nat.add_assoc]
section
variable {H : Type} {enc : TypeId × Value → H} {w : World} {base : Nat} {spare : Nat → Bool} {held : Bool}
theorem read_slice {α : Type} {d : Kd α} {t e : TypeId} {F : Nat} {cs : List Value} {x : DataW H × List MemPlace} (ht : Tryz.prog.underlying t = some (.slice e)) (hc : Tryz.prog.cellsOf e = d.sz)
    (helem : ∀ n, n < F → ∀ (cs : List Value) (x : DataW H × List MemPlace), DataW.trod enc Tryz.prog w base spare held n e cs = some x → ∃ y, d.K w y cs) (h : DataW.trod enc Tryz.prog w base spare held F t cs = some x) :
    ∃ (A : Option Addr) (c : Nat) (ys : List α), cs = [.slice A ys.length c] ∧ ys.length ≤ c ∧ Kd.C d w A ys.length ys := by
  rcases DataW.trod_slice ht h with ⟨rfl, _⟩ | ⟨a, len, cap, elems, rest, n, hF, rfl, _, _, hl, hm, hlen, hel, _⟩
  · exact ⟨none, 0, [], rfl, Nat.le_refl _, rfl, Nat.zero_le _, fun h => absurd h (Nat.lt_irrefl 0)⟩
  · have hex : ∀ i : Fin len, ∃ y, ∃ cs', d.K w y cs' ∧ cs'.length = d.sz ∧ ∀ k u, cs'[k]? = some u → w.cell? (a.add (i.1 * d.sz + k)) = some u := fun i => by
      have h1 := hel i.1 i.2
      rw [List.getElem?_eq_getElem (by rw [hlen]; exact i.2)] at h1
      obtain ⟨cs', h2, h3⟩ := Option.bind_eq_some_iff.1 h1
      obtain ⟨y, hy⟩ := helem n (by omega) cs' _ h3
      obtain ⟨_, hcl, hcell⟩ := World.cells?_some h2
      refine ⟨y, cs', hy, by rw [hcl, hc], fun k u hk => ?_⟩
      have hkl := (List.getElem?_eq_some_iff.mp hk).1
      have := hcell k (by omega)
      rw [hc, addr_add_add] at this
      rw [this, hk]
    have hl2 : (List.ofFn fun i : Fin len => (hex i).choose).length = len := by simp
    refine ⟨some a, cap, List.ofFn (fun i => (hex i).choose), by rw [hl2], by rw [hl2]; exact hl, rfl, by rw [hl2]; unfold maxLen at hm; omega, fun _ => ⟨a, rfl, fun i y hy => ?_⟩⟩
    obtain ⟨hlt, rfl⟩ := List.getElem?_eq_some_iff.mp hy
    rw [List.getElem_ofFn]
    obtain ⟨cs', h1, h2, h3⟩ := (hex ⟨i, by rw [hl2] at hlt; exact hlt⟩).choose_spec
    exact ⟨cs', h2, h1, h3⟩
theorem cell_int : Tryz.prog.cellsOf 3 = 1 := by kernel_rfl
theorem cell_bool : Tryz.prog.cellsOf 4 = 1 := by kernel_rfl
theorem cell_string : Tryz.prog.cellsOf 9 = 1 := by kernel_rfl
theorem cell_ints : Tryz.prog.cellsOf 40 = 1 := by kernel_rfl
theorem cell_loans : Tryz.prog.cellsOf 28 = 1 := by kernel_rfl
theorem cell_tys : Tryz.prog.cellsOf 29 = 1 := by kernel_rfl
theorem cell_place : Tryz.prog.cellsOf 42 = 2 := by kernel_rfl
theorem cell_loan : Tryz.prog.cellsOf 44 = 4 := by kernel_rfl
theorem cell_ty : Tryz.prog.cellsOf 31 = 5 := by kernel_rfl
theorem cell_bind : Tryz.prog.cellsOf 33 = 6 := by kernel_rfl
theorem read_int {n : Nat} {cs : List Value} {x : DataW H × List MemPlace} (h : DataW.trod enc Tryz.prog w base spare held n 3 cs = some x) : ∃ y, (Kd.int .i64).K w y cs := by
  obtain ⟨k, rfl, _, _⟩ := DataW.trod_int Tryz.underlying3 h
  exact ⟨k, rfl⟩
theorem read_ints {F : Nat} {cs : List Value} {x : DataW H × List MemPlace} (h : DataW.trod enc Tryz.prog w base spare held F 40 cs = some x) :
    ∃ (A : Option Addr) (c : Nat) (ys : List Int), cs = [.slice A ys.length c] ∧ ys.length ≤ c ∧ Kd.C (Kd.int .i64) w A ys.length ys :=
  read_slice (d := Kd.int .i64) Tryz.underlying40 cell_int (fun n _ cs x h => read_int h) h
theorem read_place {F : Nat} {cs : List Value} {x : DataW H × List MemPlace} (h : DataW.trod enc Tryz.prog w base spare held F 42 cs = some x) : ∃ y, k42.K w y cs := by
  obtain ⟨xs, n, _, _, hlen, hxl, hf⟩ := DataW.trod_struct Tryz.underlying42 h
  rw [cell_place] at hlen
  match cs, hlen with
  | [a, b], _ =>
    have hx : xs.length = 2 := hxl
    have h0 := hf 0 _ rfl
    have h1 := hf 1 _ rfl
    rw [List.getElem?_eq_getElem (by omega)] at h0 h1
    have h0 : DataW.trod enc Tryz.prog w base spare held n 9 [a] = some xs[0] := by simpa [cell_string] using h0
    have h1 : DataW.trod enc Tryz.prog w base spare held n 40 [b] = some xs[1] := by simpa [cell_ints] using h1
    obtain ⟨s, e0, _, _⟩ := DataW.trod_string Tryz.underlying9 h0
    obtain ⟨A, c, ys, e1, hl, hC⟩ := read_ints h1
    cases e0
    cases e1
    exact ⟨⟨s, ys⟩, k42_mk w ⟨s, ys⟩ hl hC⟩
theorem read_loan {F : Nat} {cs : List Value} {x : DataW H × List MemPlace} (h : DataW.trod enc Tryz.prog w base spare held F 44 cs = some x) : ∃ y, k44.K w y cs := by
  obtain ⟨xs, n, _, _, hlen, hxl, hf⟩ := DataW.trod_struct Tryz.underlying44 h
  rw [cell_loan] at hlen
  match cs, hlen with
  | [a, b, c, d], _ =>
    have hx : xs.length = 3 := hxl
    have h0 := hf 0 _ rfl
    have h1 := hf 1 _ rfl
    have h2 := hf 2 _ rfl
    rw [List.getElem?_eq_getElem (by omega)] at h0 h1 h2
    have h0 : DataW.trod enc Tryz.prog w base spare held n 9 [a] = some xs[0] := by simpa [cell_string] using h0
    have h1 : DataW.trod enc Tryz.prog w base spare held n 42 [b, c] = some xs[1] := by simpa [cell_place] using h1
    have h2 : DataW.trod enc Tryz.prog w base spare held n 4 [d] = some xs[2] := by simpa [cell_bool] using h2
    obtain ⟨s, e0, _, _⟩ := DataW.trod_string Tryz.underlying9 h0
    obtain ⟨y, hy⟩ := read_place h1
    obtain ⟨A1, c1, e1, hl, hC⟩ := k42_open hy
    obtain ⟨m, e2, _⟩ := DataW.trod_bool Tryz.underlying4 h2
    cases e0
    cases e1
    cases e2
    exact ⟨⟨s, y, m⟩, k44_mk w ⟨s, y, m⟩ hl hC⟩
end
end Go.Proofs.YtadjekpfehjibaaGreatDoor.PEnv
namespace Go.Proofs.YtadjekpfehjibaaGreatDoor.PEnv
open Go.RowKit Go.Proofs.YtadjekpfehjibaaGreatDoorW.PrintWords Go.Proofs.YtadjekpfehjibaaGreatDoorW.PrintLast Go.Proofs.YtadjekpfehjibaaGreatDoor.PEnvJoins
set_option maxRecDepth 100000
theorem bulk_part {H : Type} {d : DataW H} {l : List (DataW H)} (h : d ∈ l) : Rows.uptoBulk d ≤ Rows.uptoBulkAll l := by
  induction l with
  | nil => cases h
  | cons x r ih =>
    simp only [Rows.uptoBulkAll]
    cases List.mem_cons.1 h with
    | inl e => subst e; omega
    | inr e => have := ih e; omega
theorem bulk_one {H : Type} (d : DataW H) : 1 ≤ Rows.uptoBulk d := by
  cases d with
  | lit l => cases l <;> simp [Rows.uptoBulk]
  | nil => simp [Rows.uptoBulk]
  | ptr d => simp [Rows.uptoBulk]
  | slice elems spare => simp [Rows.uptoBulk]
  | agg parts => simp [Rows.uptoBulk]
  | iface t d => simp [Rows.uptoBulk]
  | map entries => simp [Rows.uptoBulk]
  | held h => simp [Rows.uptoBulk]
theorem bulk_length {H : Type} (l : List (DataW H)) : l.length ≤ Rows.uptoBulkAll l := by
  induction l with
  | nil => simp [Rows.uptoBulkAll]
  | cons x r ih => have := bulk_one x; simp only [Rows.uptoBulkAll, List.length_cons]; omega
section
variable {H : Type} {enc : TypeId × Value → H} {w : World} {base : Nat} {spare : Nat → Bool} {held : Bool}
theorem read_sliceB {α : Type} {d : Kd α} {t e : TypeId} {F : Nat} {cs : List Value} {x : DataW H × List MemPlace} (R : α → DataW H → Prop) (ht : Tryz.prog.underlying t = some (.slice e)) (hc : Tryz.prog.cellsOf e = d.sz)
    (helem : ∀ n, n < F → ∀ (cs : List Value) (x : DataW H × List MemPlace), DataW.trod enc Tryz.prog w base spare held n e cs = some x → ∃ y, d.K w y cs ∧ R y x.1) (h : DataW.trod enc Tryz.prog w base spare held F t cs = some x) :
    ∃ (A : Option Addr) (c : Nat) (ys : List α), cs = [.slice A ys.length c] ∧ ys.length ≤ c ∧ Kd.C d w A ys.length ys ∧ ys.length ≤ Rows.uptoBulk x.1 ∧ ∀ y ∈ ys, ∃ q : DataW H, R y q ∧ Rows.uptoBulk q ≤ Rows.uptoBulk x.1 := by
  rcases DataW.trod_slice ht h with ⟨rfl, rfl⟩ | ⟨a, len, cap, elems, rest, n, hF, rfl, rfl, _, hl, hm, hlen, hel, _⟩
  · exact ⟨none, 0, [], rfl, Nat.le_refl _, ⟨rfl, Nat.zero_le _, fun h => absurd h (Nat.lt_irrefl 0)⟩, Nat.zero_le _, fun y hy => by cases hy⟩
  · have hex : ∀ i : Fin len, ∃ y, (∃ cs', d.K w y cs' ∧ cs'.length = d.sz ∧ ∀ k u, cs'[k]? = some u → w.cell? (a.add (i.1 * d.sz + k)) = some u) ∧ ∃ q ∈ elems.map (·.1), R y q := fun i => by
      have h1 := hel i.1 i.2
      have hi : i.1 < elems.length := by rw [hlen]; exact i.2
      rw [List.getElem?_eq_getElem hi] at h1
      obtain ⟨cs', h2, h3⟩ := Option.bind_eq_some_iff.1 h1
      obtain ⟨y, hy, hR⟩ := helem n (by omega) cs' _ h3
      obtain ⟨_, hcl, hcell⟩ := World.cells?_some h2
      refine ⟨y, ⟨cs', hy, by rw [hcl, hc], fun k u hk => ?_⟩, _, List.mem_map.mpr ⟨_, List.getElem_mem hi, rfl⟩, hR⟩
      have hkl := (List.getElem?_eq_some_iff.mp hk).1
      have := hcell k (by omega)
      rw [hc, addr_add_add] at this
      rw [this, hk]
    have hl2 : (List.ofFn fun i : Fin len => (hex i).choose).length = len := by simp
    have hbulk : Rows.uptoBulkAll (elems.map (·.1)) ≤ Rows.uptoBulk (DataW.slice (elems.map (·.1)) (rest.map (·.1))) := by simp only [Rows.uptoBulk]; omega
    refine ⟨some a, cap, List.ofFn (fun i => (hex i).choose), by rw [hl2], by rw [hl2]; exact hl, ⟨rfl, by rw [hl2]; unfold maxLen at hm; omega, fun _ => ⟨a, rfl, fun i y hy => ?_⟩⟩, ?_, fun y hy => ?_⟩
    · obtain ⟨hlt, rfl⟩ := List.getElem?_eq_some_iff.mp hy
      rw [List.getElem_ofFn]
      obtain ⟨cs', h1, h2, h3⟩ := (hex ⟨i, by rw [hl2] at hlt; exact hlt⟩).choose_spec.1
      exact ⟨cs', h2, h1, h3⟩
    · rw [hl2]
      have := bulk_length (elems.map (·.1))
      rw [List.length_map] at this
      show len ≤ Rows.uptoBulk (DataW.slice (elems.map (·.1)) (rest.map (·.1)))
      omega
    · obtain ⟨i, rfl⟩ := List.mem_ofFn.mp hy
      obtain ⟨q, hq, hR⟩ := (hex i).choose_spec.2
      exact ⟨q, hR, Nat.le_trans (bulk_part hq) hbulk⟩
def ShortT (y : S31) (q : DataW H) : Prop := ∀ u ∈ partsT y, u.f3.length ≤ Rows.uptoBulk q
theorem read_tyB : ∀ (F : Nat) (cs : List Value) (x : DataW H × List MemPlace), DataW.trod enc Tryz.prog w base spare held F 31 cs = some x → ∃ y, k31.K w y cs ∧ ShortT y x.1 := by
  intro F
  induction F using Nat.strongRecOn with
  | ind F ih =>
    intro cs x h
    obtain ⟨xs, n, hF, hxx, hlen, hxl, hf⟩ := DataW.trod_struct Tryz.underlying31 h
    rw [cell_ty] at hlen
    match cs, hlen with
    | [a, b, c, d, e], _ =>
      have hx : xs.length = 5 := hxl
      have h0 := hf 0 _ rfl
      have h1 := hf 1 _ rfl
      have h2 := hf 2 _ rfl
      have h3 := hf 3 _ rfl
      have h4 := hf 4 _ rfl
      rw [List.getElem?_eq_getElem (by omega)] at h0 h1 h2 h3 h4
      have h0 : DataW.trod enc Tryz.prog w base spare held n 3 [a] = some xs[0] := by simpa [cell_int] using h0
      have h1 : DataW.trod enc Tryz.prog w base spare held n 4 [b] = some xs[1] := by simpa [cell_bool] using h1
      have h2 : DataW.trod enc Tryz.prog w base spare held n 4 [c] = some xs[2] := by simpa [cell_bool] using h2
      have h3 : DataW.trod enc Tryz.prog w base spare held n 28 [d] = some xs[3] := by simpa [cell_loans] using h3
      have h4 : DataW.trod enc Tryz.prog w base spare held n 29 [e] = some xs[4] := by simpa [cell_tys] using h4
      obtain ⟨i, e0, _, _⟩ := DataW.trod_int Tryz.underlying3 h0
      obtain ⟨m, e1, _⟩ := DataW.trod_bool Tryz.underlying4 h1
      obtain ⟨g, e2, _⟩ := DataW.trod_bool Tryz.underlying4 h2
      obtain ⟨A3, c3, ls, e3, l3, g3, b3, _⟩ := read_sliceB (d := k44) (fun _ _ => True) Tryz.underlying28 cell_loan (fun n _ cs x h => by obtain ⟨y, hy⟩ := read_loan h; exact ⟨y, hy, trivial⟩) h3
      obtain ⟨A4, c4, ks, e4, l4, g4, _, b4⟩ := read_sliceB (d := k31) ShortT Tryz.underlying29 cell_ty (fun m hm cs x h => ih m (by omega) cs x h) h4
      have p3 : Rows.uptoBulk xs[3].1 ≤ Rows.uptoBulk x.1 := by
        rw [hxx]
        have := bulk_part (List.mem_map.mpr ⟨xs[3], List.getElem_mem (by omega), rfl⟩ : xs[3].1 ∈ xs.map (·.1))
        simp only [Rows.uptoBulk]
        omega
      have p4 : Rows.uptoBulk xs[4].1 ≤ Rows.uptoBulk x.1 := by
        rw [hxx]
        have := bulk_part (List.mem_map.mpr ⟨xs[4], List.getElem_mem (by omega), rfl⟩ : xs[4].1 ∈ xs.map (·.1))
        simp only [Rows.uptoBulk]
        omega
      cases e0
      cases e1
      cases e2
      cases e3
      cases e4
      refine ⟨⟨i, m, g, ls, ks⟩, k31_mk w ⟨i, m, g, ls, ks⟩ l3 g3 l4 g4, fun u hu => ?_⟩
      rw [partsT_eq] at hu
      rcases List.mem_cons.mp hu with rfl | hu
      · exact Nat.le_trans b3 p3
      · obtain ⟨k, hk, hu⟩ := (mem_partsL' u _).mp hu
        obtain ⟨q, hq, hle⟩ := b4 k hk
        exact Nat.le_trans (hq u hu) (Nat.le_trans hle p4)
theorem read_bindB {F : Nat} {cs : List Value} {x : DataW H × List MemPlace} (h : DataW.trod enc Tryz.prog w base spare held F 33 cs = some x) : ∃ y, k33.K w y cs ∧ ShortT y.f1 x.1 := by
  obtain ⟨xs, n, _, hxx, hlen, hxl, hf⟩ := DataW.trod_struct Tryz.underlying33 h
  rw [cell_bind] at hlen
  match cs, hlen with
  | [a, b, c, d, e, f], _ =>
    have hx : xs.length = 2 := hxl
    have h0 := hf 0 _ rfl
    have h1 := hf 1 _ rfl
    rw [List.getElem?_eq_getElem (by omega)] at h0 h1
    have h0 : DataW.trod enc Tryz.prog w base spare held n 9 [a] = some xs[0] := by simpa [cell_string] using h0
    have h1 : DataW.trod enc Tryz.prog w base spare held n 31 [b, c, d, e, f] = some xs[1] := by simpa [cell_ty] using h1
    obtain ⟨s, e0, _, _⟩ := DataW.trod_string Tryz.underlying9 h0
    obtain ⟨y, hy, hs⟩ := read_tyB _ _ _ h1
    have p1 : Rows.uptoBulk xs[1].1 ≤ Rows.uptoBulk x.1 := by
      rw [hxx]
      have := bulk_part (List.mem_map.mpr ⟨xs[1], List.getElem_mem (by omega), rfl⟩ : xs[1].1 ∈ xs.map (·.1))
      simp only [Rows.uptoBulk]
      omega
    cases e0
    exact ⟨⟨s, y⟩, ⟨[.string s], [b, c, d, e, f], rfl, rfl, hy⟩, fun u hu => Nat.le_trans (hs u hu) p1⟩
theorem read_envB {F : Nat} {cs : List Value} {x : DataW H × List MemPlace} (h : DataW.trod enc Tryz.prog w base spare held F 22 cs = some x) (hk : Rows.uptoBulk x.1 ≤ 1048576) :
    ∃ (A : Option Addr) (c : Nat) (ys : List S33), cs = [.slice A ys.length c] ∧ ys.length ≤ c ∧ Kd.C k33 w A ys.length ys ∧ ys.length ≤ 1073741824 ∧ ∀ y ∈ ys, SmT y.f1 := by
  obtain ⟨A, c, ys, e, l, g, b, r⟩ := read_sliceB (d := k33) (fun y q => ShortT y.f1 q) Tryz.underlying22 cell_bind (fun n _ cs x h => read_bindB h) h
  exact ⟨A, c, ys, e, l, g, by omega, fun y hy u hu => by obtain ⟨q, hq, hle⟩ := r y hy; have := hq u hu; omega⟩
end
end Go.Proofs.YtadjekpfehjibaaGreatDoor.PEnv
