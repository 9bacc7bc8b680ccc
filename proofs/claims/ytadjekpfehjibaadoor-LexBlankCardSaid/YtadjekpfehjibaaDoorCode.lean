/-
The law's Code and Fault at the errors that lex.Lex makes. Condition: errors.errorType holds its handle.
-/
import Derived.Test.YtadjekpfehjibaaDoorAs
import Derived.Test.YtadjekpfehjibaaDoorRows
import Derived.WalkSpells
import Derived.WalkLawsBesides
namespace Go.Proofs.YtadjekpfehjibaaDoor
open Go.RowKit

/-- errors.errorType holds its handle. -/
def Held (w : World) : Prop := w.cell? ⟨0, 0, none⟩ = some (.iface 68 (.agg #[.pointer (some ⟨2, 25, none⟩)]))
theorem held_below {w w1 : World} (h : Held w) (hb : Below w.heap.size w w1) : Held w1 :=
  (hb.cell (World.block_lt_of_cell? w _ h)).trans h

theorem post_below {w : World} {t : Nat} {o : Obj} {x : Value} {W : World} (ht : t = w.heap.size) (hb : Below (w.alloc o).heap.size (w.alloc o) W) : Below w.heap.size w (W.setCell ⟨t, 0, none⟩ x) := by
  subst ht
  have h1 : Below w.heap.size w W := ((Below.refl w.heap.size w).alloc (Nat.le_refl _) o).trans (hb.mono (by simp))
  exact h1.setCell (by simp) _

set_option maxHeartbeats 800000 in
theorem code_nil (w : World) :
    Calls Tryd.prog 9 #[.nilIface] w fun e w' => e = .returned (.int .i64 0) ∧ w = w' := by
  go_enter Tryd.func9, Tryd.ntmps9
  go_wp2
  go_ret
  exact ⟨rfl, rfl⟩
set_option maxHeartbeats 800000 in
theorem code_much (w : World) (hg : Held w) :
    Calls Tryd.prog 9 #[.iface 38 (.int .i64 3)] w fun e w' => e = .returned (.int .i64 3) ∧ Below w.heap.size w w' := by
  have HG : Hid (Held (w.alloc (.cells #[.int .i64 0] 38))) := by
    have : Held (w.alloc (.cells #[.int .i64 0] 38)) := held_below hg ((Below.refl _ _).alloc (Nat.le_refl _) _)
    exact this
  clear hg
  go_enter Tryd.func9, Tryd.ntmps9
  go_wp2_with fail
  refine (as_hit38 3 ⟨w.heap.size, 0, none⟩ (.int .i64 0) _ HG.out (by simp) (by simp)).mono ?_
  rintro e w' ⟨rfl, W, hW, rfl⟩
  have hc : W.cell? ⟨w.heap.size, 0, none⟩ = some (.int .i64 0) := (hW.cell (p := ⟨w.heap.size, 0, none⟩) (by simp)).trans (by simp)
  go_wp2_with fail
  go_ret
  exact ⟨rfl, post_below rfl hW⟩
set_option maxHeartbeats 800000 in
theorem code_fault (b : Nat) (w : World) (hg : Held w) (hb : w.cell? ⟨b, 1, none⟩ = some (.iface 38 (.int .i64 1))) :
    Calls Tryd.prog 9 #[.iface 42 (.pointer (some ⟨b, 0, none⟩))] w fun e w' => e = .returned (.int .i64 1) ∧ Below w.heap.size w w' := by
  have hb0 := Below.alloc (Below.refl w.heap.size w) (Nat.le_refl _) (.cells #[.int .i64 0] 38)
  have HG : Hid (Held (w.alloc (.cells #[.int .i64 0] 38))) := by
    have : Held (w.alloc (.cells #[.int .i64 0] 38)) := held_below hg hb0
    exact this
  have HB := Lib.hid ((hb0.cell (World.block_lt_of_cell? w _ hb)).trans hb)
  clear hg hb hb0
  go_enter Tryd.func9, Tryd.ntmps9
  go_wp2_with fail
  refine (as_via 1 b ⟨w.heap.size, 0, none⟩ (.int .i64 0) _ HG.out (by simp) (by simp) HB.out).mono ?_
  rintro e w' ⟨rfl, W, hW, rfl⟩
  have hc : W.cell? ⟨w.heap.size, 0, none⟩ = some (.int .i64 0) := (hW.cell (p := ⟨w.heap.size, 0, none⟩) (by simp)).trans (by simp)
  go_wp2_with fail
  go_ret
  exact ⟨rfl, post_below rfl hW⟩
set_option maxHeartbeats 800000 in
theorem fault_nil (x : Int) (w : World) :
    Calls Tryd.prog 10 #[.nilIface, .int .i64 0, .int .i64 x] w fun e w' => e = .returned (.bool true) ∧ Below w.heap.size w w' := by
  go_enter Tryd.func10, Tryd.ntmps10
  go_wp2
  go_ret
  exact ⟨rfl, (Below.refl _ _).alloc (Nat.le_refl _) _⟩
set_option maxHeartbeats 1600000 in
theorem fault_bad (b : Nat) (x : Int) (w : World) (hg : Held w) (hb0 : w.cell? ⟨b, 0, none⟩ = some (.int .i64 x)) (hb1 : w.cell? ⟨b, 1, none⟩ = some (.iface 38 (.int .i64 1))) :
    Calls Tryd.prog 10 #[.iface 42 (.pointer (some ⟨b, 0, none⟩)), .int .i64 1, .int .i64 x] w fun e w' => e = .returned (.bool true) ∧ Below w.heap.size w w' := by
  have hA := Below.alloc (Below.refl w.heap.size w) (Nat.le_refl _) (.cells #[.pointer none] 42)
  have hbl : b < w.heap.size := World.block_lt_of_cell? w _ hb0
  have HG : Hid (Held (w.alloc (.cells #[.pointer none] 42))) := by
    have : Held (w.alloc (.cells #[.pointer none] 42)) := held_below hg hA
    exact this
  have HB1 := Lib.hid ((hA.cell (p := ⟨b, 1, none⟩) hbl).trans hb1)
  have HB0 := Lib.hid ((hA.cell (p := ⟨b, 0, none⟩) hbl).trans hb0)
  clear hg hb0 hb1
  go_enter Tryd.func10, Tryd.ntmps10
  go_wp2_with fail
  refine (code_fault b _ HG.out HB1.out).mono ?_
  rintro e w1 ⟨rfl, hw1⟩
  have hsz : w.heap.size + 1 ≤ w1.heap.size := by have := hw1.size; simpa using this
  have HG1 := Lib.hid (held_below HG.out hw1)
  have ht : w1.cell? ⟨w.heap.size, 0, none⟩ = some (.pointer none) := (hw1.cell (p := ⟨w.heap.size, 0, none⟩) (by simp)).trans (by simp)
  have htf : w1.frozen? ⟨w.heap.size, 0, none⟩ = false := (hw1.frozen (p := ⟨w.heap.size, 0, none⟩) (by simp)).trans (by simp)
  have HB01 := Lib.hid ((hw1.cell (p := ⟨b, 0, none⟩) (by simp; omega)).trans HB0.out)
  have HT := Lib.hid ht
  have HTF := Lib.hid htf
  clear ht htf
  go_wp2_with fail
  refine (as_hit42 ⟨b, 0, none⟩ ⟨w.heap.size, 0, none⟩ (.pointer none) _ HG1.out HT.out HTF.out).mono ?_
  rintro e w' ⟨rfl, W, hW, rfl⟩
  have hc : W.cell? ⟨w.heap.size, 0, none⟩ = some (.pointer none) := (hW.cell (p := ⟨w.heap.size, 0, none⟩) (by simp; omega)).trans HT.out
  have hcb : W.cell? ⟨b, 0, none⟩ = some (.int .i64 x) := (hW.cell (p := ⟨b, 0, none⟩) (by simp; omega)).trans HB01.out
  have hne : b ≠ w.heap.size := by omega
  go_wp2_with fail
  go_outline
  go_ret
  exact ⟨rfl, post_below rfl (hw1.trans (hW.mono hw1.size))⟩
end Go.Proofs.YtadjekpfehjibaaDoor
