/-
The law's awake: it answers true. Condition: errors.errorType holds its handle.
-/
import Derived.Test.YtadjekpfehjibaaDoorCode
import Derived.Test.YtadjekpfehjibaaDoorSame
namespace Go.Proofs.YtadjekpfehjibaaDoor
open Go.RowKit

theorem lex_one : lexL 0 (⟨#[38, 39, 97, 32, 109, 117, 116, 32, 120]⟩ : ByteArray).data.toList = .ok [⟨4, 0, [38]⟩, ⟨3, 1, [39, 97]⟩, ⟨1, 4, [109, 117, 116]⟩, ⟨1, 8, [120]⟩] := by kernel_rfl
theorem lex_two : lexL 0 (⟨#[97, 32, 33, 32, 98]⟩ : ByteArray).data.toList = .bad 2 := by kernel_rfl

attribute [local go_sem high] equalIn35
set_option maxHeartbeats 1600000 in
theorem awake_any (w : World) (hg : Held w) :
    Calls Tryd.prog 6 #[] w fun e w' => e = .returned (.bool true) ∧ Below w.heap.size w w' := by
  have HG := Lib.hid hg
  clear hg
  go_enter Tryd.func6, Tryd.ntmps6
  go_wp2_with fail
  refine (lex_any _ _ (by decide)).mono ?_
  intro e w1 hp1
  rw [lex_one] at hp1
  obtain ⟨v1, rfl, hown, hnil, hb1⟩ := hp1
  clear hnil
  obtain ⟨A, c, rfl, hr⟩ := reads_of_own hown rfl
  go_wp2_with fail
  refine (lex_any _ _ (by decide)).mono ?_
  intro e w2 hp2
  rw [lex_two] at hp2
  obtain ⟨b, rfl, hbge, hblk, hb2⟩ := hp2
  obtain ⟨a, rfl, a1, a2, a3⟩ := treads_below hr hb2 1 _ rfl
  rw [show a.add (1 * 3) = ⟨a.block, a.off + 3, none⟩ from rfl] at a1 a2 a3
  have HG2 := Lib.hid (held_below HG.out (hb1.trans (hb2.mono hb1.size)))
  have c0 : w2.cell? ⟨b, 0, none⟩ = some (.int .i64 2) := by simp [World.cell?, hblk]
  have c1 : w2.cell? ⟨b, 1, none⟩ = some (.iface 38 (.int .i64 1)) := by simp [World.cell?, hblk]
  have C0 := Lib.hid c0
  have C1 := Lib.hid c1
  clear hblk hown hr c0 c1
  go_wp2_with fail
  refine (fault_bad b 2 w2 HG2.out C0.out C1.out).mono ?_
  rintro e w3 ⟨rfl, hb3⟩
  go_wp2_with fail
  go_ret
  exact ⟨rfl, (hb1.trans (hb2.mono hb1.size)).trans (hb3.mono (Nat.le_trans hb1.size hb2.size))⟩
end Go.Proofs.YtadjekpfehjibaaDoor
