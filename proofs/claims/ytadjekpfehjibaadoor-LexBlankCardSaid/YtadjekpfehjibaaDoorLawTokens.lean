/-
The law LexTokens, walked: it answers true. Condition: errors.errorType holds its handle.
-/
import Derived.Test.YtadjekpfehjibaaDoorAwake
import Derived.Test.YtadjekpfehjibaaDoorRefLexWalk
namespace Go.Proofs.YtadjekpfehjibaaDoor
open Go.RowKit

set_option maxHeartbeats 1600000 in
theorem tokens_long (s : ByteArray) (w : World) (hg : Held w) (h1 : 21000 < s.size) (h2 : s.size ≤ 9223372036854775807) :
    Calls Tryd.prog 3 #[.string s] w fun e w' => e = .returned (.bool true) ∧ Below w.heap.size w w' := by
  go_enter Tryd.func3, Tryd.ntmps3
  go_wp2_with fail
  refine (awake_any _ hg).mono ?_
  rintro e w1 ⟨rfl, hb1⟩
  go_wp2_with fail
  go_ret
  exact ⟨rfl, hb1⟩
set_option maxHeartbeats 1600000 in
theorem tokens_much (s : ByteArray) (w : World) (hg : Held w) (h1 : 20000 < s.size) (h2 : s.size ≤ 21000) :
    Calls Tryd.prog 3 #[.string s] w fun e w' => e = .returned (.bool true) ∧ Below w.heap.size w w' := by
  have HG := Lib.hid hg
  clear hg
  go_enter Tryd.func3, Tryd.ntmps3
  go_wp2_with fail
  refine (awake_any _ HG.out).mono ?_
  rintro e w1 ⟨rfl, hb1⟩
  have HG1 := Lib.hid (held_below HG.out hb1)
  go_wp2_with fail
  refine (lex_much s w1 h1 (by omega)).mono ?_
  rintro e w' ⟨rfl, rfl⟩
  go_wp2_with fail
  refine (ref_much s w1 h1 (by omega)).mono ?_
  rintro e w' ⟨rfl, rfl⟩
  go_wp2_with fail
  refine (code_much w1 HG1.out).mono ?_
  rintro e w2 ⟨rfl, hb2⟩
  go_wp2_with fail
  go_ret
  exact ⟨rfl, hb1.trans (hb2.mono hb1.size)⟩
set_option maxHeartbeats 1600000 in
theorem tokens_ok (s : ByteArray) (w : World) (hg : Held w) (h1 : s.size ≤ 20000) (ts : List Tok) (hlex : lexL 0 s.data.toList = .ok ts) (hl : ts.length ≤ 1000000) :
    Calls Tryd.prog 3 #[.string s] w fun e w' => e = .returned (.bool true) ∧ Below w.heap.size w w' := by
  have HG := Lib.hid hg
  have HL := Lib.hid hlex
  clear hg hlex
  go_enter Tryd.func3, Tryd.ntmps3
  go_wp2_with fail
  refine (awake_any _ HG.out).mono ?_
  rintro e w1 ⟨rfl, hb1⟩
  go_wp2_with fail
  refine (lex_any s w1 h1).mono ?_
  intro e w2 hp2
  rw [HL.out] at hp2
  obtain ⟨v, rfl, hown, hnil, hb2⟩ := hp2
  obtain ⟨A, c, rfl, hr⟩ := reads_of_own hown rfl
  have HR := Lib.hid hr
  clear hnil hown hr
  go_wp2_with fail
  refine (refLex_any s w2 h1).mono ?_
  intro e w3 hp3
  rw [HL.out] at hp3
  obtain ⟨v2, rfl, hown2, hb3⟩ := hp3
  obtain ⟨B, d, rfl, hr2⟩ := reads_of_own hown2 rfl
  have HR2 := Lib.hid hr2
  clear hown2 hr2
  go_wp2_with fail
  refine (fault_nil 0 w3).mono ?_
  rintro e w4 ⟨rfl, hb4⟩
  go_wp2_with fail
  refine (refSame_any A B c d ts w4 (treads_below (treads_below HR.out hb3) hb4) (treads_below HR2.out hb4) hl).mono ?_
  rintro e w5 ⟨rfl, q, rfl⟩
  go_wp2_with fail
  go_ret
  have h12 := hb1.trans (hb2.mono hb1.size)
  have h13 := h12.trans (hb3.mono h12.size)
  have h14 := h13.trans (hb4.mono h13.size)
  exact ⟨rfl, h14.trans ((below_same q).mono h14.size)⟩
set_option maxHeartbeats 1600000 in
theorem tokens_bad (s : ByteArray) (w : World) (hg : Held w) (h1 : s.size ≤ 20000) (a : Nat) (hlex : lexL 0 s.data.toList = .bad a) :
    Calls Tryd.prog 3 #[.string s] w fun e w' => e = .returned (.bool true) ∧ Below w.heap.size w w' := by
  have HG := Lib.hid hg
  have HL := Lib.hid hlex
  clear hg hlex
  go_enter Tryd.func3, Tryd.ntmps3
  go_wp2_with fail
  refine (awake_any _ HG.out).mono ?_
  rintro e w1 ⟨rfl, hb1⟩
  go_wp2_with fail
  refine (lex_any s w1 h1).mono ?_
  intro e w2 hp2
  rw [HL.out] at hp2
  obtain ⟨b, rfl, hbge, hblk, hb2⟩ := hp2
  have c0 : w2.cell? ⟨b, 0, none⟩ = some (.int .i64 (a : Int)) := by simp [World.cell?, hblk]
  have c1 : w2.cell? ⟨b, 1, none⟩ = some (.iface 38 (.int .i64 1)) := by simp [World.cell?, hblk]
  have C0 := Lib.hid c0
  have C1 := Lib.hid c1
  have hbl : b < w2.heap.size := World.block_lt_of_cell? w2 _ c0
  clear hblk c0 c1
  go_wp2_with fail
  refine (refLex_any s w2 h1).mono ?_
  intro e w3 hp3
  rw [HL.out] at hp3
  obtain ⟨rfl, hb3⟩ := hp3
  have h12 := hb1.trans (hb2.mono hb1.size)
  have h13 := h12.trans (hb3.mono h12.size)
  have HG3 := Lib.hid (held_below HG.out h13)
  go_wp2_with fail
  refine (fault_bad b a w3 HG3.out ((hb3.cell (p := ⟨b, 0, none⟩) hbl).trans C0.out) ((hb3.cell (p := ⟨b, 1, none⟩) hbl).trans C1.out)).mono ?_
  rintro e w4 ⟨rfl, hb4⟩
  go_wp2_with fail
  refine (refSame_any none none 0 0 [] w4 (fun i t h => by simp at h) (fun i t h => by simp at h) (by simp)).mono ?_
  rintro e w5 ⟨rfl, q, rfl⟩
  go_wp2_with fail
  go_ret
  have h14 := h13.trans (hb4.mono h13.size)
  exact ⟨rfl, h14.trans ((below_same q).mono h14.size)⟩

/-- No more tokens than bytes. -/
theorem lexF_length (n off : Nat) (l : List UInt8) (ts : List Tok) (h : lexF n off l = .ok ts) : ts.length ≤ l.length := by
  induction n generalizing off l ts with
  | zero => simp [lexF] at h
  | succ n ih =>
    unfold lexF at h
    by_cases h0 : l = []
    · rw [if_pos h0] at h
      injection h with h
      subst h
      simp
    rw [if_neg h0] at h
    by_cases h1 : 0 < blankN l
    · rw [if_pos h1] at h
      have := ih _ _ _ h
      rw [List.length_drop] at this
      omega
    rw [if_neg h1] at h
    by_cases h2 : (tokenN l).2 = 0
    · rw [if_pos h2] at h
      cases h
    rw [if_neg h2] at h
    cases hr : lexF n (off + (tokenN l).2) (l.drop (tokenN l).2) with
    | bad a => rw [hr] at h; cases h
    | ok us =>
      rw [hr] at h
      injection h with h
      subst h
      have := ih _ _ _ hr
      rw [List.length_drop] at this
      have hp : 0 < l.length := List.length_pos_iff.2 h0
      simp only [List.length_cons]
      omega

theorem tokens_any (s : ByteArray) (w : World) (hg : Held w) (hs : s.size ≤ 9223372036854775807) :
    Calls Tryd.prog 3 #[.string s] w fun e w' => e = .returned (.bool true) ∧ Below w.heap.size w w' := by
  by_cases h1 : 21000 < s.size
  · exact tokens_long s w hg h1 hs
  by_cases h2 : 20000 < s.size
  · exact tokens_much s w hg h2 (by omega)
  cases hlex : lexL 0 s.data.toList with
  | ok ts =>
    have := lexF_length _ _ _ _ hlex
    simp at this
    exact tokens_ok s w hg (by omega) ts hlex (by omega)
  | bad a => exact tokens_bad s w hg (by omega) a hlex
end Go.Proofs.YtadjekpfehjibaaDoor
