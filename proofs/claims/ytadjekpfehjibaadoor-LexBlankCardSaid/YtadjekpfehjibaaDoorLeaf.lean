/-
The small callees of lex.Lex: what each call hands back. No conditions.
-/
import Derived.Test.YtadjekpfehjibaaDoorRows
import Derived.Test.YtadjekpfehjibaaDoorSpec
import Derived.WalkKit
import Derived.WalkSpells
import Derived.WalkLawsBesides
namespace Go.Proofs.YtadjekpfehjibaaDoor
open Go.RowKit

theorem ret_bool {a b : Bool} (h : (a = true ↔ b = true)) : Ending.returned (.bool a) = .returned (.bool b) := by rw [Bool.eq_iff_iff.2 h]


set_option maxHeartbeats 400000 in
theorem digit_any (r : Int) (w : World) :
    Calls Tryd.prog 22 #[.int .i32 r] w fun e w' => e = .returned (.bool (digitB r)) ∧ w = w' := by
  go_enter Tryd.func22, Tryd.ntmps22
  go_wp2
  all_goals go_ret
  all_goals exact ⟨ret_bool (by simp [digitB]; try omega), rfl⟩

set_option maxHeartbeats 400000 in
theorem letter_any (r : Int) (w : World) :
    Calls Tryd.prog 20 #[.int .i32 r] w fun e w' => e = .returned (.bool (letterB r)) ∧ w = w' := by
  go_enter Tryd.func20, Tryd.ntmps20
  go_wp2
  all_goals go_ret
  all_goals exact ⟨ret_bool (by simp [letterB]; try omega), rfl⟩

set_option maxHeartbeats 400000 in
theorem blank1_any (r : Int) (w : World) :
    Calls Tryd.prog 17 #[.int .i32 r] w fun e w' => e = .returned (.bool (blankB r)) ∧ w = w' := by
  go_enter Tryd.func17, Tryd.ntmps17
  go_wp2
  all_goals go_ret
  all_goals exact ⟨ret_bool (by simp [blankB]; try omega), rfl⟩

set_option maxHeartbeats 400000 in
theorem blank2_any (r : Int) (w : World) :
    Calls Tryd.prog 19 #[.int .i32 r] w fun e w' => e = .returned (.bool (notLfB r)) ∧ w = w' := by
  go_enter Tryd.func19, Tryd.ntmps19
  go_wp2
  all_goals go_ret
  all_goals exact ⟨ret_bool (by simp [notLfB]; try omega), rfl⟩

set_option maxHeartbeats 400000 in
theorem word1_any (r : Int) (w : World) :
    Calls Tryd.prog 33 #[.int .i32 r] w fun e w' => e = .returned (.bool (wordB r)) ∧ w = w' := by
  go_enter Tryd.func33, Tryd.ntmps33
  go_wp2_with (first | (go_at_call 20; refine (letter_any _ _).mono ?_; rintro e w' ⟨rfl, rfl⟩) | (go_at_call 22; refine (digit_any _ _).mono ?_; rintro e w' ⟨rfl, rfl⟩))
  all_goals go_ret
  all_goals exact ⟨ret_bool (by simp [wordB, *]), rfl⟩

set_option maxHeartbeats 400000 in
theorem refLetter_any (r : Int) (w : World) :
    Calls Tryd.prog 24 #[.int .u8 r] w fun e w' => e = .returned (.bool (letterB r)) ∧ w = w' := by
  go_enter Tryd.func24, Tryd.ntmps24
  go_wp2
  all_goals go_ret
  all_goals exact ⟨ret_bool (by simp [letterB]; try omega), rfl⟩

set_option maxHeartbeats 400000 in
theorem refDigit_any (r : Int) (w : World) :
    Calls Tryd.prog 26 #[.int .u8 r] w fun e w' => e = .returned (.bool (digitB r)) ∧ w = w' := by
  go_enter Tryd.func26, Tryd.ntmps26
  go_wp2
  all_goals go_ret
  all_goals exact ⟨ret_bool (by simp [digitB]; try omega), rfl⟩
end Go.Proofs.YtadjekpfehjibaaDoor
