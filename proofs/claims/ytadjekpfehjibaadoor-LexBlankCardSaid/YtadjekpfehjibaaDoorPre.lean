/-
strings.HasPrefix at a prefix of two bytes; lex.blank. No conditions but the size that every row has.
-/
import Derived.Test.YtadjekpfehjibaaDoorWhile
import Derived.Lib.Strings
import Derived.Lib.IndexBytes
namespace Go.Proofs.YtadjekpfehjibaaDoor
open Go.RowKit

theorem prefix2_long (l : List UInt8) (a b : UInt8) (h : 2 ≤ l.length) : (l.take 2 == [a, b]) = [a, b].isPrefixOf l := by
  match l, h with
  | x :: y :: l, _ =>
    rw [Bool.eq_iff_iff]
    simp [List.isPrefixOf]
    constructor
    · rintro ⟨rfl, rfl⟩; exact ⟨rfl, rfl⟩
    · rintro ⟨rfl, rfl⟩; exact ⟨rfl, rfl⟩
theorem prefix2_short (l : List UInt8) (a b : UInt8) (h : ¬ 2 ≤ l.length) : [a, b].isPrefixOf l = false := by
  match l with
  | [] => rfl
  | [x] => simp [List.isPrefixOf]
  | x :: y :: l => exact absurd (by simp) h

set_option maxHeartbeats 400000 in
theorem slHasPrefix_any (s : ByteArray) (a b : UInt8) (w : World) (hs : s.size ≤ 9223372036854775807) :
    Calls Tryd.prog 32 #[.string s, .string ⟨#[a, b]⟩] w fun e w' => e = .returned (.bool ([a, b].isPrefixOf s.data.toList)) ∧ w = w' := by
  by_cases h : 2 ≤ s.size
  · have HL := Lib.hid (prefix2_long s.data.toList a b (by simpa using h))
    go_enter Tryd.func32, Tryd.ntmps32
    go_wp2
    go_ret
    exact ⟨by rw [Lib.extract_toList, ← HL.out]; rfl, rfl⟩
  · have HL := Lib.hid (prefix2_short s.data.toList a b (by simpa using h))
    go_enter Tryd.func32, Tryd.ntmps32
    go_wp2
    go_ret
    exact ⟨by rw [HL.out]; rfl, rfl⟩
set_option maxHeartbeats 400000 in
theorem hasPrefix_any (s : ByteArray) (a b : UInt8) (w : World) (hs : s.size ≤ 9223372036854775807) :
    Calls Tryd.prog 18 #[.string s, .string ⟨#[a, b]⟩] w fun e w' => e = .returned (.bool ([a, b].isPrefixOf s.data.toList)) ∧ w = w' := by
  go_enter Tryd.func18, Tryd.ntmps18
  go_wp2_with (go_at_call 32; refine (slHasPrefix_any _ _ _ _ hs).mono ?_; rintro e w' ⟨rfl, rfl⟩)
  go_ret
  exact ⟨rfl, rfl⟩

theorem drop_data (s : ByteArray) (k : Nat) : (s.extract k s.size).data.toList = s.data.toList.drop k := Lib.extract_to_end s k

theorem blankN_yes (l : List UInt8) (n m : Nat) (hn : spanN (onByte blankB) l = n) (hm : spanN (onByte notLfB) (l.drop n) = m) (h : [47, 47].isPrefixOf (l.drop n) = true) : blankN l = n + m := by
  unfold blankN
  rw [hn, if_pos h, hm]
theorem blankN_no (l : List UInt8) (n : Nat) (hn : spanN (onByte blankB) l = n) (h : [47, 47].isPrefixOf (l.drop n) = false) : blankN l = n := by
  unfold blankN
  rw [hn, if_neg (by rw [h]; simp)]

set_option maxHeartbeats 800000 in
theorem blank_any (s : ByteArray) (w : World) (hs : s.size ≤ 9223372036854775807) :
    Calls Tryd.prog 12 #[.string s] w fun e w' => e = .returned (.int .i64 (blankN s.data.toList)) ∧ Below w.heap.size w w' := by
  have hl : s.data.toList.length = s.size := by simp
  obtain ⟨n, hn⟩ : ∃ n, spanN (onByte blankB) s.data.toList = n := ⟨_, rfl⟩
  obtain ⟨m, hm⟩ : ∃ m, spanN (onByte notLfB) (s.data.toList.drop n) = m := ⟨_, rfl⟩
  have hle : n ≤ s.size := by have := spanN_le (onByte blankB) s.data.toList; omega
  have hle2 : n + m ≤ s.size := by have := spanN_le (onByte notLfB) (s.data.toList.drop n); rw [List.length_drop] at this; omega
  have hsz : (s.extract n s.size).size ≤ 9223372036854775807 := by rw [ByteArray.size_extract]; omega
  have Hn := Lib.hid hn
  have Hm := Lib.hid hm
  have HL := Lib.hid hl
  cases hpb : [47, 47].isPrefixOf (s.data.toList.drop n) with
  | true =>
    have HN := Lib.hid (blankN_yes _ n m hn hm hpb)
    have Hp := Lib.hid hpb
    clear hn hm hl hpb
    go_enter Tryd.func12, Tryd.ntmps12
    go_wp2_with fail
    refine (while_blank1 s _).mono ?_
    rintro e w1 ⟨rfl, hb1⟩
    rw [Hn.out]
    go_wp2_with fail
    refine (hasPrefix_any _ _ _ _ hsz).mono ?_
    rintro e w' ⟨rfl, rfl⟩
    rw [drop_data, Hp.out]
    go_wp2_with fail
    refine (while_blank2 _ _).mono ?_
    rintro e w2 ⟨rfl, hb2⟩
    rw [drop_data, Hm.out]
    go_wp2_with fail
    go_ret
    exact ⟨ret_int (by rw [HN.out]; simp), hb1.trans (hb2.mono hb1.size)⟩
  | false =>
    have HN := Lib.hid (blankN_no _ n hn hpb)
    have Hp := Lib.hid hpb
    clear hn hm hl hpb
    go_enter Tryd.func12, Tryd.ntmps12
    go_wp2_with fail
    refine (while_blank1 s _).mono ?_
    rintro e w1 ⟨rfl, hb1⟩
    rw [Hn.out]
    go_wp2_with fail
    refine (hasPrefix_any _ _ _ _ hsz).mono ?_
    rintro e w' ⟨rfl, rfl⟩
    rw [drop_data, Hp.out]
    go_wp2_with fail
    go_ret
    exact ⟨ret_int (by rw [HN.out]), hb1⟩
end Go.Proofs.YtadjekpfehjibaaDoor
