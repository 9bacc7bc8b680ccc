/-
The reference's Lex, walked. Condition: at most 20000 bytes.
-/
import Derived.Test.YtadjekpfehjibaaDoorRefLex
namespace Go.Proofs.YtadjekpfehjibaaDoor
open Go.RowKit

theorem blankB_ne (c : UInt8) (h1 : ((c.toNat : Int) == 32) = false) (h2 : ((c.toNat : Int) == 9) = false) (h3 : ((c.toNat : Int) == 10) = false) : onByte blankB c = false := by
  simp [onByte, blankB] at *
  omega
theorem notSlash (c : UInt8) (l : List UInt8) (h : ((c.toNat : Int) == 47) = false) : [47, 47].isPrefixOf (c :: l) = false := by
  rw [beq_eq_false_iff_ne] at h
  have hc : ¬ (47 : UInt8) = c := by
    rintro rfl
    exact h rfl
  simp [List.isPrefixOf, hc]
theorem notSlash2 (s : ByteArray) (k : Nat) (h : ¬ k + 1 < s.size) : [47, 47].isPrefixOf (s.data.toList.drop k) = false :=
  take2_no s k _ _ h
theorem notSlash3 (s : ByteArray) (k : Nat) (hlt : k + 1 < s.size) (h : (((s[k + 1]'hlt).toNat : Int) == 47) = false) : [47, 47].isPrefixOf (s.data.toList.drop k) = false := by
  rw [beq_eq_false_iff_ne] at h
  have hc : ¬ (47 : UInt8) = s[k + 1]'hlt := by
    intro e
    rw [← e] at h
    exact h rfl
  rw [drop_cons (by omega), drop_cons hlt]
  simp [List.isPrefixOf, hc]
theorem isSlash (s : ByteArray) (k : Nat) (hlt : k + 1 < s.size) (h : (((s[k]'(by omega)).toNat : Int) == 47) = true) (h' : (((s[k + 1]'hlt).toNat : Int) == 47) = true) : [47, 47].isPrefixOf (s.data.toList.drop k) = true := by
  rw [beq_iff_eq] at h h'
  have e1 : s[k]'(by omega) = 47 := UInt8.toNat_inj.1 (by have : (s[k]'(by omega)).toNat = 47 := by omega
                                                          exact this)
  have e2 : s[k + 1]'hlt = 47 := UInt8.toNat_inj.1 (by have : (s[k + 1]'hlt).toNat = 47 := by omega
                                                       exact this)
  rw [drop_cons (by omega), drop_cons hlt, e1, e2]
  simp [List.isPrefixOf]

def RemRel (s : ByteArray) (k : Nat) (wr : World) (i : Value) (wr' : World) : Prop := ∃ p : Nat, RemTo s k p ∧ i = .int .i64 p ∧ wr' = wr

set_option maxRecDepth 100000 in
set_option maxHeartbeats 2000000 in
theorem refLex_any (s : ByteArray) (w : World) (hs : s.size ≤ 20000) :
    Calls Tryd.prog 8 #[.string s] w fun e w' => RefPost w (lexL 0 s.data.toList) e w' := by
  have hs2 : s.size ≤ 4611686018427387904 := by omega
  obtain ⟨i0, hi, hz0, hz1, hz2⟩ := info_parts info35
  have HI := Lib.hid hi
  have HZ0 := Lib.hid hz0
  have HZ1 := Lib.hid hz1
  have HZ2 := Lib.hid hz2
  clear hi hz0 hz1 hz2
  go_enter Tryd.func8, Tryd.ntmps8
  go_wp2
  go_loopw [5, 6] (fun v i wr => LexRel s w v i wr) (fun _ i _ => s.size - (intOf i).toNat)
  case atStart => exact ⟨0, [], Nat.zero_le _, Nat.le_refl _, rfl, World.ownsRow_nil _ _ _ _, by simp, Below.refl _ _, by rw [Res.app_nil]; rfl⟩
  case round =>
    obtain ⟨k, ts, hk, hts, rfl, hown, hnil, hb, hlex⟩ := hrel
    have HL := Lib.hid hlex
    have HO := Lib.hid hown
    have HN := Lib.hid hnil
    clear hlex hown hnil
    by_cases hlt : k < s.size
    · obtain ⟨c, hc⟩ : ∃ c, s[k]'hlt = c := ⟨_, rfl⟩
      have HC := Lib.hid hc
      by_cases hbl : onByte blankB c = true
      · have HB := Lib.hid hbl
        have h3 : c = 32 ∨ c = 9 ∨ c = 10 := by
          simp [onByte, blankB] at hbl
          rcases hbl with (h | h) | h
          · exact .inl (UInt8.toNat_inj.1 (by have : c.toNat = 32 := by omega
                                              exact this))
          · exact .inr (.inl (UInt8.toNat_inj.1 (by have : c.toNat = 9 := by omega
                                                    exact this)))
          · exact .inr (.inr (UInt8.toNat_inj.1 (by have : c.toNat = 10 := by omega
                                                    exact this)))
        clear hbl
        rcases h3 with rfl | rfl | rfl
        all_goals
          go_wp2
          exact ⟨rel_one hlt hts HO.out HN.out hb HL.out (by rw [HC.out]; exact HB.out), by simp [intOf]; omega⟩
      · have h32 : ((c.toNat : Int) == 32) = false := by
          simp [onByte, blankB] at hbl; rw [beq_eq_false_iff_ne]; omega
        have h9 : ((c.toNat : Int) == 9) = false := by
          simp [onByte, blankB] at hbl; rw [beq_eq_false_iff_ne]; omega
        have h10 : ((c.toNat : Int) == 10) = false := by
          simp [onByte, blankB] at hbl; rw [beq_eq_false_iff_ne]; omega
        have HB : Hid (onByte blankB (s[k]'hlt) = false) := by
          have : onByte blankB (s[k]'hlt) = false := by rw [hc]; simpa using hbl
          exact this
        clear hbl
        cases hsl : [47, 47].isPrefixOf (s.data.toList.drop k) with
        | true =>
          have h1 : k + 1 < s.size := by
            by_cases h1 : k + 1 < s.size
            · exact h1
            · rw [notSlash2 s k h1] at hsl
              cases hsl
          obtain ⟨d, hd⟩ : ∃ d, s[k + 1]'h1 = d := ⟨_, rfl⟩
          have hcd : c = 47 ∧ d = 47 := by
            rw [drop_cons hlt, drop_cons h1, hc, hd] at hsl
            simp [List.isPrefixOf] at hsl
            exact ⟨hsl.1.symm, hsl.2.symm⟩
          obtain ⟨rfl, rfl⟩ := hcd
          have HS := Lib.hid hsl
          clear hsl h32 h9 h10
          go_wp2
          go_loopw [6] (fun i wr' => RemRel s k wr i wr') (fun i _ => s.size - (intOf i).toNat)
          case atStart => exact ⟨k, ⟨Nat.le_refl _, by omega, fun i c h1 h2 => by omega⟩, rfl, rfl⟩
          case round =>
            obtain ⟨p, hr, rfl, rfl⟩ := hrel
            have hkp := hr.1
            have hps := hr.2.1
            have HR := Lib.hid hr
            clear hr
            by_cases hpl : p < s.size
            · obtain ⟨x, hx⟩ : ∃ x, s[p]'hpl = x := ⟨_, rfl⟩
              have HX := Lib.hid hx
              cases hnl : ((x.toNat : Int) != 10) with
              | true =>
                have HNL : Hid (onByte notLfB x = true) := by
                  have : onByte notLfB x = true := by
                    rw [bne_iff_ne] at hnl
                    simp [onByte, notLfB]
                    omega
                  exact this
                go_wp2
                exact ⟨⟨p + 1, remTo_step HR.out hpl (by rw [HX.out]; exact HNL.out), by go_num, rfl⟩, by simp [intOf]; omega⟩
              | false =>
                have HNL : Hid (onByte notLfB x = false) := by
                  have : onByte notLfB x = false := by
                    have := bne_eq_false_iff_eq.1 hnl
                    simp [onByte, notLfB]
                    omega
                  exact this
                go_wp2
                have hrr := rel_remark hlt hts HO.out HN.out hb HL.out HR.out HS.out (fun h => by rw [HX.out]; exact HNL.out)
                exact ⟨hrr.1, by simp [intOf]; have := hrr.2; omega⟩
            · go_wp2
              have hrr := rel_remark hlt hts HO.out HN.out hb HL.out HR.out HS.out (fun h => absurd h hpl)
              exact ⟨hrr.1, by simp [intOf]; have := hrr.2; omega⟩
        | false =>
          have HBN : Hid (blankN (s.data.toList.drop k) = 0) := by
            have : blankN (s.data.toList.drop k) = 0 := by
              rw [drop_cons hlt] at hsl ⊢
              exact blankN_none _ _ HB.out hsl
            exact this
          have hstop : (((c.toNat : Int) == 47) = false) ∨ (((c.toNat : Int) == 47) = true ∧ ¬ k + 1 < s.size) ∨ (((c.toNat : Int) == 47) = true ∧ ∃ h1 : k + 1 < s.size, (((s[k + 1]'h1).toNat : Int) == 47) = false) := by
            cases h47 : ((c.toNat : Int) == 47) with
            | false => exact .inl rfl
            | true =>
              by_cases h1 : k + 1 < s.size
              · refine .inr (.inr ⟨rfl, h1, ?_⟩)
                cases h472 : (((s[k + 1]'h1).toNat : Int) == 47) with
                | false => rfl
                | true =>
                  rw [isSlash s k h1 (by rw [hc]; exact h47) h472] at hsl
                  cases hsl
              · exact .inr (.inl ⟨rfl, h1⟩)
          obtain ⟨kd, m, htk⟩ : ∃ kd m, tokenN (s.data.toList.drop k) = (kd, m) := ⟨_, _, rfl⟩
          have hlem : k + m ≤ s.size := by have := tokenN_le (s.data.toList.drop k) (drop_ne hlt); rw [List.length_drop, htk] at this; simp at this; omega
          have hkd := tokenN_kind (s.data.toList.drop k)
          rw [htk] at hkd
          dsimp only at hkd
          have HT := Lib.hid htk
          clear htk hsl
          by_cases hm : 0 < m
          · have hkb : ((kd : Int) == 0) = false := by rw [beq_eq_false_iff_ne]; have := hkd (by omega); omega
            have hcall := Lib.hid (fun W => refToken_yes s k kd m W hlt hs2 HT.out hm)
            clear hkd
            rcases hstop with h47 | ⟨h47, h1⟩ | ⟨h47, h1, hd47⟩
            all_goals
              first
                | (obtain ⟨d, hd⟩ : ∃ d, s[k + 1]'h1 = d := ⟨_, rfl⟩; rw [hd] at hd47)
                | skip
              go_wp2_with fail
              refine (hcall.out _).mono ?_
              rintro e w1 ⟨rfl, q, rfl⟩
              have hown2 := Lib.hid (own_below HO.out (below_same q))
              have hsz2 : w.heap.size ≤ wr.heap.size := hb.size
              go_wp2_with (at_builtin; refine wpList_append_own _ rfl (.tmp 73) (.tmp 81) 23 rfl w.heap.size 35 i0 _ 3 32 Tryd.underlying23 HI.out HZ0.out HZ1.out HZ2.out rfl (by decide) u5 ts.length (tvals ts) rfl (hown2.out.alloc _) ⟨wr.heap.size, 0, none⟩ 1 1 [.int .i64 (kd : Int), .int .i64 (k : Int), .string (s.extract k (k + m))] rfl rfl ?_ ?_ ?_ ?_ ?_ ?_)
              · exact cells_new _ _ _
              · simp [Value.oneCell']
              · simp only [maxLen]; omega
              · omega
              · rw [World.size_alloc]; exact Nat.le_succ_of_le hsz2
              intro v3 w3 hown3 hg3 hnil3
              have HO3 := Lib.hid hown3
              have HG3 := Lib.hid hg3
              have HN3 := Lib.hid hnil3
              clear hown3 hg3 hnil3
              go_wp2
              exact ⟨rel_tok hlt hts HN3.out hb HL.out HBN.out HT.out hm hlem (below_same q) (Below.refl _ _) HO.out HO3.out _ HG3.out, by simp [intOf]; omega⟩
          · obtain rfl : m = 0 := by omega
            have hcall := Lib.hid (fun W => refToken_no s k W hlt hs2 (by rw [HT.out]))
            clear hkd
            rcases hstop with h47 | ⟨h47, h1⟩ | ⟨h47, h1, hd47⟩
            all_goals
              first
                | (obtain ⟨d, hd⟩ : ∃ d, s[k + 1]'h1 = d := ⟨_, rfl⟩; rw [hd] at hd47)
                | skip
              go_wp2_with fail
              refine (hcall.out _).mono ?_
              rintro e w1 ⟨rfl, q, rfl⟩
              go_wp2_with fail
              go_ret3
              exact ref_bad hlt hb HL.out HBN.out (by rw [HT.out]) (below_same q)
    · go_wp2
      go_ret3
      exact ref_end hlt HO.out hb HL.out
end Go.Proofs.YtadjekpfehjibaaDoor
