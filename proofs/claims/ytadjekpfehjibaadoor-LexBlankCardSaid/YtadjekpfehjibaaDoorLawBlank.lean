/-
The law LexBlank, walked: it answers true. Condition: errors.errorType holds its handle.
-/
import Derived.Test.YtadjekpfehjibaaDoorAwake
import Derived.Test.YtadjekpfehjibaaDoorPlain2
import Derived.Test.YtadjekpfehjibaaDoorLawTokens
import Derived.BigRegion
namespace Go.Proofs.YtadjekpfehjibaaDoor
open Go.RowKit

set_option maxRecDepth 100000 in
set_option maxHeartbeats 1600000 in
theorem blankLaw_long (s : ByteArray) (w : World) (hg : Held w) (h : 400 < s.size) (hs : s.size ≤ 9223372036854775807) :
    Calls Tryd.prog 4 #[.string s] w fun e w' => e = .returned (.bool true) ∧ Below w.heap.size w w' := by
  go_enter Tryd.func4, Tryd.ntmps4
  go_wp2_with fail
  refine (awake_any _ hg).mono ?_
  rintro e w1 ⟨rfl, hb1⟩
  go_wp2_with fail
  go_ret
  exact ⟨rfl, hb1⟩
set_option maxRecDepth 100000 in
set_option maxHeartbeats 1600000 in
theorem blankLaw_bad (s : ByteArray) (w : World) (hg : Held w) (h : ¬ 400 < s.size) (a : Nat) (hx : lexL 0 s.data.toList = .bad a) :
    Calls Tryd.prog 4 #[.string s] w fun e w' => e = .returned (.bool true) ∧ Below w.heap.size w w' := by
  have HX := Lib.hid hx
  clear hx
  go_enter Tryd.func4, Tryd.ntmps4
  go_wp2_with fail
  refine (awake_any _ hg).mono ?_
  rintro e w1 ⟨rfl, hb1⟩
  go_wp2_with fail
  refine (lex_any s w1 (by omega)).mono ?_
  intro e w2 hp
  rw [HX.out] at hp
  obtain ⟨b, rfl, hbge, hblk, hb2⟩ := hp
  clear hblk
  go_wp2_with fail
  go_ret
  exact ⟨rfl, hb1.trans (hb2.mono hb1.size)⟩

theorem drop_at {ts : List Tok} {k : Nat} {t : Tok} (h : ts[k]? = some t) : ts.drop k = t :: ts.drop (k + 1) := by
  obtain ⟨hl, rfl⟩ := List.getElem?_eq_some_iff.1 h
  exact List.drop_eq_getElem_cons hl
def BlankRel (s : ByteArray) (ts : List Tok) (w2 : World) (tv fv i : Value) (wr : World) : Prop :=
  ∃ (k p : Nat) (acc : ByteArray), k ≤ ts.length ∧ i = .int .i64 k ∧ fv = .int .i64 p ∧ tv = .string acc ∧ Ris p s.size (ts.drop k) ∧ acc.size ≤ p + 5 * k ∧
    acc.data.toList ++ build s.data.toList p k (ts.drop k) = build s.data.toList 0 0 ts ∧ Below w2.heap.size w2 wr

theorem blankOf_r (k : Nat) :
    ((k : Int) % 4 = 0 → blankOf k = [32]) ∧ ((k : Int) % 4 = 1 → blankOf k = [10]) ∧ ((k : Int) % 4 = 2 → blankOf k = [9]) ∧ ((k : Int) % 4 = 3 → blankOf k = [32, 47, 47, 120, 10]) := by
  unfold blankOf
  refine ⟨fun h => ?_, fun h => ?_, fun h => ?_, fun h => ?_⟩
  · rw [if_pos (by omega)]
  · rw [if_neg (by omega), if_pos (by omega)]
  · rw [if_neg (by omega), if_neg (by omega), if_pos (by omega)]
  · rw [if_neg (by omega), if_neg (by omega), if_neg (by omega)]
theorem blank_step {s acc : ByteArray} {ts : List Tok} {w2 wr : World} {k p q n : Nat} {t : Tok} (B : ByteArray) (hB : B.data.toList = blankOf k) (hn : ts.length = n) (hlt : k < n) (hpt : p ≤ q) (hts : q ≤ s.size)
    (hd : ts.drop k = t :: ts.drop (k + 1)) (hr1 : Ris t.pos s.size (ts.drop (k + 1))) (hq : t.pos = q) (hsz : acc.size ≤ p + 5 * k)
    (hb : acc.data.toList ++ build s.data.toList p k (ts.drop k) = build s.data.toList 0 0 ts) (hbel : Below w2.heap.size w2 wr) :
    BlankRel s ts w2 (.string (acc ++ s.extract p q ++ B)) (.int .i64 (q : Int)) (.int .i64 ((k : Int) + 1)) wr := by
  subst hq
  refine ⟨k + 1, t.pos, _, by omega, by go_num, rfl, rfl, hr1, ?_, ?_, hbel⟩
  · have h5 := blankOf_le k
    have hB' : B.size = (blankOf k).length := by rw [← hB]; simp
    rw [ByteArray.size_append, ByteArray.size_append, hB', ByteArray.size_extract]
    omega
  · rw [hd] at hb
    have e : build s.data.toList p k (t :: ts.drop (k + 1)) = (s.data.toList.drop p).take (t.pos - p) ++ blankOf k ++ build s.data.toList t.pos (k + 1) (ts.drop (k + 1)) := rfl
    rw [← hb, e]
    simp only [ByteArray.data_append, Array.toList_append, Lib.extract_data, hB, List.append_assoc]
theorem lex_blanked (s acc : ByteArray) (ts : List Tok) (p n : Nat) (W : World) (hn : ts.length = n) (h : ¬ 400 < s.size) (htl : n ≤ s.size) (hps : p ≤ s.size) (hsz : acc.size ≤ p + 5 * n) (us : List Tok)
    (hb : acc.data.toList ++ build s.data.toList p n (ts.drop n) = build s.data.toList 0 0 ts) (hu : lexL 0 (build s.data.toList 0 0 ts) = .ok us) :
    Calls Tryd.prog 7 #[.string (acc ++ s.extract p s.size ++ ⟨#[10, 47, 47]⟩)] W fun e w' => LexPost W (.ok us) e w' := by
  have e : (acc ++ s.extract p s.size ++ ⟨#[10, 47, 47]⟩).data.toList = build s.data.toList 0 0 ts := by
    rw [← hb, List.drop_of_length_le (by omega)]
    unfold build
    simp only [ByteArray.data_append, Array.toList_append, Lib.extract_to_end, List.append_assoc]
  have hsz2 : (acc ++ s.extract p s.size ++ ⟨#[10, 47, 47]⟩).size ≤ 20000 := by
    rw [ByteArray.size_append, ByteArray.size_append, ByteArray.size_extract]
    have : (⟨#[10, 47, 47]⟩ : ByteArray).size = 3 := rfl
    omega
  have := lex_any _ W hsz2
  rw [e, hu] at this
  exact this

def CmpRel (n : Nat) (w4 : World) (i : Value) (wr : World) : Prop := ∃ j q : Nat, j ≤ n ∧ i = .int .i64 j ∧ wr = w4.drewN q

set_option maxRecDepth 100000 in
set_option maxHeartbeats 1600000 in
theorem blankLaw_ok (s : ByteArray) (w : World) (hg : Held w) (h : ¬ 400 < s.size) (ts : List Tok) (hx : lexL 0 s.data.toList = .ok ts) :
    Calls Tryd.prog 4 #[.string s] w fun e w' => e = .returned (.bool true) ∧ Below w.heap.size w w' := by
  have HX := Lib.hid hx
  have hris : Ris 0 s.size ts := by have := lexF_ris _ _ _ _ hx; simpa using this
  have htl : ts.length ≤ s.size := by have := lexF_length _ _ _ _ hx; simpa using this
  have HRIS := Lib.hid hris
  clear hx hris
  go_enter Tryd.func4, Tryd.ntmps4
  go_wp2_with fail
  refine (awake_any _ hg).mono ?_
  rintro e w1 ⟨rfl, hb1⟩
  go_wp2_with fail
  refine (lex_any s w1 (by omega)).mono ?_
  intro e w2 hp
  rw [HX.out] at hp
  obtain ⟨vx, rfl, hown, hnil, hb2⟩ := hp
  clear hnil
  obtain ⟨A, c, rfl, hr⟩ := reads_of_own hown rfl
  have HR := Lib.hid hr
  clear hown hr
  obtain ⟨n, hn⟩ : ∃ n, ts.length = n := ⟨_, rfl⟩
  have HN := Lib.hid hn
  rw [hn] at htl ⊢
  clear hn
  go_wp2_with fail
  go_loopw [5, 6, 7] (fun tv fv i wr => BlankRel s ts w2 tv fv i wr) (fun _ _ i _ => n - (intOf i).toNat)
  case atStart => exact ⟨0, 0, ⟨#[]⟩, Nat.zero_le _, rfl, rfl, rfl, HRIS.out, Nat.le_refl _, by simp, Below.refl _ _⟩
  case round =>
    obtain ⟨k, p, acc, hk, rfl, rfl, rfl, hr, hsz, hb, hbel⟩ := hrel
    rw [HN.out] at hk
    have HRI := Lib.hid hr
    have HB := Lib.hid hb
    clear hr hb
    by_cases hlt : k < n
    · obtain ⟨t, ht⟩ : ∃ t, ts[k]? = some t := ⟨_, List.getElem?_eq_getElem (show k < ts.length by rw [HN.out]; exact hlt)⟩
      obtain ⟨a, rfl, a1, a2, a3⟩ := treads_below HR.out hbel k t ht
      have hd := drop_at ht
      have hr1 := HRI.out
      rw [hd] at hr1
      have hpt : p ≤ t.pos := hr1.1
      have hts : t.pos ≤ s.size := hr1.2.le
      have HD := Lib.hid hd
      have HR1 := Lib.hid hr1.2
      clear hr1 hd ht
      obtain ⟨q, hq⟩ : ∃ q, t.pos = q := ⟨_, rfl⟩
      rw [hq] at a2 hpt hts
      have HQ := Lib.hid hq
      have HSZ := Lib.hid hsz
      clear hq hsz a1 a3
      have a2b : (wr.alloc (.cells #[.string ⟨#[32]⟩, .string ⟨#[10]⟩, .string ⟨#[9]⟩, .string ⟨#[32, 47, 47, 120, 10]⟩] 9)).cell? ⟨(a.add (k * 3)).block, (a.add (k * 3)).off + 1, none⟩ = some (.int .i64 (q : Int)) :=
        (World.cell?_alloc_lt wr _ _ (World.block_lt_of_cell? wr _ a2)).trans a2
      have c1 : ¬ 9223372036854775807 < acc.size + (q - p) := by have := HSZ.out; omega
      have c2 : ¬ 9223372036854775807 < acc.size + (q - p) + 1 := by have := HSZ.out; omega
      have c3 : ¬ 9223372036854775807 < acc.size + (q - p) + 5 := by have := HSZ.out; omega
      have hk4 : (k : Int) % 4 = 0 ∨ (k : Int) % 4 = 1 ∨ (k : Int) % 4 = 2 ∨ (k : Int) % 4 = 3 := by omega
      rcases hk4 with hk4 | hk4 | hk4 | hk4
      · have HB4 := Lib.hid ((blankOf_r k).1 hk4)
        go_wp2_with fail
        go_region
        go_wp2
        exact ⟨blank_step ⟨#[32]⟩ HB4.out.symm HN.out hlt hpt hts HD.out HR1.out HQ.out HSZ.out HB.out (hbel.alloc hbel.size _).drew, by simp [intOf]; omega⟩
      · have HB4 := Lib.hid ((blankOf_r k).2.1 hk4)
        go_wp2_with fail
        go_region
        go_wp2
        exact ⟨blank_step ⟨#[10]⟩ HB4.out.symm HN.out hlt hpt hts HD.out HR1.out HQ.out HSZ.out HB.out (hbel.alloc hbel.size _).drew, by simp [intOf]; omega⟩
      · have HB4 := Lib.hid ((blankOf_r k).2.2.1 hk4)
        go_wp2_with fail
        go_region
        go_wp2
        exact ⟨blank_step ⟨#[9]⟩ HB4.out.symm HN.out hlt hpt hts HD.out HR1.out HQ.out HSZ.out HB.out (hbel.alloc hbel.size _).drew, by simp [intOf]; omega⟩
      · have HB4 := Lib.hid ((blankOf_r k).2.2.2 hk4)
        go_wp2_with fail
        go_region
        go_wp2
        exact ⟨blank_step ⟨#[32, 47, 47, 120, 10]⟩ HB4.out.symm HN.out hlt hpt hts HD.out HR1.out HQ.out HSZ.out HB.out (hbel.alloc hbel.size _).drew, by simp [intOf]; omega⟩
    · obtain rfl : k = n := by omega
      have hps : p ≤ s.size := HRI.out.le
      obtain ⟨us, hu, hsim⟩ := blank_lex s.data.toList s.data.toList.length 0 0 0 ts (by omega) (by omega) (by rw [List.drop_zero]; exact HX.out) (Nat.le_refl _)
      have hcall := Lib.hid (fun W => lex_blanked s acc ts p k W HN.out h htl hps hsz us HB.out hu)
      have hul : us.length = k := by rw [← hsim.length]; exact HN.out
      have HSIM := Lib.hid hsim
      have HUL := Lib.hid hul
      have c1 : ¬ 9223372036854775807 < acc.size + (s.size - p) := by omega
      have c2 : ¬ 9223372036854775807 < acc.size + (s.size - p) + 3 := by omega
      have HSZ := Lib.hid hsz
      clear hu hsim hul hsz
      go_wp2_with fail
      refine (hcall.out _).mono ?_
      intro e w4 hp
      obtain ⟨vk, rfl, hownk, hnil, hb4⟩ := hp
      clear hnil
      rw [HUL.out] at hownk
      obtain ⟨A2, c2', rfl, hr2⟩ := reads_of_own hownk HUL.out.symm
      rw [HUL.out] at hownk ⊢
      have HR2 := Lib.hid hr2
      have HR4 := Lib.hid (treads_below (treads_below HR.out hbel) hb4)
      clear hownk hr2
      go_wp2_with fail
      go_loopw [10] (fun i wr => CmpRel k w4 i wr) (fun i _ => k - (intOf i).toNat)
      case atStart => exact ⟨0, 0, Nat.zero_le _, rfl, rfl⟩
      case round =>
        obtain ⟨j, q, hj, rfl, rfl⟩ := hrel
        by_cases hjk : j < k
        · obtain ⟨t, ht⟩ : ∃ t, ts[j]? = some t := ⟨_, List.getElem?_eq_getElem (show j < ts.length by rw [HN.out]; exact hjk)⟩
          obtain ⟨u, hu⟩ : ∃ u, us[j]? = some u := ⟨_, List.getElem?_eq_getElem (show j < us.length by rw [HUL.out]; exact hjk)⟩
          obtain ⟨a, rfl, a1, a2, a3⟩ := HR4.out j t ht
          obtain ⟨b, rfl, b1, b2, b3⟩ := HR2.out j u hu
          obtain ⟨e1, e2, e3⟩ := HSIM.out.at_ j t u ht hu
          rw [← e1] at b1
          rw [← e2] at b3
          have hlt2 : decide (u.pos < t.pos) = false := by rw [decide_eq_false_iff_not]; omega
          clear ht hu e1 e2 e3
          go_wp2_with fail
          go_quiet (fail)
          go_wp2
          exact ⟨⟨j + 1, q + nq, by omega, by go_num, rfl⟩, by simp [intOf]; omega⟩
        · go_wp2_with fail
          go_ret
          have h12 := hb1.trans (hb2.mono hb1.size)
          have h1r := h12.trans (hbel.mono h12.size)
          have h14 := h1r.trans (hb4.mono h1r.size)
          exact ⟨rfl, h14.trans ((below_same q).mono h14.size)⟩

theorem blankLaw_any (s : ByteArray) (w : World) (hg : Held w) (hs : s.size ≤ 9223372036854775807) :
    Calls Tryd.prog 4 #[.string s] w fun e w' => e = .returned (.bool true) ∧ Below w.heap.size w w' := by
  by_cases h : 400 < s.size
  · exact blankLaw_long s w hg h hs
  cases hx : lexL 0 s.data.toList with
  | bad a => exact blankLaw_bad s w hg h a hx
  | ok ts => exact blankLaw_ok s w hg h ts hx
end Go.Proofs.YtadjekpfehjibaaDoor
