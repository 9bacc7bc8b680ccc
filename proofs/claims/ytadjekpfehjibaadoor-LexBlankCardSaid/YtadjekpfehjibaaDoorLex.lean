/-
lex.Lex: the tokens of a text, or the first place that is none. Condition: at most 20000 bytes (beyond: TooMuch).
-/
import Derived.Test.YtadjekpfehjibaaDoorToken
import Derived.Maps.AppendAt
namespace Go.Proofs.YtadjekpfehjibaaDoor
open Go.RowKit

def tcells (t : Tok) : List Value := [.int .i64 (t.kind : Int), .int .i64 (t.pos : Int), .string ⟨t.text.toArray⟩]
def tvals (ts : List Tok) : List Value := ts.flatMap tcells
theorem tvals_snoc (ts : List Tok) (t : Tok) : tvals (ts ++ [t]) = tvals ts ++ tcells t := by simp [tvals]
theorem tvals_length (ts : List Tok) : (tvals ts).length = ts.length * 3 := by
  induction ts with
  | nil => rfl
  | cons t ts ih => simp [tvals, tcells] at ih ⊢; omega

/-- What lex.Lex leaves. -/
def LexPost (w : World) (r : Res) (e : Ending) (w' : World) : Prop :=
  match r with
  | .ok ts => ∃ v, e = .returned (.tuple #[v, .nilIface]) ∧ w'.ownsRow w.heap.size 35 3 v ts.length (tvals ts) ∧ (v = .slice none 0 0 ↔ ts = []) ∧ Below w.heap.size w w'
  | .bad a => ∃ b, e = .returned (.tuple #[.slice none 0 0, .iface 42 (.pointer (some ⟨b, 0, none⟩))]) ∧ w.heap.size ≤ b ∧ w'.heap[b]? = some (.cells #[.int .i64 (a : Int), .iface 38 (.int .i64 1)] 44) ∧ Below w.heap.size w w'

theorem info35 : (Tryd.prog.info? 35).map (fun i => (i.zero, i.size, i.bytes)) = some (some (.agg #[(.int .i64 0), (.int .i64 0), (.string ⟨#[]⟩)]), 3, 32) := by kernel_rfl

set_option maxHeartbeats 400000 in
theorem lex_much (s : ByteArray) (w : World) (hs : 20000 < s.size) (hs2 : s.size ≤ 9223372036854775807) :
    Calls Tryd.prog 7 #[.string s] w fun e w' => e = .returned (.tuple #[.slice none 0 0, .iface 38 (.int .i64 3)]) ∧ w = w' := by
  go_enter Tryd.func7, Tryd.ntmps7
  go_wp2
  go_ret2
  exact ⟨rfl, rfl⟩

def LexRel (s : ByteArray) (w : World) (v i : Value) (wr : World) : Prop :=
  ∃ (k : Nat) (ts : List Tok), k ≤ s.size ∧ ts.length ≤ k ∧ i = .int .i64 k ∧ wr.ownsRow w.heap.size 35 3 v ts.length (tvals ts) ∧ (v = .slice none 0 0 ↔ ts = []) ∧ Below w.heap.size w wr ∧
    lexL 0 s.data.toList = Res.app ts (lexL k (s.data.toList.drop k))


theorem cells_new (w : World) (xs : List Value) (t : TypeId) : ∀ (j : Nat) (u : Value), xs[j]? = some u → (w.alloc (.cells xs.toArray t)).cell? ((⟨w.heap.size, 0, none⟩ : Addr).add j) = some u := by
  intro j u hu
  have e : (⟨w.heap.size, 0, none⟩ : Addr).add j = ⟨w.heap.size, j, none⟩ := by unfold Addr.add; split <;> simp_all
  rw [e]
  have h := heap_alloc_new w (.cells xs.toArray t)
  simp only [World.cell?, h]
  simpa using hu
theorem grown_of_below {w w1 : World} (h : Below w.heap.size w w1) (row : Option Nat) : w.grownBy w1 row := ⟨h.os, h.tape, h.output, h.size, fun i hi _ => h.block i hi⟩
theorem own_below {w w1 : World} {base : Nat} {e : TypeId} {size n : Nat} {v : Value} {xs : List Value} (h : w.ownsRow base e size v n xs) (hb : Below w.heap.size w w1) : w1.ownsRow base e size v n xs :=
  h.kept (grown_of_below hb none) (by cases v.ownBlock <;> simp)
theorem own_base {w : World} {base : Nat} {e : TypeId} {size n : Nat} {v : Value} {xs : List Value} (h : w.ownsRow base e size v n xs) (k : Nat) (hk : v.ownBlock = some k) : base ≤ k := by
  rcases h.2 with ⟨rfl, _⟩ | ⟨g, cap, cur, rfl, hb, _⟩
  · simp [Value.ownBlock] at hk
  · have : g = k := by simpa [Value.ownBlock] using hk
    omega

theorem rel_blank {s : ByteArray} {w wr w1 : World} {v : Value} {k n : Nat} {ts : List Tok} (hlt : k < s.size) (hts : ts.length ≤ k)
    (hown : wr.ownsRow w.heap.size 35 3 v ts.length (tvals ts)) (hnil : v = .slice none 0 0 ↔ ts = []) (hb : Below w.heap.size w wr)
    (hlex : lexL 0 s.data.toList = Res.app ts (lexL k (s.data.toList.drop k))) (hn : blankN (s.data.toList.drop k) = n) (hle : k + n ≤ s.size) (h0 : 0 < n)
    (hb1 : Below wr.heap.size wr w1) : LexRel s w v (.int .i64 ((k : Int) + (n : Int))) w1 := by
  refine ⟨k + n, ts, hle, by omega, by rw [Int.natCast_add], own_below hown hb1, hnil, hb.trans (hb1.mono hb.size), ?_⟩
  rw [hlex, lexL_blank k (s.data.toList.drop k) ?_ (by rw [hn]; exact h0), hn, List.drop_drop]
  intro h
  have := congrArg List.length h
  simp at this
  omega
theorem rel_end {s : ByteArray} {w wr : World} {v : Value} {k : Nat} {ts : List Tok} (hk : k ≤ s.size) (hlt : ¬ k < s.size)
    (hown : wr.ownsRow w.heap.size 35 3 v ts.length (tvals ts)) (hnil : v = .slice none 0 0 ↔ ts = []) (hb : Below w.heap.size w wr)
    (hlex : lexL 0 s.data.toList = Res.app ts (lexL k (s.data.toList.drop k))) : LexPost w (lexL 0 s.data.toList) (.returned (.tuple #[v, .nilIface])) wr := by
  rw [hlex, List.drop_of_length_le (by simp; omega), lexL_nil]
  unfold Res.app LexPost
  simp only [List.append_nil]
  exact ⟨v, rfl, hown, hnil, hb⟩
theorem drop_ne {s : ByteArray} {k : Nat} (hlt : k < s.size) : s.data.toList.drop k ≠ [] := by
  intro h
  have := congrArg List.length h
  simp at this
  omega
theorem rel_bad {s : ByteArray} {w wr w1 w2 : World} {k : Nat} {ts : List Tok} (hlt : k < s.size) (hb : Below w.heap.size w wr)
    (hlex : lexL 0 s.data.toList = Res.app ts (lexL k (s.data.toList.drop k))) (hn : blankN (s.data.toList.drop k) = 0) (htok : (tokenN (s.data.toList.drop k)).2 = 0)
    (hb1 : Below wr.heap.size wr w1) (hb2 : Below w1.heap.size w1 w2) :
    LexPost w (lexL 0 s.data.toList) (.returned (.tuple #[.slice none 0 0, .iface 42 (.pointer (some ⟨w2.heap.size, 0, none⟩))])) (w2.alloc (.cells #[.int .i64 (k : Int), .iface 38 (.int .i64 1)] 44)) := by
  rw [hlex, lexL_bad k _ (drop_ne hlt) (by omega) htok]
  unfold Res.app LexPost
  have h2 := (hb.trans (hb1.mono hb.size)).trans (hb2.mono (Nat.le_trans hb.size hb1.size))
  exact ⟨w2.heap.size, rfl, h2.size, heap_alloc_new w2 _, h2.alloc h2.size _⟩
theorem rel_tok {s : ByteArray} {w wr w1 w2 w3 : World} {v v3 : Value} {k m kd : Nat} {ts : List Tok} (hlt : k < s.size) (hts : ts.length ≤ k)
    (hnil3 : ¬ v3 = .slice none 0 0) (hb : Below w.heap.size w wr)
    (hlex : lexL 0 s.data.toList = Res.app ts (lexL k (s.data.toList.drop k))) (hn : blankN (s.data.toList.drop k) = 0) (htok : tokenN (s.data.toList.drop k) = (kd, m)) (hm : 0 < m) (hle : k + m ≤ s.size)
    (hb1 : Below wr.heap.size wr w1) (hb2 : Below w1.heap.size w1 w2) (hown : wr.ownsRow w.heap.size 35 3 v ts.length (tvals ts))
    (hown3 : w3.ownsRow w.heap.size 35 3 v3 (ts.length + 1) (tvals ts ++ [.int .i64 (kd : Int), .int .i64 (k : Int), .string (s.extract k (k + m))])) (o : Obj) (hg3 : (w2.alloc o).grownBy w3 v.ownBlock) :
    LexRel s w v3 (.int .i64 ((k : Int) + (m : Int))) w3 := by
  have h2 := (hb.trans (hb1.mono hb.size)).trans (hb2.mono (Nat.le_trans hb.size hb1.size))
  refine ⟨k + m, ts ++ [⟨kd, k, (s.data.toList.drop k).take m⟩], hle, by simp; omega, by rw [Int.natCast_add], ?_, ?_, ?_, ?_⟩
  · rw [tvals_snoc, List.length_append]
    have e : tcells ⟨kd, k, (s.data.toList.drop k).take m⟩ = [.int .i64 (kd : Int), .int .i64 (k : Int), .string (s.extract k (k + m))] := by
      unfold tcells
      rw [Lib.extract_eq, show k + m - k = m by omega]
    rw [e]
    exact hown3
  · exact ⟨fun h => absurd h hnil3, fun h => by simp at h⟩
  · have ha := h2.alloc h2.size o
    exact ha.grown hg3 ha.size (own_base hown)
  · rw [hlex, lexL_tok k _ (drop_ne hlt) (by omega) (by rw [htok]; dsimp only; omega), htok, Res.cons_eq, Res.app_app, List.drop_drop]

set_option maxHeartbeats 1000000 in
theorem lex_any (s : ByteArray) (w : World) (hs : s.size ≤ 20000) :
    Calls Tryd.prog 7 #[.string s] w fun e w' => LexPost w (lexL 0 s.data.toList) e w' := by
  obtain ⟨i0, hi, hz0, hz1, hz2⟩ := info_parts info35
  have HI := Lib.hid hi
  have HZ0 := Lib.hid hz0
  have HZ1 := Lib.hid hz1
  have HZ2 := Lib.hid hz2
  clear hi hz0 hz1 hz2
  go_enter Tryd.func7, Tryd.ntmps7
  go_wp2
  go_loopw [4, 5] (fun v i wr => LexRel s w v i wr) (fun _ i _ => s.size - (intOf i).toNat)
  case atStart => exact ⟨0, [], Nat.zero_le _, Nat.le_refl _, rfl, World.ownsRow_nil _ _ _ _, by simp, Below.refl _ _, by rw [Res.app_nil]; rfl⟩
  case round =>
    obtain ⟨k, ts, hk, hts, rfl, hown, hnil, hb, hlex⟩ := hrel
    have HL := Lib.hid hlex
    have HO := Lib.hid hown
    have HN := Lib.hid hnil
    clear hlex hown hnil
    by_cases hlt : k < s.size
    · have hsz : (s.extract k s.size).size ≤ 9223372036854775807 := by simp [ByteArray.size_extract]; omega
      have hsp : 0 < (s.extract k s.size).size := by simp [ByteArray.size_extract]; omega
      obtain ⟨n, hn⟩ : ∃ n, blankN (s.data.toList.drop k) = n := ⟨_, rfl⟩
      have Hn := Lib.hid hn
      have hle : k + n ≤ s.size := by have := blankN_le (s.data.toList.drop k); rw [List.length_drop] at this; simp at this; omega
      clear hn
      by_cases h0 : 0 < n
      · go_wp2_with fail
        refine (blank_any _ _ hsz).mono ?_
        rintro e w1 ⟨rfl, hb1⟩
        rw [drop_data, Hn.out]
        go_wp2_with fail
        exact ⟨rel_blank hlt hts HO.out HN.out hb HL.out Hn.out hle h0 hb1, by simp [intOf]; omega⟩
      · have Hn0 : Hid (blankN (s.data.toList.drop k) = 0) := by
          have : blankN (s.data.toList.drop k) = 0 := by rw [Hn.out]; omega
          exact this
        obtain ⟨kd, m, htk⟩ : ∃ kd m, tokenN (s.data.toList.drop k) = (kd, m) := ⟨_, _, rfl⟩
        have hlem : k + m ≤ s.size := by have := tokenN_le (s.data.toList.drop k) (drop_ne hlt); rw [List.length_drop, htk] at this; simp at this; omega
        have HT := Lib.hid htk
        clear htk
        by_cases hm : 0 < m
        · have hmb : ((m : Int) == 0) = false := by rw [beq_eq_false_iff_ne]; omega
          go_wp2_with fail
          refine (blank_any _ _ hsz).mono ?_
          rintro e w1 ⟨rfl, hb1⟩
          rw [drop_data, Hn0.out]
          go_wp2_with fail
          refine (token_any _ _ hsp hsz).mono ?_
          rintro e w2 ⟨rfl, hb2⟩
          rw [drop_data, HT.out]
          have hown2 := Lib.hid (own_below (own_below HO.out hb1) hb2)
          have hsz2 : w.heap.size ≤ w2.heap.size := Nat.le_trans hb.size (Nat.le_trans hb1.size hb2.size)
          go_wp2_with (at_builtin; refine wpList_append_own _ rfl (.tmp 40) (.tmp 50) 23 rfl w.heap.size 35 i0 _ 3 32 Tryd.underlying23 HI.out HZ0.out HZ1.out HZ2.out rfl (by decide) u4 ts.length (tvals ts) rfl (hown2.out.alloc _) ⟨w2.heap.size, 0, none⟩ 1 1 [.int .i64 (kd : Int), .int .i64 (k : Int), .string (s.extract k (k + m))] rfl rfl ?c1 ?c2 ?c3 ?c4 ?c5 ?_)
          case c1 => exact cells_new _ _ _
          case c2 => simp [Value.oneCell']
          case c3 => simp only [maxLen]; omega
          case c4 => omega
          case c5 => simp only [World.size_alloc]; omega
          intro v3 w3 hown3 hg3 hnil3
          have HO3 := Lib.hid hown3
          have HG3 := Lib.hid hg3
          have HN3 := Lib.hid hnil3
          clear hown3 hg3 hnil3
          go_wp2
          exact ⟨rel_tok hlt hts HN3.out hb HL.out Hn0.out HT.out hm hlem hb1 hb2 HO.out HO3.out _ HG3.out, by simp [intOf]; omega⟩
        · obtain rfl : m = 0 := by omega
          go_wp2_with fail
          refine (blank_any _ _ hsz).mono ?_
          rintro e w1 ⟨rfl, hb1⟩
          rw [drop_data, Hn0.out]
          go_wp2_with fail
          refine (token_any _ _ hsp hsz).mono ?_
          rintro e w2 ⟨rfl, hb2⟩
          rw [drop_data, HT.out]
          go_wp2_with fail
          go_ret2
          exact rel_bad hlt hb HL.out Hn0.out (by rw [HT.out]) hb1 hb2
    · go_wp2
      go_ret2
      exact rel_end hk hlt HO.out HN.out hb HL.out
end Go.Proofs.YtadjekpfehjibaaDoor
