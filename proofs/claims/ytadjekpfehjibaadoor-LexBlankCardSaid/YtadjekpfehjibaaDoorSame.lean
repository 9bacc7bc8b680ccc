/-
The reference's Same over two lists of tokens: what it hands back. Conditions: the lists lie in memory as such.
-/
import Derived.Test.YtadjekpfehjibaaDoorLex
import Derived.Laws.StructEq
import Derived.Deep.AppendLies
import Derived.Deep.QuietTactic
import Derived.BigQuiet
namespace Go.Proofs.YtadjekpfehjibaaDoor
open Go.RowKit

section
variable {P : Program} {d : Nat} {xs ys : Array Value} {f : Field} {fs : List Field} {a b : Value} {r s : Bool} {w : World}
theorem eqFields_cons (hn : f.name ≠ "_") (ha : (part f.type xs f.offset).run P w = .ok a w) (hb : (part f.type ys f.offset).run P w = .ok b w) (he : (Op.equalIn d f.type a b).run P w = .ok r w)
    (hr : (Op.eqFields d xs ys fs).run P w = .ok s w) : (Op.eqFields d xs ys (f :: fs)).run P w = .ok (r && s) w := by
  rw [Op.eqFields]
  simp only [if_pos hn, Sem.run_bind, ha, hb, he, Result.andThen_ok]
  cases r with
  | false => simp
  | true => simpa using hr
theorem eqFields_nil : (Op.eqFields d xs ys []).run P w = .ok true w := by simp [Op.eqFields]
end
theorem equalIn35 (d : Nat) (w : World) (x0 y0 x1 y1 : Int) (x2 y2 : ByteArray) :
    (Op.equalIn (d + 2) 35 (.agg #[.int .i64 x0, .int .i64 x1, .string x2]) (.agg #[.int .i64 y0, .int .i64 y1, .string y2])).run Tryd.prog w = .ok (x0 == y0 && (x1 == y1 && (x2.toList == y2.toList && true))) w := by
  obtain ⟨fs, hu⟩ : ∃ fs, Tryd.prog.underlying 35 = some (.struct fs) := ⟨_, Tryd.underlying35⟩
  have hf : Tryd.prog.fieldsOf 35 = fs := by simp [Program.fieldsOf, hu]
  rw [run_equalIn_struct (P := Tryd.prog) w (d + 1) 35 _ _ (by rw [hf]; exact hu) (by kernel_rfl), hf]
  rw [Tryd.underlying35] at hu
  injection hu with hu
  injection hu with hu
  subst hu
  refine eqFields_cons (by decide) (by go_simp; rfl) (by go_simp; rfl) (by go_simp) ?_
  refine eqFields_cons (by decide) (by go_simp; rfl) (by go_simp; rfl) (by go_simp) ?_
  exact eqFields_cons (by decide) (by go_simp; rfl) (by go_simp; rfl) (by go_simp) eqFields_nil

/-- A slice's address, and the tokens that lie there. -/
def TReads (w : World) (A : Option Addr) (ts : List Tok) : Prop :=
  ∀ (i : Nat) (t : Tok), ts[i]? = some t → ∃ a, A = some a ∧ w.cell? (a.add (i * 3)) = some (.int .i64 (t.kind : Int)) ∧
    w.cell? ⟨(a.add (i * 3)).block, (a.add (i * 3)).off + 1, none⟩ = some (.int .i64 (t.pos : Int)) ∧ w.cell? ⟨(a.add (i * 3)).block, (a.add (i * 3)).off + 2, none⟩ = some (.string ⟨t.text.toArray⟩)
theorem tvals_at (ts : List Tok) (i : Nat) (t : Tok) (h : ts[i]? = some t) : (tvals ts)[i * 3]? = some (.int .i64 (t.kind : Int)) ∧ (tvals ts)[i * 3 + 1]? = some (.int .i64 (t.pos : Int)) ∧ (tvals ts)[i * 3 + 2]? = some (.string ⟨t.text.toArray⟩) := by
  induction ts generalizing i with
  | nil => simp at h
  | cons u ts ih =>
    have e : tvals (u :: ts) = tcells u ++ tvals ts := by simp [tvals]
    rw [e]
    cases i with
    | zero =>
      simp only [List.getElem?_cons_zero, Option.some.injEq] at h
      subst h
      exact ⟨rfl, rfl, rfl⟩
    | succ i =>
      have h' := ih i (by simpa using h)
      have hl : (tcells u).length = 3 := rfl
      refine ⟨?_, ?_, ?_⟩
      · rw [List.getElem?_append_right (by omega), hl, show (i + 1) * 3 - 3 = i * 3 by omega]; exact h'.1
      · rw [List.getElem?_append_right (by omega), hl, show (i + 1) * 3 + 1 - 3 = i * 3 + 1 by omega]; exact h'.2.1
      · rw [List.getElem?_append_right (by omega), hl, show (i + 1) * 3 + 2 - 3 = i * 3 + 2 by omega]; exact h'.2.2
theorem add_block0 (g j : Nat) : (⟨g, 0, none⟩ : Addr).add j = ⟨g, j, none⟩ := by unfold Addr.add; split <;> simp_all
theorem reads_of_own {w : World} {base n : Nat} {e : TypeId} {v : Value} {ts : List Tok} (h : w.ownsRow base e 3 v n (tvals ts)) (hn : n = ts.length) : ∃ A c, v = .slice A ts.length c ∧ TReads w A ts := by
  subst hn
  rcases Nat.eq_zero_or_pos ts.length with h0 | h0
  · have he : ts = [] := List.eq_nil_of_length_eq_zero h0
    subst he
    rcases h.2 with ⟨rfl, _⟩ | ⟨g, cap, cur, rfl, _⟩
    · exact ⟨none, 0, rfl, fun i t hi => by simp at hi⟩
    · exact ⟨_, cap, rfl, fun i t hi => by simp at hi⟩
  · obtain ⟨g, cap, rfl, _, _⟩ := h.form h0
    refine ⟨_, cap, rfl, fun i t hi => ⟨_, rfl, ?_⟩⟩
    have hc := h.cells (g := g) rfl
    have ht := tvals_at ts i t hi
    have h1 := hc _ _ ht.1
    have h2 := hc _ _ ht.2.1
    have h3 := hc _ _ ht.2.2
    rw [add_block0] at h1 h2 h3 ⊢
    exact ⟨h1, h2, h3⟩
theorem treads_below {w w1 : World} {A : Option Addr} {ts : List Tok} (h : TReads w A ts) (hb : Below w.heap.size w w1) : TReads w1 A ts := by
  intro i t hi
  obtain ⟨a, hA, h1, h2, h3⟩ := h i t hi
  exact ⟨a, hA, (hb.cell (World.block_lt_of_cell? w _ h1)).trans h1, (hb.cell (World.block_lt_of_cell? w _ h2)).trans h2, (hb.cell (World.block_lt_of_cell? w _ h3)).trans h3⟩

def SameRel (n : Nat) (w : World) (t : Value) (wr : World) : Prop := ∃ k q : Nat, k ≤ n ∧ t = .int .i64 k ∧ wr = w.drewN q

attribute [local go_sem high] equalIn35
set_option maxHeartbeats 800000 in
theorem refSame_any (A B : Option Addr) (c d : Nat) (ts : List Tok) (w : World) (ha : TReads w A ts) (hb : TReads w B ts) (hl : ts.length ≤ 1000000) :
    Calls Tryd.prog 11 #[.slice A ts.length c, .slice B ts.length d] w fun e w' => e = .returned (.bool true) ∧ ∃ n, w' = w.drewN n := by
  obtain ⟨n, hn⟩ : ∃ n, ts.length = n := ⟨_, rfl⟩
  rw [hn] at hl ⊢
  have HA := Lib.hid ha
  have HB := Lib.hid hb
  have HN := Lib.hid hn
  clear ha hb hn
  go_enter Tryd.func11, Tryd.ntmps11
  go_wp2
  go_loopw [5] (fun t wr => SameRel n w t wr) (fun t _ => n - (intOf t).toNat)
  case atStart => exact ⟨0, 0, Nat.zero_le _, rfl, rfl⟩
  case round =>
    obtain ⟨k, q, hk, rfl, rfl⟩ := hrel
    by_cases hlt : k < n
    · have hkt : k < ts.length := by rw [HN.out]; exact hlt
      obtain ⟨a, rfl, a1, a2, a3⟩ := HA.out k _ (List.getElem?_eq_getElem hkt)
      obtain ⟨b, rfl, b1, b2, b3⟩ := HB.out k _ (List.getElem?_eq_getElem hkt)
      generalize ts[k] = t at a1 a2 a3 b1 b2 b3
      clear hkt
      go_wp2
      go_quiet (fail)
      go_wp2
      exact ⟨⟨k + 1, q + nq, by omega, by go_num, rfl⟩, by simp [intOf]; omega⟩
    · go_wp2
      go_ret
      exact ⟨rfl, q, rfl⟩
end Go.Proofs.YtadjekpfehjibaaDoor
