/- What a reading of the law's arguments gives. -/
import Derived.Test.YtadjekpfehjibaaKa
import Derived.Deep.Slices
import Derived.ChangeArms
import Derived.DataReads

namespace Go.Proofs.Ytadjekpfehjibaa.PEnv
open Go.RowKit Go.Proofs.YtadjekpfehjibaaW.PrintWords Go.Proofs.YtadjekpfehjibaaW.PrintLast Go.Proofs.Ytadjekpfehjibaa.PEnvHits
set_option linter.unusedVariables false
set_option linter.unusedSimpArgs false

theorem addr_add_add (a : Addr) (i j : Nat) : (a.add i).add j = a.add (i + j) := by
  unfold Addr.add
  by_cases hi : i = 0 <;> by_cases hj : j = 0 <;> simp [hi, hj, Nat.add_assoc]

section
variable {H : Type} {enc : TypeId × Value → H} {w : World} {base : Nat} {spare : Nat → Bool} {held : Bool}

theorem read_slice {α : Type} {d : Kd α} {t e : TypeId} {F : Nat} {cs : List Value} {x : DataW H × List MemPlace} (ht : Try.prog.underlying t = some (.slice e)) (hc : Try.prog.cellsOf e = d.sz)
    (helem : ∀ n, n < F → ∀ (cs : List Value) (x : DataW H × List MemPlace), DataW.trod enc Try.prog w base spare held n e cs = some x → ∃ y, d.K w y cs) (h : DataW.trod enc Try.prog w base spare held F t cs = some x) :
    ∃ (A : Option Addr) (c : Nat) (ys : List α), cs = [.slice A ys.length c] ∧ ys.length ≤ c ∧ Kd.C d w A ys.length ys := by
  rcases DataW.trod_slice ht h with ⟨rfl, _⟩ | ⟨a, len, cap, elems, rest, n, hF, rfl, _, _, hl, hm, hlen, hel, _⟩
  · exact ⟨none, 0, [], rfl, Nat.le_refl _, rfl, Nat.zero_le _, fun h => absurd h (Nat.lt_irrefl 0)⟩
  · have hex : ∀ i : Fin len, ∃ y, ∃ cs', d.K w y cs' ∧ cs'.length = d.sz ∧ ∀ k u, cs'[k]? = some u → w.cell? (a.add (i.1 * d.sz + k)) = some u := fun i => by
      have h1 := hel i.1 i.2
      rw [List.getElem?_eq_getElem (by rw [hlen]; exact i.2)] at h1
      obtain ⟨cs', h2, h3⟩ := Option.bind_eq_some_iff.1 h1
      obtain ⟨y, hy⟩ := helem n (by omega) cs' _ h3
      obtain ⟨_, hcl, hcell⟩ := World.cells?_some h2
      refine ⟨y, cs', hy, by rw [hcl, hc], fun k u hk => ?_⟩
      have hkl := (List.getElem?_eq_some_iff.mp hk).1
      have := hcell k (by omega)
      rw [hc, addr_add_add] at this
      rw [this, hk]
    have hl2 : (List.ofFn fun i : Fin len => (hex i).choose).length = len := by simp
    refine ⟨some a, cap, List.ofFn (fun i => (hex i).choose), by rw [hl2], by rw [hl2]; exact hl, rfl, by rw [hl2]; unfold maxLen at hm; omega, fun _ => ⟨a, rfl, fun i y hy => ?_⟩⟩
    obtain ⟨hlt, rfl⟩ := List.getElem?_eq_some_iff.mp hy
    rw [List.getElem_ofFn]
    obtain ⟨cs', h1, h2, h3⟩ := (hex ⟨i, by rw [hl2] at hlt; exact hlt⟩).choose_spec
    exact ⟨cs', h2, h1, h3⟩

theorem cell_int : Try.prog.cellsOf 3 = 1 := by kernel_rfl
theorem cell_bool : Try.prog.cellsOf 4 = 1 := by kernel_rfl
theorem cell_string : Try.prog.cellsOf 9 = 1 := by kernel_rfl
theorem cell_ints : Try.prog.cellsOf 23 = 1 := by kernel_rfl
theorem cell_loans : Try.prog.cellsOf 34 = 1 := by kernel_rfl
theorem cell_tys : Try.prog.cellsOf 35 = 1 := by kernel_rfl
theorem cell_place : Try.prog.cellsOf 25 = 2 := by kernel_rfl
theorem cell_loan : Try.prog.cellsOf 27 = 4 := by kernel_rfl
theorem cell_ty : Try.prog.cellsOf 37 = 5 := by kernel_rfl
theorem cell_bind : Try.prog.cellsOf 39 = 6 := by kernel_rfl

theorem read_int {n : Nat} {cs : List Value} {x : DataW H × List MemPlace} (h : DataW.trod enc Try.prog w base spare held n 3 cs = some x) : ∃ y, (Kd.int .i64).K w y cs := by
  obtain ⟨k, rfl, _, _⟩ := DataW.trod_int Try.underlying3 h
  exact ⟨k, rfl⟩
theorem read_ints {F : Nat} {cs : List Value} {x : DataW H × List MemPlace} (h : DataW.trod enc Try.prog w base spare held F 23 cs = some x) :
    ∃ (A : Option Addr) (c : Nat) (ys : List Int), cs = [.slice A ys.length c] ∧ ys.length ≤ c ∧ Kd.C (Kd.int .i64) w A ys.length ys :=
  read_slice (d := Kd.int .i64) Try.underlying23 cell_int (fun n _ cs x h => read_int h) h
theorem read_place {F : Nat} {cs : List Value} {x : DataW H × List MemPlace} (h : DataW.trod enc Try.prog w base spare held F 25 cs = some x) : ∃ y, k25.K w y cs := by
  obtain ⟨xs, n, _, _, hlen, hxl, hf⟩ := DataW.trod_struct Try.underlying25 h
  rw [cell_place] at hlen
  match cs, hlen with
  | [a, b], _ =>
    have hx : xs.length = 2 := hxl
    have h0 := hf 0 _ rfl
    have h1 := hf 1 _ rfl
    rw [List.getElem?_eq_getElem (by omega)] at h0 h1
    have h0 : DataW.trod enc Try.prog w base spare held n 9 [a] = some xs[0] := by simpa [cell_string] using h0
    have h1 : DataW.trod enc Try.prog w base spare held n 23 [b] = some xs[1] := by simpa [cell_ints] using h1
    obtain ⟨s, e0, _, _⟩ := DataW.trod_string Try.underlying9 h0
    obtain ⟨A, c, ys, e1, hl, hC⟩ := read_ints h1
    cases e0
    cases e1
    exact ⟨⟨s, ys⟩, k25_mk w ⟨s, ys⟩ hl hC⟩
theorem read_loan {F : Nat} {cs : List Value} {x : DataW H × List MemPlace} (h : DataW.trod enc Try.prog w base spare held F 27 cs = some x) : ∃ y, k27.K w y cs := by
  obtain ⟨xs, n, _, _, hlen, hxl, hf⟩ := DataW.trod_struct Try.underlying27 h
  rw [cell_loan] at hlen
  match cs, hlen with
  | [a, b, c, d], _ =>
    have hx : xs.length = 3 := hxl
    have h0 := hf 0 _ rfl
    have h1 := hf 1 _ rfl
    have h2 := hf 2 _ rfl
    rw [List.getElem?_eq_getElem (by omega)] at h0 h1 h2
    have h0 : DataW.trod enc Try.prog w base spare held n 9 [a] = some xs[0] := by simpa [cell_string] using h0
    have h1 : DataW.trod enc Try.prog w base spare held n 25 [b, c] = some xs[1] := by simpa [cell_place] using h1
    have h2 : DataW.trod enc Try.prog w base spare held n 4 [d] = some xs[2] := by simpa [cell_bool] using h2
    obtain ⟨s, e0, _, _⟩ := DataW.trod_string Try.underlying9 h0
    obtain ⟨y, hy⟩ := read_place h1
    obtain ⟨A1, c1, e1, hl, hC⟩ := k25_open hy
    obtain ⟨m, e2, _⟩ := DataW.trod_bool Try.underlying4 h2
    cases e0
    cases e1
    cases e2
    exact ⟨⟨s, y, m⟩, k27_mk w ⟨s, y, m⟩ hl hC⟩
theorem read_loans {F : Nat} {cs : List Value} {x : DataW H × List MemPlace} (h : DataW.trod enc Try.prog w base spare held F 34 cs = some x) :
    ∃ (A : Option Addr) (c : Nat) (ys : List S27), cs = [.slice A ys.length c] ∧ ys.length ≤ c ∧ Kd.C k27 w A ys.length ys :=
  read_slice (d := k27) Try.underlying34 cell_loan (fun n _ cs x h => read_loan h) h
theorem read_ty : ∀ (F : Nat) (cs : List Value) (x : DataW H × List MemPlace), DataW.trod enc Try.prog w base spare held F 37 cs = some x → ∃ y, k37.K w y cs := by
  intro F
  induction F using Nat.strongRecOn with
  | ind F ih =>
    intro cs x h
    obtain ⟨xs, n, hF, _, hlen, hxl, hf⟩ := DataW.trod_struct Try.underlying37 h
    rw [cell_ty] at hlen
    match cs, hlen with
    | [a, b, c, d, e], _ =>
      have hx : xs.length = 5 := hxl
      have h0 := hf 0 _ rfl
      have h1 := hf 1 _ rfl
      have h2 := hf 2 _ rfl
      have h3 := hf 3 _ rfl
      have h4 := hf 4 _ rfl
      rw [List.getElem?_eq_getElem (by omega)] at h0 h1 h2 h3 h4
      have h0 : DataW.trod enc Try.prog w base spare held n 3 [a] = some xs[0] := by simpa [cell_int] using h0
      have h1 : DataW.trod enc Try.prog w base spare held n 4 [b] = some xs[1] := by simpa [cell_bool] using h1
      have h2 : DataW.trod enc Try.prog w base spare held n 4 [c] = some xs[2] := by simpa [cell_bool] using h2
      have h3 : DataW.trod enc Try.prog w base spare held n 34 [d] = some xs[3] := by simpa [cell_loans] using h3
      have h4 : DataW.trod enc Try.prog w base spare held n 35 [e] = some xs[4] := by simpa [cell_tys] using h4
      obtain ⟨i, e0, _, _⟩ := DataW.trod_int Try.underlying3 h0
      obtain ⟨m, e1, _⟩ := DataW.trod_bool Try.underlying4 h1
      obtain ⟨g, e2, _⟩ := DataW.trod_bool Try.underlying4 h2
      obtain ⟨A3, c3, ls, e3, l3, g3⟩ := read_loans h3
      obtain ⟨A4, c4, ks, e4, l4, g4⟩ := read_slice (d := k37) Try.underlying35 cell_ty (fun m hm cs x h => ih m (by omega) cs x h) h4
      cases e0
      cases e1
      cases e2
      cases e3
      cases e4
      exact ⟨⟨i, m, g, ls, ks⟩, k37_mk w ⟨i, m, g, ls, ks⟩ l3 g3 l4 g4⟩
theorem read_bind {F : Nat} {cs : List Value} {x : DataW H × List MemPlace} (h : DataW.trod enc Try.prog w base spare held F 39 cs = some x) : ∃ y, k39.K w y cs := by
  obtain ⟨xs, n, _, _, hlen, hxl, hf⟩ := DataW.trod_struct Try.underlying39 h
  rw [cell_bind] at hlen
  match cs, hlen with
  | [a, b, c, d, e, f], _ =>
    have hx : xs.length = 2 := hxl
    have h0 := hf 0 _ rfl
    have h1 := hf 1 _ rfl
    rw [List.getElem?_eq_getElem (by omega)] at h0 h1
    have h0 : DataW.trod enc Try.prog w base spare held n 9 [a] = some xs[0] := by simpa [cell_string] using h0
    have h1 : DataW.trod enc Try.prog w base spare held n 37 [b, c, d, e, f] = some xs[1] := by simpa [cell_ty] using h1
    obtain ⟨s, e0, _, _⟩ := DataW.trod_string Try.underlying9 h0
    obtain ⟨y, hy⟩ := read_ty n _ _ h1
    obtain ⟨A3, c3, A4, c4, e1, l3, g3, l4, g4⟩ := k37_open hy
    cases e0
    cases e1
    exact ⟨⟨s, y⟩, k39_mk w ⟨s, y⟩ l3 g3 l4 g4⟩
/-- An environment, as it lies. -/
theorem read_env {F : Nat} {cs : List Value} {x : DataW H × List MemPlace} (h : DataW.trod enc Try.prog w base spare held F 22 cs = some x) :
    ∃ (A : Option Addr) (c : Nat) (ys : List S39), cs = [.slice A ys.length c] ∧ ys.length ≤ c ∧ Kd.C k39 w A ys.length ys :=
  read_slice (d := k39) Try.underlying22 cell_bind (fun n _ cs x h => read_bind h) h
end

end Go.Proofs.Ytadjekpfehjibaa.PEnv
