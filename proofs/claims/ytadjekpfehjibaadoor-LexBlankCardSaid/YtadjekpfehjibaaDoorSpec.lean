/-
The plain functions of the lexer, over lists of bytes; no program, no memory. No conditions.
-/
namespace Go.Proofs.YtadjekpfehjibaaDoor

def letterB (r : Int) : Bool := decide (r = 95) || (decide (97 ≤ r) && decide (r ≤ 122)) || (decide (65 ≤ r) && decide (r ≤ 90))
def digitB (r : Int) : Bool := decide (48 ≤ r) && decide (r ≤ 57)
def blankB (r : Int) : Bool := decide (r = 32) || decide (r = 9) || decide (r = 10)
def notLfB (r : Int) : Bool := !decide (r = 10)
def wordB (r : Int) : Bool := letterB r || digitB r

def onByte (p : Int → Bool) (c : UInt8) : Bool := p (c.toNat : Int)
/-- How many bytes of a list's beginning are so. -/
def spanN (q : UInt8 → Bool) (l : List UInt8) : Nat := (l.takeWhile q).length

theorem spanN_le (q : UInt8 → Bool) (l : List UInt8) : spanN q l ≤ l.length := by
  unfold spanN
  induction l with
  | nil => simp
  | cons c l ih => rw [List.takeWhile_cons]; split <;> simp; omega
theorem spanN_all (q : UInt8 → Bool) (l : List UInt8) (h : ∀ (i : Nat) (c : UInt8), l[i]? = some c → q c = true) : spanN q l = l.length := by
  unfold spanN
  induction l with
  | nil => rfl
  | cons c l ih =>
    rw [List.takeWhile_cons, if_pos (h 0 c rfl)]
    simp only [List.length_cons]
    rw [ih fun i d hd => h (i + 1) d (by simpa using hd)]
theorem spanN_at (q : UInt8 → Bool) (l : List UInt8) (k : Nat) (hk : ∀ (i : Nat) (c : UInt8), i < k → l[i]? = some c → q c = true) (c : UInt8) (hc : l[k]? = some c) (hn : q c = false) : spanN q l = k := by
  unfold spanN
  induction l generalizing k with
  | nil => simp at hc
  | cons d l ih =>
    rw [List.takeWhile_cons]
    cases k with
    | zero =>
      simp only [List.getElem?_cons_zero, Option.some.injEq] at hc
      subst hc
      rw [if_neg (by simp [hn])]
      rfl
    | succ k =>
      rw [if_pos (hk 0 d (by omega) rfl)]
      simp only [List.length_cons]
      rw [ih k (fun i e hi he => hk (i + 1) e (by omega) (by simpa using he)) (by simpa using hc)]

def blankN (l : List UInt8) : Nat :=
  if [47, 47].isPrefixOf (l.drop (spanN (onByte blankB) l)) then spanN (onByte blankB) l + spanN (onByte notLfB) (l.drop (spanN (onByte blankB) l)) else spanN (onByte blankB) l
def wordN (l : List UInt8) : Nat :=
  if spanN (onByte wordB) l = 0 ∨ onByte digitB (l.headD 0) = true ∨ 30 < spanN (onByte wordB) l then 0 else spanN (onByte wordB) l
def numN (l : List UInt8) : Nat := if 18 < spanN (onByte digitB) l then 0 else spanN (onByte digitB) l
def marks : List UInt8 := [40, 41, 123, 125, 91, 93, 44, 59, 58, 46, 38, 42, 61, 43, 45, 47, 60]
/-- What begins a list: its kind, and how many bytes it has; 0: nothing. -/
def tokenN (l : List UInt8) : Nat × Nat :=
  if onByte letterB (l.headD 0) = true then (1, wordN l)
  else if onByte digitB (l.headD 0) = true then (2, numN l)
  else if l.headD 0 = 39 then (3, if 0 < wordN (l.drop 1) then wordN (l.drop 1) + 1 else 0)
  else if [45, 62].isPrefixOf l = true ∨ [61, 61].isPrefixOf l = true then (4, 2)
  else if marks.contains (l.headD 0) = true then (4, 1)
  else (0, 0)

structure Tok where
  kind : Nat
  pos : Nat
  text : List UInt8

inductive Res where
  | ok (ts : List Tok)
  | bad (pos : Nat)
def Res.cons (t : Tok) : Res → Res
  | .ok ts => .ok (t :: ts)
  | .bad a => .bad a
def Res.app (us : List Tok) : Res → Res
  | .ok ts => .ok (us ++ ts)
  | .bad a => .bad a
theorem Res.app_nil (r : Res) : Res.app [] r = r := by cases r <;> rfl
theorem Res.app_app (a b : List Tok) (r : Res) : Res.app a (Res.app b r) = Res.app (a ++ b) r := by cases r <;> simp [Res.app]
theorem Res.cons_eq (t : Tok) (r : Res) : Res.cons t r = Res.app [t] r := by cases r <;> rfl

/-- The lexer: the rest l begins at the place off; fuel: more than the rest's bytes. -/
def lexF : Nat → Nat → List UInt8 → Res
  | 0, off, _ => .bad off
  | fuel + 1, off, l =>
    if l = [] then .ok []
    else if 0 < blankN l then lexF fuel (off + blankN l) (l.drop (blankN l))
    else if (tokenN l).2 = 0 then .bad off
    else Res.cons ⟨(tokenN l).1, off, l.take (tokenN l).2⟩ (lexF fuel (off + (tokenN l).2) (l.drop (tokenN l).2))
def lexL (off : Nat) (l : List UInt8) : Res := lexF (l.length + 1) off l

theorem blankN_le (l : List UInt8) : blankN l ≤ l.length := by
  unfold blankN
  have h1 := spanN_le (onByte blankB) l
  split
  · have h2 := spanN_le (onByte notLfB) (l.drop (spanN (onByte blankB) l))
    rw [List.length_drop] at h2
    omega
  · exact h1
theorem wordN_le (l : List UInt8) : wordN l ≤ l.length := by
  unfold wordN
  have := spanN_le (onByte wordB) l
  split <;> omega
theorem numN_le (l : List UInt8) : numN l ≤ l.length := by
  unfold numN
  have := spanN_le (onByte digitB) l
  split <;> omega
theorem tokenN_le (l : List UInt8) (h : l ≠ []) : (tokenN l).2 ≤ l.length := by
  have hp : 0 < l.length := List.length_pos_iff.2 h
  unfold tokenN
  split
  · exact wordN_le l
  split
  · exact numN_le l
  split
  · have := wordN_le (l.drop 1)
    rw [List.length_drop] at this
    dsimp only
    split <;> omega
  split
  · rename_i h4
    dsimp only
    match l, h4 with
    | [_], h4 => simp [List.isPrefixOf] at h4
    | _ :: _ :: _, _ => simp
  split
  · dsimp only; omega
  · dsimp only; omega
theorem lexF_stable (n m off : Nat) (l : List UInt8) (hn : l.length < n) (hm : l.length < m) : lexF n off l = lexF m off l := by
  induction n generalizing m off l with
  | zero => omega
  | succ n ih =>
    cases m with
    | zero => omega
    | succ m =>
      unfold lexF
      by_cases h0 : l = []
      · rw [if_pos h0, if_pos h0]
      rw [if_neg h0, if_neg h0]
      have hp : 0 < l.length := List.length_pos_iff.2 h0
      by_cases h1 : 0 < blankN l
      · rw [if_pos h1, if_pos h1]
        exact ih m _ _ (by rw [List.length_drop]; omega) (by rw [List.length_drop]; omega)
      rw [if_neg h1, if_neg h1]
      by_cases h2 : (tokenN l).2 = 0
      · rw [if_pos h2, if_pos h2]
      rw [if_neg h2, if_neg h2]
      rw [ih m _ _ (by rw [List.length_drop]; omega) (by rw [List.length_drop]; omega)]
theorem lexL_nil (off : Nat) : lexL off [] = .ok [] := by simp [lexL, lexF]
theorem lexL_blank (off : Nat) (l : List UInt8) (h0 : l ≠ []) (h : 0 < blankN l) : lexL off l = lexL (off + blankN l) (l.drop (blankN l)) := by
  have hp : 0 < l.length := List.length_pos_iff.2 h0
  conv => lhs; unfold lexL lexF
  rw [if_neg h0, if_pos h]
  exact lexF_stable _ _ _ _ (by rw [List.length_drop]; omega) (by omega)
theorem lexL_bad (off : Nat) (l : List UInt8) (h0 : l ≠ []) (h : ¬ 0 < blankN l) (h2 : (tokenN l).2 = 0) : lexL off l = .bad off := by
  unfold lexL lexF
  rw [if_neg h0, if_neg h, if_pos h2]
theorem lexL_tok (off : Nat) (l : List UInt8) (h0 : l ≠ []) (h : ¬ 0 < blankN l) (h2 : ¬ (tokenN l).2 = 0) : lexL off l = Res.cons ⟨(tokenN l).1, off, l.take (tokenN l).2⟩ (lexL (off + (tokenN l).2) (l.drop (tokenN l).2)) := by
  have hp : 0 < l.length := List.length_pos_iff.2 h0
  conv => lhs; unfold lexL lexF
  rw [if_neg h0, if_neg h, if_neg h2]
  congr 1
  exact lexF_stable _ _ _ _ (by rw [List.length_drop]; omega) (by omega)
end Go.Proofs.YtadjekpfehjibaaDoor
