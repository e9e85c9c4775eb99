/- Entries and keys, in plain words. -/
import Derived.KernelRfl
namespace Go.Proofs.Ytenbclcfhjdcaaa.B
structure Ent where
  s : Int
  n : Int
  p : Int
deriving DecidableEq, Inhabited
/-- Entry i. -/
def ent (l : List Ent) (i : Nat) : Ent := l.getD i ⟨0, 0, 0⟩
theorem ent_eq (l : List Ent) (i : Nat) (h : i < l.length) : ent l i = l[i] := by simp [ent, h]
/-- Is a key less than another one? -/
def lessK (a b c d : Int) : Bool := decide (a < c ∨ a = c ∧ b < d)
/-- Is it a key? -/
def rightK (a b : Int) : Bool := decide (0 ≤ a ∧ a ≤ 15 ∧ 0 ≤ b ∧ b ≤ 65535)
/-- Is an entry as it must be? -/
def rightE (a b p : Int) : Bool := decide ((0 ≤ a ∧ a ≤ 15 ∧ 0 ≤ b ∧ b ≤ 65535) ∧ 2 ≤ p ∧ p < 2048)
def okE (e : Ent) : Bool := rightE e.s e.n e.p
def lessE (a b : Ent) : Bool := lessK a.s a.n b.s b.n
/-- All entries up to k are right. -/
def allR (l : List Ent) : Bool := l.all okE
/-- Keys rise. -/
def rise (l : List Ent) : Bool := (List.range l.length).all fun i => decide (i = 0) || lessE (ent l (i - 1)) (ent l i)
/-- What Check answers. -/
def chk (lf : Bool) (l : List Ent) : Int := if 16 < l.length then 2 else if allR l = false then 10 else if rise l = false then 3 else if lf = false ∧ l.length = 0 then 3 else 0
def snd (l : List Ent) : Int := if 16 < l.length then 2 else if allR l = false then 10 else if rise l = false then 3 else 0
theorem allR_true {l : List Ent} : allR l = true ↔ ∀ i, i < l.length → okE (ent l i) = true := by
  unfold allR
  rw [List.all_eq_true]
  constructor
  · intro h i hi
    rw [ent_eq l i hi]
    exact h _ (List.getElem_mem hi)
  · intro h x hx
    obtain ⟨i, hi, rfl⟩ := List.getElem_of_mem hx
    rw [← ent_eq l i hi]
    exact h i hi
theorem allR_false {l : List Ent} {i : Nat} (hi : i < l.length) (h : okE (ent l i) = false) : allR l = false := by
  cases ha : allR l with
  | false => rfl
  | true => rw [allR_true.1 ha i hi] at h; cases h
theorem rise_true {l : List Ent} : rise l = true ↔ ∀ i, 0 < i → i < l.length → lessE (ent l (i - 1)) (ent l i) = true := by
  unfold rise
  rw [List.all_eq_true]
  constructor
  · intro h i h0 hi
    have := h i (by simpa using hi)
    simpa [show i ≠ 0 by omega] using this
  · intro h i hi
    simp at hi
    by_cases h0 : i = 0
    · simp [h0]
    · simp [h i (by omega) hi]
theorem rise_false {l : List Ent} {i : Nat} (h0 : 0 < i) (hi : i < l.length) (h : lessE (ent l (i - 1)) (ent l i) = false) : rise l = false := by
  cases ha : rise l with
  | false => rfl
  | true => rw [rise_true.1 ha i h0 hi] at h; cases h
end Go.Proofs.Ytenbclcfhjdcaaa.B
