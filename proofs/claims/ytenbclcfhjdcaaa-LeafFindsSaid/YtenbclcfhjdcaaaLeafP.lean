/- Plain words on nodes: which are right. -/
import Derived.Test.YtenbclcfhjdcaaaLeafA
namespace Go.Proofs.Ytenbclcfhjdcaaa
open B
def okE (e : Ent) : Bool := rightE e.s e.n e.p
def lessE (a b : Ent) : Bool := lessK a.s a.n b.s b.n
/-- All entries up to k are right. -/
def allR (l : List Ent) : Bool := l.all okE
/-- Keys rise. -/
def rise (l : List Ent) : Bool := (List.range l.length).all fun i => decide (i = 0) || lessE (ent l (i - 1)) (ent l i)
/-- What Check answers. -/
def chk (lf : Bool) (l : List Ent) : Int := if 16 < l.length then 2 else if allR l = false then 10 else if rise l = false then 3 else if lf = false ∧ l.length = 0 then 3 else 0
def snd (l : List Ent) : Int := if 16 < l.length then 2 else if allR l = false then 10 else if rise l = false then 3 else 0
theorem allR_true {l : List Ent} : allR l = true ↔ ∀ i, i < l.length → okE (ent l i) = true := by
  unfold allR
  rw [List.all_eq_true]
  constructor
  · intro h i hi
    rw [ent_eq l i hi]
    exact h _ (List.getElem_mem hi)
  · intro h x hx
    obtain ⟨i, hi, rfl⟩ := List.getElem_of_mem hx
    rw [← ent_eq l i hi]
    exact h i hi
theorem allR_false {l : List Ent} {i : Nat} (hi : i < l.length) (h : okE (ent l i) = false) : allR l = false := by
  cases ha : allR l with
  | false => rfl
  | true => rw [allR_true.1 ha i hi] at h; cases h
theorem rise_true {l : List Ent} : rise l = true ↔ ∀ i, 0 < i → i < l.length → lessE (ent l (i - 1)) (ent l i) = true := by
  unfold rise
  rw [List.all_eq_true]
  constructor
  · intro h i h0 hi
    have := h i (by simpa using hi)
    simpa [show i ≠ 0 by omega] using this
  · intro h i hi
    simp at hi
    by_cases h0 : i = 0
    · simp [h0]
    · simp [h i (by omega) hi]
theorem rise_false {l : List Ent} {i : Nat} (h0 : 0 < i) (hi : i < l.length) (h : lessE (ent l (i - 1)) (ent l i) = false) : rise l = false := by
  cases ha : rise l with
  | false => rfl
  | true => rw [rise_true.1 ha i h0 hi] at h; cases h
/-- A key as one number. -/
def place (e : Ent) : Int := 65536 * e.s + e.n
theorem place_lt (a b : Ent) (ha : okE a = true) (hb : okE b = true) : (place a < place b) ↔ lessE a b = true := by
  simp [okE, rightE, lessE, lessK, place] at *
  omega
theorem place_bound (a : Ent) (ha : okE a = true) : 0 ≤ place a ∧ place a ≤ 1048575 := by
  simp [okE, rightE, place] at *
  omega
open Go.RowKit in
theorem ref09_Place_ok (e : Ent) (w : World) (h : okE e = true) :
    Calls Try.prog 26 #[.agg #[.int .i64 e.s, .int .i64 e.n]] w fun en w' => en = .returned (.int .i64 (place e)) ∧ Below w.heap.size w w' := by
  have k := ref09_Place e.s e.n w
  have b := place_bound e h
  have e1 : wrap64 (wrap64 (65536 * e.s) + e.n) = place e := by
    simp [okE, rightE] at h
    unfold place at *
    unfold wrap64
    omega
  rw [e1] at k
  exact k
end Go.Proofs.Ytenbclcfhjdcaaa
