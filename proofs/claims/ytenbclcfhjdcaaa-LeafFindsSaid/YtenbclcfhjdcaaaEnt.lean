/- Entries of a node: three cells each. -/
import Derived.Test.YtenbclcfhjdcaaaBase
namespace Go.Proofs.Ytenbclcfhjdcaaa.B
open Go.RowKit

structure Ent where
  s : Int
  n : Int
  p : Int
deriving DecidableEq, Inhabited
def Ent.cells (e : Ent) : List Value := [.int .i64 e.s, .int .i64 e.n, .int .i64 e.p]
def ents (l : List Ent) : List Value := l.flatMap Ent.cells
theorem ents_nil : ents [] = [] := rfl
theorem ents_cons (e : Ent) (l : List Ent) : ents (e :: l) = e.cells ++ ents l := rfl
theorem ents_append (a b : List Ent) : ents (a ++ b) = ents a ++ ents b := by simp [ents]
@[simp] theorem ents_length (l : List Ent) : (ents l).length = l.length * 3 := by
  induction l with
  | nil => rfl
  | cons e l ih => rw [ents_cons, List.length_append, ih]; simp [Ent.cells]; omega
/-- Entry i. -/
def ent (l : List Ent) (i : Nat) : Ent := l.getD i ⟨0, 0, 0⟩
theorem ent_eq (l : List Ent) (i : Nat) (h : i < l.length) : ent l i = l[i] := by simp [ent, h]
theorem ents_get (l : List Ent) : ∀ (i : Nat), i < l.length → (ents l)[i * 3]? = some (.int .i64 (ent l i).s) ∧ (ents l)[i * 3 + 1]? = some (.int .i64 (ent l i).n) ∧ (ents l)[i * 3 + 2]? = some (.int .i64 (ent l i).p) := by
  induction l with
  | nil => intro i h; simp at h
  | cons e l ih =>
    intro i h
    cases i with
    | zero => simp [ents_cons, Ent.cells, ent]
    | succ i =>
      have := ih i (by simpa using h)
      rw [ents_cons, show (i + 1) * 3 = i * 3 + 3 by omega]
      simpa [Ent.cells, ent, List.getElem?_append_right] using this
/-- The cells of entry i, where a slice of entries lies. -/
theorem Row.ent {w : World} {v : Value} {l : List Ent} (h : Row w v l.length (ents l)) (hn : 0 < l.length) :
    ∃ g o c, v = .slice (some ⟨g, o, none⟩) l.length c ∧ l.length ≤ c ∧ c ≤ maxLen ∧ g < w.heap.size ∧ ∀ i, i < l.length → w.cell? ⟨g, o + i * 3, none⟩ = some (.int .i64 (ent l i).s) ∧ w.cell? ⟨g, o + i * 3 + 1, none⟩ = some (.int .i64 (ent l i).n) ∧ w.cell? ⟨g, o + i * 3 + 2, none⟩ = some (.int .i64 (ent l i).p) := by
  rcases h.open_ with ⟨h0, _⟩ | ⟨g, o, c, rfl, h1, h2, hc⟩
  · omega
  · have hh : ∀ i, i < l.length → w.cell? ⟨g, o + i * 3, none⟩ = some (.int .i64 (B.ent l i).s) ∧ w.cell? ⟨g, o + i * 3 + 1, none⟩ = some (.int .i64 (B.ent l i).n) ∧ w.cell? ⟨g, o + i * 3 + 2, none⟩ = some (.int .i64 (B.ent l i).p) := fun i hi => by
      obtain ⟨a, b, d⟩ := ents_get l i hi
      exact ⟨hc _ _ a, by rw [show o + i * 3 + 1 = o + (i * 3 + 1) by omega]; exact hc _ _ b, by rw [show o + i * 3 + 2 = o + (i * 3 + 2) by omega]; exact hc _ _ d⟩
    exact ⟨g, o, c, rfl, h1, h2, World.block_lt_of_cell? w _ (hh 0 hn).1, hh⟩
end Go.Proofs.Ytenbclcfhjdcaaa.B
