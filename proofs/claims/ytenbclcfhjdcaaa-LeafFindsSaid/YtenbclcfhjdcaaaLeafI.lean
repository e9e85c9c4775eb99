/- Plain: where a key is among keys that rise. -/
import Derived.Test.YtenbclcfhjdcaaaLeafH
namespace Go.Proofs.Ytenbclcfhjdcaaa
open B
theorem at_exists (l : List Ent) (k : Ent) (h : rise l = true) : ∃ r, At l k r := by
  have : ∀ n, n ≤ l.length → ∃ r, r ≤ n ∧ (∀ t, t < r → lessE (ent l t) k = true) ∧ (r = n ∨ lessE (ent l r) k = false) := by
    intro n
    induction n with
    | zero => intro _; exact ⟨0, Nat.le_refl _, fun t ht => by omega, .inl rfl⟩
    | succ n ih =>
      intro hn
      obtain ⟨r, h1, h2, h3⟩ := ih (by omega)
      rcases h3 with h3 | h3
      · subst h3
        cases hc : lessE (ent l r) k with
        | true => exact ⟨r + 1, by omega, fun t ht => by rcases Nat.lt_or_ge t r with h | h; exact h2 t h; rw [show t = r by omega]; exact hc, .inl rfl⟩
        | false => exact ⟨r, by omega, h2, .inr hc⟩
      · exact ⟨r, by omega, h2, .inr h3⟩
  obtain ⟨r, h1, h2, h3⟩ := this l.length (Nat.le_refl _)
  refine ⟨r, h1, h2, fun t ht htl => ?_⟩
  rcases h3 with h3 | h3
  · omega
  · rcases Nat.lt_or_ge r t with h4 | h4
    · exact not_less_mono (rise_lt h t r h4 htl) h3
    · rw [show t = r by omega]; exact h3
theorem at_unique {l : List Ent} {k : Ent} {r s : Nat} (h : At l k r) (g : At l k s) : r = s := by
  rcases Nat.lt_trichotomy r s with h1 | h1 | h1
  · have a := g.below r h1
    have b := h.above r (Nat.le_refl _) (by have := g.le; omega)
    rw [a] at b; cases b
  · exact h1
  · have a := h.below s h1
    have b := g.above s (Nat.le_refl _) (by have := h.le; omega)
    rw [a] at b; cases b
theorem placeK_lt (a b : Ent) (ha : rightK a.s a.n = true) (hb : rightK b.s b.n = true) : (place a < place b) ↔ lessE a b = true := by
  simp [rightK, lessE, lessK, place] at *
  omega
theorem placeK_bound (a : Ent) (ha : rightK a.s a.n = true) : 0 ≤ place a ∧ place a ≤ 1048575 := by
  simp [rightK, place] at *
  omega
theorem ok_key {a : Ent} (h : okE a = true) : rightK a.s a.n = true := by
  simp [okE, rightE, rightK] at *
  omega
open Go.RowKit in
theorem ref09_PlaceK (e : Ent) (w : World) (h : rightK e.s e.n = true) :
    Calls Try.prog 26 #[.agg #[.int .i64 e.s, .int .i64 e.n]] w fun en w' => en = .returned (.int .i64 (place e)) ∧ Below w.heap.size w w' := by
  have k := ref09_Place e.s e.n w
  have e1 : wrap64 (wrap64 (65536 * e.s) + e.n) = place e := by
    simp [rightK] at h
    unfold place
    unfold wrap64
    omega
  rw [e1] at k
  exact k
/-- The place of entry j against that of a key. -/
theorem at_cases {l : List Ent} {k : Ent} {r : Nat} (h : At l k r) (hr : rise l = true) (ha : allR l = true) (hk : rightK k.s k.n = true) (j : Nat) (hj : j < l.length) :
    (j < r ∧ place (ent l j) < place k ∧ lessE (ent l j) k = true ∧ lessE k (ent l j) = false) ∨
    (j = r ∧ isAt l k r = true ∧ place (ent l j) = place k ∧ lessE (ent l j) k = false ∧ lessE k (ent l j) = false) ∨
    (r ≤ j ∧ (j = r → isAt l k r = false) ∧ place k < place (ent l j) ∧ lessE (ent l j) k = false ∧ lessE k (ent l j) = true) := by
  have hj1 := ok_key (allR_true.1 ha j hj)
  have p1 := placeK_lt (ent l j) k hj1 hk
  have p2 := placeK_lt k (ent l j) hk hj1
  rcases Nat.lt_or_ge j r with h1 | h1
  · left
    have h2 := h.below j h1
    have h3 := p1.2 h2
    refine ⟨h1, h3, h2, ?_⟩
    cases hc : lessE k (ent l j) with
    | false => rfl
    | true => have := p2.2 hc; omega
  · right
    have h2 := h.above j h1 hj
    have h3 : ¬ place (ent l j) < place k := fun e => by rw [p1.1 e] at h2; cases h2
    by_cases he : place (ent l j) = place k
    · left
      have hjr : j = r := by
        rcases Nat.lt_or_ge r j with h4 | h4
        · have a := rise_lt hr j r h4 hj
          have b := h.above r (Nat.le_refl _) (by omega)
          have hr1 := ok_key (allR_true.1 ha r (by omega))
          have c := (placeK_lt _ _ hr1 hj1).2 a
          have d : ¬ place (ent l r) < place k := fun e => by rw [(placeK_lt _ _ hr1 hk).1 e] at b; cases b
          omega
        · omega
      refine ⟨hjr, ?_, he, h2, ?_⟩
      · subst hjr
        simp [rightK] at hj1 hk
        simp only [place] at he
        simp [isAt]
        omega
      · cases hc : lessE k (ent l j) with
        | false => rfl
        | true => have := p2.2 hc; omega
    · right
      refine ⟨h1, fun e => ?_, by omega, h2, p2.1 (by omega)⟩
      subst e
      cases hi : isAt l k j with
      | false => rfl
      | true =>
        simp [isAt] at hi
        simp only [place] at he
        rw [hi.2.1, hi.2.2] at he
        exact absurd rfl he
/-- How many entries are not above a key. -/
def upto (l : List Ent) (k : Ent) (r : Nat) : Nat := if isAt l k r then r + 1 else r
theorem child_upto (l : List Ent) (k : Ent) (r : Nat) : childAt l k r = ((upto l k r - 1 : Nat) : Int) := by
  unfold childAt upto
  cases isAt l k r
  · by_cases h : r = 0
    · simp [h]
    · simp [h]; omega
  · simp
end Go.Proofs.Ytenbclcfhjdcaaa
