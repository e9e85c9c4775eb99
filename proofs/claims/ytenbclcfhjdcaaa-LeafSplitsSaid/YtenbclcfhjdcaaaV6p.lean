/- Halves of a right node are right. -/
import Derived.Test.YtenbclcfhjdcaaaV6
namespace Go.Proofs.Ytenbclcfhjdcaaa.VM
open Go Go.Proofs AM B
theorem ent_take {l : List Ent} {k i : Nat} (h : i < k) : ent (l.take k) i = ent l i := by
  unfold ent
  simp [List.getD_eq_getElem?_getD, List.getElem?_take, h]
theorem ent_drop {l : List Ent} {k i : Nat} : ent (l.drop k) i = ent l (k + i) := by
  unfold ent
  simp [List.getD_eq_getElem?_getD, List.getElem?_drop]
theorem chk_of {a : Bool} {l : List Ent} (h1 : l.length ≤ 16) (h2 : allR l = true) (h3 : rise l = true) (h4 : l ≠ []) : chk a l = 0 := by
  unfold chk
  rw [if_neg (by omega), h2, h3]
  simp
  intro _ h; exact absurd h h4
theorem allR_take {l : List Ent} {k : Nat} (h : allR l = true) : allR (l.take k) = true := by
  unfold allR at *
  rw [List.all_eq_true] at *
  exact fun x hx => h x (List.mem_of_mem_take hx)
theorem allR_drop {l : List Ent} {k : Nat} (h : allR l = true) : allR (l.drop k) = true := by
  unfold allR at *
  rw [List.all_eq_true] at *
  exact fun x hx => h x (List.mem_of_mem_drop hx)
theorem rise_take {l : List Ent} {k : Nat} (h : rise l = true) : rise (l.take k) = true := by
  rw [rise_true] at *
  intro i h0 hi
  rw [List.length_take] at hi
  rw [ent_take (by omega), ent_take (by omega)]
  exact h i h0 (by omega)
theorem rise_drop {l : List Ent} {k : Nat} (h : rise l = true) : rise (l.drop k) = true := by
  rw [rise_true] at *
  intro i h0 hi
  rw [List.length_drop] at hi
  rw [ent_drop, ent_drop]
  have := h (k + i) (by omega) (by omega)
  rwa [show k + i - 1 = k + (i - 1) by omega] at this
theorem chk_ok {a : Bool} {L : List Ent} (h : chk a L = 0) : L.length ≤ 16 ∧ allR L = true ∧ rise L = true ∧ ¬ (a = false ∧ L.length = 0) := by
  unfold chk at h
  split at h
  · cases h
  · split at h
    · cases h
    · split at h
      · cases h
      · split at h
        · cases h
        · rename_i h1 h2 h3 h4
          exact ⟨by omega, by simpa using h2, by simpa using h3, h4⟩
theorem split_merge {a : Bool} {l : List Ent} (h : chk a l = 0) (h2 : 2 ≤ l.length) : mergeE a a (l.take (l.length / 2)) (l.drop (l.length / 2)) = 0 := by
  obtain ⟨l1, r1, s1, _⟩ := chk_ok h
  have e1 : chk a (l.take (l.length / 2)) = 0 := chk_of (by rw [List.length_take]; omega) (allR_take r1) (rise_take s1) (by intro e; have := congrArg List.length e; rw [List.length_take] at this; simp only [List.length_nil] at this; omega)
  have e2 : chk a (l.drop (l.length / 2)) = 0 := chk_of (by rw [List.length_drop]; omega) (allR_drop r1) (rise_drop s1) (by intro e; have := congrArg List.length e; rw [List.length_drop] at this; simp only [List.length_nil] at this; omega)
  unfold mergeE
  rw [e1, e2, List.take_append_drop, s1]
  simp
  omega
theorem merge_chk {a : Bool} {L M : List Ent} (h1 : chk a L = 0) (h2 : chk a M = 0) (h : ¬ 16 < L.length + M.length) : mergeE a a L M = chk a (L ++ M) := by
  obtain ⟨l1, r1, _, n1⟩ := chk_ok h1
  obtain ⟨l2, r2, _, n2⟩ := chk_ok h2
  have hr : allR (L ++ M) = true := by
    unfold allR at *
    rw [List.all_append, r1, r2]; rfl
  have hn : ¬ (a = false ∧ (L ++ M).length = 0) := fun ⟨ha, hl⟩ => n1 ⟨ha, by rw [List.length_append] at hl; omega⟩
  unfold mergeE
  conv => rhs; unfold chk
  rw [if_neg (by simpa using h1), if_neg (by simpa using h2), if_neg (by simp), hr, if_neg hn]
  rw [List.length_append, if_neg h, if_neg h]
  simp
end Go.Proofs.Ytenbclcfhjdcaaa.VM
