/- What a plan says. -/
import Derived.Test.YtenbclcfhjdcaaaAMr
namespace Go.Proofs.Ytenbclcfhjdcaaa.AM
open Go
section
variable {ops : Array Oper} {ord : List Nat} {q : Nat}
def opN (ops : Array Oper) (i : Nat) : Oper := ops.getD i default
def wts (ops : Array Oper) (i j : Nat) : Bool := ((Region.before ops).getD i 0).testBit j
structure PlanOk (ops : Array Oper) (ord : List Nat) (q : Nat) : Prop where
  len : ord.length = ops.size
  nodup : ord.Nodup
  lt : ∀ i ∈ ord, i < ops.size
  all : ∀ i, i < ops.size → i ∈ ord
  edge : ∀ i, i < ops.size → ∀ e ∈ (opN ops i).after, Region.binds .any e = true → e.on < ops.size ∧ ord.idxOf e.on < ord.idxOf i
  bef : ∀ i, i < ops.size → ∀ j, wts ops i j = true → ∃ e ∈ (opN ops i).after, Region.binds .any e = true ∧ (e.on = j ∨ wts ops e.on j = true)
  quiet : ∀ k, k < ord.length → k < q → quietOp (opN ops (ord.getD k 0)).op = true ∧ (appendOp (opN ops (ord.getD k 0)).op = true → ∀ j, j < k → pureOp (opN ops (ord.getD j 0)).op = false → wts ops (ord.getD k 0) (ord.getD j 0) = true)
  tail : ∀ k, k < ord.length → q ≤ k → pureOp (opN ops (ord.getD k 0)).op = false → ∀ j, j < k → pureOp (opN ops (ord.getD j 0)).op = false → wts ops (ord.getD k 0) (ord.getD j 0) = true
  qle : q ≤ ord.length
  tmps : ∀ i j, i < ops.size → j < ops.size → i ≠ j → ∀ d, (opN ops i).dst = some d → d ∈ namesOf ops (opN ops j) → wts ops i j = true ∨ wts ops j i = true
theorem pow_bit {i j : Nat} (h : (2 ^ i).testBit j = true) : i = j := by
  rw [Nat.testBit_two_pow] at h
  simpa using h
theorem ahead_mem {k j : Nat} (hk : k < ord.length) (hj : j < k) : ord.getD j 0 ∈ ord.take k := by
  have : ord.getD j 0 = (ord.take k)[j]'(by simp; omega) := by
    rw [List.getElem_take, List.getD_eq_getElem?_getD, List.getElem?_eq_getElem (by omega)]; rfl
  rw [this]; exact List.getElem_mem _
theorem planOk_spec (h : planOk ops ord q = true) : PlanOk ops ord q := by
  unfold planOk at h
  simp only [Bool.and_eq_true, List.all_eq_true, List.mem_range, decide_eq_true_eq, beq_iff_eq] at h
  obtain ⟨⟨⟨⟨⟨⟨⟨h1, h2⟩, h3⟩, h8⟩, h4⟩, h5⟩, h6⟩, h7⟩ := h
  refine ⟨h1, h2, h3, fun i hi => by simpa using h8 i hi, fun i hi e he hb => ?_, fun i hi j hw => ?_, fun k hk hq => ?_, fun k hk hq hp j hj hpj => ?_, h6, fun i j hi hj hne d hd hm => ?_⟩
  · have := (h4 i hi).1
    rw [Array.all_eq_true] at this
    obtain ⟨x, hx, rfl⟩ := Array.getElem_of_mem he
    have := this x hx
    change Region.binds .any ((ops.getD i default).after[x]) = true at hb
    rw [hb] at this
    simp only [Bool.not_true, Bool.false_or, Bool.and_eq_true, decide_eq_true_eq] at this
    exact this
  · have := (h4 i hi).2
    unfold wts at hw
    rw [this] at hw
    rcases or_bits _ _ hw with h | ⟨e, g1, g2, g3⟩
    · simp at h
    · refine ⟨e, Array.mem_toList_iff.1 g1, g2, ?_⟩
      rcases g3 with g3 | g3
      · exact .inl (pow_bit g3)
      · exact .inr g3
  · have := h5 k hk
    rw [if_pos hq] at this
    simp only [Bool.and_eq_true, Bool.or_eq_true, Bool.not_eq_true', List.all_eq_true, List.mem_filter] at this
    refine ⟨this.1, fun ha j hj hpj => ?_⟩
    rcases this.2 with g | g
    · rw [show (ops.getD (ord.getD k 0) default).op = (opN ops (ord.getD k 0)).op from rfl, ha] at g; cases g
    · exact g _ ⟨ahead_mem hk hj, hpj⟩
  · have := h5 k hk
    rw [if_neg (by omega)] at this
    simp only [Bool.or_eq_true, List.all_eq_true, List.mem_filter, Bool.not_eq_true'] at this
    rcases this with g | g
    · rw [show (ops.getD (ord.getD k 0) default).op = (opN ops (ord.getD k 0)).op from rfl, hp] at g; cases g
    · exact g _ ⟨ahead_mem hk hj, hpj⟩
  · have := h7 i hi j hj
    rw [show (ops.getD i default).dst = (opN ops i).dst from rfl, hd] at this
    simp only [Bool.or_eq_true, beq_iff_eq, Bool.not_eq_true', List.contains_eq_mem, decide_eq_false_iff_not] at this
    rcases this with ((g | g) | g) | g
    · exact absurd g hne
    · exact .inl g
    · exact .inr g
    · exact absurd hm g
theorem plan_spec (h : plan ops = some (ord, q)) : PlanOk ops ord q := by
  unfold plan at h
  dsimp only at h
  split at h
  · rename_i hp; cases h; exact planOk_spec hp
  · split at h
    · rename_i hp; cases h; exact planOk_spec hp
    · cases h
/-- The place of an operation. -/
theorem PlanOk.get (h : PlanOk ops ord q) {k : Nat} (hk : k < ops.size) : ord.getD k 0 < ops.size ∧ ord.idxOf (ord.getD k 0) = k := by
  have hk' : k < ord.length := by rw [h.len]; exact hk
  have e : ord.getD k 0 = ord[k] := by rw [List.getD_eq_getElem?_getD, List.getElem?_eq_getElem hk']; rfl
  rw [e]
  exact ⟨h.lt _ (List.getElem_mem _), List.Nodup.idxOf_getElem h.nodup k hk'⟩
theorem PlanOk.place (h : PlanOk ops ord q) {i : Nat} (hi : i < ops.size) : ord.idxOf i < ops.size ∧ ord.getD (ord.idxOf i) 0 = i := by
  have hm : i ∈ ord := h.all i hi
  have hl := List.idxOf_lt_length_of_mem hm
  refine ⟨by rw [← h.len]; exact hl, ?_⟩
  rw [List.getD_eq_getElem?_getD, List.getElem?_eq_getElem hl]
  simp
/-- What is waited for stands ahead. -/
theorem PlanOk.wts_lt (h : PlanOk ops ord q) : ∀ (n i j : Nat), ord.idxOf i < n → i < ops.size → wts ops i j = true → j < ops.size ∧ ord.idxOf j < ord.idxOf i
  | 0, i, j, hn, _, _ => absurd hn (Nat.not_lt_zero _)
  | n + 1, i, j, hn, hi, hw => by
    obtain ⟨e, he, hb, hh⟩ := h.bef i hi j hw
    obtain ⟨h1, h2⟩ := h.edge i hi e he hb
    rcases hh with rfl | hh
    · exact ⟨h1, h2⟩
    · obtain ⟨h3, h4⟩ := PlanOk.wts_lt h n e.on j (by omega) h1 hh
      exact ⟨h3, by omega⟩
end
end Go.Proofs.Ytenbclcfhjdcaaa.AM
