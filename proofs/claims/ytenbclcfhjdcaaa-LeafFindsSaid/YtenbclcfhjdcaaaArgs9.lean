/- What the arguments of the leaf laws read as. -/
import Derived.Test.YtenbclcfhjdcaaaRead
import Derived.Test.YtenbclcfhjdcaaaLeafP
namespace Go.Proofs.Ytenbclcfhjdcaaa
open Go Go.RowKit B
variable {H : Type} {enc : TypeId × Value → H}
/-- A struct of two fields: its cells are the first field's and the second's. -/
theorem rd_two {P : Program} {w : World} {t : TypeId} {f0 f1 : Field} {cs : List Value} (h : Rd enc P w t cs) (ht : P.underlying t = some (.struct #[f0, f1])) {a b : Nat} (o0 : f0.offset = 0) (c0 : P.cellsOf f0.type = a) (o1 : f1.offset = a) (c1 : P.cellsOf f1.type = b) (hc : P.cellsOf t = a + b) :
    ∃ x y, cs = x ++ y ∧ x.length = a ∧ y.length = b ∧ Rd enc P w f0.type x ∧ Rd enc P w f1.type y := by
  obtain ⟨hl, h0, h1⟩ := h.struct2 ht
  rw [o0, c0, List.drop_zero] at h0
  rw [o1, c1] at h1
  have e1 : (cs.drop a).take b = cs.drop a := List.take_of_length_le (by simp; omega)
  rw [e1] at h1
  exact ⟨cs.take a, cs.drop a, (List.take_append_drop a cs).symm, by simp; omega, by simp; omega, h0, h1⟩
theorem rd_key {w : World} {cs : List Value} (h : Rd enc Try.prog w 39 cs) : ∃ s n : Int, cs = [.int .i64 s, .int .i64 n] := by
  obtain ⟨x, y, rfl, _, _, hx, hy⟩ := rd_two h Try.underlying39 (a := 1) (b := 1) rfl (by kernel_rfl) rfl (by kernel_rfl) (by kernel_rfl)
  obtain ⟨s, rfl, _⟩ := hx.int Try.underlying3
  obtain ⟨n, rfl, _⟩ := hy.int Try.underlying3
  exact ⟨s, n, rfl⟩
theorem rd_entry {w : World} {cs : List Value} (h : Rd enc Try.prog w 51 cs) : ∃ e : Ent, cs = e.cells := by
  obtain ⟨x, y, rfl, _, _, hx, hy⟩ := rd_two h Try.underlying51 (a := 2) (b := 1) rfl (by kernel_rfl) rfl (by kernel_rfl) (by kernel_rfl)
  obtain ⟨s, n, rfl⟩ := rd_key hx
  obtain ⟨p, rfl, _⟩ := hy.int Try.underlying3
  exact ⟨⟨s, n, p⟩, rfl⟩
theorem rd_entries {w : World} {cs : List Value} (h : Rd enc Try.prog w 35 cs) : ∃ v, ∃ l : List Ent, cs = [v] ∧ Row w v l.length (ents l) := by
  obtain ⟨v, n, es, rfl, rfl, hr, he⟩ := h.slice Try.underlying35 (by kernel_rfl : Try.prog.cellsOf 51 = 3) (by omega)
  have hf : ∀ l : List (List Value), (∀ i (h : i < l.length), l[i].length = 3 ∧ Rd enc Try.prog w 51 l[i]) → ∃ m : List Ent, m.length = l.length ∧ l.flatten = ents m := by
    intro l
    induction l with
    | nil => exact fun _ => ⟨[], rfl, rfl⟩
    | cons a l ih =>
      intro h
      obtain ⟨m, h1, h2⟩ := ih (fun i hi => h (i + 1) (by simpa using hi))
      obtain ⟨e, he⟩ := rd_entry (h 0 (by simp)).2
      refine ⟨e :: m, by simp [h1], ?_⟩
      rw [List.flatten_cons, h2, ents_cons, ← he]
      rfl
  obtain ⟨m, h1, h2⟩ := hf es he
  exact ⟨v, m, rfl, by rw [h1, ← h2]; exact hr⟩
theorem rd_node {w : World} {cs : Array Value} (h : Rd enc Try.prog w 37 cs.toList) : ∃ lf v, ∃ l : List Ent, cs = #[.bool lf, v] ∧ Row w v l.length (ents l) := by
  obtain ⟨x, y, e, _, _, hx, hy⟩ := rd_two h Try.underlying37 (a := 1) (b := 1) rfl (by kernel_rfl) rfl (by kernel_rfl) (by kernel_rfl)
  obtain ⟨lf, rfl⟩ := hx.bool Try.underlying4
  obtain ⟨v, l, rfl, hr⟩ := rd_entries hy
  exact ⟨lf, v, l, by rw [← Array.toArray_toList (xs := cs), e]; rfl, hr⟩
theorem rd_keyA {w : World} {cs : Array Value} (h : Rd enc Try.prog w 39 cs.toList) : ∃ s n : Int, cs = #[.int .i64 s, .int .i64 n] := by
  obtain ⟨s, n, e⟩ := rd_key h
  exact ⟨s, n, by rw [← Array.toArray_toList (xs := cs), e]⟩
theorem rd_entryA {w : World} {cs : Array Value} (h : Rd enc Try.prog w 51 cs.toList) : ∃ e : Ent, cs = #[.int .i64 e.s, .int .i64 e.n, .int .i64 e.p] := by
  obtain ⟨e, he⟩ := rd_entry h
  exact ⟨e, by rw [← Array.toArray_toList (xs := cs), he]; rfl⟩
end Go.Proofs.Ytenbclcfhjdcaaa
