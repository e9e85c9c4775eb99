/- What a law's arguments are for the machine of values. -/
import Derived.Test.YtenbclcfhjdcaaaRead
import Derived.Test.YtenbclcfhjdcaaaV2
import Derived.Test.YtenbclcfhjdcaaaVMo
namespace Go.Proofs.Ytenbclcfhjdcaaa.VM
open Go Go.Proofs Go.RowKit Go.WideShapes Go.ChangeShapes Go.Deep AM B
section
variable {H : Type} {enc : TypeId × Value → H} {P : Program} {w : World}
theorem rd_nil {t e : TypeId} {cs : List Value} (h : Rd enc P w t cs) (ht : P.underlying t = some (.slice e)) : ∃ v, cs = [v] ∧ (v = .slice none 0 0 ∨ ∃ a n c, v = .slice (some a) n c) := by
  obtain ⟨m, x, hm⟩ := h
  rcases open_slice ht hm with ⟨rfl, _⟩ | ⟨a, len, cap, mm, n, D, Pl, rfl, _⟩
  · exact ⟨_, rfl, .inl rfl⟩
  · exact ⟨_, rfl, .inr ⟨_, _, _, rfl⟩⟩
theorem rd_sliceV {t e : TypeId} {cs : List Value} {k : Nat} (Good : List V → Prop) (h : Rd enc P w t cs) (ht : P.underlying t = some (.slice e)) (hk : P.cellsOf e = k) (hk0 : 0 < k) (hk1 : k ≤ 1048576)
    (f : ∀ es, es.length = k → Rd enc P w e es → ∃ row : List V, row.length = k ∧ CellsV w row es ∧ Good row) : ∃ v kk rows, cs = [v] ∧ CellV w (.fsl kk k rows) v ∧ rows.length ≤ maxLen ∧ ∀ r ∈ rows, Good r := by
  obtain ⟨v0, hv0, hnil⟩ := rd_nil h ht
  obtain ⟨v, n, es, h1, h2, ⟨A, c, h3, h4, h5, h6⟩, h7⟩ := h.slice ht hk hk0
  have hvv : v0 = v := by rw [hv0] at h1; cases h1; rfl
  subst hvv
  have rows : ∀ es : List (List Value), (∀ i (h : i < es.length), es[i].length = k ∧ Rd enc P w e es[i]) → ∃ rows : List (List V), RowsV w k rows es.flatten ∧ rows.length = es.length ∧ ∀ r ∈ rows, Good r := by
    intro es
    induction es with
    | nil => exact fun _ => ⟨[], rfl, rfl, fun r hr => by simp at hr⟩
    | cons a es ih =>
      intro h
      obtain ⟨rows, r1, r2, r3⟩ := ih fun i hi => h (i + 1) (by simpa using hi)
      obtain ⟨row, q1, q2, q3⟩ := f a (h 0 (by simp)).1 (h 0 (by simp)).2
      refine ⟨row :: rows, ⟨a, es.flatten, by simp, q1, q2, r1⟩, by simp [r2], fun r hr => ?_⟩
      rcases List.mem_cons.1 hr with rfl | hr
      · exact q3
      · exact r3 r hr
  obtain ⟨rows, r1, r2, r3⟩ := rows es h7
  obtain ⟨kk, hc⟩ := CellV.slice (A := A) (n := n) (c := c) hk0 hk1 (fun hA => by
    rcases hnil with hq | ⟨a, n', c', hq⟩
    · rw [h3] at hq; cases hq; exact ⟨rfl, rfl⟩
    · rw [h3, hA] at hq; cases hq) h4 h5 (by omega) r1 h6
  exact ⟨v0, kk, rows, h1, by rw [h3]; exact hc, by omega, r3⟩
theorem rd_two {t : TypeId} {f0 f1 : Field} {cs : List Value} (h : Rd enc P w t cs) (ht : P.underlying t = some (.struct #[f0, f1])) {a b : Nat} (o0 : f0.offset = 0) (c0 : P.cellsOf f0.type = a) (o1 : f1.offset = a) (c1 : P.cellsOf f1.type = b) (hc : P.cellsOf t = a + b) :
    ∃ x y, cs = x ++ y ∧ x.length = a ∧ y.length = b ∧ Rd enc P w f0.type x ∧ Rd enc P w f1.type y := by
  obtain ⟨hl, h0, h1⟩ := h.struct2 ht
  rw [o0, c0, List.drop_zero] at h0
  rw [o1, c1] at h1
  have e1 : (cs.drop a).take b = cs.drop a := List.take_of_length_le (by simp; omega)
  rw [e1] at h1
  exact ⟨cs.take a, cs.drop a, (List.take_append_drop a cs).symm, by simp; omega, by simp; omega, h0, h1⟩
end
section
variable {H : Type} {enc : TypeId × Value → H}
theorem rd_key {w : World} {cs : List Value} (h : Rd enc Try.prog w 39 cs) : ∃ s n : Int, cs = [.int .i64 s, .int .i64 n] := by
  obtain ⟨x, y, rfl, _, _, hx, hy⟩ := rd_two h Try.underlying39 (a := 1) (b := 1) rfl (by kernel_rfl) rfl (by kernel_rfl) (by kernel_rfl)
  obtain ⟨s, rfl, _⟩ := hx.int Try.underlying3
  obtain ⟨n, rfl, _⟩ := hy.int Try.underlying3
  exact ⟨s, n, rfl⟩
theorem rd_entry {w : World} {cs : List Value} (h : Rd enc Try.prog w 51 cs) : ∃ e : Ent, cs = [.int .i64 e.s, .int .i64 e.n, .int .i64 e.p] := by
  obtain ⟨x, y, rfl, _, _, hx, hy⟩ := rd_two h Try.underlying51 (a := 2) (b := 1) rfl (by kernel_rfl) rfl (by kernel_rfl) (by kernel_rfl)
  obtain ⟨s, n, rfl⟩ := rd_key hx
  obtain ⟨p, rfl, _⟩ := hy.int Try.underlying3
  exact ⟨⟨s, n, p⟩, rfl⟩
theorem int3 {w : World} {a b c : Int} : CellsV w [i6 a, i6 b, i6 c] [.int .i64 a, .int .i64 b, .int .i64 c] := ⟨_, _, rfl, .lit rfl, _, _, rfl, .lit rfl, _, _, rfl, .lit rfl, rfl⟩
theorem rows_ec : ∀ {rows : List (List V)}, (∀ r ∈ rows, ∃ e, r = ec e) → ∃ l : List Ent, rows = l.map ec
  | [], _ => ⟨[], rfl⟩
  | r :: rs, h => by
    obtain ⟨e, he⟩ := h r (by simp)
    obtain ⟨l, hl⟩ := rows_ec (rows := rs) fun x hx => h x (by simp [hx])
    exact ⟨e :: l, by rw [he, hl]; rfl⟩
/-- A node. -/
theorem arg_node {w : World} {cs : Array Value} (h : Rd enc Try.prog w 37 cs.toList) : ∃ a kk, ∃ l : List Ent, l.length < 2 ^ 63 ∧ ArgV w (.agg [bo a, ES kk l]) (.agg cs) := by
  obtain ⟨x, y, e, _, _, hx, hy⟩ := rd_two h Try.underlying37 (a := 1) (b := 1) rfl (by kernel_rfl) rfl (by kernel_rfl) (by kernel_rfl)
  obtain ⟨lf, rfl⟩ := hx.bool Try.underlying4
  obtain ⟨v, kk, rows, rfl, hc, hl, hg⟩ := rd_sliceV (fun r => ∃ e, r = ec e) hy Try.underlying35 (by kernel_rfl : Try.prog.cellsOf 51 = 3) (by omega) (by omega) (fun es h1 h2 => by
    obtain ⟨e, rfl⟩ := rd_entry h2
    exact ⟨ec e, rfl, int3, e, rfl⟩)
  obtain ⟨l, rfl⟩ := rows_ec hg
  refine ⟨lf, kk, l, by simp only [List.length_map, maxLen] at hl; omega, CellsV.arg ?_⟩
  rw [e]
  exact ⟨_, _, rfl, .lit rfl, _, _, rfl, hc, rfl⟩
theorem arg_entry {w : World} {cs : Array Value} (h : Rd enc Try.prog w 51 cs.toList) : ∃ e : Ent, ArgV w (.agg (ec e)) (.agg cs) := by
  obtain ⟨e, he⟩ := rd_entry h
  exact ⟨e, CellsV.arg (by rw [he]; exact int3)⟩
end
end Go.Proofs.Ytenbclcfhjdcaaa.VM
