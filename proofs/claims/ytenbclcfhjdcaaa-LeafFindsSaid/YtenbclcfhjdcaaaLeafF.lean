/- To and Of: a node of the reference as one of leaf, there and back. -/
import Derived.Test.YtenbclcfhjdcaaaLeafE
import Derived.Deep.RegionLaw
namespace Go.Proofs.Ytenbclcfhjdcaaa
open Go.RowKit B
theorem infoEnt : (Try.prog.info? 54).map (fun i => (i.zero, i.size, i.bytes)) = some (some (.agg #[.int .i64 0, .int .i64 0, .int .i64 0]), 3, 24) := by kernel_rfl
theorem infoREnt : (Try.prog.info? 51).map (fun i => (i.zero, i.size, i.bytes)) = some (some (.agg #[.int .i64 0, .int .i64 0, .int .i64 0]), 3, 24) := by kernel_rfl
/-- A struct of a bool and a slice that the call owns, in block bb, while the slice grows; w0: the world where that began. -/
structure TN (T E : TypeId) (bb : Nat) (w0 wr : World) (lf : Bool) (v : Value) (n : Nat) (xs : List Ent) : Prop where
  blk : wr.heap[bb]? = some (.cells #[.bool lf, v] T (0, 0))
  own : wr.ownsRow w0.heap.size E 3 v n (ents xs)
  grw : w0.grownBy wr (some bb)
  lt : bb < w0.heap.size
theorem TN.ne {T E : TypeId} {bb : Nat} {w0 wr : World} {lf : Bool} {v : Value} {n : Nat} {xs : List Ent} (h : TN T E bb w0 wr lf v n xs) : v.ownBlock ≠ some bb := fun e => by
  have := (h.own.lt _ e).1
  have := h.lt
  omega
theorem TN.below {T E : TypeId} {bb : Nat} {w0 wr w1 : World} {lf : Bool} {v : Value} {n : Nat} {xs : List Ent} (h : TN T E bb w0 wr lf v n xs) (hb : Below wr.heap.size wr w1) : TN T E bb w0 w1 lf v n xs :=
  ⟨(hb.block bb (heap_lt h.blk)).trans h.blk, own_below h.own hb, grown_trans h.grw (grown_below hb none) (.inr (fun k hk => by cases hk)), h.lt⟩
theorem TN.put {T E : TypeId} {bb : Nat} {w0 wr w1 : World} {lf : Bool} {v : Value} {n m g cap : Nat} {xs : List Ent} (h : TN T E bb w0 wr lf v n xs) {o : Obj} {x : Ent}
    (hown : w1.ownsRow w0.heap.size E 3 (.slice (some ⟨g, 0, none⟩) m cap) m (ents xs ++ x.cells)) (hg : (wr.alloc o).grownBy w1 v.ownBlock) :
    TN T E bb w0 (w1.setCell ⟨bb, 1, none⟩ (.slice (some ⟨g, 0, none⟩) m cap)) lf (.slice (some ⟨g, 0, none⟩) m cap) m (xs ++ [x]) := by
  have e1 := blk_far h.blk hg h.ne
  have ng : g ≠ bb := by
    have := (hown.lt g rfl).1
    have := h.lt
    omega
  have o1 := own_set hown ⟨bb, 1, none⟩ (.slice (some ⟨g, 0, none⟩) m cap) (by simpa [Value.ownBlock] using ng)
  have bk := heap_set_same (o := 1) e1 (.slice (some ⟨g, 0, none⟩) m cap)
  rw [show ents xs ++ x.cells = ents (xs ++ [x]) by rw [ents_append]; simp [ents]] at o1
  exact ⟨bk, o1, grown_trans (grown_trans (grown_alloc h.grw o) hg (.inr fun k hk => (h.own.lt k hk).1)) (grown_set _ _ _) (.inl rfl), h.lt⟩
set_option maxRecDepth 100000 in
theorem law09_To (lf : Bool) (v : Value) (l : List Ent) (w : World) (h : Row w v l.length (ents l)) :
    Calls Try.prog 20 #[.agg #[.bool lf, v]] w fun e w' => ∃ v', e = .returned (.agg #[.bool lf, v']) ∧ Row w' v' (l.take 18).length (ents (l.take 18)) ∧ Below w.heap.size w w' := by
  obtain ⟨i0, hi0, hz0, hz1, hz2⟩ := info_parts infoEnt
  have R := Keep.mk (Below.refl w.heap.size w)
  have H0 := Keep.mk h
  obtain ⟨A, c, rfl, h1, h2, _⟩ := h
  unfold maxLen at h2
  have hlen : (l.length : Int) ≤ 9223372036854775807 := by omega
  go_enter Try.func20, Try.ntmps20
  go_wp2_with fail
  have T0 : TN 42 54 (w.heap.size + 1 + 1) (((w.alloc (.cells #[.bool lf, .slice A l.length c] 37)).alloc (.cells #[.bool false, .slice none 0 0] 42)).alloc (.cells #[.bool lf, .slice none 0 0] 42)) (((w.alloc (.cells #[.bool lf, .slice A l.length c] 37)).alloc (.cells #[.bool false, .slice none 0 0] 42)).alloc (.cells #[.bool lf, .slice none 0 0] 42)) lf (.slice none 0 0) 0 [] :=
    ⟨new_blk (by simp), own_nil' _ _ _ _, ⟨rfl, rfl, rfl, Nat.le_refl _, fun _ _ _ => rfl⟩, by simp⟩
  have B0 : Below w.heap.size w (((w.alloc (.cells #[.bool lf, .slice A l.length c] 37)).alloc (.cells #[.bool false, .slice none 0 0] 42)).alloc (.cells #[.bool lf, .slice none 0 0] 42)) := balloc (balloc (balloc R.out _) _) _
  have C1 : (((w.alloc (.cells #[.bool lf, .slice A l.length c] 37)).alloc (.cells #[.bool false, .slice none 0 0] 42)).alloc (.cells #[.bool lf, .slice none 0 0] 42)).heap[w.heap.size]? = some (.cells #[.bool lf, .slice A l.length c] 37) := by
    rw [heap_alloc_old _ _ (by simp; omega), heap_alloc_old _ _ (by simp)]; exact new_blk rfl
  have C2 : (((w.alloc (.cells #[.bool lf, .slice A l.length c] 37)).alloc (.cells #[.bool false, .slice none 0 0] 42)).alloc (.cells #[.bool lf, .slice none 0 0] 42)).heap[w.heap.size + 1]? = some (.cells #[.bool false, .slice none 0 0] 42) := by
    rw [heap_alloc_old _ _ (by simp)]; exact new_blk (by simp)
  generalize ((w.alloc (.cells #[.bool lf, .slice A l.length c] 37)).alloc (.cells #[.bool false, .slice none 0 0] 42)).alloc (.cells #[.bool lf, .slice none 0 0] 42) = w0 at *
  have HT0 := Keep.mk T0
  have HC := Keep.mk (And.intro B0 (And.intro C1 C2))
  clear T0 B0 C1 C2
  go_loopw [4] (fun i wr => ∃ (k : Nat) (v : Value), i = .int .i64 k ∧ k ≤ l.length ∧ k ≤ 18 ∧ Keep (TN 42 54 (w.heap.size + 1 + 1) w0 wr lf v k (l.take k))) (fun i _ => 18 - (intOf i).toNat)
  case atStart => exact ⟨0, _, rfl, Nat.zero_le _, Nat.zero_le _, HT0⟩
  case round =>
    obtain ⟨k, v, rfl, hk, hk18, I⟩ := hrel
    have c1 : wr.cell? ⟨w.heap.size, 1, none⟩ = some (.slice A l.length c) := gcell I.out.grw (by rw [cell_of_row _ _ _ _ _ _ HC.out.2.1]; rfl) (by simp; omega)
    have c2 : wr.cell? ⟨w.heap.size + 1 + 1, 1, none⟩ = some v := by rw [cell_of_row _ _ _ _ _ _ I.out.blk]; rfl
    have f2 : wr.frozen? ⟨w.heap.size + 1 + 1, 1, none⟩ = false := unfrozen I.out.blk
    by_cases hcc : k < l.length ∧ k < 18
    · obtain ⟨hlt, hlt18⟩ := hcc
      obtain ⟨g, o, c', e, _, _, hgl, hc⟩ := H0.out.ent (by omega)
      cases e
      obtain ⟨e1, e2, e3⟩ := hc k hlt
      have hBw : Below w.heap.size w wr := below_grown HC.out.1 I.out.grw HC.out.1.size (by omega)
      have e1 := kc hBw e1
      have e2 := kc hBw e2
      have e3 := kc hBw e3
      have hsz := heap_lt I.out.blk
      have hsz0 := I.out.grw.size
      clear hc hBw
      have ik0 : (0 : Int) ≤ (k : Int) := by omega
      have ik1 : (k : Int) < (l.length : Int) := by omega
      obtain ⟨A3, c3, rfl⟩ := own_slice I.out.own
      go_wp2_with fail
      go_region_law (first | (refine step1n (by rfl) _ _ _ (by rfl) w0.heap.size 54 54 i0 _ 3 24 Try.underlying40 hi0 hz0 hz1 hz2 rfl (by omega) _ k _ (by rfl) KT.out.own (ent l k).cells (by rfl) rfl (by simp [Ent.cells, Value.oneCell']) (by omega) (by omega) (by have := KT.out.grw.size; omega) ?_; intro g3 cap3 w3 hown hg3 hat; have d2 := unfrozen (o := 1) (blk_far KT.out.blk hg3 KT.out.ne); have d3 : w3.cell? ⟨w.heap.size + 1 + 1, 1, none⟩ = some (.slice A3 k c3) := (by rw [cell_of_row _ _ _ _ _ _ (blk_far KT.out.blk hg3 KT.out.ne)]; rfl); have K3 := Keep.mk (KT.out.put hown hg3); clear hown hg3 hat) | (go_simp; go_at_call 45; refine (law09_entry _ _ _ _).mono ?_; rintro e w' ⟨rfl, hb⟩; have KT := Keep.mk ((I.out.below ((Below.refl _ _).drew)).below hb); have t2 := kc hb (a := ⟨w.heap.size + 1 + 1, 1, none⟩) c2; have hs2 := heap_lt KT.out.blk; have hn2 : w'.heap.size ≠ w.heap.size + 1 + 1 := (by omega); have hn3 : w.heap.size + 1 + 1 ≠ w'.heap.size := (by omega); clear hb))
      all_goals go_wp2
      all_goals
        have e := K3.out
        rw [show l.take k ++ [ent l k] = l.take (k + 1) by rw [List.take_succ_eq_append_getElem hlt, ent_eq _ _ hlt]] at e
        exact ⟨⟨k + 1, _, by go_num, by omega, by omega, ⟨e⟩⟩, by simp [intOf]; omega⟩
    · have hmin : l.take k = l.take 18 := by
        rcases Nat.lt_or_ge k 18 with h | h
        · rw [List.take_of_length_le (by omega), List.take_of_length_le (by omega)]
        · rw [show k = 18 by omega]
      have hT : (l.take 18).length = k := by rw [← hmin]; simp; omega
      have HM := Keep.mk (And.intro hmin hT)
      clear hmin hT
      obtain ⟨A3, c3, rfl⟩ := own_slice I.out.own
      have b0 : wr.cell? ⟨w.heap.size + 1 + 1, 0, none⟩ = some (.bool lf) := by rw [cell_of_row _ _ _ _ _ _ I.out.blk]; rfl
      have eR := (I.out.grw.block (w.heap.size + 1) (by have := I.out.lt; omega) (by simp)).trans HC.out.2.2
      have r0 : wr.cell? ⟨w.heap.size + 1, 0, none⟩ = some (.bool false) := by rw [cell_of_row _ _ _ _ _ _ eR]; rfl
      have r1 : wr.cell? ⟨w.heap.size + 1, 1, none⟩ = some (.slice none 0 0) := by rw [cell_of_row _ _ _ _ _ _ eR]; rfl
      have f0 : wr.frozen? ⟨w.heap.size + 1, 0, none⟩ = false := unfrozen eR
      have f1 : wr.frozen? ⟨w.heap.size + 1, 1, none⟩ = false := unfrozen eR
      have hBw : Keep (Below w.heap.size w wr) := ⟨below_grown HC.out.1 I.out.grw HC.out.1.size (by omega)⟩
      have HF : ¬ (k < l.length) ∨ (k < l.length ∧ ¬ k < 18) := by omega
      clear hcc eR
      rcases HF with h1 | ⟨h1, h2⟩
      all_goals
        go_wp2
        have hne : (Value.slice A3 k c3).ownBlock ≠ some (w.heap.size + 1) := fun e => by
          have := (I.out.own.lt _ e).1
          have := I.out.lt
          omega
        have hrow := Row.of_own (own_set (own_set I.out.own ⟨w.heap.size + 1, 0, none⟩ (.bool lf) hne) ⟨w.heap.size + 1, 1, none⟩ (.slice A3 k c3) hne)
        rw [HM.out.1] at hrow
        refine bodyPost_ret (v := .agg #[.bool lf, .slice A3 k c3]) (by simp [results, Try.results20, go_sem, r0, r1]) rfl ⟨_, rfl, ?_, ?_⟩
        · rw [HM.out.2]; exact hrow
        · exact (hBw.out.setCell (by simp) _).setCell (by simp) _
end Go.Proofs.Ytenbclcfhjdcaaa
