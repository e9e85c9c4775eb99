/- Of. -/
import Derived.Test.YtenbclcfhjdcaaaLeafF
import Derived.Test.YtenbclcfhjdcaaaWLast
namespace Go.Proofs.Ytenbclcfhjdcaaa
open Go.RowKit B Go.Proofs.YtenbclcfhjdcaaaW.PrintLast
set_option maxRecDepth 100000 in
theorem law09_Of (lf : Bool) (v : Value) (l : List Ent) (w : World) (h : Row w v l.length (ents l)) (hm : l.length ≤ 1000000) :
    Calls Try.prog 21 #[.agg #[.bool lf, v]] w fun e w' => ∃ v', e = .returned (.agg #[.bool lf, v']) ∧ Row w' v' l.length (ents l) ∧ Below w.heap.size w w' := by
  obtain ⟨i0, hi0, hz0, hz1, hz2⟩ := info_parts infoREnt
  have R := Keep.mk (Below.refl w.heap.size w)
  have H0 := Keep.mk h
  obtain ⟨A, c, rfl, h1, h2, _⟩ := h
  unfold maxLen at h2
  have hlen : (l.length : Int) ≤ 9223372036854775807 := by omega
  go_enter Try.func21, Try.ntmps21
  go_wp2_with fail
  have T0 : TN 37 51 (w.heap.size + 1 + 1) (((w.alloc (.cells #[.bool lf, .slice A l.length c] 42)).alloc (.cells #[.bool false, .slice none 0 0] 37)).alloc (.cells #[.bool lf, .slice none 0 0] 37)) (((w.alloc (.cells #[.bool lf, .slice A l.length c] 42)).alloc (.cells #[.bool false, .slice none 0 0] 37)).alloc (.cells #[.bool lf, .slice none 0 0] 37)) lf (.slice none 0 0) 0 [] :=
    ⟨new_blk (by simp), own_nil' _ _ _ _, ⟨rfl, rfl, rfl, Nat.le_refl _, fun _ _ _ => rfl⟩, by simp⟩
  have B0 : Below w.heap.size w (((w.alloc (.cells #[.bool lf, .slice A l.length c] 42)).alloc (.cells #[.bool false, .slice none 0 0] 37)).alloc (.cells #[.bool lf, .slice none 0 0] 37)) := balloc (balloc (balloc R.out _) _) _
  have C1 : (((w.alloc (.cells #[.bool lf, .slice A l.length c] 42)).alloc (.cells #[.bool false, .slice none 0 0] 37)).alloc (.cells #[.bool lf, .slice none 0 0] 37)).heap[w.heap.size]? = some (.cells #[.bool lf, .slice A l.length c] 42) := by
    rw [heap_alloc_old _ _ (by simp; omega), heap_alloc_old _ _ (by simp)]; exact new_blk rfl
  have C2 : (((w.alloc (.cells #[.bool lf, .slice A l.length c] 42)).alloc (.cells #[.bool false, .slice none 0 0] 37)).alloc (.cells #[.bool lf, .slice none 0 0] 37)).heap[w.heap.size + 1]? = some (.cells #[.bool false, .slice none 0 0] 37) := by
    rw [heap_alloc_old _ _ (by simp)]; exact new_blk (by simp)
  generalize ((w.alloc (.cells #[.bool lf, .slice A l.length c] 42)).alloc (.cells #[.bool false, .slice none 0 0] 37)).alloc (.cells #[.bool lf, .slice none 0 0] 37) = w0 at *
  have HT0 := Keep.mk T0
  have HC := Keep.mk (And.intro B0 (And.intro C1 C2))
  clear T0 B0 C1 C2
  go_loopw [4] (fun i wr => ∃ (k : Nat) (v : Value), i = .int .i64 k ∧ k ≤ l.length ∧ Keep (TN 37 51 (w.heap.size + 1 + 1) w0 wr lf v k (l.take k))) (fun i _ => l.length - (intOf i).toNat)
  case atStart => exact ⟨0, _, rfl, Nat.zero_le _, HT0⟩
  case round =>
    obtain ⟨k, v, rfl, hk, I⟩ := hrel
    have c1 : wr.cell? ⟨w.heap.size, 1, none⟩ = some (.slice A l.length c) := gcell I.out.grw (by rw [cell_of_row _ _ _ _ _ _ HC.out.2.1]; rfl) (by simp; omega)
    have c2 : wr.cell? ⟨w.heap.size + 1 + 1, 1, none⟩ = some v := by rw [cell_of_row _ _ _ _ _ _ I.out.blk]; rfl
    have f2 : wr.frozen? ⟨w.heap.size + 1 + 1, 1, none⟩ = false := unfrozen I.out.blk
    by_cases hlt : k < l.length
    · skip
      obtain ⟨g, o, c', e, _, _, hgl, hc⟩ := H0.out.ent (by omega)
      cases e
      obtain ⟨e1, e2, e3⟩ := hc k hlt
      have hBw : Below w.heap.size w wr := below_grown HC.out.1 I.out.grw HC.out.1.size (by omega)
      have e1 := kc hBw e1
      have e2 := kc hBw e2
      have e3 := kc hBw e3
      have hsz := heap_lt I.out.blk
      have hsz0 := I.out.grw.size
      clear hc hBw
      have ik0 : (0 : Int) ≤ (k : Int) := by omega
      have ik1 : (k : Int) < (l.length : Int) := by omega
      obtain ⟨A3, c3, rfl⟩ := own_slice I.out.own
      go_wp2_with fail
      have hw1 : wr.heap.size ≠ w.heap.size + 1 + 1 := by omega
      refine start_ (n := 28) (S := fun w' => w'.cell? ⟨w.heap.size, 1, none⟩ = some (.slice (some ⟨g, o, none⟩) l.length c) ∧ w'.cell? ⟨g, o + k * 3, none⟩ = some (.int .i64 (ent l k).s) ∧ w'.cell? ⟨g, o + k * 3 + 1, none⟩ = some (.int .i64 (ent l k).n) ∧ w'.cell? ⟨g, o + k * 3 + 2, none⟩ = some (.int .i64 (ent l k).p) ∧ w'.cell? ⟨w.heap.size + 1 + 1, 1, none⟩ = some (.slice A3 k c3)) (ds := [27]) #[false, false, false, false, false, false, false, false, false, false, false, false, false, false, false, false, false, false, false, false, false, false, false, false, false, false, false, false] (by kernel_rfl) rfl rfl ?_ (fun hHeld => ?_)
      · exact ⟨c1, e1, e2, e3, c2⟩
      refine pure_ (i := 0) (N := some 15) (v := ?_) (a' := ?_) #[true, false, false, false, false, false, false, false, false, false, false, false, false, false, false, false, false, false, false, false, false, false, false, false, false, false, false, false] rfl rfl (by kernel_rfl) (fun _ _ _ h => h) (Or.inl ⟨by rfl, ?_⟩) ?_ ?_
      rotate_left
      · intro w'
        go_simp
        with_reducible rfl
      rotate_left
      · simp only [Act.put, List.setIfInBounds_toArray, List.set_cons_zero, List.set_cons_succ, i64_w, i32_w]
        rfl
      refine take_ (i := 1) (N := some 16) (v := ?_) (a' := ?_) #[true, true, false, false, false, false, false, false, false, false, false, false, false, false, false, false, false, false, false, false, false, false, false, false, false, false, false, false] rfl rfl (by kernel_rfl) (fun _ _ _ h => h) (Or.inl ⟨by rfl, ?_⟩) hHeld ?_ ?_
      rotate_left
      · rintro w' ⟨s0, s1, s2, s3, s4⟩
        go_simp
        with_reducible rfl
      rotate_left
      · simp only [Act.put, List.setIfInBounds_toArray, List.set_cons_zero, List.set_cons_succ, i64_w, i32_w]
        rfl
      refine pure_ (i := 2) (N := some 17) (v := ?_) (a' := ?_) #[true, true, true, false, false, false, false, false, false, false, false, false, false, false, false, false, false, false, false, false, false, false, false, false, false, false, false, false] rfl rfl (by kernel_rfl) (fun _ _ _ h => h) (Or.inl ⟨by rfl, ?_⟩) ?_ ?_
      rotate_left
      · intro w'
        go_simp
        with_reducible rfl
      rotate_left
      · simp only [Act.put, List.setIfInBounds_toArray, List.set_cons_zero, List.set_cons_succ, i64_w, i32_w]
        rfl
      refine take_ (i := 3) (N := some 18) (v := ?_) (a' := ?_) #[true, true, true, true, false, false, false, false, false, false, false, false, false, false, false, false, false, false, false, false, false, false, false, false, false, false, false, false] rfl rfl (by kernel_rfl) (fun _ _ _ h => h) (Or.inl ⟨by rfl, ?_⟩) hHeld ?_ ?_
      rotate_left
      · rintro w' ⟨s0, s1, s2, s3, s4⟩
        go_simp
        with_reducible rfl
      rotate_left
      · simp only [Act.put, List.setIfInBounds_toArray, List.set_cons_zero, List.set_cons_succ, i64_w, i32_w]
        rfl
      refine pure_ (i := 4) (N := some 19) (v := ?_) (a' := ?_) #[true, true, true, true, true, false, false, false, false, false, false, false, false, false, false, false, false, false, false, false, false, false, false, false, false, false, false, false] rfl rfl (by kernel_rfl) (fun _ _ _ h => h) (Or.inl ⟨by rfl, ?_⟩) ?_ ?_
      rotate_left
      · intro w'
        go_simp
        with_reducible rfl
      rotate_left
      · simp only [Act.put, List.setIfInBounds_toArray, List.set_cons_zero, List.set_cons_succ, i64_w, i32_w]
        rfl
      refine pure_ (i := 5) (N := some 20) (v := ?_) (a' := ?_) #[true, true, true, true, true, true, false, false, false, false, false, false, false, false, false, false, false, false, false, false, false, false, false, false, false, false, false, false] rfl rfl (by kernel_rfl) (fun _ _ _ h => h) (Or.inl ⟨by rfl, ?_⟩) ?_ ?_
      rotate_left
      · intro w'
        go_simp
        with_reducible rfl
      rotate_left
      · simp only [Act.put, List.setIfInBounds_toArray, List.set_cons_zero, List.set_cons_succ, i64_w, i32_w]
        rfl
      refine pure_ (i := 6) (N := some 21) (v := ?_) (a' := ?_) #[true, true, true, true, true, true, true, false, false, false, false, false, false, false, false, false, false, false, false, false, false, false, false, false, false, false, false, false] rfl rfl (by kernel_rfl) (fun _ _ _ h => h) (Or.inl ⟨by rfl, ?_⟩) ?_ ?_
      rotate_left
      · intro w'
        go_simp
        with_reducible rfl
      rotate_left
      · simp only [Act.put, List.setIfInBounds_toArray, List.set_cons_zero, List.set_cons_succ, i64_w, i32_w]
        rfl
      refine pure_ (i := 7) (N := some 22) (v := ?_) (a' := ?_) #[true, true, true, true, true, true, true, true, false, false, false, false, false, false, false, false, false, false, false, false, false, false, false, false, false, false, false, false] rfl rfl (by kernel_rfl) (fun _ _ _ h => h) (Or.inl ⟨by rfl, ?_⟩) ?_ ?_
      rotate_left
      · intro w'
        go_simp
        with_reducible rfl
      rotate_left
      · simp only [Act.put, List.setIfInBounds_toArray, List.set_cons_zero, List.set_cons_succ, i64_w, i32_w]
        rfl
      refine take_ (i := 8) (N := some 23) (v := ?_) (a' := ?_) #[true, true, true, true, true, true, true, true, true, false, false, false, false, false, false, false, false, false, false, false, false, false, false, false, false, false, false, false] rfl rfl (by kernel_rfl) (fun _ _ _ h => h) (Or.inl ⟨by rfl, ?_⟩) hHeld ?_ ?_
      rotate_left
      · rintro w' ⟨s0, s1, s2, s3, s4⟩
        go_simp
        with_reducible rfl
      rotate_left
      · simp only [Act.put, List.setIfInBounds_toArray, List.set_cons_zero, List.set_cons_succ, i64_w, i32_w]
        rfl
      refine pure_ (i := 9) (N := some 24) (v := ?_) (a' := ?_) #[true, true, true, true, true, true, true, true, true, true, false, false, false, false, false, false, false, false, false, false, false, false, false, false, false, false, false, false] rfl rfl (by kernel_rfl) (fun _ _ _ h => h) (Or.inl ⟨by rfl, ?_⟩) ?_ ?_
      rotate_left
      · intro w'
        go_simp
        with_reducible rfl
      rotate_left
      · simp only [Act.put, List.setIfInBounds_toArray, List.set_cons_zero, List.set_cons_succ, i64_w, i32_w]
        rfl
      refine take_ (i := 10) (N := some 25) (v := ?_) (a' := ?_) #[true, true, true, true, true, true, true, true, true, true, true, false, false, false, false, false, false, false, false, false, false, false, false, false, false, false, false, false] rfl rfl (by kernel_rfl) (fun _ _ _ h => h) (Or.inl ⟨by rfl, ?_⟩) hHeld ?_ ?_
      rotate_left
      · rintro w' ⟨s0, s1, s2, s3, s4⟩
        go_simp
        with_reducible rfl
      rotate_left
      · simp only [Act.put, List.setIfInBounds_toArray, List.set_cons_zero, List.set_cons_succ, i64_w, i32_w]
        rfl
      refine pure_ (i := 11) (N := some 26) (v := ?_) (a' := ?_) #[true, true, true, true, true, true, true, true, true, true, true, true, false, false, false, false, false, false, false, false, false, false, false, false, false, false, false, false] rfl rfl (by kernel_rfl) (fun _ _ _ h => h) (Or.inl ⟨by rfl, ?_⟩) ?_ ?_
      rotate_left
      · intro w'
        go_simp
        with_reducible rfl
      rotate_left
      · simp only [Act.put, List.setIfInBounds_toArray, List.set_cons_zero, List.set_cons_succ, i64_w, i32_w]
        rfl
      refine pure_ (i := 12) (N := some 27) (v := ?_) (a' := ?_) #[true, true, true, true, true, true, true, true, true, true, true, true, true, false, false, false, false, false, false, false, false, false, false, false, false, false, false, false] rfl rfl (by kernel_rfl) (fun _ _ _ h => h) (Or.inl ⟨by rfl, ?_⟩) ?_ ?_
      rotate_left
      · intro w'
        go_simp
        with_reducible rfl
      rotate_left
      · simp only [Act.put, List.setIfInBounds_toArray, List.set_cons_zero, List.set_cons_succ, i64_w, i32_w]
        rfl
      refine pure_ (i := 13) (N := some 28) (v := ?_) (a' := ?_) #[true, true, true, true, true, true, true, true, true, true, true, true, true, true, false, false, false, false, false, false, false, false, false, false, false, false, false, false] rfl rfl (by kernel_rfl) (fun _ _ _ h => h) (Or.inl ⟨by rfl, ?_⟩) ?_ ?_
      rotate_left
      · intro w'
        go_simp
        with_reducible rfl
      rotate_left
      · simp only [Act.put, List.setIfInBounds_toArray, List.set_cons_zero, List.set_cons_succ, i64_w, i32_w]
        rfl
      refine pure_ (i := 14) (N := some 29) (v := ?_) (a' := ?_) #[true, true, true, true, true, true, true, true, true, true, true, true, true, true, true, false, false, false, false, false, false, false, false, false, false, false, false, false] rfl rfl (by kernel_rfl) (fun _ _ _ h => h) (Or.inl ⟨by rfl, ?_⟩) ?_ ?_
      rotate_left
      · intro w'
        go_simp
        with_reducible rfl
      rotate_left
      · simp only [Act.put, List.setIfInBounds_toArray, List.set_cons_zero, List.set_cons_succ, i64_w, i32_w]
        rfl
      refine take_ (i := 15) (N := some 30) (v := ?_) (a' := ?_) #[true, true, true, true, true, true, true, true, true, true, true, true, true, true, true, true, false, false, false, false, false, false, false, false, false, false, false, false] rfl rfl (by kernel_rfl) (fun _ _ _ h => h) (Or.inl ⟨by rfl, ?_⟩) hHeld ?_ ?_
      rotate_left
      · rintro w' ⟨s0, s1, s2, s3, s4⟩
        go_simp
        with_reducible rfl
      rotate_left
      · simp only [Act.put, List.setIfInBounds_toArray, List.set_cons_zero, List.set_cons_succ, i64_w, i32_w]
        rfl
      refine pure_ (i := 16) (N := some 31) (v := ?_) (a' := ?_) #[true, true, true, true, true, true, true, true, true, true, true, true, true, true, true, true, true, false, false, false, false, false, false, false, false, false, false, false] rfl rfl (by kernel_rfl) (fun _ _ _ h => h) (Or.inl ⟨by rfl, ?_⟩) ?_ ?_
      rotate_left
      · intro w'
        go_simp
        with_reducible rfl
      rotate_left
      · simp only [Act.put, List.setIfInBounds_toArray, List.set_cons_zero, List.set_cons_succ, i64_w, i32_w]
        rfl
      refine pure_ (i := 17) (N := some 32) (v := ?_) (a' := ?_) #[true, true, true, true, true, true, true, true, true, true, true, true, true, true, true, true, true, true, false, false, false, false, false, false, false, false, false, false] rfl rfl (by kernel_rfl) (fun _ _ _ h => h) (Or.inl ⟨by rfl, ?_⟩) ?_ ?_
      rotate_left
      · intro w'
        go_simp
        with_reducible rfl
      rotate_left
      · simp only [Act.put, List.setIfInBounds_toArray, List.set_cons_zero, List.set_cons_succ, i64_w, i32_w]
        rfl
      refine take_ (i := 18) (N := some 33) (v := ?_) (a' := ?_) #[true, true, true, true, true, true, true, true, true, true, true, true, true, true, true, true, true, true, true, false, false, false, false, false, false, false, false, false] rfl rfl (by kernel_rfl) (fun _ _ _ h => h) (Or.inl ⟨by rfl, ?_⟩) hHeld ?_ ?_
      rotate_left
      · rintro w' ⟨s0, s1, s2, s3, s4⟩
        go_simp
        with_reducible rfl
      rotate_left
      · simp only [Act.put, List.setIfInBounds_toArray, List.set_cons_zero, List.set_cons_succ, i64_w, i32_w]
        rfl
      refine pure_ (i := 19) (N := some 34) (v := ?_) (a' := ?_) #[true, true, true, true, true, true, true, true, true, true, true, true, true, true, true, true, true, true, true, true, false, false, false, false, false, false, false, false] rfl rfl (by kernel_rfl) (fun _ _ _ h => h) (Or.inl ⟨by rfl, ?_⟩) ?_ ?_
      rotate_left
      · intro w'
        go_simp
        with_reducible rfl
      rotate_left
      · simp only [Act.put, List.setIfInBounds_toArray, List.set_cons_zero, List.set_cons_succ, i64_w, i32_w]
        rfl
      refine pure_ (i := 20) (N := some 35) (v := ?_) (a' := ?_) #[true, true, true, true, true, true, true, true, true, true, true, true, true, true, true, true, true, true, true, true, true, false, false, false, false, false, false, false] rfl rfl (by kernel_rfl) (fun _ _ _ h => h) (Or.inl ⟨by rfl, ?_⟩) ?_ ?_
      rotate_left
      · intro w'
        go_simp
        with_reducible rfl
      rotate_left
      · simp only [Act.put, List.setIfInBounds_toArray, List.set_cons_zero, List.set_cons_succ, i64_w, i32_w]
        rfl
      refine pure_ (i := 21) (N := some 36) (v := ?_) (a' := ?_) #[true, true, true, true, true, true, true, true, true, true, true, true, true, true, true, true, true, true, true, true, true, true, false, false, false, false, false, false] rfl rfl (by kernel_rfl) (fun _ _ _ h => h) (Or.inl ⟨by rfl, ?_⟩) ?_ ?_
      rotate_left
      · intro w'
        go_simp
        with_reducible rfl
      rotate_left
      · simp only [Act.put, List.setIfInBounds_toArray, List.set_cons_zero, List.set_cons_succ, i64_w, i32_w]
        rfl
      refine take_ (i := 22) (N := some 37) (v := ?_) (a' := ?_) #[true, true, true, true, true, true, true, true, true, true, true, true, true, true, true, true, true, true, true, true, true, true, true, false, false, false, false, false] rfl rfl (by kernel_rfl) (fun _ _ _ h => h) (Or.inl ⟨by rfl, ?_⟩) hHeld ?_ ?_
      rotate_left
      · rintro w' ⟨s0, s1, s2, s3, s4⟩
        go_simp
        with_reducible rfl
      rotate_left
      · simp only [Act.put, List.setIfInBounds_toArray, List.set_cons_zero, List.set_cons_succ, i64_w, i32_w]
        rfl
      refine pure_ (i := 23) (N := some 38) (v := ?_) (a' := ?_) #[true, true, true, true, true, true, true, true, true, true, true, true, true, true, true, true, true, true, true, true, true, true, true, true, false, false, false, false] rfl rfl (by kernel_rfl) (fun _ _ _ h => h) (Or.inl ⟨by rfl, ?_⟩) ?_ ?_
      rotate_left
      · intro w'
        go_simp
        with_reducible rfl
      rotate_left
      · simp only [Act.put, List.setIfInBounds_toArray, List.set_cons_zero, List.set_cons_succ, i64_w, i32_w]
        rfl
      refine one_ (i := 24) (N := some 39) #[true, true, true, true, true, true, true, true, true, true, true, true, true, true, true, true, true, true, true, true, true, true, true, true, true, false, false, false] rfl rfl (by kernel_rfl) (by decide) (fun K hK => ?_)
      refine value_ (w1 := ?_) (v := ?_) (by rfl) rfl ?_ ?_
      rotate_left 2
      · go_simp
        constructor
        · rfl
        · rfl
      refine hK.out _ _ ⟨kc (balloc (Below.refl _ _) _).drew c1, kc (balloc (Below.refl _ _) _).drew e1, kc (balloc (Below.refl _ _) _).drew e2, kc (balloc (Below.refl _ _) _).drew e3, kc (balloc (Below.refl _ _) _).drew c2⟩ (fun hHeld => ?_)
      clear hK K
      skip
      refine norm_ (a' := ?_) ?_ ?_
      rotate_left
      · show Act.put _ (some 39) _ = _
        simp only [Act.put, List.setIfInBounds_toArray, List.set_cons_zero, List.set_cons_succ, i64_w, i32_w]
        rfl
      refine one_ (i := 25) (N := some 40) #[true, true, true, true, true, true, true, true, true, true, true, true, true, true, true, true, true, true, true, true, true, true, true, true, true, true, false, false] rfl rfl (by kernel_rfl) (by decide) (fun K hK => ?_)
      refine step1 (by rfl) _ _ _ (by rfl) w0.heap.size 51 51 i0 _ 3 24 Try.underlying35 hi0 hz0 hz1 hz2 rfl (by omega) _ k _ (by rfl) I.out.own (ent l k).cells (by rfl) rfl (by simp [Ent.cells, Value.oneCell']) (by omega) (by omega) (by omega) ?_
      intro g3 cap3 w3 hown hg3 hat
      have far : ∀ {a : Addr} {u : Value}, wr.cell? a = some u → a.block < w0.heap.size → w3.cell? a = some u := fun {a u} hc hl => hg3.cell (kc (balloc (Below.refl _ _) _) hc) (fun e => by have := (I.out.own.lt _ e.symm).1; omega)
      have d2 := unfrozen (o := 1) (blk_far I.out.blk hg3 I.out.ne)
      have d3 : w3.cell? ⟨w.heap.size + 1 + 1, 1, none⟩ = some (.slice A3 k c3) := far c2 I.out.lt
      have d1 := far c1 (by have := I.out.lt; simp only; omega)
      have K3 := Keep.mk (I.out.put hown hg3)
      refine hK.out _ _ ⟨d1, far e1 (by have := I.out.lt; simp only; omega), far e2 (by have := I.out.lt; simp only; omega), far e3 (by have := I.out.lt; simp only; omega), d3⟩ (fun hHeld => ?_)
      clear far hown hg3 hat
      clear hK K
      skip
      refine norm_ (a' := ?_) ?_ ?_
      rotate_left
      · show Act.put _ (some 40) _ = _
        simp only [Act.put, List.setIfInBounds_toArray, List.set_cons_zero, List.set_cons_succ, i64_w, i32_w]
        rfl
      refine pure_ (i := 26) (N := some 41) (v := ?_) (a' := ?_) #[true, true, true, true, true, true, true, true, true, true, true, true, true, true, true, true, true, true, true, true, true, true, true, true, true, true, true, false] rfl rfl (by kernel_rfl) (fun _ _ _ h => h) (Or.inl ⟨by rfl, ?_⟩) ?_ ?_
      rotate_left
      · intro w'
        go_simp
        with_reducible rfl
      rotate_left
      · simp only [Act.put, List.setIfInBounds_toArray, List.set_cons_zero, List.set_cons_succ, i64_w, i32_w]
        rfl
      refine last_ (i := 27) (N := none) #[true, true, true, true, true, true, true, true, true, true, true, true, true, true, true, true, true, true, true, true, true, true, true, true, true, true, true, true] rfl rfl (by kernel_rfl) (by decide) (fun K hK => ?_)
      refine skip_ (w1 := ?_) (by rfl) rfl ?_ ?_
      rotate_left
      · go_simp
        rfl
      refine hK.out _ _ ?_
      clear hK K
      refine done_ (by kernel_rfl) ?_
      go_wp2
      have e := K3.out
      rw [show l.take k ++ [ent l k] = l.take (k + 1) by rw [List.take_succ_eq_append_getElem hlt, ent_eq _ _ hlt]] at e
      exact ⟨⟨k + 1, _, by go_num, by omega, ⟨e⟩⟩, by simp [intOf]; omega⟩
    · obtain rfl : k = l.length := by omega
      obtain ⟨A3, c3, rfl⟩ := own_slice I.out.own
      have b0 : wr.cell? ⟨w.heap.size + 1 + 1, 0, none⟩ = some (.bool lf) := by rw [cell_of_row _ _ _ _ _ _ I.out.blk]; rfl
      have eR := (I.out.grw.block (w.heap.size + 1) (by have := I.out.lt; omega) (by simp)).trans HC.out.2.2
      have r0 : wr.cell? ⟨w.heap.size + 1, 0, none⟩ = some (.bool false) := by rw [cell_of_row _ _ _ _ _ _ eR]; rfl
      have r1 : wr.cell? ⟨w.heap.size + 1, 1, none⟩ = some (.slice none 0 0) := by rw [cell_of_row _ _ _ _ _ _ eR]; rfl
      have f0 : wr.frozen? ⟨w.heap.size + 1, 0, none⟩ = false := unfrozen eR
      have f1 : wr.frozen? ⟨w.heap.size + 1, 1, none⟩ = false := unfrozen eR
      have hBw : Keep (Below w.heap.size w wr) := ⟨below_grown HC.out.1 I.out.grw HC.out.1.size (by omega)⟩
      clear eR
      go_wp2
      have hne : (Value.slice A3 l.length c3).ownBlock ≠ some (w.heap.size + 1) := fun e => by
        have := (I.out.own.lt _ e).1
        have := I.out.lt
        omega
      have hrow := Row.of_own (own_set (own_set I.out.own ⟨w.heap.size + 1, 0, none⟩ (.bool lf) hne) ⟨w.heap.size + 1, 1, none⟩ (.slice A3 l.length c3) hne)
      rw [List.take_length] at hrow
      refine bodyPost_ret (v := .agg #[.bool lf, .slice A3 l.length c3]) (by simp [results, Try.results21, go_sem, r0, r1]) rfl ⟨_, rfl, hrow, ?_⟩
      exact (hBw.out.setCell (by simp) _).setCell (by simp) _
end Go.Proofs.Ytenbclcfhjdcaaa
