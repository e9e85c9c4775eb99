/- docs.New, docs.Of. -/
import Derived.Test.YtenbclcfhjdcaaaDocs
import Derived.Maps.AppendAt
import Derived.Deep.RegionHeld3
import Derived.Deep.RegionLaw
import Derived.WalkSpells
import Derived.Deep.DeepFit
namespace Go.Proofs.Ytenbclcfhjdcaaa
open Go.RowKit B
theorem infoInt : (Try.prog.info? 3).map (fun i => (i.zero, i.size, i.bytes)) = some (some (.int .i64 0), 1, 8) := by kernel_rfl

/-- What New's loop holds: the struct's block, the two rows that its fields own. -/
structure DN (B : Nat) (w wr : World) (v1 v2 : Value) (n1 n2 : Nat) (xs ys : List Int) : Prop where
  blk : wr.heap[B + 1]? = some (.cells #[v1, v2] 122 (0, 0))
  own1 : wr.ownsRow B 3 1 v1 n1 (ints xs)
  own2 : wr.ownsRow B 3 1 v2 n2 (ints ys)
  ne1 : v1.ownBlock ≠ some (B + 1)
  ne2 : v2.ownBlock ≠ some (B + 1)
  ne12 : v1.ownBlock = none ∨ v1.ownBlock ≠ v2.ownBlock
  bel : Below B w wr
theorem DN.start (w : World) (o : Obj) (ho : o = .cells #[.int .i64 0] 3) : DN w.heap.size w ((w.alloc o).alloc (.cells #[.slice (some ⟨w.heap.size, 0, none⟩) 1 1, .slice none 0 0] 122)) (.slice (some ⟨w.heap.size, 0, none⟩) 1 1) (.slice none 0 0) 1 0 [0] [] := by
  subst ho
  refine ⟨?_, ⟨rfl, .inr ⟨w.heap.size, 1, #[.int .i64 0], rfl, Nat.le_refl _, ?_, Nat.le_refl _, by simp [maxLen], rfl, rfl⟩⟩, own_nil' _ _ _ _, ?_, ?_, ?_, ?_⟩
  · rw [show w.heap.size + 1 = (w.alloc (.cells #[.int .i64 0] 3)).heap.size by simp]
    exact heap_alloc_new _ _
  · rw [heap_alloc_old _ _ (by simp)]
    exact heap_alloc_new _ _
  · simp [Value.ownBlock]
  · simp [Value.ownBlock]
  · simp [Value.ownBlock]
  · exact balloc (balloc (Below.refl _ _) _) _
theorem DN.put2 {B : Nat} {w wr w1 : World} {v1 v2 : Value} {n1 n2 m g cap : Nat} {xs ys : List Int} (h : DN B w wr v1 v2 n1 n2 xs ys) {o : Obj} {x : Int}
    (hown : w1.ownsRow B 3 1 (.slice (some ⟨g, 0, none⟩) m cap) m (ints ys ++ [.int .i64 x])) (hg : (wr.alloc o).grownBy w1 v2.ownBlock) (hat : v2.ownBlock = some g ∨ g = wr.heap.size + 1) :
    DN B w (w1.setCell ⟨B + 1, 1, none⟩ (.slice (some ⟨g, 0, none⟩) m cap)) v1 (.slice (some ⟨g, 0, none⟩) m cap) n1 m xs (ys ++ [x]) := by
  have hlt := heap_lt h.blk
  have e1 := blk_far h.blk hg h.ne2
  have ng : g ≠ B + 1 := by
    rcases hat with e | e
    · intro e2; rw [e2] at e; exact h.ne2 e
    · omega
  have hne : v1.ownBlock = none ∨ v1.ownBlock ≠ v2.ownBlock := h.ne12
  have hne2 : v1.ownBlock ≠ some g := by
    rcases hat with e | e
    · rw [← e]; rcases hne with e2 | e2
      · rw [e2, e]; simp
      · exact e2
    · exact own_not h.own1 (by omega)
  have bl := ((balloc' h.bel o).grown hg (by have := h.bel.size; simp; omega) (fun k hk => (h.own2.lt k hk).1)).setCell (p := ⟨B + 1, 1, none⟩) (by simp) (.slice (some ⟨g, 0, none⟩) m cap)
  have o1 := own_set hown ⟨B + 1, 1, none⟩ (.slice (some ⟨g, 0, none⟩) m cap) (by simpa [Value.ownBlock] using ng)
  have o2 := own_set ((h.own1.alloc o).kept hg hne) ⟨B + 1, 1, none⟩ (.slice (some ⟨g, 0, none⟩) m cap) h.ne1
  have bk := heap_set_same (o := 1) e1 (.slice (some ⟨g, 0, none⟩) m cap)
  rw [show ints ys ++ [.int .i64 x] = ints (ys ++ [x]) by simp [ints]] at o1
  exact ⟨bk, o2, o1, h.ne1, by simpa [Value.ownBlock] using ng, .inr (by simpa [Value.ownBlock] using hne2), bl⟩
theorem DN.put1 {B : Nat} {w wr w1 : World} {v1 v2 : Value} {n1 n2 m g cap : Nat} {xs ys : List Int} (h : DN B w wr v1 v2 n1 n2 xs ys) {o : Obj} {x : Int}
    (hown : w1.ownsRow B 3 1 (.slice (some ⟨g, 0, none⟩) m cap) m (ints xs ++ [.int .i64 x])) (hg : (wr.alloc o).grownBy w1 v1.ownBlock) (hat : v1.ownBlock = some g ∨ g = wr.heap.size + 1) :
    DN B w (w1.setCell ⟨B + 1, 0, none⟩ (.slice (some ⟨g, 0, none⟩) m cap)) (.slice (some ⟨g, 0, none⟩) m cap) v2 m n2 (xs ++ [x]) ys := by
  have hlt := heap_lt h.blk
  have e1 := blk_far h.blk hg h.ne1
  have ng : g ≠ B + 1 := by
    rcases hat with e | e
    · intro e2; rw [e2] at e; exact h.ne1 e
    · omega
  have hne : v2.ownBlock = none ∨ v2.ownBlock ≠ v1.ownBlock := ne_swap h.ne12
  have hne2 : v2.ownBlock ≠ some g := by
    rcases hat with e | e
    · rw [← e]; rcases hne with e2 | e2
      · rw [e2, e]; simp
      · exact e2
    · exact own_not h.own2 (by omega)
  have bl := ((balloc' h.bel o).grown hg (by have := h.bel.size; simp; omega) (fun k hk => (h.own1.lt k hk).1)).setCell (p := ⟨B + 1, 0, none⟩) (by simp) (.slice (some ⟨g, 0, none⟩) m cap)
  have o1 := own_set hown ⟨B + 1, 0, none⟩ (.slice (some ⟨g, 0, none⟩) m cap) (by simpa [Value.ownBlock] using ng)
  have o2 := own_set ((h.own2.alloc o).kept hg hne) ⟨B + 1, 0, none⟩ (.slice (some ⟨g, 0, none⟩) m cap) h.ne2
  have bk := heap_set_same (o := 0) e1 (.slice (some ⟨g, 0, none⟩) m cap)
  rw [show ints xs ++ [.int .i64 x] = ints (xs ++ [x]) by simp [ints]] at o1
  exact ⟨bk, o1, o2, by simpa [Value.ownBlock] using ng, h.ne2, .inr (by simpa [Value.ownBlock] using hne2.symm), bl⟩
set_option maxRecDepth 100000 in
theorem docs_new (v : Value) (sz : List Int) (w : World) (h : Row w v sz.length (ints sz)) (hr : Docs.Right sz) :
    Calls Try.prog 70 #[v] w fun e w' => ∃ p, e = .returned (.tuple #[p, .int .i64 0]) ∧ DocsAt w' p sz ∧ Below w.heap.size w w' := by
  obtain ⟨i0, hi0, hz0, hz1, hz2⟩ := info_parts infoInt
  have hlen := hr.1
  obtain ⟨A, c, rfl, h1, h2, h3⟩ := h
  go_enter Try.func70, Try.ntmps70
  go_wp2_with fail
  have HS := Keep.mk (DN.start w _ rfl)
  have HI : Keep (∀ k, k < sz.length → ∃ a, A = some a ∧ a.spot = none ∧ w.cell? ⟨a.block, a.off + k, none⟩ = some (.int .i64 (el sz k))) := ⟨fun k hk => by
    obtain ⟨g, o, e, hc⟩ := h3 (by omega)
    exact ⟨_, e, rfl, hc k _ (ints_get sz k hk)⟩⟩
  clear h3
  generalize hB : w.heap.size = B at *
  have HB := Keep.mk hB
  go_loopw [15] (fun i wr => ∃ (k : Nat) (v1 v2 : Value), i = .int .i64 k ∧ k ≤ sz.length ∧ Keep (DN B w wr v1 v2 (k + 1) k (Docs.sts (sz.take k)) (sz.take k)))
    (fun i _ => sz.length - (intOf i).toNat)
  case atStart => exact ⟨0, _, _, rfl, Nat.zero_le _, ⟨by rw [List.take_zero, Docs.sts_nil]; exact HS.out⟩⟩
  case round =>
    obtain ⟨k, v1, v2, rfl, hk, I⟩ := hrel
    by_cases hlt : k < sz.length
    · have c0 : wr.cell? ⟨B + 1, 0, none⟩ = some v1 := by rw [cell_of_row wr _ _ _ _ _ I.out.blk]; rfl
      have c1 : wr.cell? ⟨B + 1, 1, none⟩ = some v2 := by rw [cell_of_row wr _ _ _ _ _ I.out.blk]; rfl
      obtain ⟨a, rfl, hsp, ca⟩ := HI.out k hlt
      obtain ⟨ab, ao, asp⟩ := a
      simp only at hsp ca
      cases hsp
      have ca' := kc (hB ▸ I.out.bel) ca
      have hr1 := hr.2 k hlt
      clear hB ca
      go_wp2_with (at_builtin; refine app1 (by rfl) _ _ _ (by rfl) B 3 3 i0 _ 1 8 Try.underlying83 hi0 hz0 hz1 hz2 rfl (by omega) v2 k _ (by rfl) I.out.own2 [.int .i64 (el sz k)] (by rfl) rfl (by simp [Value.oneCell']) (by omega) (by omega) (by have := heap_lt I.out.blk; omega) ?_; intro g2 cap2 w1 hown hg hat; have e1 := blk_far I.out.blk hg I.out.ne2; have d0 : w1.cell? ⟨B + 1, 0, none⟩ = some v1 := (by rw [cell_of_row w1 _ _ _ _ _ e1]; rfl); have d1 : w1.cell? ⟨B + 1, 1, none⟩ = some v2 := (by rw [cell_of_row w1 _ _ _ _ _ e1]; rfl); have d2 : w1.frozen? ⟨B + 1, 1, none⟩ = false := unfrozen e1; have I2 := Keep.mk (I.out.put2 hown hg hat); clear hown hg hat e1 c0 c1)
      generalize hw2 : w1.setCell ⟨B + 1, 1, none⟩ (.slice (some ⟨g2, 0, none⟩) (k + 1) cap2) = w2 at *
      clear hw2 I
      have c0 : w2.cell? ⟨B + 1, 0, none⟩ = some v1 := by rw [cell_of_row w2 _ _ _ _ _ I2.out.blk]; rfl
      have f0 : w2.frozen? ⟨B + 1, 0, none⟩ = false := unfrozen I2.out.blk
      have HE : Keep (Calls Try.prog 72 #[v1] w2.drew fun e w' => e = .returned (.int .i64 (Docs.fin (sz.take k))) ∧ w2.drew = w') := ⟨docs_end_of v1 (sz.take k) w2.drew (by
          have hk2 : (sz.take k).length = k := by simp; omega
          rw [hk2]; exact (Row.of_own I2.out.own1).below (bdraw (Below.refl _ _) 1)) (Docs.right_take hr k)⟩
      have hnew : B + 1 < w2.heap.size := heap_lt I2.out.blk
      have hnew2 : w2.heap.size ≠ B + 1 := by omega
      have hnew3 : B + 1 ≠ w2.heap.size := by omega
      have hfb := Docs.fin_bound (sz.take k) (Docs.right_take hr k)
      obtain ⟨A1, n1, rfl⟩ := own_slice I2.out.own1
      have z1 : IntKind.i64.wrap (Docs.fin (sz.take k) + el sz k) = Docs.fin (sz.take k) + el sz k := IntWalk.i64_in _ (by omega)
      have z2 : IntKind.i64.wrap (Docs.fin (sz.take k) + el sz k + 1) = Docs.fin (sz.take k) + el sz k + 1 := IntWalk.i64_in _ (by omega)
      go_region_law (first | (refine step1 (by rfl) _ _ _ (by rfl) B 3 3 i0 _ 1 8 Try.underlying120 hi0 hz0 hz1 hz2 rfl (by omega) _ (k + 1) _ (by rfl) I2.out.own1 [.int .i64 (Docs.fin (sz.take k) + el sz k + 1)] (by rfl) rfl (by simp [Value.oneCell']) (by omega) (by omega) (by have := heap_lt I2.out.blk; omega) ?_; intro g3 cap3 w3 hown hg hat; have e3 := blk_far I2.out.blk hg I2.out.ne1; have d0 : w3.cell? ⟨B + 1, 0, none⟩ = some (.slice A1 (k + 1) n1) := (by rw [cell_of_row w3 _ _ _ _ _ e3]; rfl); have d2 : w3.frozen? ⟨B + 1, 0, none⟩ = false := unfrozen e3; have I3 := Keep.mk (I2.out.put1 hown hg hat); clear hown hg hat e3) | (go_simp; go_at_call 72; refine (HE.out).mono ?_; rintro e w' ⟨rfl, rfl⟩))
      all_goals go_wp2
      all_goals
        have e := I3.out
        rw [show sz.take k ++ [el sz k] = sz.take (k + 1) by rw [List.take_succ_eq_append_getElem hlt, el_eq _ _ hlt],
          show Docs.sts (sz.take k) ++ [Docs.fin (sz.take k) + el sz k + 1] = Docs.sts (sz.take (k + 1)) by rw [List.take_succ_eq_append_getElem hlt, ← el_eq _ _ hlt, Docs.sts_snoc]] at e
        exact ⟨⟨k + 1, _, _, by go_num, by omega, ⟨e⟩⟩, by simp [intOf]; omega⟩
    · obtain rfl : k = sz.length := by omega
      clear hB
      go_wp2
      go_ret2
      have e := I.out
      rw [List.take_length] at e
      have l1 : (Docs.sts sz).length = sz.length + 1 := Docs.sts_length sz
      refine ⟨_, rfl, ⟨B + 1, v1, v2, rfl, ?_, ?_, Row.of_own e.own1, Row.of_own e.own2⟩, ?_⟩
      · rw [cell_of_row wr _ _ _ _ _ e.blk]; rfl
      · rw [cell_of_row wr _ _ _ _ _ e.blk]; rfl
      · rw [HB.out]; exact e.bel
end Go.Proofs.Ytenbclcfhjdcaaa
