/- Find and Child of leaf. -/
import Derived.Test.YtenbclcfhjdcaaaLeafG
import Derived.Test.YtenbclcfhjdcaaaEqs
namespace Go.Proofs.Ytenbclcfhjdcaaa
open Go.RowKit B
theorem leaf_Find1 (ba bk g o c n i : Nat) (e k : Ent) (lf : Bool) (W : World) (hi : i < n)
    (_h0 : W.cell? ⟨ba, 0, none⟩ = some (.bool lf)) (h1 : W.cell? ⟨ba, 1, none⟩ = some (.slice (some ⟨g, o, none⟩) n c)) (k0 : W.cell? ⟨bk, 0, none⟩ = some (.int .i64 k.s)) (k1 : W.cell? ⟨bk, 1, none⟩ = some (.int .i64 k.n))
    (e0 : W.cell? ⟨g, o + i * 3, none⟩ = some (.int .i64 e.s)) (e1 : W.cell? ⟨g, o + i * 3 + 1, none⟩ = some (.int .i64 e.n)) :
    Calls Try.prog 75 (#[.int .i64 i] ++ #[.pointer (some ⟨ba, 0, none⟩), .pointer (some ⟨bk, 0, none⟩)]) W fun en w' => en = .returned (.bool (!lessE e k)) ∧ Below W.heap.size W w' := by
  have hiz : (i : Int) < (n : Int) := by omega
  have hi0 : (0 : Int) ≤ (i : Int) := by omega
  have hr : Below W.heap.size W W.drew := (Below.refl _ _).drew
  go_enter Try.func75, Try.ntmps75
  go_wp2_with fail
  go_region_held3 (fun w' => w'.cell? ⟨ba, 1, none⟩ = some (.slice (some ⟨g, o, none⟩) n c) ∧ w'.cell? ⟨bk, 0, none⟩ = some (.int .i64 k.s) ∧ w'.cell? ⟨bk, 1, none⟩ = some (.int .i64 k.n) ∧ w'.cell? ⟨g, o + i * 3, none⟩ = some (.int .i64 e.s) ∧ w'.cell? ⟨g, o + i * 3 + 1, none⟩ = some (.int .i64 e.n)) (first | go_keep | (go_split_ands; refine ⟨?_, ?_, ?_, ?_, ?_⟩ <;> (refine kc hb ?_; assumption)))
    (first | (go_at_call 27; refine (leaf_lessE _ _ _).mono ?_; rintro e w' ⟨rfl, hb⟩; replace hr := bnext hr hr.size hb))
  have HR := Keep.mk hr
  clear hr hb
  go_wp2
  go_ret
  exact ⟨rfl, HR.out⟩
theorem lessE_trans {a b c : Ent} (h1 : lessE a b = true) (h2 : lessE b c = true) : lessE a c = true := by
  simp [lessE, lessK] at *
  omega
theorem rise_lt {l : List Ent} (h : rise l = true) : ∀ j i, i < j → j < l.length → lessE (ent l i) (ent l j) = true := by
  intro j
  induction j with
  | zero => intro i h1; omega
  | succ j ih =>
    intro i h1 h2
    have hs := rise_true.1 h (j + 1) (by omega) h2
    rw [Nat.add_sub_cancel] at hs
    rcases Nat.lt_or_ge i j with h3 | h3
    · exact lessE_trans (ih i h3 (by omega)) hs
    · rw [show i = j by omega]; exact hs
theorem not_less_mono {a b k : Ent} (h : lessE a b = true) (hk : lessE a k = false) : lessE b k = false := by
  simp [lessE, lessK] at *
  omega
/-- Where a key is, or would be. -/
structure At (l : List Ent) (k : Ent) (r : Nat) : Prop where
  le : r ≤ l.length
  below : ∀ t, t < r → lessE (ent l t) k = true
  above : ∀ t, r ≤ t → t < l.length → lessE (ent l t) k = false
def isAt (l : List Ent) (k : Ent) (r : Nat) : Bool := decide (r < l.length ∧ (ent l r).s = k.s ∧ (ent l r).n = k.n)
set_option maxRecDepth 100000 in
theorem leaf_Find (lf : Bool) (v : Value) (l : List Ent) (k : Ent) (w : World) (h : Row w v l.length (ents l)) (hm : l.length ≤ 1000000) (hr : rise l = true) :
    Calls Try.prog 28 #[.agg #[.bool lf, v], .agg #[.int .i64 k.s, .int .i64 k.n]] w fun e w' => ∃ r : Nat, e = .returned (.tuple #[.int .i64 r, .bool (isAt l k r)]) ∧ At l k r ∧ Below w.heap.size w w' := by
  have R := Keep.mk (Below.refl w.heap.size w)
  have H0 := Keep.mk h
  obtain ⟨A, c, rfl, h1, h2, _⟩ := h
  have B0 : Below w.heap.size w ((w.alloc (.cells #[.bool lf, .slice A l.length c] 42)).alloc (.cells #[.int .i64 k.s, .int .i64 k.n] 46)) := balloc (balloc R.out _) _
  have C0 : ((w.alloc (.cells #[.bool lf, .slice A l.length c] 42)).alloc (.cells #[.int .i64 k.s, .int .i64 k.n] 46)).heap[w.heap.size]? = some (.cells #[.bool lf, .slice A l.length c] 42) := by
    rw [heap_alloc_old _ _ (by simp)]; exact new_blk rfl
  have C1 : ((w.alloc (.cells #[.bool lf, .slice A l.length c] 42)).alloc (.cells #[.int .i64 k.s, .int .i64 k.n] 46)).heap[w.heap.size + 1]? = some (.cells #[.int .i64 k.s, .int .i64 k.n] 46) := new_blk (by simp)
  have S := sort_search 75 #[.pointer (some ⟨w.heap.size, 0, none⟩), .pointer (some ⟨w.heap.size + 1, 0, none⟩)] l.length (fun t => !lessE (ent l t) k)
    ((w.alloc (.cells #[.bool lf, .slice A l.length c] 42)).alloc (.cells #[.int .i64 k.s, .int .i64 k.n] 46)) (fun _ _ => by kernel_rfl) (by omega)
    (fun i W hi hb => by
      obtain ⟨g, o, c', e, _, _, _, hc⟩ := H0.out.ent (by omega)
      cases e
      obtain ⟨e1, e2, _⟩ := hc i hi
      exact leaf_Find1 w.heap.size (w.heap.size + 1) g o c l.length i (ent l i) k lf W hi
        (kc hb (by rw [cell_of_row _ _ _ _ _ _ C0]; rfl)) (kc hb (by rw [cell_of_row _ _ _ _ _ _ C0]; rfl)) (kc hb (by rw [cell_of_row _ _ _ _ _ _ C1]; rfl)) (kc hb (by rw [cell_of_row _ _ _ _ _ _ C1]; rfl))
        (kc hb (kc B0 e1)) (kc hb (kc B0 e2)))
    (fun a b hab hb ha => by
      simp only [Bool.not_eq_true'] at ha ⊢
      rcases Nat.lt_or_ge a b with h | h
      · exact not_less_mono (rise_lt hr b a h hb) ha
      · rw [show b = a by omega]; exact ha)
  have S' := Keep.mk S
  have HC := Keep.mk (And.intro B0 (And.intro C0 C1))
  clear S B0 C0 C1 hr
  go_enter Try.func28, Try.ntmps28
  go_wp2_with fail
  refine S'.out.mono ?_
  rintro e w1 ⟨r, rfl, ⟨hr1, hr2, hr3⟩, hb⟩
  have HA : Keep (At l k r) := ⟨⟨hr1, fun t ht => by simpa using hr2 t ht, fun t h1 h2 => by simpa using hr3 t h1 h2⟩⟩
  have c1 : w1.cell? ⟨w.heap.size, 1, none⟩ = some (.slice A l.length c) := kc hb (by rw [cell_of_row _ _ _ _ _ _ HC.out.2.1]; rfl)
  have k0 : w1.cell? ⟨w.heap.size + 1, 0, none⟩ = some (.int .i64 k.s) := kc hb (by rw [cell_of_row _ _ _ _ _ _ HC.out.2.2]; rfl)
  have k1 : w1.cell? ⟨w.heap.size + 1, 1, none⟩ = some (.int .i64 k.n) := kc hb (by rw [cell_of_row _ _ _ _ _ _ HC.out.2.2]; rfl)
  have HB := Keep.mk (bnext HC.out.1 HC.out.1.size hb)
  clear hr2 hr3 hb
  by_cases hlt : r < l.length
  · obtain ⟨g, o, c', e, _, _, _, hc⟩ := H0.out.ent (by omega)
    cases e
    obtain ⟨e1, e2, _⟩ := hc r hlt
    have e1 := kc HB.out e1
    have e2 := kc HB.out e2
    clear hc
    have q0 : (0 : Int) ≤ (r : Int) := by omega
    have qe := eql_key
    have q1 : (r : Int) < (l.length : Int) := by omega
    go_wp2_with fail
    go_quiet (fail)
    go_wp2
    go_ret2
    exact ⟨r, by simp only [isAt, hlt, true_and, Bool.decide_and]; rfl, HA.out, bdraw HB.out _⟩
  · obtain rfl : r = l.length := by omega
    go_wp2_with fail
    go_quiet (fail)
    go_wp2
    go_ret2
    exact ⟨l.length, by simp [isAt], HA.out, bdraw HB.out _⟩
theorem leaf_Child_leaf (v : Value) (l : List Ent) (k : Ent) (w : World) (h : Row w v l.length (ents l)) :
    Calls Try.prog 29 #[.agg #[.bool true, v], .agg #[.int .i64 k.s, .int .i64 k.n]] w fun e w' => e = .returned (.tuple #[.int .i64 0, .int .i64 11]) ∧ Below w.heap.size w w' := by
  have R := Keep.mk (Below.refl w.heap.size w)
  obtain ⟨A, c, rfl, h1, h2, _⟩ := h
  go_enter Try.func29, Try.ntmps29
  go_wp2
  go_ret2
  exact ⟨rfl, balloc (balloc R.out _) _⟩
/-- Behind which entry a key is. -/
def childAt (l : List Ent) (k : Ent) (r : Nat) : Int := if isAt l k r then r else if r = 0 then 0 else (r : Int) - 1
set_option maxRecDepth 100000 in
theorem leaf_Child (v : Value) (l : List Ent) (k : Ent) (w : World) (h : Row w v l.length (ents l)) (hm : l.length ≤ 1000000) (hr : rise l = true) (hl : 0 < l.length) :
    Calls Try.prog 29 #[.agg #[.bool false, v], .agg #[.int .i64 k.s, .int .i64 k.n]] w fun e w' => ∃ r : Nat, e = .returned (.tuple #[.int .i64 (childAt l k r), .int .i64 0]) ∧ At l k r ∧ Below w.heap.size w w' := by
  have R := Keep.mk (Below.refl w.heap.size w)
  have HF := Keep.mk (fun w2 (hb : Below w.heap.size w w2) => leaf_Find false v l k w2 (h.below hb) hm hr)
  have BW := Keep.mk (balloc (balloc R.out (.cells #[.bool false, v] 42)) (.cells #[.int .i64 k.s, .int .i64 k.n] 46))
  obtain ⟨A, c, rfl, h1, h2, _⟩ := h
  have hz1 : ((l.length : Int) == 0) = false := by rw [beq_eq_false_iff_ne]; omega
  clear hr
  go_enter Try.func29, Try.ntmps29
  go_wp2_with fail
  refine (HF.out _ BW.out).mono ?_
  rintro e w1 ⟨r, rfl, ha, hb⟩
  have HA := Keep.mk ha
  have hr1 := ha.le
  have HB := Keep.mk (bnext BW.out BW.out.size hb)
  have HI : Keep (∀ x, isAt l k r = x → childAt l k r = if x then (r : Int) else if r = 0 then 0 else (r : Int) - 1) := ⟨fun x hx => by unfold childAt; rw [hx]⟩
  clear ha hb
  generalize hi : isAt l k r = is at *
  have HI := Keep.mk (HI.out is rfl)
  clear hi
  cases is
  · by_cases h0 : r = 0
    · subst h0
      go_wp2
      go_ret2
      exact ⟨0, retT (by rw [HI.out]; simp), HA.out, HB.out⟩
    · have q : ¬ ((r : Int) - 1 < 0) := by omega
      go_wp2
      go_ret2
      exact ⟨r, retT (by rw [HI.out]; simp [h0]), HA.out, HB.out⟩
  · go_wp2
    go_ret2
    exact ⟨r, by rw [HI.out]; rfl, HA.out, HB.out⟩
end Go.Proofs.Ytenbclcfhjdcaaa
