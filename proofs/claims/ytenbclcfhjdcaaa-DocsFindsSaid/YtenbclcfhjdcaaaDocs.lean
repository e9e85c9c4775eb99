/- The walks of package docs: what each function of docs answers, over any memory. -/
import Derived.Test.YtenbclcfhjdcaaaSearch
import Derived.Test.YtenbclcfhjdcaaaDocsP
namespace Go.Proofs.Ytenbclcfhjdcaaa
open Go.RowKit B

/-- v is a pointer to a docs.List of these sizes. -/
def DocsAt (w : World) (v : Value) (sz : List Int) : Prop :=
  ∃ b s1 s2, v = .pointer (some ⟨b, 0, none⟩) ∧ w.cell? ⟨b, 0, none⟩ = some s1 ∧ w.cell? ⟨b, 1, none⟩ = some s2 ∧
    Row w s1 (sz.length + 1) (ints (Docs.sts sz)) ∧ Row w s2 sz.length (ints sz)
theorem DocsAt.below {w w' : World} {v : Value} {sz : List Int} (h : DocsAt w v sz) (hb : Below w.heap.size w w') : DocsAt w' v sz := by
  obtain ⟨b, s1, s2, rfl, h1, h2, r1, r2⟩ := h
  refine ⟨b, s1, s2, rfl, ?_, ?_, r1.below hb, r2.below hb⟩
  · rw [hb.cell (World.block_lt_of_cell? w _ h1)]; exact h1
  · rw [hb.cell (World.block_lt_of_cell? w _ h2)]; exact h2
/-- The same, written out: the starts lie somewhere. -/
theorem DocsAt.open_ {w : World} {v : Value} {sz : List Int} (h : DocsAt w v sz) :
    ∃ b g o c s2, v = .pointer (some ⟨b, 0, none⟩) ∧ w.cell? ⟨b, 0, none⟩ = some (.slice (some ⟨g, o, none⟩) (sz.length + 1) c) ∧ w.cell? ⟨b, 1, none⟩ = some s2 ∧
      sz.length + 1 ≤ c ∧ c ≤ maxLen ∧ (∀ k, k ≤ sz.length → w.cell? ⟨g, o + k, none⟩ = some (.int .i64 (Docs.st sz k))) ∧ Row w s2 sz.length (ints sz) := by
  obtain ⟨b, s1, s2, rfl, h1, h2, r1, r2⟩ := h
  rcases r1.open_ with ⟨h0, _⟩ | ⟨g, o, c, rfl, h3, h4, hc⟩
  · omega
  · refine ⟨b, g, o, c, s2, rfl, h1, h2, h3, h4, fun k hk => ?_, r2⟩
    rw [hc k _ (ints_get _ k (by rw [Docs.sts_length]; omega)), Docs.el_sts sz k hk]

theorem docs_end (v : Value) (xs : List Int) (w : World) (n : Nat) (h : Row w v n (ints xs)) (hn : n = xs.length) (hne : 0 < n) (hm : n ≤ 1000000) :
    Calls Try.prog 72 #[v] w fun e w' => e = .returned (.int .i64 (el xs (n - 1))) ∧ w = w' := by
  rcases h.open_ with ⟨h0, _⟩ | ⟨g, o, c, rfl, h1, h2, hc⟩
  · omega
  · have hcell := hc (n - 1) _ (ints_get xs (n - 1) (by omega))
    clear hc hn
    go_enter Try.func72, Try.ntmps72
    go_wp2
    go_ret
    exact ⟨rfl, rfl⟩

theorem docs_at1 (ba bp g o c n : Nat) (p x : Int) (i : Nat) (W : World) (hi : i < n)
    (ha : W.cell? ⟨ba, 0, none⟩ = some (.slice (some ⟨g, o, none⟩) n c)) (hp : W.cell? ⟨bp, 0, none⟩ = some (.int .i64 p)) (hc : W.cell? ⟨g, o + i, none⟩ = some (.int .i64 x)) :
    Calls Try.prog 102 (#[.int .i64 i] ++ #[.pointer (some ⟨ba, 0, none⟩), .pointer (some ⟨bp, 0, none⟩)]) W fun e w' => e = .returned (.bool (decide (p < x))) ∧ Below W.heap.size W w' := by
  have hiz : (i : Int) < (n : Int) := by omega
  go_enter Try.func102, Try.ntmps102
  go_wp2
  go_quiet (fail)
  go_wp2
  go_ret
  exact ⟨rfl, bdraw (Below.refl _ _) _⟩

theorem docs_at (v : Value) (sz : List Int) (p : Int) (w : World) (h : Row w v (sz.length + 1) (ints (Docs.sts sz))) (hr : Docs.Right sz) (h0 : 0 ≤ p) (h1 : p < Docs.fin sz) :
    Calls Try.prog 73 #[v, .int .i64 p] w fun e w' => ∃ d : Nat, e = .returned (.int .i64 d) ∧ (d < sz.length ∧ Docs.st sz d ≤ p ∧ p < Docs.st sz (d + 1)) ∧ Below w.heap.size w w' := by
  rcases h.open_ with ⟨h0, _⟩ | ⟨g, o, c, rfl, h3, h4, hc⟩
  · omega
  · have hr1 := hr.1
    have HC : Keep (∀ k, k ≤ sz.length → w.cell? ⟨g, o + k, none⟩ = some (.int .i64 (Docs.st sz k))) := ⟨fun k hk => by
      rw [hc k _ (ints_get _ k (by rw [Docs.sts_length]; omega)), Docs.el_sts sz k hk]⟩
    have S := sort_search 102 #[.pointer (some ⟨w.heap.size, 0, none⟩), .pointer (some ⟨w.heap.size + 1, 0, none⟩)] (sz.length + 1) (fun k => decide (p < Docs.st sz k))
      ((w.alloc (.cells #[.slice (some ⟨g, o, none⟩) (sz.length + 1) c] 120)).alloc (.cells #[.int .i64 p] 3)) (fun _ _ => by kernel_rfl) (by omega)
      (fun i W hi hb => docs_at1 w.heap.size (w.heap.size + 1) g o c (sz.length + 1) p (Docs.st sz i) i W hi
        (by rw [hb.cell (by simp <;> omega), World.cell?_alloc_lt _ _ _ (by simp)]; simp) (by rw [hb.cell (by simp <;> omega), show w.heap.size + 1 = (w.alloc (.cells #[.slice (some ⟨g, o, none⟩) (sz.length + 1) c] 120)).heap.size by simp, World.cell?_alloc_new]; simp)
        (by
          have hk := HC.out i (by omega)
          have hlt := World.block_lt_of_cell? w _ hk
          simp only at hlt
          rw [hb.cell (by simp <;> omega), World.cell?_alloc_lt _ _ _ (by simp <;> omega), World.cell?_alloc_lt _ _ _ hlt]
          exact hk))
      (fun a b hab hb ha => by
        have := Docs.st_mono sz (fun k hk => (hr.2 k hk).1) a b hab (by omega)
        simp at ha ⊢; omega)
    have S' := Keep.mk S
    clear S hc h hr
    go_enter Try.func73, Try.ntmps73
    go_wp2_with (go_at_call 74; refine S'.out.mono ?_; rintro e w' ⟨r, rfl, ⟨hr1, hr2, hr3⟩, hb⟩; have K := Keep.mk (And.intro hr1 (And.intro hr2 (And.intro hr3 hb))); clear hr2 hr3 hb)
    go_ret
    obtain ⟨k1, k2, k3, k4⟩ := K.out
    have e0 : r ≠ 0 := fun e => by have := k3 0 (by omega) (by omega); simp [Docs.st_zero] at this; omega
    have e1 : r ≠ sz.length + 1 := fun e => by have := k2 sz.length (by omega); rw [Docs.st_end] at this; simp at this; omega
    have e2 := k2 (r - 1) (by omega)
    have e3 := k3 (r - 1 + 1) (by omega) (by omega)
    simp only [decide_eq_false_iff_not, decide_eq_true_eq, Int.not_lt] at e2 e3
    exact ⟨r - 1, retI (by omega), ⟨by omega, e2, e3⟩, (balloc (balloc (Below.refl _ _) _) _).trans (k4.mono (by simp <;> omega))⟩

theorem docs_check (v : Value) (sz : List Int) (d : Int) (w : World) (h : DocsAt w v sz) (hr : Docs.Right sz) :
    Calls Try.prog 71 #[v, .int .i64 d] w fun e w' => e = .returned (.int .i64 (if d < 0 ∨ (sz.length : Int) ≤ d then 7 else 0)) ∧ w = w' := by
  obtain ⟨b, g, o, c, s2, rfl, c0, c1, h3, h4, hc, r2⟩ := h.open_
  obtain ⟨A2, n2, rfl, _⟩ := r2
  have := hr.1
  clear hc h
  by_cases h0 : d < 0
  · rw [if_pos (.inl h0)]
    go_enter Try.func71, Try.ntmps71
    go_wp2
    go_ret
    exact ⟨rfl, rfl⟩
  · by_cases h1 : (sz.length : Int) ≤ d
    · rw [if_pos (.inr h1)]
      go_enter Try.func71, Try.ntmps71
      go_wp2
      go_ret
      exact ⟨rfl, rfl⟩
    · rw [if_neg (by omega)]
      go_enter Try.func71, Try.ntmps71
      go_wp2
      go_ret
      exact ⟨rfl, rfl⟩
theorem docs_check_nil (d : Int) (w : World) :
    Calls Try.prog 71 #[.pointer none, .int .i64 d] w fun e w' => e = .returned (.int .i64 11) ∧ w = w' := by
  go_enter Try.func71, Try.ntmps71
  go_wp2
  go_ret
  exact ⟨rfl, rfl⟩
/-- What Place answers. -/
def Docs.place (sz : List Int) (d o : Int) : Int × Int :=
  if d < 0 ∨ (sz.length : Int) ≤ d then (0, 7) else if o < 0 ∨ el sz d.toNat < o then (0, 10) else (Docs.st sz d.toNat + o, 0)
theorem docs_place (v : Value) (sz : List Int) (d o : Int) (w : World) (h : DocsAt w v sz) (hr : Docs.Right sz) :
    Calls Try.prog 15 #[v, .int .i64 d, .int .i64 o] w fun e w' => e = .returned (.tuple #[.int .i64 (Docs.place sz d o).1, .int .i64 (Docs.place sz d o).2]) ∧ w = w' := by
  have hck := docs_check v sz d w h hr
  obtain ⟨b, g, of, c, s2, rfl, c0, c1, h3, h4, hc, r2⟩ := h.open_
  have hlen := hr.1
  clear h
  by_cases h0 : d < 0 ∨ (sz.length : Int) ≤ d
  · rw [if_pos h0] at hck
    have HK := Keep.mk hck
    have e : Docs.place sz d o = (0, 7) := by unfold Docs.place; rw [if_pos h0]
    rw [e]
    clear hck hc h0 e
    go_enter Try.func15, Try.ntmps15
    go_wp2_with (go_at_call 71; refine HK.out.mono ?_; rintro e w1 ⟨rfl, rfl⟩)
    go_ret2
    exact ⟨rfl, rfl⟩
  · rw [if_neg h0] at hck
    have HK := Keep.mk hck
    clear hck
    obtain ⟨k, rfl⟩ : ∃ k : Nat, d = k := ⟨d.toNat, by omega⟩
    have hk : k < sz.length := by omega
    have hb := Docs.st_bound sz hr k (by omega)
    have hs := hr.2 k hk
    rcases r2.open_ with ⟨hz, _⟩ | ⟨g2, o2, n2, rfl, h5, h6, hc2⟩
    · omega
    · have hcell := hc2 k _ (ints_get _ k hk)
      have hcel2 := hc k (by omega)
      have eN : ((k : Nat) : Int).toNat = k := by omega
      by_cases h1 : o < 0
      · have e : Docs.place sz k o = (0, 10) := by unfold Docs.place; rw [if_neg h0, if_pos (.inl h1)]
        rw [e]
        clear hc hc2 h0 e hr eN r2
        go_enter Try.func15, Try.ntmps15
        go_wp2_with (go_at_call 71; refine HK.out.mono ?_; rintro e w1 ⟨rfl, rfl⟩)
        go_ret2
        exact ⟨rfl, rfl⟩
      · by_cases h2 : el sz k < o
        · have e : Docs.place sz k o = (0, 10) := by unfold Docs.place; rw [if_neg h0, if_pos (.inr (by rw [eN]; exact h2))]
          rw [e]
          clear hc hc2 h0 e hr eN r2
          go_enter Try.func15, Try.ntmps15
          go_wp2_with (go_at_call 71; refine HK.out.mono ?_; rintro e w1 ⟨rfl, rfl⟩)
          go_ret2
          exact ⟨rfl, rfl⟩
        · have e : Docs.place sz k o = (Docs.st sz k + o, 0) := by unfold Docs.place; rw [if_neg h0, if_neg (by rw [eN]; omega), eN]
          rw [e]
          clear hc hc2 h0 e hr eN r2
          go_enter Try.func15, Try.ntmps15
          go_wp2_with (go_at_call 71; refine HK.out.mono ?_; rintro e w1 ⟨rfl, rfl⟩)
          go_ret2
          exact ⟨rfl, rfl⟩
theorem docs_end_of (v : Value) (sz : List Int) (w : World) (h : Row w v (sz.length + 1) (ints (Docs.sts sz))) (hr : Docs.Right sz) :
    Calls Try.prog 72 #[v] w fun e w' => e = .returned (.int .i64 (Docs.fin sz)) ∧ w = w' := by
  have := hr.1
  have k := docs_end v (Docs.sts sz) w (sz.length + 1) h (Docs.sts_length sz).symm (by omega) (by omega)
  rw [Nat.add_sub_cancel, Docs.el_sts sz _ (Nat.le_refl _), Docs.st_end] at k
  exact k
theorem docs_symbols (v : Value) (sz : List Int) (w : World) (h : DocsAt w v sz) (hr : Docs.Right sz) :
    Calls Try.prog 17 #[v] w fun e w' => e = .returned (.int .i64 (Docs.fin sz + 1)) ∧ w = w' := by
  obtain ⟨b, s1, s2, rfl, c0, c1, r1, r2⟩ := h
  have HE := Keep.mk (docs_end_of s1 sz w r1 hr)
  have hb := Docs.fin_bound sz hr
  clear r1 r2 c1
  go_enter Try.func17, Try.ntmps17
  go_wp2_with (go_at_call 72; refine HE.out.mono ?_; rintro e w1 ⟨rfl, rfl⟩)
  go_ret
  exact ⟨rfl, rfl⟩
theorem docs_symbols_nil (w : World) :
    Calls Try.prog 17 #[.pointer none] w fun e w' => e = .returned (.int .i64 0) ∧ w = w' := by
  go_enter Try.func17, Try.ntmps17
  go_wp2
  go_ret
  exact ⟨rfl, rfl⟩
theorem docs_total (v : Value) (sz : List Int) (w : World) (h : DocsAt w v sz) (hr : Docs.Right sz) :
    Calls Try.prog 19 #[v] w fun e w' => e = .returned (.int .i64 (Docs.fin sz - sz.length)) ∧ Below w.heap.size w w' := by
  obtain ⟨b, s1, s2, rfl, c0, c1, r1, r2⟩ := h
  have HE : ∀ n, Keep _ := fun n => Keep.mk (docs_end_of s1 sz (w.drewN n) (r1.below (bdraw (Below.refl _ _) _)) hr)
  have hb := Docs.fin_bound sz hr
  obtain ⟨A2, n2, rfl, _⟩ := r2
  have hlen := hr.1
  clear r1
  go_enter Try.func19, Try.ntmps19
  go_wp2_with fail
  go_quiet ((go_at_call 72; refine Calls.quiet_of_same ((HE _).out.mono fun e w' h => ⟨h.1, h.2.symm⟩)))
  go_wp2
  go_ret
  exact ⟨rfl, bdraw (Below.refl _ _) _⟩
theorem docs_total_nil (w : World) :
    Calls Try.prog 19 #[.pointer none] w fun e w' => e = .returned (.int .i64 0) ∧ w = w' := by
  go_enter Try.func19, Try.ntmps19
  go_wp2
  go_ret
  exact ⟨rfl, rfl⟩
theorem docs_count (v : Value) (sz : List Int) (w : World) (h : DocsAt w v sz) (hr : Docs.Right sz) :
    Calls Try.prog 32 #[v] w fun e w' => e = .returned (.int .i64 sz.length) ∧ w = w' := by
  obtain ⟨b, s1, s2, rfl, c0, c1, r1, r2⟩ := h
  obtain ⟨A2, n2, rfl, _⟩ := r2
  have hlen := hr.1
  clear r1
  go_enter Try.func32, Try.ntmps32
  go_wp2
  go_ret
  exact ⟨rfl, rfl⟩
theorem docs_count_nil (w : World) :
    Calls Try.prog 32 #[.pointer none] w fun e w' => e = .returned (.int .i64 0) ∧ w = w' := by
  go_enter Try.func32, Try.ntmps32
  go_wp2
  go_ret
  exact ⟨rfl, rfl⟩
theorem docs_bytes_nil (w : World) :
    Calls Try.prog 33 #[.pointer none] w fun e w' => e = .returned (.slice none 0 0) ∧ w = w' := by
  go_enter Try.func33, Try.ntmps33
  go_wp2
  go_ret
  exact ⟨rfl, rfl⟩
theorem docs_size (v : Value) (sz : List Int) (d : Int) (w : World) (h : DocsAt w v sz) (hr : Docs.Right sz) :
    Calls Try.prog 30 #[v, .int .i64 d] w fun e w' => e = .returned (if d < 0 ∨ (sz.length : Int) ≤ d then .tuple #[.int .i64 0, .int .i64 7] else .tuple #[.int .i64 (el sz d.toNat), .int .i64 0]) ∧ w = w' := by
  have hck := docs_check v sz d w h hr
  obtain ⟨b, g, of, c, s2, rfl, c0, c1, h3, h4, hc, r2⟩ := h.open_
  have hlen := hr.1
  clear h
  by_cases h0 : d < 0 ∨ (sz.length : Int) ≤ d
  · rw [if_pos h0] at hck ⊢
    have HK := Keep.mk hck
    clear hck hc h0
    go_enter Try.func30, Try.ntmps30
    go_wp2_with (go_at_call 71; refine HK.out.mono ?_; rintro e w1 ⟨rfl, rfl⟩)
    go_ret2
    exact ⟨rfl, rfl⟩
  · rw [if_neg h0] at hck ⊢
    have HK := Keep.mk hck
    clear hck
    obtain ⟨k, rfl⟩ : ∃ k : Nat, d = k := ⟨d.toNat, by omega⟩
    have hk : k < sz.length := by omega
    rw [show ((k : Nat) : Int).toNat = k by omega]
    rcases r2.open_ with ⟨hz, _⟩ | ⟨g2, o2, n2, rfl, h5, h6, hc2⟩
    · omega
    · have hcell := hc2 k _ (ints_get _ k hk)
      have hcel2 := hc k (by omega)
      clear hc hc2 r2 hr
      go_enter Try.func30, Try.ntmps30
      go_wp2_with (go_at_call 71; refine HK.out.mono ?_; rintro e w1 ⟨rfl, rfl⟩)
      go_ret2
      exact ⟨rfl, rfl⟩
theorem docs_size_nil (d : Int) (w : World) :
    Calls Try.prog 30 #[.pointer none, .int .i64 d] w fun e w' => e = .returned (.tuple #[.int .i64 0, .int .i64 11]) ∧ w = w' := by
  have HK := Keep.mk (docs_check_nil d w)
  go_enter Try.func30, Try.ntmps30
  go_wp2_with (go_at_call 71; refine HK.out.mono ?_; rintro e w1 ⟨rfl, rfl⟩)
  go_ret2
  exact ⟨rfl, rfl⟩
theorem docs_start (v : Value) (sz : List Int) (d : Int) (w : World) (h : DocsAt w v sz) (hr : Docs.Right sz) :
    Calls Try.prog 31 #[v, .int .i64 d] w fun e w' => e = .returned (if d < 0 ∨ (sz.length : Int) ≤ d then .tuple #[.int .i64 0, .int .i64 7] else .tuple #[.int .i64 (Docs.st sz d.toNat), .int .i64 0]) ∧ w = w' := by
  have hck := docs_check v sz d w h hr
  obtain ⟨b, g, of, c, s2, rfl, c0, c1, h3, h4, hc, r2⟩ := h.open_
  have hlen := hr.1
  clear h
  by_cases h0 : d < 0 ∨ (sz.length : Int) ≤ d
  · rw [if_pos h0] at hck ⊢
    have HK := Keep.mk hck
    clear hck hc h0
    go_enter Try.func31, Try.ntmps31
    go_wp2_with (go_at_call 71; refine HK.out.mono ?_; rintro e w1 ⟨rfl, rfl⟩)
    go_ret2
    exact ⟨rfl, rfl⟩
  · rw [if_neg h0] at hck ⊢
    have HK := Keep.mk hck
    clear hck
    obtain ⟨k, rfl⟩ : ∃ k : Nat, d = k := ⟨d.toNat, by omega⟩
    have hk : k < sz.length := by omega
    rw [show ((k : Nat) : Int).toNat = k by omega]
    rcases r2.open_ with ⟨hz, _⟩ | ⟨g2, o2, n2, rfl, h5, h6, hc2⟩
    · omega
    · have hcell := hc2 k _ (ints_get _ k hk)
      have hcel2 := hc k (by omega)
      clear hc hc2 r2 hr
      go_enter Try.func31, Try.ntmps31
      go_wp2_with (go_at_call 71; refine HK.out.mono ?_; rintro e w1 ⟨rfl, rfl⟩)
      go_ret2
      exact ⟨rfl, rfl⟩
theorem docs_start_nil (d : Int) (w : World) :
    Calls Try.prog 31 #[.pointer none, .int .i64 d] w fun e w' => e = .returned (.tuple #[.int .i64 0, .int .i64 11]) ∧ w = w' := by
  have HK := Keep.mk (docs_check_nil d w)
  go_enter Try.func31, Try.ntmps31
  go_wp2_with (go_at_call 71; refine HK.out.mono ?_; rintro e w1 ⟨rfl, rfl⟩)
  go_ret2
  exact ⟨rfl, rfl⟩
theorem docs_place_nil (d o : Int) (w : World) :
    Calls Try.prog 15 #[.pointer none, .int .i64 d, .int .i64 o] w fun e w' => e = .returned (.tuple #[.int .i64 0, .int .i64 11]) ∧ w = w' := by
  have HK := Keep.mk (docs_check_nil d w)
  go_enter Try.func15, Try.ntmps15
  go_wp2_with (go_at_call 71; refine HK.out.mono ?_; rintro e w1 ⟨rfl, rfl⟩)
  go_ret2
  exact ⟨rfl, rfl⟩
theorem docs_find_nil (p : Int) (w : World) :
    Calls Try.prog 16 #[.pointer none, .int .i64 p] w fun e w' => e = .returned (.tuple #[.int .i64 0, .int .i64 0, .int .i64 11]) ∧ w = w' := by
  go_enter Try.func16, Try.ntmps16
  go_wp2
  go_ret3
  exact ⟨rfl, rfl⟩

theorem docs_find (v : Value) (sz : List Int) (p : Int) (w : World) (h : DocsAt w v sz) (hr : Docs.Right sz) :
    Calls Try.prog 16 #[v, .int .i64 p] w fun e w' => e = .returned (.tuple #[.int .i64 (Docs.find sz p).1, .int .i64 (Docs.find sz p).2.1, .int .i64 (Docs.find sz p).2.2]) ∧ Below w.heap.size w w' := by
  have hb := Docs.fin_bound sz hr
  have hlen := hr.1
  obtain ⟨b, s1, s2, rfl, c0, c1, r1, r2⟩ := h
  have HE := Keep.mk (docs_end_of s1 sz w r1 hr)
  by_cases h0 : p < 0
  · have e : Docs.find sz p = (0, 0, 10) := by unfold Docs.find; rw [if_pos (.inl h0)]
    rw [e]
    clear r1 r2 hr e
    go_enter Try.func16, Try.ntmps16
    go_wp2_with (go_at_call 72; refine HE.out.mono ?_; rintro e w1 ⟨rfl, rfl⟩)
    go_ret3
    exact ⟨rfl, Below.refl _ _⟩
  · by_cases h1 : Docs.fin sz < p
    · have e : Docs.find sz p = (0, 0, 10) := by unfold Docs.find; rw [if_pos (.inr h1)]
      rw [e]
      clear r1 r2 hr e
      go_enter Try.func16, Try.ntmps16
      go_wp2_with (go_at_call 72; refine HE.out.mono ?_; rintro e w1 ⟨rfl, rfl⟩)
      go_ret3
      exact ⟨rfl, Below.refl _ _⟩
    · by_cases h2 : p = Docs.fin sz
      · have e : Docs.find sz p = (0, 0, 7) := by unfold Docs.find; rw [if_neg (by omega), if_pos h2]
        rw [e]
        subst h2
        clear r1 r2 hr e
        go_enter Try.func16, Try.ntmps16
        go_wp2_with (go_at_call 72; refine HE.out.mono ?_; rintro e w1 ⟨rfl, rfl⟩)
        go_ret3
        exact ⟨rfl, Below.refl _ _⟩
      · have HA := Keep.mk (docs_at s1 sz p w r1 hr (by omega) (by omega))
        have HR := Keep.mk (And.intro r1 (And.intro r2 hr))
        have hne : (p == Docs.fin sz) = false := by simp [h2]
        rcases r1.open_ with ⟨hz, _⟩ | ⟨g, o, c, rfl, h5, h6, hc⟩
        · omega
        rcases r2.open_ with ⟨hz, _⟩ | ⟨g2, o2, n2, rfl, h7, h8, hc2⟩
        · have : sz = [] := List.eq_nil_of_length_eq_zero hz
          subst this
          simp [Docs.fin] at hb h0 h1 h2
          omega
        have HC : Keep (∀ k, k < sz.length → w.cell? ⟨g, o + k, none⟩ = some (.int .i64 (Docs.st sz k)) ∧ w.cell? ⟨g2, o2 + k, none⟩ = some (.int .i64 (el sz k))) := ⟨fun k hk => by
          rw [hc k _ (ints_get _ k (by rw [Docs.sts_length]; omega)), Docs.el_sts sz k (by omega), hc2 k _ (ints_get _ k hk)]; exact ⟨rfl, rfl⟩⟩
        clear r1 r2 hr hc hc2 h2
        go_enter Try.func16, Try.ntmps16
        go_wp2_with (first | (go_at_call 72; refine HE.out.mono ?_; rintro e w1 ⟨rfl, rfl⟩) | (go_at_call 73; refine HA.out.mono ?_; rintro e w1 ⟨d, rfl, hd, hb⟩; have KD := Keep.mk hd; have KB := Keep.mk hb; have hd1 := hd.1; have b1 := Docs.st_bound sz HR.out.2.2 d (by omega); have b2 := HR.out.2.2.2 d (by omega); have k0 := kc hb c0; have k1 := kc hb c1; have k2 := kc hb (HC.out d (by omega)).1; have k3 := kc hb (HC.out d (by omega)).2; clear hb hd c0 c1))
        all_goals
          have F := Docs.find_at sz HR.out.2.2 p d hd1 KD.out.2.1 KD.out.2.2
          go_ret3
        · have ht : (p - Docs.st sz d == el sz d) = true := by assumption
          rw [F, if_pos (by simpa using ht)]
          exact ⟨rfl, KB.out⟩
        · have ht : (p - Docs.st sz d == el sz d) = false := by assumption
          rw [F, if_neg (by simpa using ht)]
          exact ⟨rfl, KB.out⟩

theorem docs_size_in (v : Value) (sz : List Int) (d : Nat) (w : World) (h : DocsAt w v sz) (hr : Docs.Right sz) (hd : d < sz.length) :
    Calls Try.prog 30 #[v, .int .i64 d] w fun e w' => e = .returned (.tuple #[.int .i64 (el sz d), .int .i64 0]) ∧ w = w' := by
  have k := docs_size v sz d w h hr
  rw [if_neg (by omega), Int.toNat_natCast] at k
  exact k
theorem docs_start_in (v : Value) (sz : List Int) (d : Nat) (w : World) (h : DocsAt w v sz) (hr : Docs.Right sz) (hd : d < sz.length) :
    Calls Try.prog 31 #[v, .int .i64 d] w fun e w' => e = .returned (.tuple #[.int .i64 (Docs.st sz d), .int .i64 0]) ∧ w = w' := by
  have k := docs_start v sz d w h hr
  rw [if_neg (by omega), Int.toNat_natCast] at k
  exact k
end Go.Proofs.Ytenbclcfhjdcaaa
