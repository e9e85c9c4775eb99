/- Slices of one's own: append. -/
import Derived.Test.YtenbclcfhjdcaaaAMy
import Derived.Great.FillDense
namespace Go.Proofs.Ytenbclcfhjdcaaa.AM
open Go
section
variable {P : Program} {prim : CallF} {σ σ' τ : Heap} {v v' : Value}
/-- buildSliceV, not to be opened. -/
def buildSliceV' (P : Program) (t : TypeId) (len : Nat) (parts : Array (Nat × Value)) : Option (List Value) := buildSliceV P t len parts
def capIs (c s n total : Nat) : Prop := match capOf c with
  | .exact C => n ≤ C ∧ C * s ≤ total
  | .unk es lb => es = s ∧ n ≤ lb ∧ lb * s ≤ total
  | .dng => False
theorem capIs_of {c s n lb total : Nat} (hc : capOf c = .unk s lb) (hn : n ≤ lb) (h : lb * s ≤ total) : capIs c s n total := by
  unfold capIs
  rw [hc]
  exact ⟨rfl, hn, h⟩
/-- A slice of one's own: it begins its block, and B holds of the block's number. -/
def Own (B : Nat → Prop) (σ : Heap) (v : Value) (s : Nat) (l : List (List Value)) : Prop :=
  (∀ x ∈ l, x.length = s ∧ x.all cellB = true) ∧ ((v = .slice none 0 0 ∧ l = []) ∨ ∃ g c rest, v = .slice (some ⟨g, 0, none⟩) l.length c ∧ B g ∧ σ[g]? = some ⟨l.flatten ++ rest, .full⟩ ∧ capIs c s l.length (l.length * s + rest.length))
theorem Own.nil {B : Nat → Prop} {s : Nat} : Own B σ (.slice none 0 0) s [] := ⟨by simp, .inl ⟨rfl, rfl⟩⟩
theorem capIs_le {c s n total : Nat} (h : capIs c s n total) : capIs c s 0 total := by
  unfold capIs at *
  split at h
  · exact ⟨by omega, h.2⟩
  · exact ⟨h.1, by omega, h.2.2⟩
  · exact h
theorem capIs_dng {c s n m : Nat} (h : capIs c s n m) : c < dng := by
  unfold capIs at h
  split at h
  · rename_i C hc; have := (capOf_exact hc).2; simp only [top, dng] at *; omega
  · rename_i es lb hc
    by_cases hd : c < dng
    · exact hd
    · exfalso
      rw [capOf_unk hc] at hd hc
      exact unk_dng (Nat.le_of_not_lt hd) hc
  · exact h.elim
theorem Own.rows {B : Nat → Prop} {s : Nat} {l : List (List Value)} (h : Own B σ v s l) : Rows σ v s l := by
  obtain ⟨hc, ⟨rfl, rfl⟩ | ⟨g, c, rest, rfl, hB, hg, hcap⟩⟩ := h
  · exact .nil
  · exact .of hg (by simp) (by simp only; rw [← flatten_len fun x hx => (hc x hx).1, List.take_left]) (fun x hx => (hc x hx).1) (capIs_dng hcap)
theorem Own.frame {B : Nat → Prop} {s : Nat} {l : List (List Value)} (h : Own B σ v s l) (hf : ∀ g, B g → g < σ.length → σ'[g]? = σ[g]?) : Own B σ' v s l := by
  obtain ⟨hc, h0 | ⟨g, c, rest, h1, hB, hg, hcap⟩⟩ := h
  · exact ⟨hc, .inl h0⟩
  · exact ⟨hc, .inr ⟨g, c, rest, h1, hB, by rw [hf g hB (get_lt hg)]; exact hg, hcap⟩⟩
theorem Own.weaken {B B' : Nat → Prop} {s : Nat} {l : List (List Value)} (h : Own B σ v s l) (hB : ∀ g, B g → g < σ.length → B' g) : Own B' σ v s l := by
  obtain ⟨hc, h0 | ⟨g, c, rest, h1, h2, hg, hcap⟩⟩ := h
  · exact ⟨hc, .inl h0⟩
  · exact ⟨hc, .inr ⟨g, c, rest, h1, hB g h2 (get_lt hg), hg, hcap⟩⟩
theorem Own.app {B : Nat → Prop} {s : Nat} {l : List (List Value)} (h : Own B σ v s l) (τ : Heap) : Own B (σ ++ τ) v s l := h.frame fun g _ hg => List.getElem?_append_left hg
theorem Own.len {B : Nat → Prop} {s : Nat} {l : List (List Value)} (h : Own B σ v s l) : ∃ A c, v = .slice A l.length c := by
  obtain ⟨_, ⟨h1, h2⟩ | ⟨g, c, rest, h1, _⟩⟩ := h
  · subst h2; exact ⟨_, _, h1⟩
  · exact ⟨_, _, h1⟩
/-- What append asks of types. -/
def appT (P : Program) (t tx : TypeId) (s : Nat) : Bool :=
  match P.underlying t, P.underlying tx with
  | some (.slice e), some (.slice _) => match szOf P e, byOf P e, zeroOf P e with
    | some s', some b, some z => s == s' && s' != 0 && z.cells.size == s' && decide (s' ≤ 1048576) && decide (b ≤ 4096)
    | _, _, _ => false
  | _, _ => false
theorem Rows.src {t : TypeId} {tx s : Nat} {xs : List (List Value)} (h : Rows σ v s xs) (ht : appT P t tx s = true) (h0 : xs ≠ [] ∨ v = .slice none 0 0) : srcOf P σ s tx v = some (xs.length, xs.flatten) := by
  unfold appT at ht
  split at ht
  · rename_i e e' h1 h2
    unfold srcOf
    rw [h2]
    by_cases hn : xs = []
    · rcases h0 with h0 | h0
      · exact (h0 hn).elim
      · subst hn; subst h0; rfl
    · obtain ⟨g, o, c, e1, e2⟩ := h.at_ hn
      subst e1
      simp only [readN_eq, e2]
      rfl
  · cases ht
theorem splice_own {l : List (List Value)} {rest xs : List Value} {s : Nat} (hc : ∀ x ∈ l, x.length = s) (hl : xs.length ≤ rest.length) : splice (l.flatten ++ rest) (l.length * s) xs = l.flatten ++ xs ++ rest.drop xs.length := by
  have := flatten_len hc
  unfold splice
  rw [← this, List.take_left, List.append_assoc, List.append_assoc]
  congr 2
  rw [← List.drop_drop, List.drop_left]
theorem append_nil {q : Bool} {t tx e size bytes m : Nat} {z : Value} {x : Value} {xs : List Value} (h1 : P.underlying t = some (.slice e)) (h3 : szOf P e = some size) (h4 : byOf P e = some bytes) (h5 : zeroOf P e = some z) (hs : srcOf P σ size tx x = some (m, xs))
    (hc : size ≠ 0 ∧ z.cells.size = size ∧ size ≤ 1048576 ∧ bytes ≤ 4096 ∧ 0 + m ≤ 17179869184 ∧ xs.all cellB = true) : aAppend P q t tx (.slice none 0 0) x σ = if m = 0 then some (.slice none 0 0, σ) else some (.slice (some ⟨σ.length, 0, none⟩) m (unk size m), σ ++ [⟨xs, .full⟩]) := by
  unfold aAppend
  rw [h1]; dsimp only
  rw [h3, h4, h5]; dsimp only
  rw [hs]; dsimp only
  rw [if_neg (Decidable.not_not.2 hc), if_pos ⟨rfl, rfl⟩]
  unfold newBlk
  rw [if_pos hc.2.2.2.2.2]
  rfl
theorem append_exact {t tx e size bytes m n c : Nat} {z : Value} {x : Value} {a : Addr} {xs : List Value} (h1 : P.underlying t = some (.slice e)) (h3 : szOf P e = some size) (h4 : byOf P e = some bytes) (h5 : zeroOf P e = some z) (hs : srcOf P σ size tx x = some (m, xs))
    (hc : size ≠ 0 ∧ z.cells.size = size ∧ size ≤ 1048576 ∧ bytes ≤ 4096 ∧ n + m ≤ 17179869184 ∧ xs.all cellB = true) (hcap : capOf c = .exact c) : aAppend P false t tx (.slice (some a) n c) x σ =
      if n + m ≤ c then (if m = 0 then some (.slice (some a) n c, σ) else (writeN σ (a.add (n * size)) xs).map fun σ' => (.slice (some a) (n + m) c, σ'))
            else match readN σ a (n * size) with
              | some olds => (newBlk σ (olds ++ xs)).map fun (a, σ') => (.slice (some a) (n + m) (unk size (n + m)), σ')
              | none => none := by
  unfold aAppend
  rw [h1]; dsimp only
  rw [h3, h4, h5]; dsimp only
  rw [hs]; dsimp only
  rw [if_neg (Decidable.not_not.2 hc), hcap]
  rfl
theorem append_unk {t tx e size bytes m n c es lb : Nat} {z : Value} {x : Value} {l : Nat} {xs : List Value} {b : Blk} (h1 : P.underlying t = some (.slice e)) (h3 : szOf P e = some size) (h4 : byOf P e = some bytes) (h5 : zeroOf P e = some z) (hs : srcOf P σ size tx x = some (m, xs))
    (hc : size ≠ 0 ∧ z.cells.size = size ∧ size ≤ 1048576 ∧ bytes ≤ 4096 ∧ n + m ≤ 17179869184 ∧ xs.all cellB = true) (hcap : capOf c = .unk es lb) (hb : σ[l]? = some b) : aAppend P false t tx (.slice (some ⟨l, 0, none⟩) n c) x σ =
      if m = 0 then some (.slice (some ⟨l, 0, none⟩) n c, σ)
            else if n + m ≤ lb then (writeN σ (Addr.add ⟨l, 0, none⟩ (n * size)) xs).map fun σ' => (.slice (some ⟨l, 0, none⟩) (n + m) c, σ')
            else if b.perm = .full ∧ n * size ≤ b.cells.length ∧ es = size then (newBlk (kill σ l) (b.cells.take (n * size) ++ xs)).map fun (a, σ') => (.slice (some a) (n + m) (unk size (n + m)), σ')
                else none := by
  unfold aAppend
  rw [h1]; dsimp only
  rw [h3, h4, h5]; dsimp only
  rw [hs]; dsimp only
  rw [if_neg (Decidable.not_not.2 hc), hcap]; dsimp only
  rw [hb]
  rfl
theorem Own.appendF {B : Nat → Prop} {s : Nat} {l xs : List (List Value)} {t tx : TypeId} {src : Value} (h : Own B σ v s l) (ht : appT P t tx s = true) (hsrc : srcOf P σ s tx src = some (xs.length, xs.flatten))
    (hxs : ∀ x ∈ xs, x.length = s) (hx : ∀ x ∈ xs, x.all cellB = true) (hlen : l.length + xs.length ≤ 17179869184) (hB : B σ.length) :
    ∃ v' σ', aAppend P false t tx v src σ = some (v', σ') ∧ Own B σ' v' s (l ++ xs) ∧ (∀ g, g < σ.length → ¬ B g → σ'[g]? = σ[g]?) ∧ σ.length ≤ σ'.length := by
  obtain ⟨hc2, hv⟩ := h
  have hc : ∀ x ∈ l, x.length = s := fun x hx => (hc2 x hx).1
  have hcc : ∀ x ∈ l ++ xs, x.length = s ∧ x.all cellB = true := fun x hm => by
    rcases List.mem_append.1 hm with hm | hm
    · exact hc2 x hm
    · exact ⟨hxs x hm, hx x hm⟩
  have hallo : (l.flatten ++ xs.flatten).all cellB = true := by
    rw [← List.flatten_append, List.all_eq_true]
    intro y hy
    obtain ⟨x, hm, hy⟩ := List.mem_flatten.1 hy
    exact List.all_eq_true.1 (hcc x hm).2 y hy
  have hxl := flatten_len hxs
  have hall : xs.flatten.all cellB = true := by
    rw [List.all_eq_true]
    intro y hy
    obtain ⟨x, hm, hy⟩ := List.mem_flatten.1 hy
    exact List.all_eq_true.1 (hx x hm) y hy
  unfold appT at ht
  split at ht
  · rename_i e e' h1 h2
    split at ht
    · rename_i s' b z h3 h4 h5
      simp only [Bool.and_eq_true, beq_iff_eq, bne_iff_ne, decide_eq_true_eq] at ht
      obtain ⟨⟨⟨⟨rfl, ht2⟩, ht3⟩, ht4⟩, ht5⟩ := ht
      have hs0 : 0 < s := Nat.pos_of_ne_zero ht2
      rcases hv with ⟨rfl, rfl⟩ | ⟨g, c, rest, rfl, hBg, hg, hcap⟩
      · rw [append_nil h1 h3 h4 h5 hsrc ⟨ht2, ht3, ht4, ht5, by simpa using hlen, hall⟩]
        by_cases hm : xs.length = 0
        · have : xs = [] := List.eq_nil_of_length_eq_zero hm
          subst this
          exact ⟨.slice none 0 0, σ, by simp, .nil, fun _ _ _ => rfl, Nat.le_refl _⟩
        · rw [if_neg hm]
          refine ⟨_, _, rfl, ⟨hcc, .inr ⟨σ.length, unk s xs.length, [], by simp, hB, by simp, ?_⟩⟩, fun k hk _ => List.getElem?_append_left hk, by simp⟩
          refine capIs_of (lb := xs.length) (capOf_unk_eq (by simp only [top]; simp only [List.length_nil] at hlen; omega) (by omega)) (by simp) ?_
          simp only [List.nil_append, List.length_nil, Nat.add_zero, Nat.le_refl]
      · have hlt := get_lt hg
        have hlf := flatten_len hc
        have inplace : (l.length + xs.length) * s ≤ l.length * s + rest.length → capIs c s (l.length + xs.length) (l.length * s + rest.length) → ∃ v' σ', (writeN σ (Addr.add ⟨g, 0, none⟩ (l.length * s)) xs.flatten).map (fun σ' => ((Value.slice (some ⟨g, 0, none⟩) (l.length + xs.length) c), σ')) = some (v', σ') ∧ Own B σ' v' s (l ++ xs) ∧ (∀ g, g < σ.length → ¬ B g → σ'[g]? = σ[g]?) ∧ σ.length ≤ σ'.length   := fun hfit hcapn => by
          rw [Nat.add_mul] at hfit
          have hr : xs.flatten.length ≤ rest.length := by omega
          rw [Addr.add_lit, writeN_eq, hg, writeB_full, if_pos ⟨by rw [List.length_append]; omega, hall⟩]
          refine ⟨_, _, rfl, ⟨hcc, .inr ⟨g, c, rest.drop xs.flatten.length, by simp, hBg, ?_, ?_⟩⟩, fun k hk hnB => ?_, by simp⟩
          · rw [Nat.zero_add, splice_own hc hr, List.getElem?_set_self hlt]
            simp
          · have : (l ++ xs).length * s + (rest.drop xs.flatten.length).length = l.length * s + rest.length := by
              rw [List.length_append, Nat.add_mul, List.length_drop]; omega
            rw [this, List.length_append]; exact hcapn
          · rw [List.getElem?_set_ne (by intro e; subst e; exact hnB hBg)]
        have hcap' := hcap
        unfold capIs at hcap
        split at hcap
        · rename_i C hC
          have hCc := (capOf_exact hC).1
          subst hCc
          rw [append_exact h1 h3 h4 h5 hsrc ⟨ht2, ht3, ht4, ht5, hlen, hall⟩ hC]
          by_cases hfit : l.length + xs.length ≤ C
          · rw [if_pos hfit]
            by_cases hm : xs.length = 0
            · have : xs = [] := List.eq_nil_of_length_eq_zero hm
              subst this
              exact ⟨.slice (some ⟨g, 0, none⟩) l.length C, σ, by simp, by rw [List.append_nil]; exact ⟨hc2, .inr ⟨g, _, rest, rfl, hBg, hg, hcap'⟩⟩, fun _ _ _ => rfl, Nat.le_refl _⟩
            · rw [if_neg hm]
              exact inplace (Nat.le_trans (Nat.mul_le_mul_right _ hfit) hcap.2) (by unfold capIs; rw [hC]; exact ⟨hfit, hcap.2⟩)
          · rw [if_neg hfit, readN_eq, hg, readB_full, if_pos (by rw [List.length_append, hlf]; omega)]
            simp only [List.drop_zero]
            rw [← hlf, List.take_left]
            simp only [newBlk, hallo, if_true]
            refine ⟨_, _, rfl, ⟨hcc, .inr ⟨σ.length, unk s (l.length + xs.length), [], by simp, hB, by simp, ?_⟩⟩, fun k hk _ => List.getElem?_append_left hk, by simp⟩
            refine capIs_of (lb := l.length + xs.length) (capOf_unk_eq (by simp only [top]; omega) (by omega)) (by simp only [List.length_append, Nat.le_refl]) ?_
            simp only [List.length_append, List.length_nil, Nat.add_zero, Nat.le_refl]
        · rename_i es lb hC
          obtain ⟨rfl, hnlb, hlb⟩ := hcap
          rw [append_unk h1 h3 h4 h5 hsrc ⟨ht2, ht3, ht4, ht5, hlen, hall⟩ hC hg]
          by_cases hm : xs.length = 0
          · have : xs = [] := List.eq_nil_of_length_eq_zero hm
            subst this
            exact ⟨.slice (some ⟨g, 0, none⟩) l.length c, σ, by simp, by rw [List.append_nil]; exact ⟨hc2, .inr ⟨g, _, rest, rfl, hBg, hg, hcap'⟩⟩, fun _ _ _ => rfl, Nat.le_refl _⟩
          · rw [if_neg hm]
            by_cases hfit : l.length + xs.length ≤ lb
            · rw [if_pos hfit]
              exact inplace (Nat.le_trans (Nat.mul_le_mul_right _ hfit) hlb) (by unfold capIs; rw [hC]; exact ⟨rfl, hfit, hlb⟩)
            · rw [if_neg hfit, if_pos ⟨rfl, by simp only [List.length_append, hlf]; omega, rfl⟩, ← hlf, List.take_left]
              unfold newBlk
              rw [if_pos hallo]
              refine ⟨_, _, rfl, ⟨hcc, .inr ⟨σ.length, unk es (l.length + xs.length), [], by simp [kill_len], hB, by rw [List.getElem?_append_right (by simp [kill_len])]; simp [kill_len], ?_⟩⟩, fun k hk hnB => ?_, by simp [kill_len]⟩
              · refine capIs_of (lb := l.length + xs.length) (capOf_unk_eq (by simp only [top]; omega) (by omega)) (by simp only [List.length_append, Nat.le_refl]) ?_
                simp only [List.length_append, List.length_nil, Nat.add_zero, Nat.le_refl]
              · rw [List.getElem?_append_left (by rw [kill_len]; exact hk), kill_get, if_neg (by intro e; subst e; exact hnB hBg)]
        · exact hcap.elim
    · cases ht
  · cases ht
theorem Own.append {B : Nat → Prop} {s : Nat} {l xs : List (List Value)} {t tx : TypeId} {src : Value} (h : Own B σ v s l) (ht : appT P t tx s = true) (hsrc : srcOf P σ s tx src = some (xs.length, xs.flatten))
    (hxs : ∀ x ∈ xs, x.length = s) (hx : ∀ x ∈ xs, x.all cellB = true) (hlen : l.length + xs.length ≤ 17179869184) (hB : B σ.length) {k : KV}
    (hk : ∀ v' σ', Own B σ' v' s (l ++ xs) → (∀ g, g < σ.length → ¬ B g → σ'[g]? = σ[g]?) → σ.length ≤ σ'.length → k.run v' σ') : @VA (aAppend P false t tx v src σ) k := by
  obtain ⟨v', σ', h1, h2, h3, h4⟩ := h.appendF ht hsrc hxs hx hlen hB
  rw [h1]
  exact hk v' σ' h2 h3 h4
/-- Nothing of one's own slice. -/
theorem Own.zero {B : Nat → Prop} {s n g c : Nat} {l : List (List Value)} (h : Own B σ (.slice (some ⟨g, 0, none⟩) n c) s l) : Own B σ (.slice (some ⟨g, 0, none⟩) 0 c) s [] := by
  obtain ⟨hc, ⟨h1, _⟩ | ⟨g', c', rest, h1, hB, hg, hcap⟩⟩ := h
  · cases h1
  · cases h1
    have := flatten_len fun x hx => (hc x hx).1
    exact ⟨by simp, .inr ⟨g, c, l.flatten ++ rest, rfl, hB, by simpa using hg, capIs_le (n := l.length) (by simpa [this] using hcap)⟩⟩
theorem Own.slice0 {B : Nat → Prop} {s n g c t e : Nat} {l : List (List Value)} {k : IntKind} (h : Own B σ (.slice (some ⟨g, 0, none⟩) n c) s l) (ht : P.underlying t = some (.slice e)) (hs : szOf P e = some s) : aSlice P t (.slice (some ⟨g, 0, none⟩) n c) none (some (.int k 0)) none = some (.slice (some ⟨g, 0, none⟩) 0 c) := by
  obtain ⟨hc, ⟨h1, _⟩ | ⟨g', c', rest, h1, hB, hg, hcap⟩⟩ := h
  · cases h1
  · cases h1
    unfold aSlice
    simp only [intOpt]
    rw [ht]; dsimp only
    rw [hs]; dsimp only
    unfold capIs at hcap
    split at hcap
    · rename_i C hC
      have hCc := (capOf_exact hC).1
      subst hCc
      rw [hC]; dsimp only
      simp [bounds]
    · rename_i es lb hC
      rw [hC]; dsimp only
      simp [bounds]
    · exact hcap.elim
/-- Made zeros at nil. -/
theorem Own.zeros {B : Nat → Prop} {s b n t e : Nat} {k : IntKind} {z : List Value} (ht : P.underlying t = some (.slice e)) (hs : szOf P e = some s) (hb : byOf P e = some b) (hz : ∀ n, zerosOf P e n = some (List.replicate n z).flatten) (hzs : z.length = s) (hzc : z.all cellB = true)
    (h0 : 0 < n) (hn : n ≤ 17179869184) (hs0 : 0 < s) (hs1 : s ≤ 1048576) (hb4 : b ≤ 4096) (hB : B σ.length) :
    aZeros P t (.slice none 0 0) (.int k n) σ = some (.slice (some ⟨σ.length, 0, none⟩) n (unk s n), σ ++ [⟨(List.replicate n z).flatten, .full⟩]) ∧ Own B (σ ++ [⟨(List.replicate n z).flatten, .full⟩]) (.slice (some ⟨σ.length, 0, none⟩) n (unk s n)) s (List.replicate n z) := by
  refine ⟨?_, ?_⟩
  · simp only [aZeros, ht, hs, hb, hz]
    rw [if_pos ⟨by omega, by omega, hs0, hs1, hb4⟩]
    unfold newBlk
    rw [if_pos (by
      rw [List.all_eq_true]
      intro y hy
      obtain ⟨x, hm, hy⟩ := List.mem_flatten.1 hy
      rw [(List.mem_replicate.1 hm).2] at hy
      exact List.all_eq_true.1 hzc y hy)]
    rfl
  · refine ⟨fun x hx => by rw [(List.mem_replicate.1 hx).2]; exact ⟨hzs, hzc⟩, .inr ⟨σ.length, unk s n, [], by rw [List.length_replicate], hB, by simp, ?_⟩⟩
    refine capIs_of (lb := n) (capOf_unk_eq (by simp only [top]; omega) (by omega)) (by simp only [List.length_replicate, Nat.le_refl]) ?_
    simp only [List.length_replicate, List.length_nil, Nat.add_zero, Nat.le_refl]
/-- A slice literal of one element. -/
@[simp] theorem buildSliceV_one {t : TypeId} {x : Value} : buildSliceV P t 1 #[(0, x)] = match P.underlying t with
    | some (.slice e) => match szOf P e, zerosOf P e 1 with
      | some s, some zs => if zs.length = s ∧ 0 < s ∧ s ≤ 16777216 ∧ junkB x = false ∧ x.cells.size = s then some x.cells.toList else buildSliceV' P t 1 #[(0, x)]
      | _, _ => none
    | _ => none := by
  unfold buildSliceV' buildSliceV
  cases P.underlying t with
  | none => rfl
  | some d =>
    cases d <;> try rfl
    rename_i e
    dsimp only
    cases szOf P e with
    | none => rfl
    | some s =>
      cases zerosOf P e 1 with
      | none => rfl
      | some zs =>
        dsimp only
        by_cases h : zs.length = s ∧ 0 < s ∧ s ≤ 16777216 ∧ junkB x = false ∧ x.cells.size = s
        · rw [if_pos h]
          obtain ⟨h1, h0, h2, h3, h4⟩ := h
          rw [if_pos ⟨by omega, by decide, by simpa using h3⟩]
          have := Great.fill_whole h0 [x] zs.toArray (by simpa using h4) (by simp [h1])
          simp at this
          rw [this]
          simp
        · rw [if_neg h]
/-- A loop's first round. -/
theorem w_once {c : Code} {K : Ex → Env → Heap → Prop} {e : Env} (h : W P prim c (Then (W P prim (.loop c) K) K) e σ) : W P prim (.loop c) K e σ := by
  obtain ⟨k, y, e1, σ1, h1, h2⟩ := h
  cases y with
  | normal =>
    obtain ⟨j, x2, e2, σ2, h3, h4⟩ := h2
    refine ⟨max k j + 1, x2, e2, σ2, ?_, h4⟩
    simp only [exec]
    rw [exec_mono (Nat.le_max_left k j) h1]
    exact exec_mono (Nat.le_max_right k j) h3
  | exit i => exact ⟨k + 1, _, _, _, by simp only [exec]; rw [h1], h2⟩
  | ret => exact ⟨k + 1, _, _, _, by simp only [exec]; rw [h1], h2⟩
/-- What stood before stands. -/
def Ext (σ ρ : Heap) : Prop := ∀ g, g < σ.length → ρ[g]? = σ[g]?
theorem Ext.refl : Ext σ σ := fun _ _ => rfl
theorem Ext.app {τ : Heap} : Ext σ (σ ++ τ) := fun _ h => List.getElem?_append_left h
theorem Ext.ex {ρ : Heap} (h : Ext σ ρ) : ∃ τ, ρ = σ ++ τ := by
  refine ⟨ρ.drop σ.length, ?_⟩
  refine List.ext_getElem? fun i => ?_
  by_cases hi : i < σ.length
  · rw [List.getElem?_append_left hi, h i hi]
  · rw [List.getElem?_append_right (by omega), List.getElem?_drop]
    congr 1
    omega
theorem Ext.len {ρ : Heap} (h : Ext σ ρ) : σ.length ≤ ρ.length := by
  obtain ⟨τ, rfl⟩ := h.ex
  simp
end
end Go.Proofs.Ytenbclcfhjdcaaa.AM
