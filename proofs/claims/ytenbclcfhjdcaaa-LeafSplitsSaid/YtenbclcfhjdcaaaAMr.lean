/- Steps out of the text's order: what is known of the abstract memories ahead and behind. -/
import Derived.Test.YtenbclcfhjdcaaaAMq
namespace Go.Proofs.Ytenbclcfhjdcaaa.AM
open Go
section
variable {P : Program} {o : Oper} {μ μ' : Mu} {σ τ τ1 τ2 : Heap} {w w' : World}

theorem Holds.mono {x : Blk} {N : Nat} {ob : Option Obj} (h : ∀ l b, μ l = some b → μ' l = some b) (hh : Holds μ x N ob) : Holds μ' x N ob := by
  obtain ⟨c, elem, fr, k1, k0, k2, k3⟩ := hh
  exact ⟨c, elem, fr, k1, k0, k2, fun j u hj => by obtain ⟨u', g1, g2⟩ := k3 j u hj; exact ⟨u', g1, g2.mono h⟩⟩
theorem sim_later (hk : Sim μ τ w.heap) (hk1 : Sim μ' τ1 w'.heap) (F : Fr true μ τ w μ' τ1 w') (l1 : Le τ τ1) (l2 : Le τ1 τ2) (hs : Same τ1 τ2) (h2 : Sim μ τ2 w.heap) : Sim μ' τ2 w'.heap := by
  have old : ∀ l b N, τ1.length ≤ l → μ' l = some (b, N) → μ l = some (b, N) := fun l b N hl h => by
    rcases F.new l b N h with h | ⟨_, h3, _⟩
    · exact h
    · omega
  refine ⟨hk1.lt, fun a1 a2 b N1 N2 hne m1 m2 hf ha => ?_, fun l b N x m hx hd => ?_⟩
  · rcases Nat.lt_or_ge a1 τ1.length with c1 | c1
    · refine hk1.inj a1 a2 b N1 N2 hne m1 m2 (l2.full c1 hf) ?_
      rcases ha with ha | ha
      · rcases Nat.lt_or_ge a2 τ1.length with c2 | c2
        · exact .inl (l2.alive c2 ha)
        · exact .inr c2
      · exact .inr (Nat.le_trans l2.len ha)
    · have o1 := old a1 b N1 c1 m1
      rcases F.new a2 b N2 m2 with o2 | ⟨_, _, hb | ⟨l0, g1, g2, _⟩⟩
      · exact h2.inj a1 a2 b N1 N2 hne o1 o2 hf ha
      · have := hk.lt _ _ _ o1; omega
      · have hl0 : l0 < τ.length := by obtain ⟨x, hx, _⟩ := g2; exact get_lt hx
        have := l1.len
        exact hk.inj l0 a1 b N2 N1 (by omega) g1 o1 g2 (.inr (by omega))
  · rcases Nat.lt_or_ge l τ1.length with c1 | c1
    · have hx1 := List.getElem?_eq_getElem c1
      obtain ⟨x', hx', p1, p2, p3⟩ := l2.blk l _ hx1
      rw [hx] at hx'; cases hx'
      have hc := hs l _ _ hx1 hx
      have hd1 : (τ1[l]).perm ≠ .dead := fun e => hd (p3 e)
      obtain ⟨c, elem, fr, k1, k0, k2, k3⟩ := hk1.blk l b N _ m hx1 hd1
      exact ⟨c, elem, fr, k1, k0, fun hp => k2 (p1 hp), fun j u hj => k3 j u (by rw [← hc]; exact hj)⟩
    · have om := old l b N c1 m
      have hh := h2.blk l b N x om hx hd
      rw [F.keep b (hk.lt _ _ _ om) (fun l' N' hm hf => ?_)]
      · exact hh.mono F.ext
      · have hl' : l' < τ.length := by obtain ⟨x, hx, _⟩ := hf; exact get_lt hx
        have := l1.len
        exact hk.inj l' l b N' N (by omega) hm om hf (.inr (by omega))
theorem all_same (F : Fr true μ τ w μ' τ1 w') (nk : NoKill τ τ1) (b : Nat) (hb : b < w.heap.size) : SameB w.heap w'.heap b := by
  by_cases h : ∃ l N, μ l = some (b, N) ∧ isFull τ l
  · obtain ⟨l, N, h1, h2⟩ := h
    exact F.keepQ rfl l b N h1 (nk l h2.alive)
  · exact .of_eq (F.keep b hb fun l N h1 h2 => h ⟨l, N, h1, h2⟩)
theorem sim_earlier (hk : Sim μ τ w.heap) (hk1 : Sim μ' τ1 w'.heap) (F : Fr true μ τ w μ' τ1 w') (nk : NoKill τ τ1) (l0 : Le τ2 τ) (h2 : Sim μ τ2 w.heap) : Sim μ' τ2 w'.heap := by
  have old : ∀ l b N, l < τ2.length → μ' l = some (b, N) → μ l = some (b, N) := fun l b N hl h => by
    have := l0.len
    rcases F.new l b N h with h | ⟨h3, _, _⟩
    · exact h
    · omega
  refine ⟨hk1.lt, fun a1 a2 b N1 N2 hne m1 m2 hf ha => ?_, fun l b N x m hx hd => ?_⟩
  · have c1 : a1 < τ2.length := by obtain ⟨x, hx, _⟩ := hf; exact get_lt hx
    have o1 := old a1 b N1 c1 m1
    rcases F.new a2 b N2 m2 with o2 | ⟨_, _, hb | ⟨k0, g1, g2, g3⟩⟩
    · exact h2.inj a1 a2 b N1 N2 hne o1 o2 hf ha
    · have := hk.lt _ _ _ o1; omega
    · exact g3 (nk k0 g2.alive)
  · have om := old l b N (get_lt hx) m
    obtain ⟨c, elem, fr, k1, k0, k2, k3⟩ := h2.blk l b N x om hx hd
    obtain ⟨fr', g1, g2⟩ := all_same F nk b (hk.lt _ _ _ om) c elem fr k1
    exact ⟨c, elem, fr', g1, k0, fun hp => g2 (k2 hp), fun j u hj => by obtain ⟨u', e1, e2⟩ := k3 j u hj; exact ⟨u', e1, e2.mono F.ext⟩⟩
/-- What becomes of the world, seen from the start of the region, told by the memory at its end. -/
theorem fr_step {q : Bool} {μ0 : Mu} {w0 : World} {σN : Heap} (hU : ∀ l, σ.length ≤ l → l < σN.length → μ0 l = none) (h0 : Fr false μ0 σ w0 μ σN w) (lk : Le σ τ) (l1 : Le τ τ1) (lN : Le τ1 σN) (F : Fr q μ τ w μ' τ1 w') : Fr false μ0 σ w0 μ' σN w' := by
  have back : ∀ l b N, μ0 l = some (b, N) → isFull τ l → l < σ.length := fun l b N h hf => by
    obtain ⟨x, hx, _⟩ := hf
    have := get_lt hx
    have := l1.len
    have := lN.len
    rcases Nat.lt_or_ge l σ.length with h1 | h1
    · exact h1
    · rw [hU l h1 (by omega)] at h; cases h
  refine ⟨fun l b h => F.ext l b (h0.ext l b h), fun l b N h => ?_, fun b hb hn => ?_, fun h => (by cases h), Nat.le_trans h0.size F.size, F.os.trans h0.os, F.tape.trans h0.tape, F.output.trans h0.output⟩
  · rcases F.new l b N h with h | ⟨g1, g2, h⟩
    · exact h0.new l b N h
    · refine .inr ⟨Nat.le_trans lk.len g1, Nat.lt_of_lt_of_le g2 lN.len, ?_⟩
      rcases h with h | ⟨l0, c1, c2, c3⟩
      · exact .inl (Nat.le_trans h0.size h)
      · rcases h0.new l0 b N c1 with h | ⟨_, _, h⟩
        · have hl := back l0 b N h c2
          refine .inr ⟨l0, h, lk.full hl c2, fun ha => c3 ?_⟩
          exact lN.alive (by have := lk.len; have := l1.len; omega) ha
        · exact h
  · rw [F.keep b (Nat.lt_of_lt_of_le hb h0.size) ?_, h0.keep b hb hn]
    intro l N hl hf
    rcases h0.new l b N hl with h | ⟨b1, b2, h⟩
    · exact hn l N h (lk.full (back l b N h hf) hf)
    · rcases h with h | ⟨l0, c1, c2, _⟩
      · omega
      · exact hn l0 N c1 c2
/-- The steps of a list of operations, by number. -/
theorem trace {call : CallF} {ops : Array Oper} {q : Bool} : ∀ (l : List Oper) {e e' : Env} {σ σ' : Heap}, runOps P call q ops l e σ = some (e', σ') →
    ∃ (E : Nat → Env) (H : Nat → Heap) (V : Nat → Value), E 0 = e ∧ H 0 = σ ∧ E l.length = e' ∧ H l.length = σ' ∧
      ∀ (k : Nat) (o : Oper), l[k]? = some o → guarded P call q ops o (E k) (H k) = some (V k, H (k + 1)) ∧ E (k + 1) = upd (E k) o.dst (V k)
  | [], e, e', σ, σ', h => by
    simp only [runOps] at h; cases h
    exact ⟨fun _ => e, fun _ => σ, fun _ => undef, rfl, rfl, rfl, rfl, fun k o h => by simp at h⟩
  | o :: l, e, e', σ, σ', h => by
    simp only [runOps] at h
    split at h
    · rename_i v σ1 hg
      obtain ⟨E, H, V, h1, h2, h3, h4, h5⟩ := trace l h
      refine ⟨fun k => match k with | 0 => e | k + 1 => E k, fun k => match k with | 0 => σ | k + 1 => H k, fun k => match k with | 0 => v | k + 1 => V k, rfl, rfl, h3, h4, fun k o' hk => ?_⟩
      cases k with
      | zero => simp at hk; subst hk; simp only [h1, h2]; exact ⟨hg, trivial⟩
      | succ k => exact h5 k o' (by simpa using hk)
    · cases h
theorem or_bits {f g : Edge → Nat} {p : Edge → Bool} {j : Nat} : ∀ (l : List Edge) (s : Nat), (l.foldl (fun s e => if p e then s ||| f e ||| g e else s) s).testBit j = true → s.testBit j = true ∨ ∃ e ∈ l, p e = true ∧ ((f e).testBit j = true ∨ (g e).testBit j = true)
  | [], s, h => .inl h
  | e :: l, s, h => by
    rw [List.foldl_cons] at h
    rcases or_bits l _ h with h | ⟨e', h1, h2, h3⟩
    · split at h
      · rename_i hp
        rw [Nat.testBit_or, Bool.or_eq_true, Nat.testBit_or, Bool.or_eq_true] at h
        rcases h with (h | h) | h
        · exact .inl h
        · exact .inr ⟨e, by simp, hp, .inl h⟩
        · exact .inr ⟨e, by simp, hp, .inr h⟩
      · exact .inl h
    · exact .inr ⟨e', by simp [h1], h2, h3⟩
end
end Go.Proofs.Ytenbclcfhjdcaaa.AM
