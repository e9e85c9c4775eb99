/- A region, its order fixed or open. -/
import Derived.Test.YtenbclcfhjdcaaaAMs
namespace Go.Proofs.Ytenbclcfhjdcaaa.AM
open Go
section
variable {P : Program} {μ : Mu} {σ σ' : Heap} {w w' : World} {v v' : Value} {e e' : Env} {a : Act} {call : CallF} {ops : Array Oper}
theorem rounds_mono {c : Code} {Q Q' : Exit → Act → World → Prop} (hq : ∀ y a w, Q y a w → Q' y a w) : ∀ (n : Nat) (a : Act) (w : World), Code.rounds P c Q n a w → Code.rounds P c Q' n a w
  | 0, _, _, h => h
  | n + 1, a, w, h => wp_mono h fun y a' w' h' => by
    cases y with
    | normal => exact rounds_mono hq n a' w' h'
    | _ => exact hq _ _ _ h'

/-- The run of a region in the plan's order, step by step. -/
structure Trace (P : Program) (call : CallF) (ops : Array Oper) (ord : List Nat) (q : Nat) (E : Nat → Env) (H : Nat → Heap) (V : Nat → Value) : Prop where
  step : ∀ k, k < ops.size → guarded P call (decide (k < q)) ops (opN ops (ord.getD k 0)) (E k) (H k) = some (V k, H (k + 1))
  env : ∀ k, k < ops.size → E (k + 1) = upd (E k) (opN ops (ord.getD k 0)).dst (V k)
theorem Trace.le {ord : List Nat} {q : Nat} {E : Nat → Env} {H : Nat → Heap} {V : Nat → Value} (hcall : CallOk P call) (t : Trace P call ops ord q E H V) {i j : Nat} (hij : i ≤ j) (hj : j ≤ ops.size) : Le (H i) (H j) := by
  induction j with
  | zero => have : i = 0 := by omega
            subst this; exact .refl _
  | succ j ih =>
    rcases Nat.lt_or_ge j i with h | h
    · have : i = j + 1 := by omega
      subst this; exact .refl _
    · exact (ih h (by omega)).trans (guarded_le hcall (t.step j (by omega)))
theorem Trace.same {ord : List Nat} {q : Nat} {E : Nat → Env} {H : Nat → Heap} {V : Nat → Value} (hcall : CallOk P call) (t : Trace P call ops ord q E H V) {i j : Nat} (hij : i ≤ j) (hjq : j ≤ q) (hj : j ≤ ops.size) : Same (H i) (H j) := by
  induction j with
  | zero => have : i = 0 := by omega
            subst this; exact .refl _
  | succ j ih =>
    rcases Nat.lt_or_ge j i with h | h
    · have : i = j + 1 := by omega
      subst this; exact .refl _
    · have hs := t.step j (by omega)
      rw [decide_eq_true (by omega)] at hs
      exact (ih h (by omega) (by omega)).trans (t.le hcall h (by omega)) (guarded_same hs)
theorem Trace.pure {ord : List Nat} {q : Nat} {E : Nat → Env} {H : Nat → Heap} {V : Nat → Value} (t : Trace P call ops ord q E H V) {i j : Nat} (hij : i ≤ j) (hj : j ≤ ops.size) (hp : ∀ k, i ≤ k → k < j → pureOp (opN ops (ord.getD k 0)).op = true) : H j = H i := by
  induction j with
  | zero => have : i = 0 := by omega
            subst this; rfl
  | succ j ih =>
    rcases Nat.lt_or_ge j i with h | h
    · have : i = j + 1 := by omega
      subst this; rfl
    · rw [(pure_any (q' := true) (hp j h (by omega)) (t.step j (by omega))).1]
      exact ih h (by omega) fun k h1 h2 => hp k h1 (by omega)
theorem Trace.at {ord : List Nat} {q : Nat} {E : Nat → Env} {H : Nat → Heap} {V : Nat → Value} (t : Trace P call ops ord q E H V) {i j : Nat} (hij : i ≤ j) (hj : j ≤ ops.size) {x : Tmp} (hx : ∀ k, i ≤ k → k < j → (opN ops (ord.getD k 0)).dst ≠ some x) : E j x = E i x := by
  induction j with
  | zero => have : i = 0 := by omega
            subst this; rfl
  | succ j ih =>
    rcases Nat.lt_or_ge j i with h | h
    · have : i = j + 1 := by omega
      subst this; rfl
    · rw [t.env j (by omega)]
      have hne := hx j h (by omega)
      have : upd (E j) (opN ops (ord.getD j 0)).dst (V j) x = E j x := by
        cases hd : (opN ops (ord.getD j 0)).dst with
        | none => rfl
        | some d =>
          simp only [upd]
          rw [if_neg (fun e => hne (by rw [hd, e]))]
      rw [this]
      exact ih h (by omega) fun k h1 h2 => hx k h1 (by omega)
/-- Two places with the same writers ahead. -/
theorem Trace.at2 {ord : List Nat} {q : Nat} {E : Nat → Env} {H : Nat → Heap} {V : Nat → Value} (t : Trace P call ops ord q E H V) {i j : Nat} (hi : i ≤ ops.size) (hj : j ≤ ops.size) {x : Tmp} (hx : ∀ k, k < ops.size → (opN ops (ord.getD k 0)).dst = some x → (k < i ↔ k < j)) : E j x = E i x := by
  rcases Nat.le_total i j with h | h
  · exact t.at h hj fun k h1 h2 hd => by have := hx k (by omega) hd; omega
  · exact (t.at h hi fun k h1 h2 hd => by have := hx k (by omega) hd; omega).symm

/-- Which operation has come up. -/
def Up (listed : Array Bool) (ord : List Nat) (k : Nat) : Prop := listed.getD (ord.getD k 0) false = true
structure Inv (P : Program) (ops : Array Oper) (ord : List Nat) (q nt : Nat) (E : Nat → Env) (H : Nat → Heap) (μ0 : Mu) (w0 : World) (listed : Array Bool) (a : Act) (w : World) (μ : Mu) : Prop where
  size : listed.size = ops.size
  closed : ∀ k, k < ops.size → Up listed ord k → ∀ j, j < ops.size → wts ops (ord.getD k 0) (ord.getD j 0) = true → Up listed ord j
  env : ∀ x, ∃ m, m ≤ ops.size ∧ Val μ (E m x) (a.tmps.getD x undef) ∧ ∀ k, k < ops.size → (opN ops (ord.getD k 0)).dst = some x → (Up listed ord k ↔ k < m)
  nt : a.tmps.size = nt
  defers : a.defers = []
  fr : Fr false μ0 (H 0) w0 μ (H ops.size) w
  fresh : ∀ l, (H 0).length ≤ l → l < (H ops.size).length → μ l ≠ none → ∃ k, k < ops.size ∧ Up listed ord k ∧ (H k).length ≤ l ∧ l < (H (k + 1)).length
  phase : ((∀ k, k < ops.size → pureOp (opN ops (ord.getD k 0)).op = false → Up listed ord k → k < q) ∧
      ∀ k, k ≤ q → (k = q ∨ (k < ops.size ∧ pureOp (opN ops (ord.getD k 0)).op = false ∧ ¬ Up listed ord k)) → Sim μ (H k) w.heap) ∨
    ∃ c, q ≤ c ∧ c ≤ ops.size ∧ (∀ k, k < ops.size → pureOp (opN ops (ord.getD k 0)).op = false → (Up listed ord k ↔ k < c)) ∧ Sim μ (H c) w.heap
/-- The memory at which an operation that only computes may be taken. -/
theorem Inv.some_sim {ord : List Nat} {q nt : Nat} {E : Nat → Env} {H : Nat → Heap} {μ0 : Mu} {w0 : World} {listed : Array Bool} (h : Inv P ops ord q nt E H μ0 w0 listed a w μ) : ∃ c, Sim μ (H c) w.heap ∧ (c = q ∨ (q ≤ c ∧ c ≤ ops.size)) := by
  rcases h.phase with ⟨_, h2⟩ | ⟨c, h1, h2, _, h3⟩
  · exact ⟨q, h2 q (Nat.le_refl _) (.inl rfl), .inl rfl⟩
  · exact ⟨c, h3, .inr ⟨h1, h2⟩⟩

theorem getD_set (l : Array Bool) (i j : Nat) (hi : i < l.size) : (l.setIfInBounds i true).getD j false = if i = j then true else l.getD j false := by
  simp only [Array.getD_eq_getD_getElem?, Array.getElem?_setIfInBounds]
  split
  · rename_i e
    simp [hi]
  · rfl
/-- One operation more comes up. -/
theorem Inv.step {ord : List Nat} {q nt : Nat} {E : Nat → Env} {H : Nat → Heap} {V : Nat → Value} {μ0 : Mu} {w0 : World} {listed : Array Bool} {k : Nat} {K : Act → World → Prop} {Q : Exit → Act → World → Prop} (hcall : CallOk P call) (p : PlanOk ops ord q) (t : Trace P call ops ord q E H V)
    (hU : ∀ l, (H 0).length ≤ l → l < (H ops.size).length → μ0 l = none) (hok : ∀ i, i < ops.size → okOper nt (opN ops i) = true)
    (h : Inv P ops ord q nt E H μ0 w0 listed a w μ) (hk : k < ops.size) (hup : ¬ Up listed ord k) (hready : ∀ j, j < ops.size → wts ops (ord.getD k 0) (ord.getD j 0) = true → Up listed ord j)
    (hK : ∀ a' w' μ', Inv P ops ord q nt E H μ0 w0 (listed.setIfInBounds (ord.getD k 0) true) a' w' μ' → K a' w') :
    if Region.wanted (opN ops (ord.getD k 0)) (yielded ops a.tmps) = true then (opN ops (ord.getD k 0)).wp P a w K Q else K (a.put (opN ops (ord.getD k 0)).dst undef) w := by
  obtain ⟨hik, hpk⟩ := p.get hk
  have hql : q ≤ ops.size := by rw [← p.len]; exact p.qle
  have up' : ∀ j, j < ops.size → (Up (listed.setIfInBounds (ord.getD k 0) true) ord j ↔ j = k ∨ Up listed ord j) := fun j hj => by
    obtain ⟨_, hpj⟩ := p.get hj
    unfold Up
    rw [getD_set _ _ _ (by rw [h.size]; exact hik)]
    split
    · rename_i e
      have : j = k := by rw [← hpj, ← hpk, e]
      simp [this]
    · rename_i e
      have : j ≠ k := fun ej => e (by rw [ej])
      simp [this]
  -- what is known of the order
  have wlt : ∀ i j, i < ops.size → j < ops.size → wts ops (ord.getD i 0) (ord.getD j 0) = true → j < i := fun i j hi hj hw => by
    obtain ⟨g1, g2⟩ := p.get hi
    obtain ⟨g3, g4⟩ := p.get hj
    have := (p.wts_lt (ops.size + 1) _ _ (by omega) g1 hw).2
    omega
  -- writers of what the operation names
  have writers : ∀ x, x ∈ namesOf ops (opN ops (ord.getD k 0)) → ∀ j, j < ops.size → (opN ops (ord.getD j 0)).dst = some x → (Up listed ord j ↔ j < k) := fun x hx j hj hd => by
    by_cases ejk : j = k
    · subst ejk; exact ⟨fun h => absurd h hup, fun h => absurd h (Nat.lt_irrefl _)⟩
    · obtain ⟨g3, g4⟩ := p.get hj
      have hne : ord.getD j 0 ≠ ord.getD k 0 := fun e => ejk (by rw [← g4, ← hpk, e])
      rcases p.tmps _ _ g3 hik hne x hd hx with hw | hw
      · have := wlt j k hj hk hw
        refine ⟨fun hu => absurd (h.closed j hj hu k hk hw) hup, fun hlt => by omega⟩
      · have := wlt k j hk hj hw
        exact ⟨fun _ => this, fun _ => hready j hj hw⟩
  have henv : ∀ x ∈ Oper.looksAt ops (opN ops (ord.getD k 0)), Val μ (E k x) (a.tmps.getD x undef) := fun x hx => by
    obtain ⟨m, hm, hv, hw⟩ := h.env x
    have hn : x ∈ namesOf ops (opN ops (ord.getD k 0)) := List.mem_append.2 (.inr hx)
    rw [t.at2 hm (by omega) fun j hj hd => (hw j hj hd).symm.trans (writers x hn j hj hd)]
    exact hv
  have hokk : okOper a.tmps.size (opN ops (ord.getD k 0)) = true := by rw [h.nt]; exact hok _ hik
  have mono : ∀ {i j : Nat}, i ≤ j → j ≤ ops.size → Le (H i) (H j) := fun h1 h2 => t.le hcall h1 h2
  have ls : ∀ {i j : Nat}, i ≤ j → j ≤ ops.size → (H i).length ≤ (H j).length := fun h1 h2 => (mono h1 h2).len
  -- the invariant behind the step, but for its phase
  have build : ∀ {v' : Value} {w' : World} {μ' : Mu} {qq : Bool} {τ τ1 : Heap}, Val μ' (V k) v' → Fr qq μ τ w μ' τ1 w' → Le (H 0) τ → Le τ τ1 → Le τ1 (H ops.size) → (∀ l, τ.length ≤ l → l < τ1.length → (H k).length ≤ l ∧ l < (H (k + 1)).length) →
      (((∀ j, j < ops.size → pureOp (opN ops (ord.getD j 0)).op = false → Up (listed.setIfInBounds (ord.getD k 0) true) ord j → j < q) ∧
        ∀ j, j ≤ q → (j = q ∨ (j < ops.size ∧ pureOp (opN ops (ord.getD j 0)).op = false ∧ ¬ Up (listed.setIfInBounds (ord.getD k 0) true) ord j)) → Sim μ' (H j) w'.heap) ∨
      ∃ c, q ≤ c ∧ c ≤ ops.size ∧ (∀ j, j < ops.size → pureOp (opN ops (ord.getD j 0)).op = false → (Up (listed.setIfInBounds (ord.getD k 0) true) ord j ↔ j < c)) ∧ Sim μ' (H c) w'.heap) →
      Inv P ops ord q nt E H μ0 w0 (listed.setIfInBounds (ord.getD k 0) true) (a.put (opN ops (ord.getD k 0)).dst v') w' μ' := by
    intro v' w' μ' qq τ τ1 hv F l0 l1 lN hrange hphase
    refine ⟨by simp [h.size], fun i hi hu j hj hw => ?_, fun x => ?_, by rw [put_size]; exact h.nt, by rw [put_defers]; exact h.defers, fr_step hU h.fr l0 l1 lN F, fun l g1 g2 hne => ?_, hphase⟩
    · rw [up' j hj]
      rcases (up' i hi).1 hu with rfl | hu
      · exact .inr (hready j hj hw)
      · exact .inr (h.closed i hi hu j hj hw)
    · by_cases hx : (opN ops (ord.getD k 0)).dst = some x
      · refine ⟨k + 1, by omega, ?_, fun j hj hd => ?_⟩
        · rw [t.env k hk, hx]
          have hlt : x < a.tmps.size := by
            unfold okOper at hokk
            rw [hx] at hokk
            simp at hokk
            exact hokk.1.1
          simp [upd, Act.put, hlt, hv]
        · rw [up' j hj]
          have := writers x (List.mem_append.2 (.inl (Option.mem_toList.2 hx))) j hj hd
          rw [this]
          omega
      · obtain ⟨m, hm, hv2, hw⟩ := h.env x
        refine ⟨m, hm, ?_, fun j hj hd => ?_⟩
        · have : (a.put (opN ops (ord.getD k 0)).dst v').tmps.getD x undef = a.tmps.getD x undef := by
            cases hd : (opN ops (ord.getD k 0)).dst with
            | none => rfl
            | some d =>
              have : d ≠ x := fun e => hx (by rw [hd, e])
              simp [Act.put, Array.getElem?_setIfInBounds, this]
          rw [this]
          exact hv2.mono F.ext
        · rw [up' j hj]
          have : j ≠ k := fun e => hx (by rw [← e]; exact hd)
          simp [this, hw j hj hd]
    · cases hm : μ l with
      | none =>
        have hml : ∃ b N, μ' l = some (b, N) := by
          cases hm' : μ' l with
          | none => exact absurd hm' hne
          | some r => exact ⟨r.1, r.2, rfl⟩
        obtain ⟨b, N, hm'⟩ := hml
        rcases F.new l b N hm' with hh | ⟨r1, r2, _⟩
        · rw [hm] at hh; cases hh
        · obtain ⟨r3, r4⟩ := hrange l r1 r2
          exact ⟨k, hk, (up' k hk).2 (.inl rfl), r3, r4⟩
      | some r =>
        obtain ⟨j, hj, hu, r3, r4⟩ := h.fresh l g1 g2 (by rw [hm]; simp)
        exact ⟨j, hj, (up' j hj).2 (.inr hu), r3, r4⟩
  by_cases hpure : pureOp (opN ops (ord.getD k 0)).op = true
  · -- it only computes
    have upp : ∀ j, j < ops.size → pureOp (opN ops (ord.getD j 0)).op = false → (Up (listed.setIfInBounds (ord.getD k 0) true) ord j ↔ Up listed ord j) := fun j hj hpj => by
      rw [up' j hj]
      have : j ≠ k := fun e => by rw [e, hpure] at hpj; cases hpj
      simp [this]
    rcases h.phase with ⟨p1, p2⟩ | ⟨c, p1, p2, p3, p4⟩
    · have hc := p2 q (Nat.le_refl _) (.inl rfl)
      have hg := (pure_any (q' := true) hpure (t.step k hk)).2 (H q)
      refine guarded_sound hcall hg hokk hc (fun l g1 g2 => by omega) henv fun v' w' μ' k1 k2 k3 => hK _ _ _ (build k1 k3 (mono (Nat.zero_le _) hql) (.refl _) (mono hql (Nat.le_refl _)) (fun l g1 g2 => by omega) ?_)
      refine .inl ⟨fun j hj hpj hu => p1 j hj hpj ((upp j hj hpj).1 hu), fun j hj hh => ?_⟩
      exact sim_earlier hc k2 k3 (fun _ h => h) (mono (by omega) hql) (p2 j hj (hh.imp id fun ⟨r1, r2, r3⟩ => ⟨r1, r2, fun hu => r3 ((upp j r1 r2).2 hu)⟩))
    · have hg := (pure_any (q' := true) hpure (t.step k hk)).2 (H c)
      refine guarded_sound hcall hg hokk p4 (fun l g1 g2 => by omega) henv fun v' w' μ' k1 k2 k3 => hK _ _ _ (build k1 k3 (mono (Nat.zero_le _) p2) (.refl _) (mono p2 (Nat.le_refl _)) (fun l g1 g2 => by omega) ?_)
      exact .inr ⟨c, p1, p2, fun j hj hpj => (upp j hj hpj).trans (p3 j hj hpj), k2⟩
  · have hpure : pureOp (opN ops (ord.getD k 0)).op = false := by simpa using hpure
    have hstep := t.step k hk
    have le01 := mono (Nat.le_succ k) (show k + 1 ≤ ops.size by omega)
    have hUk : ∀ l, (H k).length ≤ l → l < (H (k + 1)).length → μ l = none := fun l g1 g2 => by
      cases hm : μ l with
      | none => rfl
      | some r =>
        exfalso
        have a1 := ls (Nat.zero_le k) (show k ≤ ops.size by omega)
        have a2 := ls (show k + 1 ≤ ops.size by omega) (Nat.le_refl ops.size)
        obtain ⟨j, hj, hu, r3, r4⟩ := h.fresh l (by omega) (by omega) (by rw [hm]; simp)
        rcases Nat.lt_trichotomy j k with hjk | hjk | hjk
        · have := ls (show j + 1 ≤ k by omega) (show k ≤ ops.size by omega); omega
        · subst hjk; exact hup hu
        · have := ls (show k + 1 ≤ j by omega) (show j ≤ ops.size by omega); omega
    -- a step that waits for all that is loud ahead of it
    have fenced : q ≤ k → (∃ c, c ≤ k ∧ Sim μ (H c) w.heap ∧ ∀ j, j < ops.size → pureOp (opN ops (ord.getD j 0)).op = false → Up listed ord j → j < c) →
        if Region.wanted (opN ops (ord.getD k 0)) (yielded ops a.tmps) = true then (opN ops (ord.getD k 0)).wp P a w K Q else K (a.put (opN ops (ord.getD k 0)).dst undef) w := by
      rintro hqk ⟨c, hck, hsc, hcu⟩
      have ahead : ∀ j, j < k → pureOp (opN ops (ord.getD j 0)).op = false → Up listed ord j := fun j hj hpj =>
        hready j (by omega) (p.tail k (by rw [p.len]; exact hk) hqk hpure j hj hpj)
      have hH : H k = H c := t.pure hck (by omega) fun j g1 g2 => by
        cases hpj : pureOp (opN ops (ord.getD j 0)).op with
        | true => rfl
        | false => have := hcu j (by omega) hpj (ahead j g2 hpj); omega
      rw [← hH] at hsc
      refine guarded_sound hcall hstep hokk hsc hUk henv fun v' w' μ' k1 k2 k3 => hK _ _ _ (build k1 k3 (mono (Nat.zero_le _) (by omega)) le01 (mono (by omega) (Nat.le_refl _)) (fun l g1 g2 => ⟨g1, g2⟩) ?_)
      refine .inr ⟨k + 1, by omega, by omega, fun j hj hpj => ?_, k2⟩
      rw [up' j hj]
      constructor
      · rintro (rfl | hu)
        · omega
        · have := hcu j hj hpj hu; omega
      · intro hlt
        rcases Nat.lt_or_ge j k with hjk | hjk
        · exact .inr (ahead j hjk hpj)
        · exact .inl (by omega)
    rcases h.phase with ⟨p1, p2⟩ | ⟨c, p1, p2, p3, p4⟩
    · by_cases hkq : k < q
      · rw [decide_eq_true hkq] at hstep
        have hc := p2 k (by omega) (.inr ⟨hk, hpure, hup⟩)
        obtain ⟨_, happ⟩ := p.quiet k (by rw [p.len]; exact hk) hkq
        refine guarded_sound hcall hstep hokk hc hUk henv fun v' w' μ' k1 k2 k3 => hK _ _ _ (build k1 k3 (mono (Nat.zero_le _) (by omega)) le01 (mono (by omega) (Nat.le_refl _)) (fun l g1 g2 => ⟨g1, g2⟩) ?_)
        refine .inl ⟨fun j hj hpj hu => ?_, fun j hj hh => ?_⟩
        · rcases (up' j hj).1 hu with rfl | hu
          · exact hkq
          · exact p1 j hj hpj hu
        · have hold : Sim μ (H j) w.heap := p2 j hj (hh.imp id fun ⟨r1, r2, r3⟩ => ⟨r1, r2, fun hu => r3 ((up' j r1).2 (.inr hu))⟩)
          have hjk : j ≠ k := fun e => by
            subst e
            rcases hh with e | ⟨r1, r2, r3⟩
            · omega
            · exact r3 ((up' j r1).2 (.inl rfl))
          rcases Nat.lt_or_ge k j with hlt | hge
          · exact sim_later hc k2 k3 le01 (mono (by omega) (by omega)) (t.same hcall (by omega) hj (by omega)) hold
          · have hjk' : j < k := by omega
            have hna : appendOp (opN ops (ord.getD k 0)).op = false := by
              cases ha : appendOp (opN ops (ord.getD k 0)).op with
              | false => rfl
              | true =>
                exfalso
                rcases hh with e | ⟨r1, r2, r3⟩
                · omega
                · exact r3 ((up' j r1).2 (.inr (hready j r1 (happ ha j hjk' r2))))
            exact sim_earlier hc k2 k3 (guarded_nokill hna hstep) (mono (by omega) (by omega)) hold
      · exact fenced (by omega) ⟨q, by omega, p2 q (Nat.le_refl _) (.inl rfl), p1⟩
    · have hck : c ≤ k := by
        rcases Nat.lt_or_ge k c with hlt | hge
        · exact absurd ((p3 k hk hpure).2 hlt) hup
        · exact hge
      exact fenced (by omega) ⟨c, hck, p4, fun j hj hpj hu => (p3 j hj hpj).1 hu⟩

theorem Inv.done {ord : List Nat} {q nt : Nat} {E : Nat → Env} {H : Nat → Heap} {V : Nat → Value} {μ0 : Mu} {w0 : World} {listed : Array Bool} (p : PlanOk ops ord q) (t : Trace P call ops ord q E H V)
    (h : Inv P ops ord q nt E H μ0 w0 listed a w μ) (hall : ∀ k, k < ops.size → Up listed ord k) : Post nt μ0 (H 0) w0 (E ops.size) (H ops.size) a w := by
  have hql : q ≤ ops.size := by rw [← p.len]; exact p.qle
  refine ⟨μ, ?_, h.fr, fun x => ?_, h.nt, h.defers⟩
  · rcases h.phase with ⟨p1, p2⟩ | ⟨c, p1, p2, p3, p4⟩
    · rw [t.pure hql (Nat.le_refl _) fun j g1 g2 => ?_]
      · exact p2 q (Nat.le_refl _) (.inl rfl)
      · cases hpj : pureOp (opN ops (ord.getD j 0)).op with
        | true => rfl
        | false => have := p1 j g2 hpj (hall j g2); omega
    · rw [t.pure p2 (Nat.le_refl _) fun j g1 g2 => ?_]
      · exact p4
      · cases hpj : pureOp (opN ops (ord.getD j 0)).op with
        | true => rfl
        | false => have := (p3 j g2 hpj).1 (hall j g2); omega
  · obtain ⟨m, hm, hv, hw⟩ := h.env x
    rw [t.at2 hm (Nat.le_refl _) fun j hj hd => ⟨fun _ => hj, fun _ => (hw j hj hd).1 (hall j hj)⟩]
    exact hv
def left (n : Nat) (listed : Array Bool) : Nat := ((List.range n).filter fun i => !listed.getD i false).length
theorem left_set (n : Nat) (listed : Array Bool) (i : Nat) (hi : i < n) (hs : listed.size = n) (hl : listed.getD i false = false) : left n (listed.setIfInBounds i true) < left n listed := by
  unfold left
  have key : ∀ l : List Nat, ((l.filter fun j => !(listed.setIfInBounds i true).getD j false).length ≤ (l.filter fun j => !listed.getD j false).length) ∧
      (i ∈ l → (l.filter fun j => !(listed.setIfInBounds i true).getD j false).length < (l.filter fun j => !listed.getD j false).length) := by
    intro l
    induction l with
    | nil => simp
    | cons x l ih =>
      have hx := getD_set listed i x (by omega)
      by_cases e : i = x
      · subst e
        rw [if_pos rfl] at hx
        rw [List.filter_cons_of_neg (by rw [hx]; simp), List.filter_cons_of_pos (by rw [hl]; rfl)]
        simp only [List.length_cons]
        exact ⟨by have := ih.1; omega, fun _ => by have := ih.1; omega⟩
      · rw [if_neg e] at hx
        cases hb : listed.getD x false with
        | true =>
          rw [List.filter_cons_of_neg (by rw [hx, hb]; simp), List.filter_cons_of_neg (by rw [hb]; simp)]
          exact ⟨ih.1, fun hm => ih.2 (by simpa [e] using hm)⟩
        | false =>
          rw [List.filter_cons_of_pos (by rw [hx, hb]; rfl), List.filter_cons_of_pos (by rw [hb]; rfl)]
          simp only [List.length_cons]
          exact ⟨by have := ih.1; omega, fun hm => by have := ih.2 (by simpa [e] using hm); omega⟩
  exact (key _).2 (by simpa using hi)
theorem any_sound {ord : List Nat} {q nt : Nat} {E : Nat → Env} {H : Nat → Heap} {V : Nat → Value} {μ0 : Mu} {w0 : World} {Q : Exit → Act → World → Prop} (hcall : CallOk P call) (p : PlanOk ops ord q) (t : Trace P call ops ord q E H V)
    (hU : ∀ l, (H 0).length ≤ l → l < (H ops.size).length → μ0 l = none) (hok : ∀ i, i < ops.size → okOper nt (opN ops i) = true) (hQ : ∀ a' w', Post nt μ0 (H 0) w0 (E ops.size) (H ops.size) a' w' → Q .normal a' w') :
    ∀ (fuel : Nat) (listed : Array Bool) (a : Act) (w : World) (μ : Mu), Inv P ops ord q nt E H μ0 w0 listed a w μ → left ops.size listed ≤ fuel → wpAny P .any ops Q fuel listed a w := by
  have ready_spec : ∀ {listed : Array Bool} {i : Nat}, listed.size = ops.size → (i ∈ Region.ready .any ops listed ↔ i < ops.size ∧ listed.getD i false = false ∧ ∀ e ∈ (opN ops i).after, Region.binds .any e = true → listed.getD e.on false = true) := by
    intro listed i hs
    unfold Region.ready
    simp only [List.mem_filter, List.mem_range, Bool.and_eq_true, Bool.not_eq_true']
    constructor
    · rintro ⟨h1, h2, h3⟩
      refine ⟨h1, ?_, fun e he hb => ?_⟩
      · simp only [Array.getD_eq_getD_getElem?, Array.getElem?_eq_getElem (show i < listed.size by omega)] at h2 ⊢
        exact h2
      · have ho : ops[i]? = some (opN ops i) := by simp [opN, h1]
        rw [ho] at h3
        simp only [Option.map_some, Option.getD_some] at h3
        rw [Array.all_eq_true] at h3
        obtain ⟨x, hx, rfl⟩ := Array.getElem_of_mem he
        have := h3 x hx
        rw [hb] at this
        simpa using this
    · rintro ⟨h1, h2, h3⟩
      refine ⟨h1, ?_, ?_⟩
      · simp only [Array.getD_eq_getD_getElem?, Array.getElem?_eq_getElem (show i < listed.size by omega)] at h2 ⊢
        exact h2
      · have ho : ops[i]? = some (opN ops i) := by simp [opN, h1]
        rw [ho]
        simp only [Option.map_some, Option.getD_some]
        rw [Array.all_eq_true]
        intro x hx
        cases hb : Region.binds .any (opN ops i).after[x] with
        | false => rfl
        | true => rw [h3 _ (Array.getElem_mem hx) hb]; rfl
  have all_of : ∀ {listed : Array Bool}, listed.size = ops.size → Region.ready .any ops listed = [] → ∀ k, k < ops.size → Up listed ord k := by
    intro listed hs hr k
    induction k using Nat.strongRecOn with
    | _ k ih =>
      intro hk
      obtain ⟨g1, g2⟩ := p.get hk
      cases hl : listed.getD (ord.getD k 0) false with
      | true => exact hl
      | false =>
        exfalso
        have : ord.getD k 0 ∈ Region.ready .any ops listed := (ready_spec hs).2 ⟨g1, hl, fun e he hb => by
          obtain ⟨e1, e2⟩ := p.edge _ g1 e he hb
          obtain ⟨f1, f2⟩ := p.place e1
          have := ih (ord.idxOf e.on) (by omega) f1
          unfold Up at this
          rw [f2] at this
          exact this⟩
        rw [hr] at this
        cases this
  intro fuel
  induction fuel with
  | zero =>
    intro listed a w μ hI hl
    have hall : ∀ k, k < ops.size → Up listed ord k := fun k hk => by
      obtain ⟨g1, g2⟩ := p.get hk
      cases hx : listed.getD (ord.getD k 0) false with
      | true => exact hx
      | false =>
        exfalso
        have hm : ord.getD k 0 ∈ (List.range ops.size).filter fun i => !listed.getD i false := by
          rw [List.mem_filter]; exact ⟨by simpa using g1, by rw [hx]; rfl⟩
        have := List.length_pos_of_mem hm
        unfold left at hl
        omega
    refine ⟨?_, hQ _ _ (hI.done p t hall)⟩
    cases hr : Region.ready .any ops listed with
    | nil => rfl
    | cons i l =>
      exfalso
      have hm : i ∈ Region.ready .any ops listed := by rw [hr]; simp
      obtain ⟨g1, g2, _⟩ := (ready_spec hI.size).1 hm
      obtain ⟨f1, f2⟩ := p.place g1
      have := hall _ f1
      unfold Up at this
      rw [f2, g2] at this
      cases this
  | succ fuel ih =>
    intro listed a w μ hI hl
    refine ⟨fun hr => hQ _ _ (hI.done p t (all_of hI.size hr)), fun i hi => ?_⟩
    obtain ⟨g1, g2, g3⟩ := (ready_spec hI.size).1 hi
    obtain ⟨f1, f2⟩ := p.place g1
    have ho : ops[i]? = some (opN ops i) := by simp [opN, g1]
    have key := hI.step (k := ord.idxOf i) (K := wpAny P .any ops Q fuel (listed.setIfInBounds i true)) (Q := Q) hcall p t hU hok f1 (by unfold Up; rw [f2, g2]; simp) (fun j hj hw => by
        rw [f2] at hw
        obtain ⟨e, he, hb, hh⟩ := p.bef i g1 _ hw
        have hl := g3 e he hb
        rcases hh with hh | hh
        · unfold Up; rw [← hh]; exact hl
        · obtain ⟨e1, _⟩ := p.edge i g1 e he hb
          obtain ⟨f3, f4⟩ := p.place e1
          exact hI.closed _ f3 (by unfold Up; rw [f4]; exact hl) j hj (by rw [f4]; exact hh)) (fun a' w' μ' hI' => by
        rw [f2] at hI'
        refine ih _ _ _ μ' hI' ?_
        have := left_set ops.size listed i g1 hI.size g2
        omega)
    rw [f2] at key
    unfold wpOp
    rw [ho]
    simp only
    split
    · rename_i hw; rw [if_pos hw] at key; exact .inl key
    · rename_i hw; rw [if_neg hw] at key; exact key

theorem region_sound (hm : P.follows .mixedOrders = true) {nt : Nat} {id : Nat} {draw : Bool} {Q : Exit → Act → World → Prop} (hcall : CallOk P call) (h : runRegion P call ops draw e σ = some (e', σ')) (hok : ∀ (i : Nat) (hi : i < ops.size), okOper nt ops[i] = true) (hS : Sim μ σ w.heap)
    (hU : ∀ l, σ.length ≤ l → l < σ'.length → μ l = none) (he : EnvR μ e a) (hn : a.tmps.size = nt) (hd : a.defers = []) (hQ : ∀ a' w', Post nt μ σ w e' σ' a' w' → Q .normal a' w') : (Code.region id ops draw).wp P Q a w := by
  cases draw with
  | false =>
    simp only [runRegion] at h
    refine wp_region_list (runOps_sound hcall ops.toList h (fun o ho => ?_) hS hU he hn hd hQ)
    obtain ⟨i, hi, rfl⟩ := List.getElem_of_mem ho
    exact hok i (by simpa using hi)
  | true =>
    simp only [runRegion, if_true] at h
    cases hp : plan ops with
    | none => rw [hp] at h; cases h
    | some oq =>
      obtain ⟨ord, q⟩ := oq
      rw [hp] at h
      dsimp only at h
      have p := plan_spec hp
      cases h1 : runOps P call true ops ((ord.take q).map (ops.getD · default)) e σ with
      | none => rw [h1] at h; cases h
      | some r =>
        obtain ⟨e1, σ1⟩ := r
        rw [h1] at h
        dsimp only at h
        obtain ⟨E1, H1, V1, a1, a2, a3, a4, a5⟩ := trace _ h1
        obtain ⟨E2, H2, V2, b1, b2, b3, b4, b5⟩ := trace _ h
        have hql := p.qle
        have hl1 : ((ord.take q).map (ops.getD · default)).length = q := by simp; omega
        have hl2 : ((ord.drop q).map (ops.getD · default)).length = ops.size - q := by simp [p.len]
        rw [hl1] at a3 a4
        rw [hl2] at b3 b4
        have hqs : q ≤ ops.size := by rw [← p.len]; exact hql
        let E : Nat → Env := fun k => if k < q then E1 k else E2 (k - q)
        let H : Nat → Heap := fun k => if k < q then H1 k else H2 (k - q)
        let V : Nat → Value := fun k => if k < q then V1 k else V2 (k - q)
        have E0 : E 0 = e := by
          show (if 0 < q then E1 0 else E2 (0 - q)) = e
          split
          · exact a1
          · rename_i hq0
            have : q = 0 := by omega
            subst this
            rw [b1, ← a3, a1]
        have H0 : H 0 = σ := by
          show (if 0 < q then H1 0 else H2 (0 - q)) = σ
          split
          · exact a2
          · rename_i hq0
            have : q = 0 := by omega
            subst this
            rw [b2, ← a4, a2]
        have EN : E ops.size = e' := by
          show (if ops.size < q then E1 ops.size else E2 (ops.size - q)) = e'
          rw [if_neg (by omega)]; exact b3
        have HN : H ops.size = σ' := by
          show (if ops.size < q then H1 ops.size else H2 (ops.size - q)) = σ'
          rw [if_neg (by omega)]; exact b4
        have E1q : ∀ k, k ≤ q → E k = E1 k := fun k hk => by
          show (if k < q then E1 k else E2 (k - q)) = E1 k
          split
          · rfl
          · have : k = q := by omega
            subst this
            rw [Nat.sub_self, b1, a3]
        have H1q : ∀ k, k ≤ q → H k = H1 k := fun k hk => by
          show (if k < q then H1 k else H2 (k - q)) = H1 k
          split
          · rfl
          · have : k = q := by omega
            subst this
            rw [Nat.sub_self, b2, a4]
        have t : Trace P call ops ord q E H V := by
          have key : ∀ k, k < ops.size → guarded P call (decide (k < q)) ops (opN ops (ord.getD k 0)) (E k) (H k) = some (V k, H (k + 1)) ∧ E (k + 1) = upd (E k) (opN ops (ord.getD k 0)).dst (V k) := fun k hk => by
            have hko : k < ord.length := by rw [p.len]; exact hk
            have eo : ord[k]? = some (ord.getD k 0) := by rw [List.getD_eq_getElem?_getD, List.getElem?_eq_getElem hko]; rfl
            by_cases hkq : k < q
            · have := a5 k (opN ops (ord.getD k 0)) (by rw [List.getElem?_map, List.getElem?_take, if_pos hkq, eo]; rfl)
              rw [decide_eq_true hkq, E1q k (by omega), E1q (k + 1) (by omega), H1q k (by omega), H1q (k + 1) (by omega)]
              show _ = some ((if k < q then V1 k else V2 (k - q)), _) ∧ E1 (k + 1) = upd (E1 k) _ (if k < q then V1 k else V2 (k - q))
              rw [if_pos hkq]
              exact this
            · have := b5 (k - q) (opN ops (ord.getD k 0)) (by rw [List.getElem?_map, List.getElem?_drop, show q + (k - q) = k by omega, eo]; rfl)
              rw [decide_eq_false hkq]
              show guarded P call false ops _ (if k < q then E1 k else E2 (k - q)) (if k < q then H1 k else H2 (k - q)) = some ((if k < q then V1 k else V2 (k - q)), (if k + 1 < q then H1 (k + 1) else H2 (k + 1 - q))) ∧ (if k + 1 < q then E1 (k + 1) else E2 (k + 1 - q)) = upd (if k < q then E1 k else E2 (k - q)) _ (if k < q then V1 k else V2 (k - q))
              rw [if_neg hkq, if_neg hkq, if_neg hkq, if_neg (by omega), if_neg (by omega), show k + 1 - q = k - q + 1 by omega]
              exact this
          exact ⟨fun k hk => (key k hk).1, fun k hk => (key k hk).2⟩
        have hmono : ∀ {i j : Nat}, i ≤ j → j ≤ ops.size → Le (H i) (H j) := fun h1 h2 => t.le hcall h1 h2
        have notUp : ∀ k, ¬ Up (Array.replicate ops.size false) ord k := fun k hu => by
          unfold Up at hu
          simp only [Array.getD_eq_getD_getElem?, Array.getElem?_replicate] at hu
          split at hu <;> cases hu
        refine wp_region_any hm (any_sound hcall p t (μ0 := μ) (w0 := { w with drawn := w.drawn + 1 }) (nt := nt) (by rw [H0, HN]; exact hU) (fun i hi => by
            have := hok i hi
            simpa [opN, hi] using this) (fun a' w' hp => hQ a' w' ?_) ops.size _ a _ μ ?_ ?_)
        · rw [H0, EN, HN] at hp
          obtain ⟨μ', k1, k2, k3, k4, k5⟩ := hp
          exact ⟨μ', k1, ⟨k2.ext, k2.new, k2.keep, fun h => (by cases h), k2.size, k2.os, k2.tape, k2.output⟩, k3, k4, k5⟩
        · refine ⟨by simp, fun k _ hu => absurd hu (notUp k), fun x => ⟨0, Nat.zero_le _, by rw [E0]; exact he x, fun k _ _ => ⟨fun hu => absurd hu (notUp k), fun h => absurd h (Nat.not_lt_zero _)⟩⟩, hn, hd, ?_, fun l g1 g2 hne => ?_, ?_⟩
          · exact ⟨fun _ _ h => h, fun _ _ _ h => .inl h, fun _ _ _ => rfl, fun h => (by cases h), Nat.le_refl _, rfl, rfl, rfl⟩
          · rw [H0] at g1; rw [HN] at g2
            exact absurd (hU l g1 g2) hne
          · refine .inl ⟨fun k _ _ hu => absurd hu (notUp k), fun k hk _ => ?_⟩
            -- memory told ahead: it has lost permissions, and grown
            have hSk : Sim μ (H 0) w.heap := by rw [H0]; exact hS
            have hle := hmono (Nat.zero_le k) (show k ≤ ops.size by omega)
            have hsm := t.same hcall (Nat.zero_le k) hk (by omega)
            have hlN := (hmono (show k ≤ ops.size by omega) (Nat.le_refl _)).len
            refine ⟨hSk.lt, fun l1 l2 b N1 N2 hne m1 m2 hf ha => ?_, fun l b N x m1 hx hdd => ?_⟩
            · have c1 : l1 < (H 0).length := by
                rcases Nat.lt_or_ge l1 (H 0).length with h1 | h1
                · exact h1
                · obtain ⟨x, hx, _⟩ := hf
                  have := get_lt hx
                  rw [H0] at h1
                  rw [hU l1 h1 (by rw [← HN]; omega)] at m1
                  cases m1
              refine hSk.inj l1 l2 b N1 N2 hne m1 m2 (hle.full c1 hf) ?_
              rcases Nat.lt_or_ge l2 (H 0).length with h2 | h2
              · rcases ha with ha | ha
                · exact .inl (hle.alive h2 ha)
                · have := hle.len; omega
              · exact .inr h2
            · have c1 : l < (H 0).length := by
                rcases Nat.lt_or_ge l (H 0).length with h1 | h1
                · exact h1
                · have := get_lt hx
                  rw [H0] at h1
                  rw [hU l h1 (by rw [← HN]; omega)] at m1
                  cases m1
              have hx0 := List.getElem?_eq_getElem c1
              obtain ⟨x', hx', q1, q2, q3⟩ := hle.blk l _ hx0
              rw [hx] at hx'; cases hx'
              have hcs := hsm l _ _ hx0 hx
              obtain ⟨c, elem, fr, r1, r0, r2, r3⟩ := hSk.blk l b N _ m1 hx0 (fun ed => hdd (q3 ed))
              exact ⟨c, elem, fr, r1, r0, fun hpp => r2 (q1 hpp), fun j u hj => r3 j u (by rw [← hcs]; exact hj)⟩
        · unfold left
          have := List.length_filter_le (fun i => !(Array.replicate ops.size false).getD i false) (List.range ops.size)
          simpa using this
end
end Go.Proofs.Ytenbclcfhjdcaaa.AM
