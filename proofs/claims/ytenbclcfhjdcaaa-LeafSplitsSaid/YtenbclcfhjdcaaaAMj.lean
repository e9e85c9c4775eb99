/- Code of the abstract machine promises code of the model: guards, operations in order, calls, loops. -/
import Derived.Test.YtenbclcfhjdcaaaAMi
import Derived.LoopN
namespace Go.Proofs.Ytenbclcfhjdcaaa.AM
open Go
section
variable {P : Program} {q : Bool} {o : Oper} {μ : Mu} {σ σ' : Heap} {w w' : World} {v v' : Value} {e e' : Env} {a : Act}

def EnvR (μ : Mu) (e : Env) (a : Act) : Prop := ∀ i, Val μ (e i) (a.tmps.getD i undef)
theorem EnvR.mono {μ μ' : Mu} (h : ∀ l b, μ l = some b → μ' l = some b) (he : EnvR μ e a) : EnvR μ' e a := fun i => (he i).mono h
theorem ev_val' {x : Operand} (hk : okOperand x = true) (he : ∀ t, x = .tmp t → Val μ (e t) (a.tmps.getD t undef)) : Val μ (ev e x) (a.eval x) := by
  cases x with
  | tmp t => exact he t rfl
  | const v => exact val_flat hk
  | global g => simp [okOperand] at hk
  | func f => exact .func rfl rfl (fun i v v' h => by simp at h) (fun i v v' h => by simp at h)
theorem ev_val {x : Operand} (hk : okOperand x = true) (he : EnvR μ e a) : Val μ (ev e x) (a.eval x) := ev_val' hk fun t _ => he t
theorem put_size (a : Act) (d : Option Tmp) (v : Value) : (a.put d v).tmps.size = a.tmps.size := by cases d <;> simp [Act.put]
theorem put_defers (a : Act) (d : Option Tmp) (v : Value) : (a.put d v).defers = a.defers := by cases d <;> rfl
theorem upd_env {d : Option Tmp} (he : EnvR μ e a) (hv : Val μ v v') (hd : ∀ i, d = some i → i < a.tmps.size) : EnvR μ (upd e d v) (a.put d v') := by
  cases d with
  | none => exact he
  | some i =>
    intro j
    have := hd i rfl
    simp only [upd, Act.put]
    by_cases ej : j = i
    · subst ej; simp [this]; exact hv
    · rw [if_neg ej]
      have h := he j
      simpa [Array.getElem?_setIfInBounds, Ne.symm ej] using h

/-- What a call of the abstract machine's promises. -/
def CallOk (P : Program) (call : CallF) : Prop := ∀ f args σ v σ', call f args σ = some (v, σ') →
  (∃ fn c, P.funcs[f]? = some fn ∧ fn.body = some c ∧ fn.name ≠ "runtime.NumGoroutine") ∧ Le σ σ' ∧
  ∀ args' μ w, ValL μ args.toList args'.toList → Sim μ σ w.heap → (∀ l, σ.length ≤ l → l < σ'.length → μ l = none) →
    Calls P f args' w fun e w' => ∃ v' μ', e = .returned v' ∧ Val μ' v v' ∧ Sim μ' σ' w'.heap ∧ Fr false μ σ w μ' σ' w'

theorem lock_get (σ : Heap) (l : Nat) : (lock σ)[l]? = (σ[l]?).map fun b => { b with perm := if b.perm = .full then .ro else b.perm } := by simp [lock]
theorem lock_len (σ : Heap) : (lock σ).length = σ.length := by simp [lock]
theorem lock_full {l : Nat} : ¬ isFull (lock σ) l := by
  rintro ⟨x, h, hp⟩
  rw [lock_get] at h
  cases hx : σ[l]? with
  | none => rw [hx] at h; cases h
  | some y =>
    rw [hx] at h; cases h
    simp only at hp
    split at hp
    · cases hp
    · exact absurd hp ‹_›
theorem lock_sim {h : Array Obj} (hS : Sim μ σ h) : Sim μ (lock σ) h := by
  refine ⟨hS.lt, fun l1 l2 b N1 N2 _ _ _ hf _ => lock_full hf, fun l b N x hm hx hd => ?_⟩
  rw [lock_get] at hx
  cases hy : σ[l]? with
  | none => rw [hy] at hx; cases hx
  | some y =>
    rw [hy] at hx; cases hx
    have hd' : y.perm ≠ .dead := fun e => hd (by simp [e])
    obtain ⟨c, elem, fr, k1, k0, k2, k3⟩ := hS.blk l b N y hm hy hd'
    refine ⟨c, elem, fr, k1, k0, fun hp => ?_, k3⟩
    simp only at hp
    split at hp
    · cases hp
    · exact k2 hp
/-- Behind a call that might change nothing that stands. -/
theorem quiet_back {τ : Heap} {μ' : Mu} (hS : Sim μ σ w.heap) (hle : Le (lock σ) τ) (hT : Sim μ' τ w'.heap) (hF : Fr false μ (lock σ) w μ' τ w') (hU : ∀ l, σ.length ≤ l → l < τ.length → μ l = none) :
    Sim μ' (σ ++ τ.drop σ.length) w'.heap ∧ Fr q μ σ w μ' (σ ++ τ.drop σ.length) w' ∧ Le σ (σ ++ τ.drop σ.length) := by
  have hlen : σ.length ≤ τ.length := by have := hle.len; rwa [lock_len] at this
  have hlt : (σ ++ τ.drop σ.length).length = τ.length := by simp; omega
  have same : ∀ b, b < w.heap.size → w'.heap[b]? = w.heap[b]? := fun b hb => hF.keep b hb (fun l N _ hf => lock_full hf)
  have gl : ∀ l, l < σ.length → (σ ++ τ.drop σ.length)[l]? = σ[l]? := fun l h => List.getElem?_append_left h
  have gr : ∀ l, σ.length ≤ l → (σ ++ τ.drop σ.length)[l]? = τ[l]? := fun l h => by
    rw [List.getElem?_append_right h, List.getElem?_drop]; congr 1; omega
  have newf : ∀ l b N, σ.length ≤ l → l < τ.length → μ' l = some (b, N) → w.heap.size ≤ b := fun l b N h1 h2 h => by
    rcases hF.new l b N h with h | ⟨_, _, h | ⟨l0, _, h0, _⟩⟩
    · rw [hU l h1 h2] at h; cases h
    · exact h
    · exact absurd h0 lock_full
  have oldm : ∀ l b N, (l < σ.length ∨ τ.length ≤ l) → μ' l = some (b, N) → μ l = some (b, N) := fun l b N h1 h => by
    rcases hF.new l b N h with h | ⟨h2, h3, _⟩
    · exact h
    · rw [lock_len] at h2; omega
  refine ⟨⟨hT.lt, fun l1 l2 b N1 N2 hne h1 h2 hf ha => ?_, fun l b N x hm hx hd => ?_⟩, ⟨hF.ext, fun l b N h => ?_, fun b hb _ => same b hb, fun _ l b N hm _ => .of_eq (same b (hS.lt l b N hm)), hF.size, hF.os, hF.tape, hF.output⟩, ⟨by simp, fun l x h => ⟨x, by rw [gl l (get_lt h)]; exact h, id, fun _ => rfl, id⟩⟩⟩
  · rcases Nat.lt_or_ge l1 σ.length with c1 | c1
    · have m1 := oldm l1 b N1 (.inl c1) h1
      have f1 : isFull σ l1 := by obtain ⟨x, hx, hp⟩ := hf; rw [gl l1 c1] at hx; exact ⟨x, hx, hp⟩
      rcases Nat.lt_or_ge l2 σ.length with c2 | c2
      · have m2 := oldm l2 b N2 (.inl c2) h2
        refine hS.inj l1 l2 b N1 N2 hne m1 m2 f1 ?_
        rcases ha with ⟨x, hx, hp⟩ | ha
        · rw [gl l2 c2] at hx; exact .inl ⟨x, hx, hp⟩
        · rw [hlt] at ha; omega
      · rcases Nat.lt_or_ge l2 τ.length with c3 | c3
        · have := newf l2 b N2 c2 c3 h2
          have := hS.lt _ _ _ m1
          omega
        · exact hS.inj l1 l2 b N1 N2 hne m1 (oldm l2 b N2 (.inr c3) h2) f1 (.inr c2)
    · have f1 : isFull τ l1 := by obtain ⟨x, hx, hp⟩ := hf; rw [gr l1 c1] at hx; exact ⟨x, hx, hp⟩
      have c1' : l1 < τ.length := by obtain ⟨x, hx, _⟩ := f1; exact get_lt hx
      have n1 := newf l1 b N1 c1 c1' h1
      rcases Nat.lt_or_ge l2 σ.length with c2 | c2
      · have := hS.lt _ _ _ (oldm l2 b N2 (.inl c2) h2)
        omega
      · refine hT.inj l1 l2 b N1 N2 hne h1 h2 f1 ?_
        rcases ha with ⟨x, hx, hp⟩ | ha
        · rw [gr l2 c2] at hx; exact .inl ⟨x, hx, hp⟩
        · rw [hlt] at ha; exact .inr ha
  · rcases Nat.lt_or_ge l σ.length with c1 | c1
    · rw [gl l c1] at hx
      have m1 := oldm l b N (.inl c1) hm
      obtain ⟨c, elem, fr, k1, k0, k2, k3⟩ := hS.blk l b N x m1 hx hd
      refine ⟨c, elem, fr, by rw [same b (hS.lt _ _ _ m1)]; exact k1, k0, k2, fun j u hj => ?_⟩
      obtain ⟨u', g1, g2⟩ := k3 j u hj
      exact ⟨u', g1, g2.mono hF.ext⟩
    · rw [gr l c1] at hx
      exact hT.blk l b N x hm hx hd
  · rcases hF.new l b N h with h | ⟨h2, h3, h⟩
    · exact .inl h
    · rcases h with h | ⟨l0, _, h0, _⟩
      · exact .inr ⟨by rwa [lock_len] at h2, by rw [hlt]; exact h3, .inl h⟩
      · exact absurd h0 lock_full

theorem goCall_spec {ρ : Operand → Value} {op : Op} {f : FuncId} {args : Array Value} (h : goCall ρ op = some (f, args)) :
    ∃ x as ts fi cp, op = .call { callee := .value x, args := as, argTypes := ts } ∧ ρ x = .func (.func f) fi cp ∧ args = fi ++ as.map ρ ++ cp := by
  unfold goCall at h
  split at h
  · rename_i x as ts
    split at h
    · rename_i f' fi cp hx
      cases h
      exact ⟨x, as, ts, fi, cp, rfl, hx, rfl⟩
    · cases h
  · cases h
theorem yielded_spec {ops : Array Oper} {j : Nat} {want : Bool} {g : Option (Nat × Bool)} (he : ∀ t ∈ Oper.looksAt ops o, Val μ (e t) (a.tmps.getD t undef)) (hg : o.guard = some (j, want)) {b : Bool} (h : wantedA ops o e = some b) :
    Region.wanted o (yielded ops a.tmps) = b := by
  unfold wantedA at h
  rw [hg] at h
  simp only [Region.wanted, hg, yielded]
  dsimp only at h
  cases hd : (ops[j]?).bind (·.dst) with
  | none => rw [hd] at h; simp at h; subst h; simp
  | some d =>
    rw [hd] at h
    dsimp only at h
    have hv := he d (by simp [Oper.looksAt, hg, hd])
    simp only [Option.bind_some]
    cases hed : e d with
    | bool t =>
      rw [hed] at h hv
      simp at h
      have := hv.bool
      have hget : a.tmps[d]? = some (.bool t) := by
        rw [Array.getD_eq_getD_getElem?] at this
        cases hx : a.tmps[d]? with
        | none => rw [hx] at this; cases this
        | some y => rw [hx] at this; simp at this; rw [this]
      rw [hget]
      subst h
      simp
    | chan r =>
      cases r with
      | some r => rw [hed] at h; simp at h
      | none =>
        rw [hed] at h hv
        simp at h
        have := scalar_val (by rfl) hv
        rw [Array.getD_eq_getD_getElem?] at this
        cases hx : a.tmps[d]? with
        | none => rw [hx] at this; cases this
        | some y => rw [hx] at this; simp at this; rw [this]; subst h; simp
    | _ =>
      rw [hed] at h hv
      simp at h
      subst h
      have key : ∀ t, a.tmps[d]? ≠ some (.bool t) := fun t hx => by
        rw [Array.getD_eq_getD_getElem?, hx] at hv
        cases hv <;> first | (rename_i hs; simp [scalarB] at hs; done) | skip
      split
      · rename_i t hx; exact absurd hx (key t)
      · rfl
theorem wanted_spec {ops : Array Oper} (he : ∀ t ∈ Oper.looksAt ops o, Val μ (e t) (a.tmps.getD t undef)) {b : Bool} (h : wantedA ops o e = some b) : Region.wanted o (yielded ops a.tmps) = b := by
  cases hg : o.guard with
  | none => unfold wantedA at h; rw [hg] at h; simp at h; subst h; simp [Region.wanted, hg]
  | some jw => obtain ⟨j, want⟩ := jw; exact yielded_spec (g := none) he hg h

/-- What an answer of the abstract machine leaves of memory. -/
def LeO (σ : Heap) (r : Option (Value × Heap)) : Prop := ∀ v σ', r = some (v, σ') → Le σ σ'
theorem LeO.none : LeO σ none := fun v σ' h => by cases h
theorem LeO.same {u : Value} : LeO σ (some (u, σ)) := fun v σ' h => by cases h; exact .refl _
theorem LeO.mapS {r : Option Value} : LeO σ (r.map (·, σ)) := fun v σ' h => by cases r <;> cases h; exact .refl _
theorem LeO.mapG {α : Type} {r : Option α} {f : α → Value} : LeO σ (r.map fun x => (f x, σ)) := fun v σ' h => by cases r <;> cases h; exact .refl _
theorem LeO.new {cs : List Value} {f : Addr × Heap → Value × Heap} (hf : ∀ p, (f p).2 = p.2) : LeO σ ((newBlk σ cs).map f) := fun v σ' h => by
  cases hb : newBlk σ cs with
  | none => rw [hb] at h; cases h
  | some r =>
    obtain ⟨a, τ⟩ := r
    rw [hb] at h
    have h := Option.some.inj h
    have := hf (a, τ)
    rw [h] at this
    simp only at this
    rw [this, (newBlk_spec hb).2.1]; exact .snoc _ _
theorem LeO.newB {α : Type} {r : Option α} {g : α → List Value} {f : Addr × Heap → Value × Heap} (hf : ∀ p, (f p).2 = p.2) : LeO σ (r.bind fun x => (newBlk σ (g x)).map f) := fun v σ' h => by
  cases r with
  | none => cases h
  | some x => exact LeO.new hf v σ' h
theorem LeO.hand {l : Nat} {b : Blk} {cs : List Value} {f : Addr × Heap → Value × Heap} (hf : ∀ p, (f p).2 = p.2) (hb : σ[l]? = some b) (hp : b.perm = .full) : LeO σ ((newBlk (AM.kill σ l) cs).map f) := fun v σ' h => by
  have h1 := LeO.new (σ := AM.kill σ l) hf v σ' h
  exact (Le.kill σ l (fun z hz => by rw [hb] at hz; cases hz; rw [hp]; simp)).trans h1
theorem writeN_le {ad : Addr} {vs : List Value} {τ : Heap} (h : writeN σ ad vs = some τ) : Le σ τ := by
  unfold writeN at h
  split at h
  · rename_i b hb
    split at h
    · rename_i hc
      cases h
      refine ⟨by simp, fun l y hy => ?_⟩
      rw [List.getElem?_set]
      split
      · rename_i e2
        first | rw [if_pos (by rw [e2]; exact get_lt hy)] | skip
        subst e2
        rw [hb] at hy; cases hy
        exact ⟨_, rfl, fun _ => hc.1, fun h => (by rw [hc.1] at h; cases h), fun h => (by rw [hc.1] at h; cases h)⟩
      · exact ⟨y, hy, id, fun _ => rfl, id⟩
    · cases h
  · cases h
theorem LeO.write {ad : Addr} {vs : List Value} {u : Value} : LeO σ ((writeN σ ad vs).map fun τ => (u, τ)) := fun v σ' h => by
  cases hb : writeN σ ad vs with
  | none => rw [hb] at h; cases h
  | some τ => rw [hb] at h; cases h; exact writeN_le hb
theorem LeO.writeB {α : Type} {r : Option α} {ad : Addr} {g : α → List Value} {u : Value} : LeO σ (r.bind fun x => (writeN σ ad (g x)).map fun τ => (u, τ)) := fun v σ' h => by
  cases r with
  | none => cases h
  | some x => exact LeO.write v σ' h
theorem append_le {t tx : TypeId} {s x : Value} : LeO σ (aAppend P q t tx s x σ) := by
  unfold aAppend
  repeat' split
  all_goals first
    | exact LeO.none
    | exact LeO.same
    | exact LeO.new (fun _ => rfl)
    | exact LeO.write
    | exact LeO.hand (fun _ => rfl) (by assumption) (by simp_all)
theorem zeros_le {t : TypeId} {s x : Value} : LeO σ (aZeros P t s x σ) := by
  unfold aZeros
  repeat' split
  all_goals first
    | exact LeO.none
    | exact LeO.new (fun _ => rfl)
theorem app_le {t tx : TypeId} {s x : Value} : LeO σ (aApp P q t tx s x σ) := by
  unfold aApp
  split
  · exact zeros_le
  · exact append_le
theorem aop_le {ρ : Operand → Value} : LeO σ (aop P q ρ o σ) := by
  unfold aop
  repeat' split
  all_goals first
    | exact LeO.none
    | exact LeO.same
    | exact LeO.mapS
    | exact LeO.mapG
    | exact LeO.new (fun _ => rfl)
    | exact LeO.newB (fun _ => rfl)
    | exact LeO.write
    | exact LeO.writeB
    | exact app_le
end
end Go.Proofs.Ytenbclcfhjdcaaa.AM
