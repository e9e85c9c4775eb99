/- Code of the abstract machine promises code of the model: operations in order, results, loops. -/
import Derived.Test.YtenbclcfhjdcaaaAMj
namespace Go.Proofs.Ytenbclcfhjdcaaa.AM
open Go
section
variable {P : Program} {q : Bool} {o : Oper} {μ : Mu} {σ σ' : Heap} {w w' : World} {v v' : Value} {e e' : Env} {a : Act} {call : CallF} {ops : Array Oper}

theorem quietCall_spec {f : FuncId} {args : Array Value} (hcall : CallOk P call) (h : quietCall call f args σ = some (v, σ')) :
    ∃ τ, call f args (lock σ) = some (v, τ) ∧ σ' = σ ++ τ.drop σ.length ∧ Le (lock σ) τ := by
  unfold quietCall at h
  cases hc : call f args (lock σ) with
  | none => rw [hc] at h; cases h
  | some r => obtain ⟨u, τ⟩ := r; rw [hc] at h; cases h; exact ⟨τ, rfl, rfl, (hcall _ _ _ _ _ hc).2.1⟩
theorem stepOp_le (hcall : CallOk P call) (h : stepOp P call q o e σ = some (v, σ')) : Le σ σ' := by
  unfold stepOp at h
  split at h
  · cases q with
    | false => exact (hcall _ _ _ _ _ h).2.1
    | true =>
      obtain ⟨τ, _, rfl, _⟩ := quietCall_spec hcall h
      exact ⟨by simp, fun l x hx => ⟨x, by rw [List.getElem?_append_left (get_lt hx)]; exact hx, id, fun _ => rfl, id⟩⟩
  · exact aop_le v σ' h
theorem guarded_le (hcall : CallOk P call) (h : guarded P call q ops o e σ = some (v, σ')) : Le σ σ' := by
  unfold guarded at h
  split at h
  · exact stepOp_le hcall h
  · cases h; exact .refl _
  · cases h
theorem runOps_le (hcall : CallOk P call) : ∀ (l : List Oper) {e : Env} {σ : Heap}, runOps P call q ops l e σ = some (e', σ') → Le σ σ'
  | [], e, σ, h => by simp only [runOps] at h; cases h; exact .refl _
  | o :: l, e, σ, h => by
    simp only [runOps] at h
    split at h
    · rename_i v σ1 hg
      exact (guarded_le hcall hg).trans (runOps_le hcall l h)
    · cases h

/-- What the abstract step promises of the model's. -/
theorem guarded_sound {K : Act → World → Prop} {Q : Exit → Act → World → Prop} (hcall : CallOk P call) (h : guarded P call q ops o e σ = some (v, σ')) (hok : okOper a.tmps.size o = true) (hS : Sim μ σ w.heap) (hU : ∀ l, σ.length ≤ l → l < σ'.length → μ l = none)
    (he : ∀ t ∈ Oper.looksAt ops o, Val μ (e t) (a.tmps.getD t undef)) (hK : ∀ v' w' μ', Val μ' v v' → Sim μ' σ' w'.heap → Fr q μ σ w μ' σ' w' → K (a.put o.dst v') w') :
    if Region.wanted o (yielded ops a.tmps) = true then o.wp P a w K Q else K (a.put o.dst undef) w := by
  unfold guarded at h
  have hops : ∀ x ∈ o.op.operands, Val μ (ev e x) (a.eval x) := fun x hx => by
    refine ev_val' ?_ (fun t et => he t (by
      unfold Oper.looksAt
      refine List.mem_append.2 (.inl (List.mem_filterMap.2 ⟨x, by simpa using hx, by rw [et]⟩))))
    unfold okOper at hok
    simp only [Bool.and_eq_true] at hok
    have := hok.1.2
    rw [Array.all_eq_true] at this
    obtain ⟨i, hi, rfl⟩ := Array.getElem_of_mem hx
    exact this i hi
  split at h
  · rename_i hw
    rw [if_pos (wanted_spec he hw)]
    unfold stepOp at h
    split at h
    · rename_i f args hg
      obtain ⟨x, as, ts, fi, cp, eop, hx, rfl⟩ := goCall_spec hg
      have hvx := hops x (by rw [eop]; simp [Op.operands, Call.operands])
      rw [hx] at hvx
      obtain ⟨fi', cp', ex, hfi, hcp⟩ := hvx.func_inv
      have has : ValL μ (as.map (ev e)).toList (as.map a.eval).toList := map_valL fun y hy => hops y (by rw [eop]; simp [Op.operands, Call.operands, hy])
      have hargs : ValL μ (fi ++ as.map (ev e) ++ cp).toList (fi' ++ as.map a.eval ++ cp').toList := by
        simpa [Array.toList_append] using (hfi.append has).append hcp
      have fin : ∀ {fn : Func} {c : Code}, P.funcs[f]? = some fn → fn.body = some c → fn.name ≠ "runtime.NumGoroutine" → (execOp a.eval o).run P w = .ok (.enter f (fi' ++ as.map a.eval ++ cp')) w := fun {fn c} h1 h2 h3 => by
        obtain ⟨dst, op, type, pos, after, guard⟩ := o
        simp only at eop
        subst eop
        simp [execOp, resolve, ex, Deferred.ofValue, invoke, callFunc, h1, h2, h3]
      cases q with
      | false =>
        obtain ⟨⟨fn, c, h1, h2, h3⟩, _, hc⟩ := hcall _ _ _ _ _ h
        have := hc _ μ w hargs hS hU
        unfold Oper.wp
        rw [fin h1 h2 h3]
        refine Calls.mono this fun e' w' ⟨v', μ', he', k1, k2, k3⟩ => ?_
        subst he'
        exact hK v' w' μ' k1 k2 k3
      | true =>
        obtain ⟨τ, hcq, rfl, hle⟩ := quietCall_spec hcall h
        obtain ⟨⟨fn, c, h1, h2, h3⟩, _, hc⟩ := hcall _ _ _ _ _ hcq
        have hlen : σ.length ≤ τ.length := by have := hle.len; rwa [lock_len] at this
        have hU' : ∀ l, σ.length ≤ l → l < τ.length → μ l = none := fun l g1 g2 => hU l g1 (by simp; omega)
        have := hc _ μ w hargs (lock_sim hS) (by rw [lock_len]; exact hU')
        unfold Oper.wp
        rw [fin h1 h2 h3]
        refine Calls.mono this fun e' w' ⟨v', μ', he', k1, k2, k3⟩ => ?_
        subst he'
        obtain ⟨g1, g2, _⟩ := quiet_back (q := true) hS hle k2 k3 hU'
        exact hK v' w' μ' k1 g1 g2
    · obtain ⟨v', w', μ', hr, k1, k2, k3, _⟩ := aop_sound (w := w) hS hU hops h
      unfold Oper.wp
      rcases hr with hr | ⟨hr, rfl⟩
      · rw [hr]; exact hK v' w' μ' k1 k2 k3
      · rw [hr]; exact hK undef w' μ' k1 k2 k3
  · rename_i hw
    cases h
    rw [if_neg (by rw [wanted_spec he hw]; simp)]
    exact hK undef w μ .undef hS (.refl _ _ _ _)
  · cases h

/-- What stands behind code of the abstract machine, of the model. -/
def Post (nt : Nat) (μ : Mu) (σ : Heap) (w : World) (e' : Env) (σ' : Heap) (a' : Act) (w' : World) : Prop :=
  ∃ μ', Sim μ' σ' w'.heap ∧ Fr false μ σ w μ' σ' w' ∧ EnvR μ' e' a' ∧ a'.tmps.size = nt ∧ a'.defers = []
theorem Post.trans {nt : Nat} {μ μ1 : Mu} {σ σ1 σ2 : Heap} {w w1 w2 : World} {a2 : Act} (hU : ∀ l, σ.length ≤ l → l < σ1.length → μ l = none) (l1 : Le σ σ1) (l2 : Le σ1 σ2) (h1 : Fr false μ σ w μ1 σ1 w1) (h2 : Post nt μ1 σ1 w1 e' σ2 a2 w2) :
    Post nt μ σ w e' σ2 a2 w2 := by
  obtain ⟨μ', k1, k2, k3, k4, k5⟩ := h2
  exact ⟨μ', k1, .trans hU l1 l2 h1 k2, k3, k4, k5⟩
theorem U_left {σ σ1 σ2 : Heap} {μ : Mu} (hU : ∀ l, σ.length ≤ l → l < σ2.length → μ l = none) (l2 : Le σ1 σ2) : ∀ l, σ.length ≤ l → l < σ1.length → μ l = none :=
  fun l h1 h2 => hU l h1 (Nat.lt_of_lt_of_le h2 l2.len)
theorem U_right {σ σ1 σ2 : Heap} {μ μ1 : Mu} {w w1 : World} (hU : ∀ l, σ.length ≤ l → l < σ2.length → μ l = none) (l1 : Le σ σ1) (hF : Fr q μ σ w μ1 σ1 w1) : ∀ l, σ1.length ≤ l → l < σ2.length → μ1 l = none := fun l h1 h2 => by
  cases hm : μ1 l with
  | none => rfl
  | some p =>
    obtain ⟨b, N⟩ := p
    rcases hF.new l b N hm with h | ⟨_, h3, _⟩
    · rw [hU l (Nat.le_trans l1.len h1) h2] at h; cases h
    · omega
theorem Fr.weak' {μ' : Mu} (h : Fr q μ σ w μ' σ' w') : Fr false μ σ w μ' σ' w' := ⟨h.ext, h.new, h.keep, fun e => (by cases e), h.size, h.os, h.tape, h.output⟩
end
end Go.Proofs.Ytenbclcfhjdcaaa.AM
