/- What the proof of SampleOrders rests on, part 2 of 7. -/
import Derived.Test.YtibejcomfjddfaaSampleOrdersP1
import Derived.Great.FillDense
section
set_option maxHeartbeats 8000000
set_option linter.unusedVariables false
set_option linter.unusedSimpArgs false

/- Code of the abstract machine promises code of the model: operations in order, results, loops. -/
namespace Go.Proofs.Ytibejcomfjddfaa.AM
open Go
section
variable {P : Program} {q : Bool} {o : Oper} {μ : Mu} {σ σ' : Heap} {w w' : World} {v v' : Value} {e e' : Env} {a : Act} {call : CallF} {ops : Array Oper}

theorem quietCall_spec {f : FuncId} {args : Array Value} (hcall : CallOk P call) (h : quietCall call f args σ = some (v, σ')) :
    ∃ τ, call f args (lock σ) = some (v, τ) ∧ σ' = σ ++ τ.drop σ.length ∧ Le (lock σ) τ := by
  unfold quietCall at h
  cases hc : call f args (lock σ) with
  | none => rw [hc] at h; cases h
  | some r => obtain ⟨u, τ⟩ := r; rw [hc] at h; cases h; exact ⟨τ, rfl, rfl, (hcall _ _ _ _ _ hc).2.1⟩
theorem stepOp_le (hcall : CallOk P call) (h : stepOp P call q o e σ = some (v, σ')) : Le σ σ' := by
  unfold stepOp at h
  split at h
  · cases q with
    | false => exact (hcall _ _ _ _ _ h).2.1
    | true =>
      obtain ⟨τ, _, rfl, _⟩ := quietCall_spec hcall h
      exact ⟨by simp, fun l x hx => ⟨x, by rw [List.getElem?_append_left (get_lt hx)]; exact hx, fun _ => rfl, fun _ => rfl, id⟩⟩
  · exact aop_le v σ' h
theorem guarded_le (hcall : CallOk P call) (h : guarded P call q ops o e σ = some (v, σ')) : Le σ σ' := by
  unfold guarded at h
  split at h
  · exact stepOp_le hcall h
  · cases h; exact .refl _
  · cases h
theorem runOps_le (hcall : CallOk P call) : ∀ (l : List Oper) {e : Env} {σ : Heap}, runOps P call q ops l e σ = some (e', σ') → Le σ σ'
  | [], e, σ, h => by simp only [runOps] at h; cases h; exact .refl _
  | o :: l, e, σ, h => by
    simp only [runOps] at h
    split at h
    · rename_i v σ1 hg
      exact (guarded_le hcall hg).trans (runOps_le hcall l h)
    · cases h

/-- What the abstract step promises of the model's. -/
theorem guarded_sound {K : Act → World → Prop} {Q : Exit → Act → World → Prop} (hcall : CallOk P call) (h : guarded P call q ops o e σ = some (v, σ')) (hok : okOper a.tmps.size o = true) (hS : Sim μ σ w.heap) (hU : ∀ l, σ.length ≤ l → l < σ'.length → μ l = none)
    (he : ∀ t ∈ Oper.looksAt ops o, Val μ (e t) (a.tmps.getD t undef)) (hK : ∀ v' w' μ', Val μ' v v' → Sim μ' σ' w'.heap → Fr q μ σ w μ' σ' w' → K (a.put o.dst v') w') :
    if Region.wanted o (yielded ops a.tmps) = true then o.wp P a w K Q else K (a.put o.dst undef) w := by
  unfold guarded at h
  have hops : ∀ x ∈ o.op.operands, Val μ (ev e x) (a.eval x) := fun x hx => by
    refine ev_val' hS.glob ?_ (fun t et => he t (by
      unfold Oper.looksAt
      refine List.mem_append.2 (.inl (List.mem_filterMap.2 ⟨x, by simpa using hx, by rw [et]⟩))))
    unfold okOper at hok
    simp only [Bool.and_eq_true] at hok
    have := hok.1.2
    rw [Array.all_eq_true] at this
    obtain ⟨i, hi, rfl⟩ := Array.getElem_of_mem hx
    exact this i hi
  split at h
  · rename_i hw
    rw [if_pos (wanted_spec he hw)]
    unfold stepOp at h
    split at h
    · rename_i f args hg
      obtain ⟨x, as, ts, fi, cp, eop, hx, rfl⟩ := goCall_spec hg
      have hvx := hops x (by rw [eop]; simp [Op.operands, Call.operands])
      rw [hx] at hvx
      obtain ⟨fi', cp', ex, hfi, hcp⟩ := hvx.func_inv
      have has : ValL μ (as.map (ev e)).toList (as.map a.eval).toList := map_valL fun y hy => hops y (by rw [eop]; simp [Op.operands, Call.operands, hy])
      have hargs : ValL μ (fi ++ as.map (ev e) ++ cp).toList (fi' ++ as.map a.eval ++ cp').toList := by
        simpa [Array.toList_append] using (hfi.append has).append hcp
      have fin : ∀ {fn : Func} {c : Code}, P.funcs[f]? = some fn → fn.body = some c → fn.name ≠ "runtime.NumGoroutine" → (execOp a.eval o).run P w = .ok (.enter f (fi' ++ as.map a.eval ++ cp')) w := fun {fn c} h1 h2 h3 => by
        obtain ⟨dst, op, type, pos, after, guard⟩ := o
        simp only at eop
        subst eop
        simp [execOp, resolve, ex, Deferred.ofValue, invoke, callFunc, h1, h2, h3]
      have finX : ∀ {v' : Value}, (callFunc f (fi' ++ as.map a.eval ++ cp')).run P w = .ok (.value v') w → (execOp a.eval o).run P w = .ok (.value v') w := fun {v'} hr => by
        obtain ⟨dst, op, type, pos, after, guard⟩ := o
        simp only at eop
        subst eop
        rw [Array.append_assoc] at hr
        simp [execOp, resolve, ex, Deferred.ofValue, invoke, hr]
      cases q with
      | false =>
        obtain ⟨hb, _, hc⟩ := hcall _ _ _ _ _ h
        rcases hb with hb | hb
        rotate_left
        · obtain ⟨rfl, hx⟩ := hb
          obtain ⟨v', hr, hv'⟩ := hx _ μ w hargs hS
          unfold Oper.wp
          rw [finX hr]
          exact hK v' w μ hv' hS (.refl _ _ _ _)
        have hb0 := hb
        obtain ⟨fn, c, h1, h2, h3⟩ := hb
        have := hc hb0 _ μ w hargs hS hU
        unfold Oper.wp
        rw [fin h1 h2 h3]
        refine Calls.mono this fun e' w' ⟨v', μ', he', k1, k2, k3⟩ => ?_
        subst he'
        exact hK v' w' μ' k1 k2 k3
      | true =>
        obtain ⟨τ, hcq, rfl, hle⟩ := quietCall_spec hcall h
        obtain ⟨hb, _, hc⟩ := hcall _ _ _ _ _ hcq
        rcases hb with hb | hb
        rotate_left
        · obtain ⟨rfl, hx⟩ := hb
          obtain ⟨v', hr, hv'⟩ := hx _ μ w hargs (lock_sim hS)
          unfold Oper.wp
          rw [finX hr]
          have e : σ ++ (lock σ).drop σ.length = σ := by rw [List.drop_of_length_le (by rw [lock_len]; exact Nat.le_refl _), List.append_nil]
          rw [e] at hK
          exact hK v' w μ hv' hS (.refl _ _ _ _)
        have hb0 := hb
        obtain ⟨fn, c, h1, h2, h3⟩ := hb
        have hc := hc hb0
        have hlen : σ.length ≤ τ.length := by have := hle.len; rwa [lock_len] at this
        have hU' : ∀ l, σ.length ≤ l → l < τ.length → μ l = none := fun l g1 g2 => hU l g1 (by simp; omega)
        have := hc _ μ w hargs (lock_sim hS) (by rw [lock_len]; exact hU')
        unfold Oper.wp
        rw [fin h1 h2 h3]
        refine Calls.mono this fun e' w' ⟨v', μ', he', k1, k2, k3⟩ => ?_
        subst he'
        obtain ⟨g1, g2, _⟩ := quiet_back (q := true) hS hle k2 k3 hU'
        exact hK v' w' μ' k1 g1 g2
    · obtain ⟨v', w', μ', hr, k1, k2, k3, _⟩ := aop_sound (w := w) hS hU hops h
      unfold Oper.wp
      rcases hr with hr | ⟨hr, rfl⟩
      · rw [hr]; exact hK v' w' μ' k1 k2 k3
      · rw [hr]; exact hK undef w' μ' k1 k2 k3
  · rename_i hw
    cases h
    rw [if_neg (by rw [wanted_spec he hw]; simp)]
    exact hK undef w μ .undef hS (.refl _ _ _ _)
  · cases h

/-- What stands behind code of the abstract machine, of the model. -/
def Post (nt : Nat) (μ : Mu) (σ : Heap) (w : World) (e' : Env) (σ' : Heap) (a' : Act) (w' : World) : Prop :=
  ∃ μ', Sim μ' σ' w'.heap ∧ Fr false μ σ w μ' σ' w' ∧ EnvR μ' e' a' ∧ a'.tmps.size = nt ∧ a'.defers = []
theorem Post.trans {nt : Nat} {μ μ1 : Mu} {σ σ1 σ2 : Heap} {w w1 w2 : World} {a2 : Act} (hU : ∀ l, σ.length ≤ l → l < σ1.length → μ l = none) (l1 : Le σ σ1) (l2 : Le σ1 σ2) (h1 : Fr false μ σ w μ1 σ1 w1) (h2 : Post nt μ1 σ1 w1 e' σ2 a2 w2) :
    Post nt μ σ w e' σ2 a2 w2 := by
  obtain ⟨μ', k1, k2, k3, k4, k5⟩ := h2
  exact ⟨μ', k1, .trans hU l1 l2 h1 k2, k3, k4, k5⟩
theorem U_left {σ σ1 σ2 : Heap} {μ : Mu} (hU : ∀ l, σ.length ≤ l → l < σ2.length → μ l = none) (l2 : Le σ1 σ2) : ∀ l, σ.length ≤ l → l < σ1.length → μ l = none :=
  fun l h1 h2 => hU l h1 (Nat.lt_of_lt_of_le h2 l2.len)
theorem U_right {σ σ1 σ2 : Heap} {μ μ1 : Mu} {w w1 : World} (hU : ∀ l, σ.length ≤ l → l < σ2.length → μ l = none) (l1 : Le σ σ1) (hF : Fr q μ σ w μ1 σ1 w1) : ∀ l, σ1.length ≤ l → l < σ2.length → μ1 l = none := fun l h1 h2 => by
  cases hm : μ1 l with
  | none => rfl
  | some p =>
    obtain ⟨b, N⟩ := p
    rcases hF.new l b N hm with h | ⟨_, h3, _⟩
    · rw [hU l (Nat.le_trans l1.len h1) h2] at h; cases h
    · omega
theorem Fr.weak' {μ' : Mu} (h : Fr q μ σ w μ' σ' w') : Fr false μ σ w μ' σ' w' := ⟨h.ext, h.new, h.keep, fun e => (by cases e), h.size, h.os, h.tape, h.output⟩
end
end Go.Proofs.Ytibejcomfjddfaa.AM
end
section
set_option maxHeartbeats 8000000
set_option linter.unusedVariables false
set_option linter.unusedSimpArgs false

/- Operations in the text's order; results. -/
namespace Go.Proofs.Ytibejcomfjddfaa.AM
open Go
section
variable {P : Program} {q : Bool} {o : Oper} {μ : Mu} {σ σ' : Heap} {w w' : World} {v v' : Value} {e e' : Env} {a : Act} {call : CallF} {ops : Array Oper}

theorem runOps_sound {nt : Nat} {Q : Exit → Act → World → Prop} (hcall : CallOk P call) : ∀ (l : List Oper) {e : Env} {σ : Heap} {μ : Mu} {a : Act} {w : World}, runOps P call q ops l e σ = some (e', σ') → (∀ o ∈ l, okOper nt o = true) → Sim μ σ w.heap →
    (∀ l, σ.length ≤ l → l < σ'.length → μ l = none) → EnvR μ e a → a.tmps.size = nt → a.defers = [] → (∀ a' w', Post nt μ σ w e' σ' a' w' → Q .normal a' w') → wpList P ops Q l a w
  | [], e, σ, μ, a, w, h, _, hS, _, he, hn, hd, hQ => by
    simp only [runOps] at h; cases h
    exact hQ a w ⟨μ, hS, .refl _ _ _ _, he, hn, hd⟩
  | o :: l, e, σ, μ, a, w, h, hok, hS, hU, he, hn, hd, hQ => by
    simp only [runOps] at h
    split at h
    · rename_i v σ1 hg
      have le1 := guarded_le hcall hg
      have le2 := runOps_le hcall l h
      have hoko : okOper a.tmps.size o = true := by rw [hn]; exact hok o (by simp)
      have key := guarded_sound (K := wpList P ops Q l) (Q := Q) hcall hg hoko hS (U_left hU le2) (fun t _ => he t) (fun v' w' μ' k1 k2 k3 => by
        have k3 := Fr.weak' k3
        refine runOps_sound hcall l h (fun o' ho => hok o' (by simp [ho])) k2 (U_right hU le1 k3) (upd_env (he.mono k3.ext) k1 (fun i hi => ?_)) (by rw [put_size]; exact hn) (by rw [put_defers]; exact hd) (fun a' w2 hp => hQ a' w2 (hp.trans (U_left hU le2) le1 le2 k3))
        unfold okOper at hoko
        rw [hi] at hoko
        simp at hoko
        exact hoko.1.1)
      unfold wpList
      split
      · rename_i hw; rw [if_pos hw] at key; exact .inl key
      · rename_i hw; rw [if_neg hw] at key; exact key
    · cases h

def resSem (tmps : Array Value) : ResultVar → Sem Value
  | .tmp t => pure (tmps.getD t undef)
  | .cell a t => do loadVar t (← asAddr (tmps.getD a undef))
theorem result_sound {r : ResultVar} (hS : Sim μ σ w.heap) (he : EnvR μ e a) (h : resultOf P e σ r = some v) :
    ∃ v', (resSem a.tmps r).run P w = .ok v' w ∧ Val μ v v' := by
  cases r with
  | tmp t => simp only [resultOf] at h; cases h; exact ⟨_, rfl, he t⟩
  | cell ad t =>
    simp only [resultOf] at h
    split at h
    · rename_i p hp
      have hv := he ad
      rw [hp] at hv
      obtain ⟨b, N, h1, h2, ex⟩ := hv.ptr_inv
      obtain ⟨v', k1, k2⟩ := loadV_sound hS h2 h1 h
      exact ⟨v', by simp only [resSem]; rw [ex]; simp [asAddr, k1], k2⟩
    · cases h
theorem results_list (hS : Sim μ σ w.heap) (he : EnvR μ e a) : ∀ (rs : List ResultVar) {vs : List Value}, rs.mapM (resultOf P e σ) = some vs →
    ∃ vs', (rs.mapM (resSem a.tmps)).run P w = .ok vs' w ∧ ValL μ vs vs'
  | [], vs, h => by simp at h; subst h; exact ⟨[], by simp, .nil⟩
  | r :: rs, vs, h => by
    rw [List.mapM_cons] at h
    cases h1 : resultOf P e σ r with
    | none => simp [h1] at h
    | some u =>
      cases h2 : rs.mapM (resultOf P e σ) with
      | none => simp [h1, h2] at h
      | some us =>
        simp [h1, h2] at h
        subst h
        obtain ⟨u', g1, g2⟩ := result_sound hS he h1
        obtain ⟨us', g3, g4⟩ := results_list hS he rs h2
        refine ⟨u' :: us', ?_, ?_⟩
        · rw [List.mapM_cons]
          simp only [Sem.run_bind, g1, g3, Result.andThen_ok, Sem.run_pure]
        · have := (ValL.one g2).append g4
          simpa using this
theorem results_sound {fn : Func} (hS : Sim μ σ w.heap) (he : EnvR μ e a) (h : resultsOf P fn.results.toList e σ = some v) : ∃ v', (results fn a.tmps).run P w = .ok v' w ∧ Val μ v v' := by
  have hrun : ∀ {vs' : List Value}, (fn.results.toList.mapM (resSem a.tmps)).run P w = .ok vs' w →
      (results fn a.tmps).run P w = .ok (if h : vs'.toArray.size = 1 then vs'.toArray[0] else .tuple vs'.toArray) w := fun {vs'} hr => by
    have e0 : results fn a.tmps = (do
        let vs ← fn.results.mapM (resSem a.tmps)
        pure (if h : vs.size = 1 then vs[0] else .tuple vs)) := by
      unfold results
      congr 2
    rw [e0, Array.mapM_eq_mapM_toList]
    simp only [Sem.run_bind, Sem.run_map, hr, Result.andThen_ok, Sem.run_pure]
  unfold resultsOf at h
  split at h
  · rename_i r hrs
    obtain ⟨v', g1, g2⟩ := result_sound hS he h
    obtain ⟨vs', g3, g4⟩ := results_list (P := P) hS he fn.results.toList (vs := [v]) (by rw [hrs]; simp [h])
    have := hrun g3
    have hl : vs'.length = 1 := g4.1
    rw [dif_pos (by simpa using hl)] at this
    refine ⟨_, this, g4.2 0 v _ rfl (by simp)⟩
  · rename_i rs hne
    cases hm : fn.results.toList.mapM (resultOf P e σ) with
    | none => rw [hm] at h; cases h
    | some vs =>
      rw [hm] at h; cases h
      obtain ⟨vs', g3, g4⟩ := results_list (P := P) hS he fn.results.toList hm
      have := hrun g3
      have hlv : vs.length = fn.results.toList.length := by
        have key : ∀ (rs : List ResultVar) {vs : List Value}, rs.mapM (resultOf P e σ) = some vs → vs.length = rs.length := by
          intro rs
          induction rs with
          | nil => intro vs h; simp at h; subst h; rfl
          | cons r rs ih =>
            intro vs h
            rw [List.mapM_cons] at h
            cases h1 : resultOf P e σ r with
            | none => simp [h1] at h
            | some u =>
              cases h2 : rs.mapM (resultOf P e σ) with
              | none => simp [h1, h2] at h
              | some us => simp [h1, h2] at h; subst h; simp [ih h2]
        exact key _ hm
      have hl : vs'.length ≠ 1 := fun e1 => by
        rw [g4.1, hlv] at e1
        obtain ⟨r, hr⟩ := List.length_eq_one_iff.1 e1
        exact hne r hr
      rw [dif_neg (by simpa using hl)] at this
      exact ⟨_, this, .tup (by simpa using g4.1) (fun i u u' h1 h2 => g4.2 i u u' (by simpa using h1) (by simpa using h2))⟩
end
end Go.Proofs.Ytibejcomfjddfaa.AM
end
section
set_option maxHeartbeats 8000000
set_option linter.unusedVariables false
set_option linter.unusedSimpArgs false

/- Quiet operations: what they leave, and that their order doesn't matter. -/
namespace Go.Proofs.Ytibejcomfjddfaa.AM
open Go
section
variable {P : Program} {o : Oper} {μ μ' : Mu} {σ σ' τ : Heap} {w w' : World} {v v' : Value} {e e' : Env} {a : Act} {call : CallF} {ops : Array Oper}

/-- Contents stay. -/
def Same (σ σ' : Heap) : Prop := ∀ (l : Nat) (x x' : Blk), σ[l]? = some x → σ'[l]? = some x' → x'.cells = x.cells
theorem Same.refl (σ : Heap) : Same σ σ := fun l x x' h1 h2 => by rw [h1] at h2; cases h2; rfl
theorem Same.trans {a b c : Heap} (hl : Le a b) (h1 : Same a b) (h2 : Same b c) : Same a c := fun l x x' g1 g2 => by
  obtain ⟨y, hy, _⟩ := hl.blk l x g1
  rw [h2 l y x' hy g2, h1 l x y g1 hy]
theorem Same.snoc (σ : Heap) (y : Blk) : Same σ (σ ++ [y]) := fun l x x' h1 h2 => by
  rw [List.getElem?_append_left (get_lt h1), h1] at h2; cases h2; rfl
theorem Same.kill (σ : Heap) (l : Nat) : Same σ (kill σ l) := fun k x x' h1 h2 => by
  rw [kill_get, h1] at h2
  split at h2 <;> (cases h2; rfl)
def SaO (σ : Heap) (r : Option (Value × Heap)) : Prop := ∀ v σ', r = some (v, σ') → Same σ σ'
theorem SaO.none : SaO σ none := fun v σ' h => by cases h
theorem SaO.same {u : Value} : SaO σ (some (u, σ)) := fun v σ' h => by cases h; exact .refl _
theorem SaO.mapS {r : Option Value} : SaO σ (r.map (·, σ)) := fun v σ' h => by cases r <;> cases h; exact .refl _
theorem SaO.mapG {α : Type} {r : Option α} {f : α → Value} : SaO σ (r.map fun x => (f x, σ)) := fun v σ' h => by cases r <;> cases h; exact .refl _
theorem newBlk_map {cs : List Value} {f : Addr × Heap → Value × Heap} (hf : ∀ p, (f p).2 = p.2) (h : (newBlk σ cs).map f = some (v, σ')) : σ' = σ ++ [⟨cs, .full⟩] := by
  cases hb : newBlk σ cs with
  | none => rw [hb] at h; cases h
  | some r =>
    obtain ⟨a, τ⟩ := r
    rw [hb] at h
    have h := Option.some.inj h
    have := hf (a, τ)
    rw [h] at this
    simp only at this
    rw [this, (newBlk_spec hb).2.1]
theorem newBlkP_map {cs : List Value} {p : Perm} {f : Addr × Heap → Value × Heap} (hf : ∀ p, (f p).2 = p.2) (h : (newBlkP σ cs p).map f = some (v, σ')) : σ' = σ ++ [⟨cs, p⟩] := by
  cases hb : newBlkP σ cs p with
  | none => rw [hb] at h; cases h
  | some r =>
    obtain ⟨a, τ⟩ := r
    rw [hb] at h
    have h := Option.some.inj h
    have := hf (a, τ)
    rw [h] at this
    simp only at this
    rw [this, (newBlkP_spec hb).2.1]
theorem SaO.newP {cs : List Value} {p : Perm} {f : Addr × Heap → Value × Heap} (hf : ∀ p, (f p).2 = p.2) : SaO σ ((newBlkP σ cs p).map f) := fun v σ' h => by rw [newBlkP_map hf h]; exact .snoc _ _
theorem SaO.newPB {α : Type} {r : Option α} {p : Perm} {g : α → List Value} {f : Addr × Heap → Value × Heap} (hf : ∀ p, (f p).2 = p.2) : SaO σ (r.bind fun x => (newBlkP σ (g x) p).map f) := fun v σ' h => by
  cases r with
  | none => cases h
  | some x => exact SaO.newP hf v σ' h
theorem SaO.new {cs : List Value} {f : Addr × Heap → Value × Heap} (hf : ∀ p, (f p).2 = p.2) : SaO σ ((newBlk σ cs).map f) := fun v σ' h => by rw [newBlk_map hf h]; exact .snoc _ _
theorem SaO.newB {α : Type} {r : Option α} {g : α → List Value} {f : Addr × Heap → Value × Heap} (hf : ∀ p, (f p).2 = p.2) : SaO σ (r.bind fun x => (newBlk σ (g x)).map f) := fun v σ' h => by
  cases r with
  | none => cases h
  | some x => exact SaO.new hf v σ' h
theorem SaO.hand {l : Nat} {cs : List Value} {f : Addr × Heap → Value × Heap} (hf : ∀ p, (f p).2 = p.2) : SaO σ ((newBlk (AM.kill σ l) cs).map f) := fun v σ' h => by
  rw [newBlk_map hf h]
  intro k x x' h1 h2
  rw [List.getElem?_append_left (by rw [kill_len]; exact get_lt h1)] at h2
  exact Same.kill σ l k x x' h1 h2
theorem append_same {t tx : TypeId} {s x : Value} : SaO σ (aAppend P true t tx s x σ) := by
  unfold aAppend
  repeat' split
  all_goals first
    | exact SaO.none
    | exact SaO.same
    | exact SaO.new (fun _ => rfl)
    | exact SaO.hand (fun _ => rfl)
    | (simp_all; done)
theorem zeros_same {t : TypeId} {s x : Value} : SaO σ (aZeros P t s x σ) := by
  unfold aZeros
  repeat' split
  all_goals first
    | exact SaO.none
    | exact SaO.new (fun _ => rfl)
theorem app_same {t tx : TypeId} {s x : Value} : SaO σ (aApp P true t tx s x σ) := by
  unfold aApp
  split
  · exact zeros_same
  · exact append_same
theorem aop_same {ρ : Operand → Value} : SaO σ (aop P true ρ o σ) := by
  unfold aop
  repeat' split
  all_goals first
    | exact SaO.none
    | exact SaO.same
    | exact SaO.mapS
    | exact SaO.mapG
    | exact SaO.new (fun _ => rfl)
    | exact SaO.newB (fun _ => rfl)
    | exact SaO.newP (fun _ => rfl)
    | exact SaO.newPB (fun _ => rfl)
    | exact app_same
    | (simp_all; done)
theorem guarded_same (h : guarded P call true ops o e σ = some (v, σ')) : Same σ σ' := by
  unfold guarded at h
  split at h
  · unfold stepOp at h
    split at h
    · rename_i f args _
      simp only [if_true, quietCall] at h
      cases hc : call f args (lock σ) with
      | none => rw [hc] at h; cases h
      | some r =>
        rw [hc] at h; cases h
        intro l x x' h1 h2
        rw [List.getElem?_append_left (get_lt h1), h1] at h2; cases h2; rfl
    · exact aop_same v σ' h
  · cases h; exact .refl _
  · cases h
/-- Nothing is handed on but by an append. -/
def NoKill (σ σ' : Heap) : Prop := ∀ l, alive σ l → alive σ' l
def NkO (σ : Heap) (r : Option (Value × Heap)) : Prop := ∀ v σ', r = some (v, σ') → NoKill σ σ'
theorem NkO.none : NkO σ none := fun v σ' h => by cases h
theorem NkO.same {u : Value} : NkO σ (some (u, σ)) := fun v σ' h => by cases h; exact fun _ h => h
theorem NkO.mapS {r : Option Value} : NkO σ (r.map (·, σ)) := fun v σ' h => by cases r <;> cases h; exact fun _ h => h
theorem NkO.mapG {α : Type} {r : Option α} {f : α → Value} : NkO σ (r.map fun x => (f x, σ)) := fun v σ' h => by cases r <;> cases h; exact fun _ h => h
theorem NoKill.app (σ τ : Heap) : NoKill σ (σ ++ τ) := fun l ⟨x, h, hp⟩ => ⟨x, by rw [List.getElem?_append_left (get_lt h)]; exact h, hp⟩
theorem NkO.new {cs : List Value} {f : Addr × Heap → Value × Heap} (hf : ∀ p, (f p).2 = p.2) : NkO σ ((newBlk σ cs).map f) := fun v σ' h => by rw [newBlk_map hf h]; exact .app _ _
theorem NkO.newB {α : Type} {r : Option α} {g : α → List Value} {f : Addr × Heap → Value × Heap} (hf : ∀ p, (f p).2 = p.2) : NkO σ (r.bind fun x => (newBlk σ (g x)).map f) := fun v σ' h => by
  cases r with
  | none => cases h
  | some x => exact NkO.new hf v σ' h
theorem NkO.newP {cs : List Value} {p : Perm} {f : Addr × Heap → Value × Heap} (hf : ∀ p, (f p).2 = p.2) : NkO σ ((newBlkP σ cs p).map f) := fun v σ' h => by rw [newBlkP_map hf h]; exact .app _ _
theorem NkO.newPB {α : Type} {r : Option α} {p : Perm} {g : α → List Value} {f : Addr × Heap → Value × Heap} (hf : ∀ p, (f p).2 = p.2) : NkO σ (r.bind fun x => (newBlkP σ (g x) p).map f) := fun v σ' h => by
  cases r with
  | none => cases h
  | some x => exact NkO.newP hf v σ' h
theorem aop_nokill {ρ : Operand → Value} (hna : appendOp o.op = false) : NkO σ (aop P true ρ o σ) := by
  unfold aop
  repeat' split
  all_goals first
    | exact NkO.none
    | exact NkO.same
    | exact NkO.mapS
    | exact NkO.mapG
    | exact NkO.new (fun _ => rfl)
    | exact NkO.newB (fun _ => rfl)
    | exact NkO.newP (fun _ => rfl)
    | exact NkO.newPB (fun _ => rfl)
    | (simp_all [appendOp]; done)
theorem guarded_nokill (hna : appendOp o.op = false) (h : guarded P call true ops o e σ = some (v, σ')) : NoKill σ σ' := by
  unfold guarded at h
  split at h
  · unfold stepOp at h
    split at h
    · rename_i f args _
      simp only [if_true, quietCall] at h
      cases hc : call f args (lock σ) with
      | none => rw [hc] at h; cases h
      | some r => rw [hc] at h; cases h; exact .app _ _
    · exact aop_nokill hna v σ' h
  · cases h; exact fun _ h => h
  · cases h
/-- What only computes does not look at memory. -/
theorem pure_any {q q' : Bool} (hp : pureOp o.op = true) (h : guarded P call q ops o e σ = some (v, σ')) : σ' = σ ∧ ∀ τ, guarded P call q' ops o e τ = some (v, τ) := by
  unfold guarded at h ⊢
  split at h
  · rename_i hw
    unfold stepOp at h ⊢
    have hg : goCall (ev e) o.op = none := by
      unfold goCall
      split
      · rename_i x as ts hop; rw [hop] at hp; simp [pureOp] at hp
      · rfl
    rw [hg] at h ⊢
    simp only at h ⊢
    have key : ∃ r : Option Value, ∀ q τ, aop P q (ev e) o τ = r.map (·, τ) := by
      obtain ⟨dst, op, type, pos, after, guard⟩ := o
      cases op <;> (try (simp [pureOp] at hp; done)) <;> simp only [aop]
      case move x => exact ⟨some _, fun _ _ => rfl⟩
      case assign x => exact ⟨some _, fun _ _ => rfl⟩
      case pick c a b => split <;> first | exact ⟨some _, fun _ _ => rfl⟩ | exact ⟨none, fun _ _ => rfl⟩
      case extract x i => split <;> first | exact ⟨_, fun _ _ => rfl⟩ | exact ⟨none, fun _ _ => rfl⟩
      case nilCheck x => split <;> first | exact ⟨some _, fun _ _ => rfl⟩ | exact ⟨none, fun _ _ => rfl⟩
      case fieldAddr t x f => repeat' split
                              all_goals first | exact ⟨some _, fun _ _ => rfl⟩ | exact ⟨none, fun _ _ => rfl⟩
      case field t x f => split <;> first | exact ⟨_, fun _ _ => rfl⟩ | exact ⟨none, fun _ _ => rfl⟩
      case indexAddr t x i => repeat' split
                              all_goals first | exact ⟨some _, fun _ _ => rfl⟩ | exact ⟨none, fun _ _ => rfl⟩
      case index t x i => repeat' split
                          all_goals first | exact ⟨none, fun _ _ => rfl⟩ | exact ⟨_, fun _ _ => rfl⟩
      case slice t x lo hi mx => split <;> exact ⟨_, fun _ _ => rfl⟩
      case makeFunc fn x y => split <;> first | exact ⟨some _, fun _ _ => rfl⟩ | exact ⟨none, fun _ _ => rfl⟩
      case makeInterface t x => split <;> first | exact ⟨some _, fun _ _ => rfl⟩ | exact ⟨none, fun _ _ => rfl⟩
      case build t parts =>
        repeat' split
        · exact ⟨(P.built t (parts.map fun (i, x) => (i, ev e x)).toList).map fun cs => .agg cs, fun _ _ => by rw [Option.map_map]; rfl⟩
        all_goals exact ⟨none, fun _ _ => rfl⟩
      case binOp op t x y ty =>
        repeat' split
        · exact ⟨some _, fun _ _ => rfl⟩
        · exact ⟨_, fun _ _ => rfl⟩
        · exact ⟨(aEq P t (ev e x) (ev e y)).map fun b => .bool b, fun _ _ => by rw [Option.map_map]; rfl⟩
        · exact ⟨(aEq P t (ev e x) (ev e y)).map fun b => .bool (!b), fun _ _ => by rw [Option.map_map]; rfl⟩
        · exact ⟨none, fun _ _ => rfl⟩
      case unOp op t x => exact ⟨_, fun _ _ => rfl⟩
      case call c =>
        obtain ⟨callee, args, ts⟩ := c
        cases callee with
        | builtin b =>
          cases b <;> (try (simp [pureOp] at hp; done)) <;> simp only <;> (repeat' split) <;>
            first | exact ⟨some _, fun _ _ => rfl⟩ | exact ⟨none, fun _ _ => rfl⟩ | exact ⟨_, fun _ _ => rfl⟩ | (simp_all; done)
        | value x => simp [pureOp] at hp
        | invoke r m => simp [pureOp] at hp
    obtain ⟨r, hr⟩ := key
    rw [hr] at h
    cases r with
    | none => cases h
    | some u => cases h; exact ⟨rfl, fun τ => by rw [hr]; rfl⟩
  · cases h; exact ⟨rfl, fun τ => rfl⟩
  · cases h
end
end Go.Proofs.Ytibejcomfjddfaa.AM
end
section
set_option maxHeartbeats 8000000
set_option linter.unusedVariables false
set_option linter.unusedSimpArgs false

/- Steps out of the text's order: what is known of the abstract memories ahead and behind. -/
namespace Go.Proofs.Ytibejcomfjddfaa.AM
open Go
section
variable {P : Program} {o : Oper} {μ μ' : Mu} {σ τ τ1 τ2 : Heap} {w w' : World}

theorem Holds.mono {x : Blk} {N : Nat} {ob : Option Obj} (h : ∀ l b, μ l = some b → μ' l = some b) (hh : Holds μ x N ob) : Holds μ' x N ob := by
  obtain ⟨c, elem, fr, k1, k0, k2, k3⟩ := hh
  exact ⟨c, elem, fr, k1, k0, k2, fun j u hj => by obtain ⟨u', g1, g2⟩ := k3 j u hj; exact ⟨u', g1, g2.mono h⟩⟩
theorem sim_later (hk : Sim μ τ w.heap) (hk1 : Sim μ' τ1 w'.heap) (F : Fr true μ τ w μ' τ1 w') (l1 : Le τ τ1) (l2 : Le τ1 τ2) (hs : Same τ1 τ2) (h2 : Sim μ τ2 w.heap) : Sim μ' τ2 w'.heap := by
  have old : ∀ l b N, τ1.length ≤ l → μ' l = some (b, N) → μ l = some (b, N) := fun l b N hl h => by
    rcases F.new l b N h with h | ⟨_, h3, _⟩
    · exact h
    · omega
  refine ⟨hk1.lt, fun a1 a2 b N1 N2 hne m1 m2 hf ha => ?_, fun l b N x m hx hd => ?_, hk1.glob⟩
  · rcases Nat.lt_or_ge a1 τ1.length with c1 | c1
    · refine hk1.inj a1 a2 b N1 N2 hne m1 m2 (l2.full c1 hf) ?_
      rcases ha with ha | ha
      · rcases Nat.lt_or_ge a2 τ1.length with c2 | c2
        · exact .inl (l2.alive c2 ha)
        · exact .inr c2
      · exact .inr (Nat.le_trans l2.len ha)
    · have o1 := old a1 b N1 c1 m1
      rcases F.new a2 b N2 m2 with o2 | ⟨_, _, hb | ⟨l0, g1, g2, _⟩⟩
      · exact h2.inj a1 a2 b N1 N2 hne o1 o2 hf ha
      · have := hk.lt _ _ _ o1; omega
      · have hl0 : l0 < τ.length := by obtain ⟨x, hx, _⟩ := g2; exact get_lt hx
        have := l1.len
        exact hk.inj l0 a1 b N2 N1 (by omega) g1 o1 g2 (.inr (by omega))
  · rcases Nat.lt_or_ge l τ1.length with c1 | c1
    · have hx1 := List.getElem?_eq_getElem c1
      obtain ⟨x', hx', p1, p2, p3⟩ := l2.blk l _ hx1
      rw [hx] at hx'; cases hx'
      have hc := hs l _ _ hx1 hx
      have hd1 : (τ1[l]).perm ≠ .dead := fun e => hd (p3 e)
      obtain ⟨c, elem, fr, k1, k0, k2, k3⟩ := hk1.blk l b N _ m hx1 hd1
      exact ⟨c, elem, fr, k1, k0, fun hp => k2 ((p1 (by rw [hp]; rfl)).trans hp), fun j u hj => k3 j u (by rw [← hc]; exact hj)⟩
    · have om := old l b N c1 m
      have hh := h2.blk l b N x om hx hd
      rw [F.keep b (hk.lt _ _ _ om) (fun l' N' hm hf => ?_)]
      · exact hh.mono F.ext
      · have hl' : l' < τ.length := by obtain ⟨x, hx, _⟩ := hf; exact get_lt hx
        have := l1.len
        exact hk.inj l' l b N' N (by omega) hm om hf (.inr (by omega))
theorem all_same (F : Fr true μ τ w μ' τ1 w') (nk : NoKill τ τ1) (b : Nat) (hb : b < w.heap.size) : SameB (∀ l N, μ l = some (b, N) → isFull τ l → noByt τ l) w.heap w'.heap b := by
  by_cases h : ∃ l N, μ l = some (b, N) ∧ isFull τ l
  · obtain ⟨l, N, h1, h2⟩ := h
    intro c elem fr hc
    obtain ⟨fr', g1, g2⟩ := F.keepQ rfl l b N h1 (nk l h2.alive) c elem fr hc
    exact ⟨fr', g1, fun hn => g2 (hn l N h1 h2)⟩
  · exact .of_eq (F.keep b hb fun l N h1 h2 => h ⟨l, N, h1, h2⟩)
theorem sim_earlier (hk : Sim μ τ w.heap) (hk1 : Sim μ' τ1 w'.heap) (F : Fr true μ τ w μ' τ1 w') (nk : NoKill τ τ1) (l0 : Le τ2 τ) (h2 : Sim μ τ2 w.heap) : Sim μ' τ2 w'.heap := by
  have old : ∀ l b N, l < τ2.length → μ' l = some (b, N) → μ l = some (b, N) := fun l b N hl h => by
    have := l0.len
    rcases F.new l b N h with h | ⟨h3, _, _⟩
    · exact h
    · omega
  refine ⟨hk1.lt, fun a1 a2 b N1 N2 hne m1 m2 hf ha => ?_, fun l b N x m hx hd => ?_, hk1.glob⟩
  · have c1 : a1 < τ2.length := by obtain ⟨x, hx, _⟩ := hf; exact get_lt hx
    have o1 := old a1 b N1 c1 m1
    rcases F.new a2 b N2 m2 with o2 | ⟨_, _, hb | ⟨k0, g1, g2, g3⟩⟩
    · exact h2.inj a1 a2 b N1 N2 hne o1 o2 hf ha
    · have := hk.lt _ _ _ o1; omega
    · exact g3 (nk k0 g2.alive)
  · have om := old l b N (get_lt hx) m
    obtain ⟨c, elem, fr, k1, k0, k2, k3⟩ := h2.blk l b N x om hx hd
    obtain ⟨fr', g1, g2⟩ := all_same F nk b (hk.lt _ _ _ om) c elem fr k1
    refine ⟨c, elem, fr', g1, k0, fun hp => g2 (fun l2 N2 m2 f2 y hy hyb => ?_) (k2 hp), fun j u hj => by obtain ⟨u', e1, e2⟩ := k3 j u hj; exact ⟨u', e1, e2.mono F.ext⟩⟩
    have hfl : isFull τ2 l := ⟨x, hx, by rw [hp]; rfl⟩
    by_cases el : l = l2
    · subst el
      obtain ⟨x', hx', p1, p2, p3⟩ := l0.blk l x hx
      rw [hy] at hx'; cases hx'
      have := p1 (by rw [hyb]; rfl)
      rw [hp, hyb] at this; cases this
    · refine h2.inj l l2 b N N2 el om m2 hfl ?_
      rcases Nat.lt_or_ge l2 τ2.length with c2 | c2
      · exact .inl (l0.alive c2 f2.alive)
      · exact .inr c2
/-- What becomes of the world, seen from the start of the region, told by the memory at its end. -/
theorem fr_step {q : Bool} {μ0 : Mu} {w0 : World} {σN : Heap} (hU : ∀ l, σ.length ≤ l → l < σN.length → μ0 l = none) (h0 : Fr false μ0 σ w0 μ σN w) (lk : Le σ τ) (l1 : Le τ τ1) (lN : Le τ1 σN) (F : Fr q μ τ w μ' τ1 w') : Fr false μ0 σ w0 μ' σN w' := by
  have back : ∀ l b N, μ0 l = some (b, N) → isFull τ l → l < σ.length := fun l b N h hf => by
    obtain ⟨x, hx, _⟩ := hf
    have := get_lt hx
    have := l1.len
    have := lN.len
    rcases Nat.lt_or_ge l σ.length with h1 | h1
    · exact h1
    · rw [hU l h1 (by omega)] at h; cases h
  refine ⟨fun l b h => F.ext l b (h0.ext l b h), fun l b N h => ?_, fun b hb hn => ?_, fun h => (by cases h), Nat.le_trans h0.size F.size, F.os.trans h0.os, F.tape.trans h0.tape, F.output.trans h0.output⟩
  · rcases F.new l b N h with h | ⟨g1, g2, h⟩
    · exact h0.new l b N h
    · refine .inr ⟨Nat.le_trans lk.len g1, Nat.lt_of_lt_of_le g2 lN.len, ?_⟩
      rcases h with h | ⟨l0, c1, c2, c3⟩
      · exact .inl (Nat.le_trans h0.size h)
      · rcases h0.new l0 b N c1 with h | ⟨_, _, h⟩
        · have hl := back l0 b N h c2
          refine .inr ⟨l0, h, lk.full hl c2, fun ha => c3 ?_⟩
          exact lN.alive (by have := lk.len; have := l1.len; omega) ha
        · exact h
  · rw [F.keep b (Nat.lt_of_lt_of_le hb h0.size) ?_, h0.keep b hb hn]
    intro l N hl hf
    rcases h0.new l b N hl with h | ⟨b1, b2, h⟩
    · exact hn l N h (lk.full (back l b N h hf) hf)
    · rcases h with h | ⟨l0, c1, c2, _⟩
      · omega
      · exact hn l0 N c1 c2
/-- The steps of a list of operations, by number. -/
theorem trace {call : CallF} {ops : Array Oper} {q : Bool} : ∀ (l : List Oper) {e e' : Env} {σ σ' : Heap}, runOps P call q ops l e σ = some (e', σ') →
    ∃ (E : Nat → Env) (H : Nat → Heap) (V : Nat → Value), E 0 = e ∧ H 0 = σ ∧ E l.length = e' ∧ H l.length = σ' ∧
      ∀ (k : Nat) (o : Oper), l[k]? = some o → guarded P call q ops o (E k) (H k) = some (V k, H (k + 1)) ∧ E (k + 1) = upd (E k) o.dst (V k)
  | [], e, e', σ, σ', h => by
    simp only [runOps] at h; cases h
    exact ⟨fun _ => e, fun _ => σ, fun _ => undef, rfl, rfl, rfl, rfl, fun k o h => by simp at h⟩
  | o :: l, e, e', σ, σ', h => by
    simp only [runOps] at h
    split at h
    · rename_i v σ1 hg
      obtain ⟨E, H, V, h1, h2, h3, h4, h5⟩ := trace l h
      refine ⟨fun k => match k with | 0 => e | k + 1 => E k, fun k => match k with | 0 => σ | k + 1 => H k, fun k => match k with | 0 => v | k + 1 => V k, rfl, rfl, h3, h4, fun k o' hk => ?_⟩
      cases k with
      | zero => simp at hk; subst hk; simp only [h1, h2]; exact ⟨hg, trivial⟩
      | succ k => exact h5 k o' (by simpa using hk)
    · cases h
theorem or_bits {f g : Edge → Nat} {p : Edge → Bool} {j : Nat} : ∀ (l : List Edge) (s : Nat), (l.foldl (fun s e => if p e then s ||| f e ||| g e else s) s).testBit j = true → s.testBit j = true ∨ ∃ e ∈ l, p e = true ∧ ((f e).testBit j = true ∨ (g e).testBit j = true)
  | [], s, h => .inl h
  | e :: l, s, h => by
    rw [List.foldl_cons] at h
    rcases or_bits l _ h with h | ⟨e', h1, h2, h3⟩
    · split at h
      · rename_i hp
        rw [Nat.testBit_or, Bool.or_eq_true, Nat.testBit_or, Bool.or_eq_true] at h
        rcases h with (h | h) | h
        · exact .inl h
        · exact .inr ⟨e, by simp, hp, .inl h⟩
        · exact .inr ⟨e, by simp, hp, .inr h⟩
      · exact .inl h
    · exact .inr ⟨e', by simp [h1], h2, h3⟩
end
end Go.Proofs.Ytibejcomfjddfaa.AM
end
section
set_option maxHeartbeats 8000000
set_option linter.unusedVariables false
set_option linter.unusedSimpArgs false

/- What a plan says. -/
namespace Go.Proofs.Ytibejcomfjddfaa.AM
open Go
section
variable {ops : Array Oper} {ord : List Nat} {q : Nat}
def opN (ops : Array Oper) (i : Nat) : Oper := ops.getD i default
def wts (ops : Array Oper) (i j : Nat) : Bool := ((Region.before ops).getD i 0).testBit j
structure PlanOk (ops : Array Oper) (ord : List Nat) (q : Nat) : Prop where
  len : ord.length = ops.size
  nodup : ord.Nodup
  lt : ∀ i ∈ ord, i < ops.size
  all : ∀ i, i < ops.size → i ∈ ord
  edge : ∀ i, i < ops.size → ∀ e ∈ (opN ops i).after, Region.binds .any e = true → e.on < ops.size ∧ ord.idxOf e.on < ord.idxOf i
  bef : ∀ i, i < ops.size → ∀ j, wts ops i j = true → ∃ e ∈ (opN ops i).after, Region.binds .any e = true ∧ (e.on = j ∨ wts ops e.on j = true)
  quiet : ∀ k, k < ord.length → k < q → quietOp (opN ops (ord.getD k 0)).op = true ∧ (appendOp (opN ops (ord.getD k 0)).op = true → ∀ j, j < k → pureOp (opN ops (ord.getD j 0)).op = false → wts ops (ord.getD k 0) (ord.getD j 0) = true)
  tail : ∀ k, k < ord.length → q ≤ k → pureOp (opN ops (ord.getD k 0)).op = false → ∀ j, j < k → pureOp (opN ops (ord.getD j 0)).op = false → wts ops (ord.getD k 0) (ord.getD j 0) = true ∨ ord.getD j 0 ∈ earlyL ops ord q
  qle : q ≤ ord.length
  tmps : ∀ i j, i < ops.size → j < ops.size → i ≠ j → ∀ d, (opN ops i).dst = some d → d ∈ namesOf ops (opN ops j) → wts ops i j = true ∨ wts ops j i = true
theorem pow_bit {i j : Nat} (h : (2 ^ i).testBit j = true) : i = j := by
  rw [Nat.testBit_two_pow] at h
  simpa using h
theorem ahead_mem {k j : Nat} (hk : k < ord.length) (hj : j < k) : ord.getD j 0 ∈ ord.take k := by
  have : ord.getD j 0 = (ord.take k)[j]'(by simp; omega) := by
    rw [List.getElem_take, List.getD_eq_getElem?_getD, List.getElem?_eq_getElem (by omega)]; rfl
  rw [this]; exact List.getElem_mem _
theorem planOk_spec (h : planOk ops ord q = true) : PlanOk ops ord q := by
  unfold planOk at h
  simp only [Bool.and_eq_true, List.all_eq_true, List.mem_range, decide_eq_true_eq, beq_iff_eq] at h
  obtain ⟨⟨⟨⟨⟨⟨⟨h1, h2⟩, h3⟩, h8⟩, h4⟩, h5⟩, h6⟩, h7⟩ := h
  refine ⟨h1, h2, h3, fun i hi => by simpa using h8 i hi, fun i hi e he hb => ?_, fun i hi j hw => ?_, fun k hk hq => ?_, fun k hk hq hp j hj hpj => ?_, h6, fun i j hi hj hne d hd hm => ?_⟩
  · have := (h4 i hi).1
    rw [Array.all_eq_true] at this
    obtain ⟨x, hx, rfl⟩ := Array.getElem_of_mem he
    have := this x hx
    change Region.binds .any ((ops.getD i default).after[x]) = true at hb
    rw [hb] at this
    simp only [Bool.not_true, Bool.false_or, Bool.and_eq_true, decide_eq_true_eq] at this
    exact this
  · have := (h4 i hi).2
    unfold wts at hw
    rw [this] at hw
    rcases or_bits _ _ hw with h | ⟨e, g1, g2, g3⟩
    · simp at h
    · refine ⟨e, Array.mem_toList_iff.1 g1, g2, ?_⟩
      rcases g3 with g3 | g3
      · exact .inl (pow_bit g3)
      · exact .inr g3
  · have := h5 k hk
    rw [if_pos hq] at this
    simp only [Bool.and_eq_true, Bool.or_eq_true, Bool.not_eq_true', List.all_eq_true, List.mem_filter] at this
    refine ⟨this.1.1, fun ha j hj hpj => ?_⟩
    rcases this.2 with g | g
    · rw [show (ops.getD (ord.getD k 0) default).op = (opN ops (ord.getD k 0)).op from rfl, ha] at g; cases g
    · exact g _ ⟨ahead_mem hk hj, hpj⟩
  · have := h5 k hk
    rw [if_neg (by omega)] at this
    simp only [Bool.or_eq_true, List.all_eq_true, List.mem_filter, Bool.not_eq_true'] at this
    rcases this with g | g
    · rw [show (ops.getD (ord.getD k 0) default).op = (opN ops (ord.getD k 0)).op from rfl, hp] at g; cases g
    · rcases g _ ⟨ahead_mem hk hj, hpj⟩ with g | g
      · exact .inl g
      · exact .inr (by simpa using g)
  · have := h7 i hi j hj
    rw [show (ops.getD i default).dst = (opN ops i).dst from rfl, hd] at this
    simp only [Bool.or_eq_true, beq_iff_eq, Bool.not_eq_true', List.contains_eq_mem, decide_eq_false_iff_not] at this
    rcases this with ((g | g) | g) | g
    · exact absurd g hne
    · exact .inl g
    · exact .inr g
    · exact absurd hm g
theorem plan_spec (h : plan ops = some (ord, q)) : PlanOk ops ord q := by
  unfold plan at h
  dsimp only at h
  split at h
  · rename_i hp; cases h; exact planOk_spec hp
  · split at h
    · rename_i hp; cases h; exact planOk_spec hp
    · cases h
/-- The place of an operation. -/
theorem PlanOk.get (h : PlanOk ops ord q) {k : Nat} (hk : k < ops.size) : ord.getD k 0 < ops.size ∧ ord.idxOf (ord.getD k 0) = k := by
  have hk' : k < ord.length := by rw [h.len]; exact hk
  have e : ord.getD k 0 = ord[k] := by rw [List.getD_eq_getElem?_getD, List.getElem?_eq_getElem hk']; rfl
  rw [e]
  exact ⟨h.lt _ (List.getElem_mem _), List.Nodup.idxOf_getElem h.nodup k hk'⟩
theorem PlanOk.place (h : PlanOk ops ord q) {i : Nat} (hi : i < ops.size) : ord.idxOf i < ops.size ∧ ord.getD (ord.idxOf i) 0 = i := by
  have hm : i ∈ ord := h.all i hi
  have hl := List.idxOf_lt_length_of_mem hm
  refine ⟨by rw [← h.len]; exact hl, ?_⟩
  rw [List.getD_eq_getElem?_getD, List.getElem?_eq_getElem hl]
  simp
/-- What is waited for stands ahead. -/
theorem PlanOk.wts_lt (h : PlanOk ops ord q) : ∀ (n i j : Nat), ord.idxOf i < n → i < ops.size → wts ops i j = true → j < ops.size ∧ ord.idxOf j < ord.idxOf i
  | 0, i, j, hn, _, _ => absurd hn (Nat.not_lt_zero _)
  | n + 1, i, j, hn, hi, hw => by
    obtain ⟨e, he, hb, hh⟩ := h.bef i hi j hw
    obtain ⟨h1, h2⟩ := h.edge i hi e he hb
    rcases hh with rfl | hh
    · exact ⟨h1, h2⟩
    · obtain ⟨h3, h4⟩ := PlanOk.wts_lt h n e.on j (by omega) h1 hh
      exact ⟨h3, by omega⟩
end
end Go.Proofs.Ytibejcomfjddfaa.AM
end
section
set_option maxHeartbeats 8000000
set_option linter.unusedVariables false
set_option linter.unusedSimpArgs false

/- Blocks that are not written any more (for early loads; builds after AMr, before AMm). -/
namespace Go.Proofs.Ytibejcomfjddfaa.AM
open Go
section
variable {μ : Mu} {σ : Heap} {h : Array Obj}
theorem roAt_get (σ : Heap) (l k : Nat) : (roAt σ l)[k]? = if l = k then (σ[k]?).map (fun b => ⟨b.cells, if b.perm.own = true then .ro else b.perm⟩) else σ[k]? := by
  unfold roAt
  rw [List.getElem?_modify]
  split <;> cases σ[k]? <;> simp_all
theorem roAt_len (σ : Heap) (l : Nat) : (roAt σ l).length = σ.length := by simp [roAt]
theorem roAt_old {l k : Nat} {x : Blk} (hx : (roAt σ l)[k]? = some x) : ∃ y, σ[k]? = some y ∧ x.cells = y.cells ∧ (x.perm = y.perm ∨ x.perm = .ro ∧ y.perm.own = true) ∧ (k = l → x.perm.own = false) := by
  rw [roAt_get] at hx
  split at hx
  · rename_i e
    subst e
    cases hk : σ[l]? with
    | none => rw [hk] at hx; cases hx
    | some y =>
      rw [hk] at hx
      cases hx
      refine ⟨y, rfl, rfl, ?_, fun _ => ?_⟩
      · by_cases c : y.perm.own = true
        · exact .inr ⟨by simp [c], c⟩
        · exact .inl (by simp [c])
      · cases hp : y.perm <;> simp [hp, Perm.own]
  · rename_i e
    exact ⟨x, hx, rfl, .inl rfl, fun ek => absurd ek.symm e⟩
theorem roAt_full {l k : Nat} (hf : isFull (roAt σ l) k) : isFull σ k := by
  obtain ⟨x, hx, hp⟩ := hf
  obtain ⟨y, hy, _, h1, _⟩ := roAt_old hx
  rcases h1 with h1 | ⟨h1, _⟩
  · exact ⟨y, hy, by rw [← h1]; exact hp⟩
  · rw [h1] at hp; simp [Perm.own] at hp
theorem roAt_alive {l k : Nat} (hf : alive (roAt σ l) k) : alive σ k := by
  obtain ⟨x, hx, hp⟩ := hf
  obtain ⟨y, hy, _, h1, _⟩ := roAt_old hx
  refine ⟨y, hy, fun e => ?_⟩
  rcases h1 with h1 | ⟨h1, h2⟩
  · exact hp (h1.trans e)
  · rw [e] at h2; simp [Perm.own] at h2
theorem Sim.roAt (hS : Sim μ σ h) (l : Nat) : Sim μ (AM.roAt σ l) h := by
  refine ⟨hS.lt, fun l1 l2 b N1 N2 hne m1 m2 hf ha => hS.inj l1 l2 b N1 N2 hne m1 m2 (roAt_full hf) (ha.imp roAt_alive (by rw [roAt_len]; exact id)), fun k b N x m hx hd => ?_, hS.glob⟩
  obtain ⟨y, hy, hc, h1, _⟩ := roAt_old hx
  have hyd : y.perm ≠ .dead := fun e => by
    rcases h1 with h1 | ⟨_, h2⟩
    · exact hd (h1.trans e)
    · rw [e] at h2; simp [Perm.own] at h2
  obtain ⟨c, elem, fr, k1, k0, k2, k3⟩ := hS.blk k b N y m hy hyd
  refine ⟨c, elem, fr, k1, k0, fun hp => ?_, fun j u hj => k3 j u (by rw [← hc]; exact hj)⟩
  rcases h1 with h1 | ⟨h1, _⟩
  · exact k2 (h1.symm.trans hp)
  · rw [h1] at hp; cases hp
theorem Le.roAt (σ : Heap) (l : Nat) : Le σ (AM.roAt σ l) := by
  refine ⟨by rw [roAt_len]; exact Nat.le_refl _, fun k x hx => ?_⟩
  rw [roAt_get]
  split
  · rw [hx]
    refine ⟨_, rfl, fun e => ?_, fun e => ?_, fun e => ?_⟩
    · cases hp : x.perm <;> simp_all [Perm.own]
    · cases x; simp_all [Perm.own]
    · simp [e, Perm.own]
  · exact ⟨x, hx, fun _ => rfl, fun _ => rfl, id⟩
/-- The blocks under early loads. -/
theorem roEarly_spec {ops : Array Oper} {e : Env} : ∀ (js : List Nat) (σ : Heap), (roEarly ops e js σ).length = σ.length ∧ (∀ k, isFull (roEarly ops e js σ) k → isFull σ k) ∧ Le σ (roEarly ops e js σ) ∧ (Sim μ σ h → Sim μ (roEarly ops e js σ) h) ∧ ∀ (k : Nat) (x : Blk), (roEarly ops e js σ)[k]? = some x → ∃ y : Blk, σ[k]? = some y ∧ (y.perm.own = false → x.perm.own = false)
  | [], σ => ⟨rfl, fun _ h => h, .refl _, fun h => h, fun k x hx => ⟨x, hx, id⟩⟩
  | j :: js, σ => by
    have e1 : ∀ τ, (match plainLoad ops (ops.getD j default) with
      | some t => match e t with
        | .pointer (some a) => roAt σ a.block
        | _ => σ
      | none => σ) = τ → roEarly ops e (j :: js) σ = roEarly ops e js τ := fun τ hτ => by subst hτ; rfl
    cases hp : plainLoad ops (ops.getD j default) with
    | none => rw [e1 σ (by rw [hp])]; exact roEarly_spec js σ
    | some t =>
      by_cases hq : ∃ a, e t = .pointer (some a)
      · obtain ⟨a, ha⟩ := hq
        rw [e1 (roAt σ a.block) (by rw [hp]; simp only [ha])]
        obtain ⟨h1, h2, h3, h4, h5⟩ := roEarly_spec (ops := ops) (e := e) js (roAt σ a.block)
        refine ⟨h1.trans (roAt_len _ _), fun k hk => roAt_full (h2 k hk), (Le.roAt _ _).trans h3, fun hs => h4 (hs.roAt _), fun k x hx => ?_⟩
        obtain ⟨y, hy, hyx⟩ := h5 k x hx
        obtain ⟨z, hz, _, hpz, _⟩ := roAt_old hy
        refine ⟨z, hz, fun ho => hyx ?_⟩
        rcases hpz with hpz | ⟨hpz, _⟩
        · rw [hpz]; exact ho
        · rw [hpz]; rfl
      · rw [e1 σ (by
          rw [hp]; simp only; split
          · rename_i a ha; exact absurd ⟨_, ha⟩ hq
          · rfl)]
        exact roEarly_spec js σ
/-- A block under an early load is not one's own any more. -/
theorem roEarly_at {ops : Array Oper} {e : Env} : ∀ (js : List Nat) (σ : Heap) {j : Nat} {t : Tmp} {a : Addr}, j ∈ js → plainLoad ops (ops.getD j default) = some t → e t = .pointer (some a) → ∀ x : Blk, (roEarly ops e js σ)[a.block]? = some x → x.perm.own = false
  | j0 :: js, σ, j, t, a, hj, hp, he, x, hx => by
    by_cases hjs : j ∈ js
    · exact roEarly_at js _ hjs hp he x hx
    · have e0 : j = j0 := (List.mem_cons.1 hj).resolve_right hjs
      subst e0
      have hx : (roEarly ops e js (match plainLoad ops (ops.getD j default) with
        | some t => match e t with
          | .pointer (some a) => roAt σ a.block
          | _ => σ
        | none => σ))[a.block]? = some x := hx
      rw [hp] at hx
      simp only [he] at hx
      obtain ⟨y, hy, hyx⟩ := (roEarly_spec (μ := fun _ => none) (h := #[]) (ops := ops) (e := e) js (roAt σ a.block)).2.2.2.2 a.block x hx
      obtain ⟨_, _, _, _, h⟩ := roAt_old hy
      exact hyx (h rfl)
theorem early_spec {ops : Array Oper} {ord : List Nat} {q j : Nat} (hj : j ∈ earlyL ops ord q) : j ∈ ord.take q ∧ ∃ t, plainLoad ops (ops.getD j default) = some t := by
  unfold earlyL at hj
  split at hj
  · obtain ⟨h1, h2⟩ := List.mem_filter.1 hj
    exact ⟨h1, Option.isSome_iff_exists.1 h2⟩
  · simp at hj
theorem plainLoad_spec {ops : Array Oper} {o : Oper} {t : Tmp} (h : plainLoad ops o = some t) : ∃ ty, o.op = .load ty (.tmp t) ∧ o.guard = none ∧ ∀ i, i < ops.size → (ops.getD i default).dst ≠ some t := by
  unfold plainLoad at h
  split at h
  · rename_i ty t' ho
    split at h
    · rename_i hc
      cases h
      simp only [Bool.and_eq_true, List.all_eq_true, List.mem_range] at hc
      exact ⟨ty, ho, by simpa using hc.1, fun i hi => by have := hc.2 i hi; simpa using this⟩
    · cases h
  · cases h
end
end Go.Proofs.Ytibejcomfjddfaa.AM
end
section
set_option maxHeartbeats 8000000
set_option linter.unusedVariables false
set_option linter.unusedSimpArgs false

/- A region, its order fixed or open. -/
namespace Go.Proofs.Ytibejcomfjddfaa.AM
open Go
section
variable {P : Program} {μ : Mu} {σ σ' : Heap} {w w' : World} {v v' : Value} {e e' : Env} {a : Act} {call : CallF} {ops : Array Oper}
theorem rounds_mono {c : Code} {Q Q' : Exit → Act → World → Prop} (hq : ∀ y a w, Q y a w → Q' y a w) : ∀ (n : Nat) (a : Act) (w : World), Code.rounds P c Q n a w → Code.rounds P c Q' n a w
  | 0, _, _, h => h
  | n + 1, a, w, h => wp_mono h fun y a' w' h' => by
    cases y with
    | normal => exact rounds_mono hq n a' w' h'
    | _ => exact hq _ _ _ h'

/-- The run of a region in the plan's order, step by step. -/
structure Trace (P : Program) (call : CallF) (ops : Array Oper) (ord : List Nat) (q : Nat) (E : Nat → Env) (H : Nat → Heap) (V : Nat → Value) : Prop where
  step : ∀ k, k < ops.size → guarded P call (decide (k < q)) ops (opN ops (ord.getD k 0)) (E k) (H k) = some (V k, H (k + 1))
  env : ∀ k, k < ops.size → E (k + 1) = upd (E k) (opN ops (ord.getD k 0)).dst (V k)
theorem Trace.le {ord : List Nat} {q : Nat} {E : Nat → Env} {H : Nat → Heap} {V : Nat → Value} (hcall : CallOk P call) (t : Trace P call ops ord q E H V) {i j : Nat} (hij : i ≤ j) (hj : j ≤ ops.size) : Le (H i) (H j) := by
  induction j with
  | zero => have : i = 0 := by omega
            subst this; exact .refl _
  | succ j ih =>
    rcases Nat.lt_or_ge j i with h | h
    · have : i = j + 1 := by omega
      subst this; exact .refl _
    · exact (ih h (by omega)).trans (guarded_le hcall (t.step j (by omega)))
theorem Trace.same {ord : List Nat} {q : Nat} {E : Nat → Env} {H : Nat → Heap} {V : Nat → Value} (hcall : CallOk P call) (t : Trace P call ops ord q E H V) {i j : Nat} (hij : i ≤ j) (hjq : j ≤ q) (hj : j ≤ ops.size) : Same (H i) (H j) := by
  induction j with
  | zero => have : i = 0 := by omega
            subst this; exact .refl _
  | succ j ih =>
    rcases Nat.lt_or_ge j i with h | h
    · have : i = j + 1 := by omega
      subst this; exact .refl _
    · have hs := t.step j (by omega)
      rw [decide_eq_true (by omega)] at hs
      exact (ih h (by omega) (by omega)).trans (t.le hcall h (by omega)) (guarded_same hs)
theorem Trace.pure {ord : List Nat} {q : Nat} {E : Nat → Env} {H : Nat → Heap} {V : Nat → Value} (t : Trace P call ops ord q E H V) {i j : Nat} (hij : i ≤ j) (hj : j ≤ ops.size) (hp : ∀ k, i ≤ k → k < j → pureOp (opN ops (ord.getD k 0)).op = true) : H j = H i := by
  induction j with
  | zero => have : i = 0 := by omega
            subst this; rfl
  | succ j ih =>
    rcases Nat.lt_or_ge j i with h | h
    · have : i = j + 1 := by omega
      subst this; rfl
    · rw [(pure_any (q' := true) (hp j h (by omega)) (t.step j (by omega))).1]
      exact ih h (by omega) fun k h1 h2 => hp k h1 (by omega)
theorem Trace.at {ord : List Nat} {q : Nat} {E : Nat → Env} {H : Nat → Heap} {V : Nat → Value} (t : Trace P call ops ord q E H V) {i j : Nat} (hij : i ≤ j) (hj : j ≤ ops.size) {x : Tmp} (hx : ∀ k, i ≤ k → k < j → (opN ops (ord.getD k 0)).dst ≠ some x) : E j x = E i x := by
  induction j with
  | zero => have : i = 0 := by omega
            subst this; rfl
  | succ j ih =>
    rcases Nat.lt_or_ge j i with h | h
    · have : i = j + 1 := by omega
      subst this; rfl
    · rw [t.env j (by omega)]
      have hne := hx j h (by omega)
      have : upd (E j) (opN ops (ord.getD j 0)).dst (V j) x = E j x := by
        cases hd : (opN ops (ord.getD j 0)).dst with
        | none => rfl
        | some d =>
          simp only [upd]
          rw [if_neg (fun e => hne (by rw [hd, e]))]
      rw [this]
      exact ih h (by omega) fun k h1 h2 => hx k h1 (by omega)
/-- Two places with the same writers ahead. -/
theorem Trace.at2 {ord : List Nat} {q : Nat} {E : Nat → Env} {H : Nat → Heap} {V : Nat → Value} (t : Trace P call ops ord q E H V) {i j : Nat} (hi : i ≤ ops.size) (hj : j ≤ ops.size) {x : Tmp} (hx : ∀ k, k < ops.size → (opN ops (ord.getD k 0)).dst = some x → (k < i ↔ k < j)) : E j x = E i x := by
  rcases Nat.le_total i j with h | h
  · exact t.at h hj fun k h1 h2 hd => by have := hx k (by omega) hd; omega
  · exact (t.at h hi fun k h1 h2 hd => by have := hx k (by omega) hd; omega).symm

/-- Which operation has come up. -/
def Up (listed : Array Bool) (ord : List Nat) (k : Nat) : Prop := listed.getD (ord.getD k 0) false = true
structure Inv (P : Program) (ops : Array Oper) (ord : List Nat) (q nt : Nat) (E : Nat → Env) (H : Nat → Heap) (μ0 : Mu) (w0 : World) (listed : Array Bool) (a : Act) (w : World) (μ : Mu) : Prop where
  size : listed.size = ops.size
  closed : ∀ k, k < ops.size → Up listed ord k → ∀ j, j < ops.size → wts ops (ord.getD k 0) (ord.getD j 0) = true → Up listed ord j
  env : ∀ x, ∃ m, m ≤ ops.size ∧ Val μ (E m x) (a.tmps.getD x undef) ∧ ∀ k, k < ops.size → (opN ops (ord.getD k 0)).dst = some x → (Up listed ord k ↔ k < m)
  nt : a.tmps.size = nt
  defers : a.defers = []
  fr : Fr false μ0 (H 0) w0 μ (H ops.size) w
  fresh : ∀ l, (H 0).length ≤ l → l < (H ops.size).length → μ l ≠ none → ∃ k, k < ops.size ∧ Up listed ord k ∧ (H k).length ≤ l ∧ l < (H (k + 1)).length
  phase : ((∀ k, k < ops.size → pureOp (opN ops (ord.getD k 0)).op = false → Up listed ord k → k < q) ∧
      ∀ k, k ≤ q → (k = q ∨ (k < ops.size ∧ pureOp (opN ops (ord.getD k 0)).op = false ∧ ¬ Up listed ord k)) → Sim μ (H k) w.heap) ∨
    ∃ c, q ≤ c ∧ c ≤ ops.size ∧ (∀ k, k < ops.size → pureOp (opN ops (ord.getD k 0)).op = false → (Up listed ord k → k < c) ∧ (k < c → Up listed ord k ∨ ord.getD k 0 ∈ earlyL ops ord q)) ∧ Sim μ (H c) w.heap
/-- The memory at which an operation that only computes may be taken. -/
theorem Inv.some_sim {ord : List Nat} {q nt : Nat} {E : Nat → Env} {H : Nat → Heap} {μ0 : Mu} {w0 : World} {listed : Array Bool} (h : Inv P ops ord q nt E H μ0 w0 listed a w μ) : ∃ c, Sim μ (H c) w.heap ∧ (c = q ∨ (q ≤ c ∧ c ≤ ops.size)) := by
  rcases h.phase with ⟨_, h2⟩ | ⟨c, h1, h2, _, h3⟩
  · exact ⟨q, h2 q (Nat.le_refl _) (.inl rfl), .inl rfl⟩
  · exact ⟨c, h3, .inr ⟨h1, h2⟩⟩

theorem getD_set (l : Array Bool) (i j : Nat) (hi : i < l.size) : (l.setIfInBounds i true).getD j false = if i = j then true else l.getD j false := by
  simp only [Array.getD_eq_getD_getElem?, Array.getElem?_setIfInBounds]
  split
  · rename_i e
    simp [hi]
  · rfl
/-- One operation more comes up. -/
theorem Inv.step {ord : List Nat} {q nt : Nat} {E : Nat → Env} {H : Nat → Heap} {V : Nat → Value} {μ0 : Mu} {w0 : World} {listed : Array Bool} {k : Nat} {K : Act → World → Prop} {Q : Exit → Act → World → Prop} (hcall : CallOk P call) (p : PlanOk ops ord q) (t : Trace P call ops ord q E H V)
    (hU : ∀ l, (H 0).length ≤ l → l < (H ops.size).length → μ0 l = none) (hok : ∀ i, i < ops.size → okOper nt (opN ops i) = true)
    (h : Inv P ops ord q nt E H μ0 w0 listed a w μ) (hk : k < ops.size) (hup : ¬ Up listed ord k) (hready : ∀ j, j < ops.size → wts ops (ord.getD k 0) (ord.getD j 0) = true → Up listed ord j)
    (hro : ∀ k, k < ops.size → ord.getD k 0 ∈ earlyL ops ord q → k < q ∧ ∀ c, q ≤ c → c ≤ ops.size → guarded P call true ops (opN ops (ord.getD k 0)) (E k) (H c) = some (V k, H c))
    (hK : ∀ a' w' μ', Inv P ops ord q nt E H μ0 w0 (listed.setIfInBounds (ord.getD k 0) true) a' w' μ' → K a' w') :
    if Region.wanted (opN ops (ord.getD k 0)) (yielded ops a.tmps) = true then (opN ops (ord.getD k 0)).wp P a w K Q else K (a.put (opN ops (ord.getD k 0)).dst undef) w := by
  obtain ⟨hik, hpk⟩ := p.get hk
  have hql : q ≤ ops.size := by rw [← p.len]; exact p.qle
  have up' : ∀ j, j < ops.size → (Up (listed.setIfInBounds (ord.getD k 0) true) ord j ↔ j = k ∨ Up listed ord j) := fun j hj => by
    obtain ⟨_, hpj⟩ := p.get hj
    unfold Up
    rw [getD_set _ _ _ (by rw [h.size]; exact hik)]
    split
    · rename_i e
      have : j = k := by rw [← hpj, ← hpk, e]
      simp [this]
    · rename_i e
      have : j ≠ k := fun ej => e (by rw [ej])
      simp [this]
  -- what is known of the order
  have wlt : ∀ i j, i < ops.size → j < ops.size → wts ops (ord.getD i 0) (ord.getD j 0) = true → j < i := fun i j hi hj hw => by
    obtain ⟨g1, g2⟩ := p.get hi
    obtain ⟨g3, g4⟩ := p.get hj
    have := (p.wts_lt (ops.size + 1) _ _ (by omega) g1 hw).2
    omega
  -- writers of what the operation names
  have writers : ∀ x, x ∈ namesOf ops (opN ops (ord.getD k 0)) → ∀ j, j < ops.size → (opN ops (ord.getD j 0)).dst = some x → (Up listed ord j ↔ j < k) := fun x hx j hj hd => by
    by_cases ejk : j = k
    · subst ejk; exact ⟨fun h => absurd h hup, fun h => absurd h (Nat.lt_irrefl _)⟩
    · obtain ⟨g3, g4⟩ := p.get hj
      have hne : ord.getD j 0 ≠ ord.getD k 0 := fun e => ejk (by rw [← g4, ← hpk, e])
      rcases p.tmps _ _ g3 hik hne x hd hx with hw | hw
      · have := wlt j k hj hk hw
        refine ⟨fun hu => absurd (h.closed j hj hu k hk hw) hup, fun hlt => by omega⟩
      · have := wlt k j hk hj hw
        exact ⟨fun _ => this, fun _ => hready j hj hw⟩
  have henv : ∀ x ∈ Oper.looksAt ops (opN ops (ord.getD k 0)), Val μ (E k x) (a.tmps.getD x undef) := fun x hx => by
    obtain ⟨m, hm, hv, hw⟩ := h.env x
    have hn : x ∈ namesOf ops (opN ops (ord.getD k 0)) := List.mem_append.2 (.inr hx)
    rw [t.at2 hm (by omega) fun j hj hd => (hw j hj hd).symm.trans (writers x hn j hj hd)]
    exact hv
  have hokk : okOper a.tmps.size (opN ops (ord.getD k 0)) = true := by rw [h.nt]; exact hok _ hik
  have mono : ∀ {i j : Nat}, i ≤ j → j ≤ ops.size → Le (H i) (H j) := fun h1 h2 => t.le hcall h1 h2
  have ls : ∀ {i j : Nat}, i ≤ j → j ≤ ops.size → (H i).length ≤ (H j).length := fun h1 h2 => (mono h1 h2).len
  -- the invariant behind the step, but for its phase
  have build : ∀ {v' : Value} {w' : World} {μ' : Mu} {qq : Bool} {τ τ1 : Heap}, Val μ' (V k) v' → Fr qq μ τ w μ' τ1 w' → Le (H 0) τ → Le τ τ1 → Le τ1 (H ops.size) → (∀ l, τ.length ≤ l → l < τ1.length → (H k).length ≤ l ∧ l < (H (k + 1)).length) →
      (((∀ j, j < ops.size → pureOp (opN ops (ord.getD j 0)).op = false → Up (listed.setIfInBounds (ord.getD k 0) true) ord j → j < q) ∧
        ∀ j, j ≤ q → (j = q ∨ (j < ops.size ∧ pureOp (opN ops (ord.getD j 0)).op = false ∧ ¬ Up (listed.setIfInBounds (ord.getD k 0) true) ord j)) → Sim μ' (H j) w'.heap) ∨
      ∃ c, q ≤ c ∧ c ≤ ops.size ∧ (∀ j, j < ops.size → pureOp (opN ops (ord.getD j 0)).op = false → (Up (listed.setIfInBounds (ord.getD k 0) true) ord j → j < c) ∧ (j < c → Up (listed.setIfInBounds (ord.getD k 0) true) ord j ∨ ord.getD j 0 ∈ earlyL ops ord q)) ∧ Sim μ' (H c) w'.heap) →
      Inv P ops ord q nt E H μ0 w0 (listed.setIfInBounds (ord.getD k 0) true) (a.put (opN ops (ord.getD k 0)).dst v') w' μ' := by
    intro v' w' μ' qq τ τ1 hv F l0 l1 lN hrange hphase
    refine ⟨by simp [h.size], fun i hi hu j hj hw => ?_, fun x => ?_, by rw [put_size]; exact h.nt, by rw [put_defers]; exact h.defers, fr_step hU h.fr l0 l1 lN F, fun l g1 g2 hne => ?_, hphase⟩
    · rw [up' j hj]
      rcases (up' i hi).1 hu with rfl | hu
      · exact .inr (hready j hj hw)
      · exact .inr (h.closed i hi hu j hj hw)
    · by_cases hx : (opN ops (ord.getD k 0)).dst = some x
      · refine ⟨k + 1, by omega, ?_, fun j hj hd => ?_⟩
        · rw [t.env k hk, hx]
          have hlt : x < a.tmps.size := by
            unfold okOper at hokk
            rw [hx] at hokk
            simp at hokk
            exact hokk.1.1
          simp [upd, Act.put, hlt, hv]
        · rw [up' j hj]
          have := writers x (List.mem_append.2 (.inl (Option.mem_toList.2 hx))) j hj hd
          rw [this]
          omega
      · obtain ⟨m, hm, hv2, hw⟩ := h.env x
        refine ⟨m, hm, ?_, fun j hj hd => ?_⟩
        · have : (a.put (opN ops (ord.getD k 0)).dst v').tmps.getD x undef = a.tmps.getD x undef := by
            cases hd : (opN ops (ord.getD k 0)).dst with
            | none => rfl
            | some d =>
              have : d ≠ x := fun e => hx (by rw [hd, e])
              simp [Act.put, Array.getElem?_setIfInBounds, this]
          rw [this]
          exact hv2.mono F.ext
        · rw [up' j hj]
          have : j ≠ k := fun e => hx (by rw [← e]; exact hd)
          simp [this, hw j hj hd]
    · cases hm : μ l with
      | none =>
        have hml : ∃ b N, μ' l = some (b, N) := by
          cases hm' : μ' l with
          | none => exact absurd hm' hne
          | some r => exact ⟨r.1, r.2, rfl⟩
        obtain ⟨b, N, hm'⟩ := hml
        rcases F.new l b N hm' with hh | ⟨r1, r2, _⟩
        · rw [hm] at hh; cases hh
        · obtain ⟨r3, r4⟩ := hrange l r1 r2
          exact ⟨k, hk, (up' k hk).2 (.inl rfl), r3, r4⟩
      | some r =>
        obtain ⟨j, hj, hu, r3, r4⟩ := h.fresh l g1 g2 (by rw [hm]; simp)
        exact ⟨j, hj, (up' j hj).2 (.inr hu), r3, r4⟩
  by_cases hpure : pureOp (opN ops (ord.getD k 0)).op = true
  · -- it only computes
    have upp : ∀ j, j < ops.size → pureOp (opN ops (ord.getD j 0)).op = false → (Up (listed.setIfInBounds (ord.getD k 0) true) ord j ↔ Up listed ord j) := fun j hj hpj => by
      rw [up' j hj]
      have : j ≠ k := fun e => by rw [e, hpure] at hpj; cases hpj
      simp [this]
    rcases h.phase with ⟨p1, p2⟩ | ⟨c, p1, p2, p3, p4⟩
    · have hc := p2 q (Nat.le_refl _) (.inl rfl)
      have hg := (pure_any (q' := true) hpure (t.step k hk)).2 (H q)
      refine guarded_sound hcall hg hokk hc (fun l g1 g2 => by omega) henv fun v' w' μ' k1 k2 k3 => hK _ _ _ (build k1 k3 (mono (Nat.zero_le _) hql) (.refl _) (mono hql (Nat.le_refl _)) (fun l g1 g2 => by omega) ?_)
      refine .inl ⟨fun j hj hpj hu => p1 j hj hpj ((upp j hj hpj).1 hu), fun j hj hh => ?_⟩
      exact sim_earlier hc k2 k3 (fun _ h => h) (mono (by omega) hql) (p2 j hj (hh.imp id fun ⟨r1, r2, r3⟩ => ⟨r1, r2, fun hu => r3 ((upp j r1 r2).2 hu)⟩))
    · have hg := (pure_any (q' := true) hpure (t.step k hk)).2 (H c)
      refine guarded_sound hcall hg hokk p4 (fun l g1 g2 => by omega) henv fun v' w' μ' k1 k2 k3 => hK _ _ _ (build k1 k3 (mono (Nat.zero_le _) p2) (.refl _) (mono p2 (Nat.le_refl _)) (fun l g1 g2 => by omega) ?_)
      exact .inr ⟨c, p1, p2, fun j hj hpj => ⟨fun hu => (p3 j hj hpj).1 ((upp j hj hpj).1 hu), fun hlt => ((p3 j hj hpj).2 hlt).imp (upp j hj hpj).2 id⟩, k2⟩
  · have hpure : pureOp (opN ops (ord.getD k 0)).op = false := by simpa using hpure
    have hstep := t.step k hk
    have le01 := mono (Nat.le_succ k) (show k + 1 ≤ ops.size by omega)
    have hUk : ∀ l, (H k).length ≤ l → l < (H (k + 1)).length → μ l = none := fun l g1 g2 => by
      cases hm : μ l with
      | none => rfl
      | some r =>
        exfalso
        have a1 := ls (Nat.zero_le k) (show k ≤ ops.size by omega)
        have a2 := ls (show k + 1 ≤ ops.size by omega) (Nat.le_refl ops.size)
        obtain ⟨j, hj, hu, r3, r4⟩ := h.fresh l (by omega) (by omega) (by rw [hm]; simp)
        rcases Nat.lt_trichotomy j k with hjk | hjk | hjk
        · have := ls (show j + 1 ≤ k by omega) (show k ≤ ops.size by omega); omega
        · subst hjk; exact hup hu
        · have := ls (show k + 1 ≤ j by omega) (show j ≤ ops.size by omega); omega
    -- a step that waits for all that is loud ahead of it
    have fenced : q ≤ k → (∃ c, q ≤ c ∧ c ≤ k ∧ Sim μ (H c) w.heap ∧ ∀ j, j < ops.size → pureOp (opN ops (ord.getD j 0)).op = false → Up listed ord j → j < c) →
        if Region.wanted (opN ops (ord.getD k 0)) (yielded ops a.tmps) = true then (opN ops (ord.getD k 0)).wp P a w K Q else K (a.put (opN ops (ord.getD k 0)).dst undef) w := by
      rintro hqk ⟨c, hqc, hck, hsc, hcu⟩
      have ahead : ∀ j, j < k → pureOp (opN ops (ord.getD j 0)).op = false → Up listed ord j ∨ ord.getD j 0 ∈ earlyL ops ord q := fun j hj hpj =>
        (p.tail k (by rw [p.len]; exact hk) hqk hpure j hj hpj).imp (hready j (by omega)) id
      have hH : H k = H c := t.pure hck (by omega) fun j g1 g2 => by
        cases hpj : pureOp (opN ops (ord.getD j 0)).op with
        | true => rfl
        | false =>
          exfalso
          rcases ahead j g2 hpj with hu | he
          · have := hcu j (by omega) hpj hu; omega
          · have := (hro j (by omega) he).1; omega
      rw [← hH] at hsc
      refine guarded_sound hcall hstep hokk hsc hUk henv fun v' w' μ' k1 k2 k3 => hK _ _ _ (build k1 k3 (mono (Nat.zero_le _) (by omega)) le01 (mono (by omega) (Nat.le_refl _)) (fun l g1 g2 => ⟨g1, g2⟩) ?_)
      refine .inr ⟨k + 1, by omega, by omega, fun j hj hpj => ?_, k2⟩
      rw [up' j hj]
      constructor
      · rintro (rfl | hu)
        · omega
        · have := hcu j hj hpj hu; omega
      · intro hlt
        rcases Nat.lt_or_ge j k with hjk | hjk
        · exact (ahead j hjk hpj).imp .inr id
        · exact .inl (.inl (by omega))
    rcases h.phase with ⟨p1, p2⟩ | ⟨c, p1, p2, p3, p4⟩
    · by_cases hkq : k < q
      · rw [decide_eq_true hkq] at hstep
        have hc := p2 k (by omega) (.inr ⟨hk, hpure, hup⟩)
        obtain ⟨_, happ⟩ := p.quiet k (by rw [p.len]; exact hk) hkq
        refine guarded_sound hcall hstep hokk hc hUk henv fun v' w' μ' k1 k2 k3 => hK _ _ _ (build k1 k3 (mono (Nat.zero_le _) (by omega)) le01 (mono (by omega) (Nat.le_refl _)) (fun l g1 g2 => ⟨g1, g2⟩) ?_)
        refine .inl ⟨fun j hj hpj hu => ?_, fun j hj hh => ?_⟩
        · rcases (up' j hj).1 hu with rfl | hu
          · exact hkq
          · exact p1 j hj hpj hu
        · have hold : Sim μ (H j) w.heap := p2 j hj (hh.imp id fun ⟨r1, r2, r3⟩ => ⟨r1, r2, fun hu => r3 ((up' j r1).2 (.inr hu))⟩)
          have hjk : j ≠ k := fun e => by
            subst e
            rcases hh with e | ⟨r1, r2, r3⟩
            · omega
            · exact r3 ((up' j r1).2 (.inl rfl))
          rcases Nat.lt_or_ge k j with hlt | hge
          · exact sim_later hc k2 k3 le01 (mono (by omega) (by omega)) (t.same hcall (by omega) hj (by omega)) hold
          · have hjk' : j < k := by omega
            have hna : appendOp (opN ops (ord.getD k 0)).op = false := by
              cases ha : appendOp (opN ops (ord.getD k 0)).op with
              | false => rfl
              | true =>
                exfalso
                rcases hh with e | ⟨r1, r2, r3⟩
                · omega
                · exact r3 ((up' j r1).2 (.inr (hready j r1 (happ ha j hjk' r2))))
            exact sim_earlier hc k2 k3 (guarded_nokill hna hstep) (mono (by omega) (by omega)) hold
      · exact fenced (by omega) ⟨q, Nat.le_refl _, by omega, p2 q (Nat.le_refl _) (.inl rfl), p1⟩
    · rcases Nat.lt_or_ge k c with hlt | hge
      · -- an early load, taken late: its block reads the same
        have he : ord.getD k 0 ∈ earlyL ops ord q := ((p3 k hk hpure).2 hlt).resolve_left hup
        have hg := (hro k hk he).2 c p1 p2
        refine guarded_sound hcall hg hokk p4 (fun l g1 g2 => by omega) henv fun v' w' μ' k1 k2 k3 => hK _ _ _ (build k1 k3 (mono (Nat.zero_le _) p2) (.refl _) (mono p2 (Nat.le_refl _)) (fun l g1 g2 => by omega) ?_)
        refine .inr ⟨c, p1, p2, fun j hj hpj => ?_, k2⟩
        rw [up' j hj]
        refine ⟨?_, fun h => ((p3 j hj hpj).2 h).imp .inr id⟩
        rintro (rfl | hu)
        · exact hlt
        · exact (p3 j hj hpj).1 hu
      · exact fenced (by omega) ⟨c, p1, hge, p4, fun j hj hpj hu => (p3 j hj hpj).1 hu⟩

theorem Inv.done {ord : List Nat} {q nt : Nat} {E : Nat → Env} {H : Nat → Heap} {V : Nat → Value} {μ0 : Mu} {w0 : World} {listed : Array Bool} (p : PlanOk ops ord q) (t : Trace P call ops ord q E H V)
    (h : Inv P ops ord q nt E H μ0 w0 listed a w μ) (hall : ∀ k, k < ops.size → Up listed ord k) : Post nt μ0 (H 0) w0 (E ops.size) (H ops.size) a w := by
  have hql : q ≤ ops.size := by rw [← p.len]; exact p.qle
  refine ⟨μ, ?_, h.fr, fun x => ?_, h.nt, h.defers⟩
  · rcases h.phase with ⟨p1, p2⟩ | ⟨c, p1, p2, p3, p4⟩
    · rw [t.pure hql (Nat.le_refl _) fun j g1 g2 => ?_]
      · exact p2 q (Nat.le_refl _) (.inl rfl)
      · cases hpj : pureOp (opN ops (ord.getD j 0)).op with
        | true => rfl
        | false => have := p1 j g2 hpj (hall j g2); omega
    · rw [t.pure p2 (Nat.le_refl _) fun j g1 g2 => ?_]
      · exact p4
      · cases hpj : pureOp (opN ops (ord.getD j 0)).op with
        | true => rfl
        | false => have := (p3 j g2 hpj).1 (hall j g2); omega
  · obtain ⟨m, hm, hv, hw⟩ := h.env x
    rw [t.at2 hm (Nat.le_refl _) fun j hj hd => ⟨fun _ => hj, fun _ => (hw j hj hd).1 (hall j hj)⟩]
    exact hv
def left (n : Nat) (listed : Array Bool) : Nat := ((List.range n).filter fun i => !listed.getD i false).length
theorem left_set (n : Nat) (listed : Array Bool) (i : Nat) (hi : i < n) (hs : listed.size = n) (hl : listed.getD i false = false) : left n (listed.setIfInBounds i true) < left n listed := by
  unfold left
  have key : ∀ l : List Nat, ((l.filter fun j => !(listed.setIfInBounds i true).getD j false).length ≤ (l.filter fun j => !listed.getD j false).length) ∧
      (i ∈ l → (l.filter fun j => !(listed.setIfInBounds i true).getD j false).length < (l.filter fun j => !listed.getD j false).length) := by
    intro l
    induction l with
    | nil => simp
    | cons x l ih =>
      have hx := getD_set listed i x (by omega)
      by_cases e : i = x
      · subst e
        rw [if_pos rfl] at hx
        rw [List.filter_cons_of_neg (by rw [hx]; simp), List.filter_cons_of_pos (by rw [hl]; rfl)]
        simp only [List.length_cons]
        exact ⟨by have := ih.1; omega, fun _ => by have := ih.1; omega⟩
      · rw [if_neg e] at hx
        cases hb : listed.getD x false with
        | true =>
          rw [List.filter_cons_of_neg (by rw [hx, hb]; simp), List.filter_cons_of_neg (by rw [hb]; simp)]
          exact ⟨ih.1, fun hm => ih.2 (by simpa [e] using hm)⟩
        | false =>
          rw [List.filter_cons_of_pos (by rw [hx, hb]; rfl), List.filter_cons_of_pos (by rw [hb]; rfl)]
          simp only [List.length_cons]
          exact ⟨by have := ih.1; omega, fun hm => by have := ih.2 (by simpa [e] using hm); omega⟩
  exact (key _).2 (by simpa using hi)
theorem any_sound {ord : List Nat} {q nt : Nat} {E : Nat → Env} {H : Nat → Heap} {V : Nat → Value} {μ0 : Mu} {w0 : World} {Q : Exit → Act → World → Prop} (hcall : CallOk P call) (p : PlanOk ops ord q) (t : Trace P call ops ord q E H V)
    (hU : ∀ l, (H 0).length ≤ l → l < (H ops.size).length → μ0 l = none) (hok : ∀ i, i < ops.size → okOper nt (opN ops i) = true) (hro : ∀ k, k < ops.size → ord.getD k 0 ∈ earlyL ops ord q → k < q ∧ ∀ c, q ≤ c → c ≤ ops.size → guarded P call true ops (opN ops (ord.getD k 0)) (E k) (H c) = some (V k, H c)) (hQ : ∀ a' w', Post nt μ0 (H 0) w0 (E ops.size) (H ops.size) a' w' → Q .normal a' w') :
    ∀ (fuel : Nat) (listed : Array Bool) (a : Act) (w : World) (μ : Mu), Inv P ops ord q nt E H μ0 w0 listed a w μ → left ops.size listed ≤ fuel → wpAny P .any ops Q fuel listed a w := by
  have ready_spec : ∀ {listed : Array Bool} {i : Nat}, listed.size = ops.size → (i ∈ Region.ready .any ops listed ↔ i < ops.size ∧ listed.getD i false = false ∧ ∀ e ∈ (opN ops i).after, Region.binds .any e = true → listed.getD e.on false = true) := by
    intro listed i hs
    unfold Region.ready
    simp only [List.mem_filter, List.mem_range, Bool.and_eq_true, Bool.not_eq_true']
    constructor
    · rintro ⟨h1, h2, h3⟩
      refine ⟨h1, ?_, fun e he hb => ?_⟩
      · simp only [Array.getD_eq_getD_getElem?, Array.getElem?_eq_getElem (show i < listed.size by omega)] at h2 ⊢
        exact h2
      · have ho : ops[i]? = some (opN ops i) := by simp [opN, h1]
        rw [ho] at h3
        simp only [Option.map_some, Option.getD_some] at h3
        rw [Array.all_eq_true] at h3
        obtain ⟨x, hx, rfl⟩ := Array.getElem_of_mem he
        have := h3 x hx
        rw [hb] at this
        simpa using this
    · rintro ⟨h1, h2, h3⟩
      refine ⟨h1, ?_, ?_⟩
      · simp only [Array.getD_eq_getD_getElem?, Array.getElem?_eq_getElem (show i < listed.size by omega)] at h2 ⊢
        exact h2
      · have ho : ops[i]? = some (opN ops i) := by simp [opN, h1]
        rw [ho]
        simp only [Option.map_some, Option.getD_some]
        rw [Array.all_eq_true]
        intro x hx
        cases hb : Region.binds .any (opN ops i).after[x] with
        | false => rfl
        | true => rw [h3 _ (Array.getElem_mem hx) hb]; rfl
  have all_of : ∀ {listed : Array Bool}, listed.size = ops.size → Region.ready .any ops listed = [] → ∀ k, k < ops.size → Up listed ord k := by
    intro listed hs hr k
    induction k using Nat.strongRecOn with
    | _ k ih =>
      intro hk
      obtain ⟨g1, g2⟩ := p.get hk
      cases hl : listed.getD (ord.getD k 0) false with
      | true => exact hl
      | false =>
        exfalso
        have : ord.getD k 0 ∈ Region.ready .any ops listed := (ready_spec hs).2 ⟨g1, hl, fun e he hb => by
          obtain ⟨e1, e2⟩ := p.edge _ g1 e he hb
          obtain ⟨f1, f2⟩ := p.place e1
          have := ih (ord.idxOf e.on) (by omega) f1
          unfold Up at this
          rw [f2] at this
          exact this⟩
        rw [hr] at this
        cases this
  intro fuel
  induction fuel with
  | zero =>
    intro listed a w μ hI hl
    have hall : ∀ k, k < ops.size → Up listed ord k := fun k hk => by
      obtain ⟨g1, g2⟩ := p.get hk
      cases hx : listed.getD (ord.getD k 0) false with
      | true => exact hx
      | false =>
        exfalso
        have hm : ord.getD k 0 ∈ (List.range ops.size).filter fun i => !listed.getD i false := by
          rw [List.mem_filter]; exact ⟨by simpa using g1, by rw [hx]; rfl⟩
        have := List.length_pos_of_mem hm
        unfold left at hl
        omega
    refine ⟨?_, hQ _ _ (hI.done p t hall)⟩
    cases hr : Region.ready .any ops listed with
    | nil => rfl
    | cons i l =>
      exfalso
      have hm : i ∈ Region.ready .any ops listed := by rw [hr]; simp
      obtain ⟨g1, g2, _⟩ := (ready_spec hI.size).1 hm
      obtain ⟨f1, f2⟩ := p.place g1
      have := hall _ f1
      unfold Up at this
      rw [f2, g2] at this
      cases this
  | succ fuel ih =>
    intro listed a w μ hI hl
    refine ⟨fun hr => hQ _ _ (hI.done p t (all_of hI.size hr)), fun i hi => ?_⟩
    obtain ⟨g1, g2, g3⟩ := (ready_spec hI.size).1 hi
    obtain ⟨f1, f2⟩ := p.place g1
    have ho : ops[i]? = some (opN ops i) := by simp [opN, g1]
    have key := hI.step (k := ord.idxOf i) (K := wpAny P .any ops Q fuel (listed.setIfInBounds i true)) (Q := Q) hcall p t hU hok f1 (by unfold Up; rw [f2, g2]; simp) (fun j hj hw => by
        rw [f2] at hw
        obtain ⟨e, he, hb, hh⟩ := p.bef i g1 _ hw
        have hl := g3 e he hb
        rcases hh with hh | hh
        · unfold Up; rw [← hh]; exact hl
        · obtain ⟨e1, _⟩ := p.edge i g1 e he hb
          obtain ⟨f3, f4⟩ := p.place e1
          exact hI.closed _ f3 (by unfold Up; rw [f4]; exact hl) j hj (by rw [f4]; exact hh)) hro (fun a' w' μ' hI' => by
        rw [f2] at hI'
        refine ih _ _ _ μ' hI' ?_
        have := left_set ops.size listed i g1 hI.size g2
        omega)
    rw [f2] at key
    unfold wpOp
    rw [ho]
    simp only
    split
    · rename_i hw; rw [if_pos hw] at key; exact .inl key
    · rename_i hw; rw [if_neg hw] at key; exact key

theorem region_sound (hm : P.follows .mixedOrders = true) {nt : Nat} {id : Nat} {draw : Bool} {Q : Exit → Act → World → Prop} (hcall : CallOk P call) (h : runRegion P call ops draw e σ = some (e', σ')) (hok : ∀ (i : Nat) (hi : i < ops.size), okOper nt ops[i] = true) (hS : Sim μ σ w.heap)
    (hU : ∀ l, σ.length ≤ l → l < σ'.length → μ l = none) (he : EnvR μ e a) (hn : a.tmps.size = nt) (hd : a.defers = []) (hQ : ∀ a' w', Post nt μ σ w e' σ' a' w' → Q .normal a' w') : (Code.region id ops draw).wp P Q a w := by
  cases draw with
  | false =>
    simp only [runRegion] at h
    refine wp_region_list (runOps_sound hcall ops.toList h (fun o ho => ?_) hS hU he hn hd hQ)
    obtain ⟨i, hi, rfl⟩ := List.getElem_of_mem ho
    exact hok i (by simpa using hi)
  | true =>
    simp only [runRegion, if_true] at h
    cases hp : plan ops with
    | none => rw [hp] at h; cases h
    | some oq =>
      obtain ⟨ord, q⟩ := oq
      rw [hp] at h
      dsimp only at h
      have p := plan_spec hp
      obtain ⟨r1, r2, r3, r4, _⟩ := roEarly_spec (μ := μ) (h := w.heap) (ops := ops) (e := e) (earlyL ops ord q) σ
      have hS := r4 hS
      have hU : ∀ l, (roEarly ops e (earlyL ops ord q) σ).length ≤ l → l < σ'.length → μ l = none := by rw [r1]; exact hU
      have hQ : ∀ a' w', Post nt μ (roEarly ops e (earlyL ops ord q) σ) w e' σ' a' w' → Q .normal a' w' := fun a' w' hp => hQ a' w' (by
        obtain ⟨μ', k1, k2, k3, k4, k5⟩ := hp
        refine ⟨μ', k1, ⟨k2.ext, fun l b N hm => ?_, fun b hb hn => k2.keep b hb (fun l N hm hf => hn l N hm (r2 l hf)), fun h => (by cases h), k2.size, k2.os, k2.tape, k2.output⟩, k3, k4, k5⟩
        rcases k2.new l b N hm with h | ⟨g1, g2, g3⟩
        · exact .inl h
        · rw [r1] at g1
          refine .inr ⟨g1, g2, ?_⟩
          rcases g3 with g3 | ⟨l0, c1, c2, c3⟩
          · exact .inl g3
          · exact .inr ⟨l0, c1, r2 l0 c2, c3⟩)
      generalize hσ0 : roEarly ops e (earlyL ops ord q) σ = σ0 at h hS hU hQ
      clear r1 r2 r3 r4
      revert hσ0
      rename_i σold _
      intro hσ0
      cases h1 : runOps P call true ops ((ord.take q).map (ops.getD · default)) e σ0 with
      | none => rw [h1] at h; cases h
      | some r =>
        obtain ⟨e1, σ1⟩ := r
        rw [h1] at h
        dsimp only at h
        obtain ⟨E1, H1, V1, a1, a2, a3, a4, a5⟩ := trace _ h1
        obtain ⟨E2, H2, V2, b1, b2, b3, b4, b5⟩ := trace _ h
        have hql := p.qle
        have hl1 : ((ord.take q).map (ops.getD · default)).length = q := by simp; omega
        have hl2 : ((ord.drop q).map (ops.getD · default)).length = ops.size - q := by simp [p.len]
        rw [hl1] at a3 a4
        rw [hl2] at b3 b4
        have hqs : q ≤ ops.size := by rw [← p.len]; exact hql
        let E : Nat → Env := fun k => if k < q then E1 k else E2 (k - q)
        let H : Nat → Heap := fun k => if k < q then H1 k else H2 (k - q)
        let V : Nat → Value := fun k => if k < q then V1 k else V2 (k - q)
        have E0 : E 0 = e := by
          show (if 0 < q then E1 0 else E2 (0 - q)) = e
          split
          · exact a1
          · rename_i hq0
            have : q = 0 := by omega
            subst this
            rw [b1, ← a3, a1]
        have H0 : H 0 = σ0 := by
          show (if 0 < q then H1 0 else H2 (0 - q)) = σ0
          split
          · exact a2
          · rename_i hq0
            have : q = 0 := by omega
            subst this
            rw [b2, ← a4, a2]
        have EN : E ops.size = e' := by
          show (if ops.size < q then E1 ops.size else E2 (ops.size - q)) = e'
          rw [if_neg (by omega)]; exact b3
        have HN : H ops.size = σ' := by
          show (if ops.size < q then H1 ops.size else H2 (ops.size - q)) = σ'
          rw [if_neg (by omega)]; exact b4
        have E1q : ∀ k, k ≤ q → E k = E1 k := fun k hk => by
          show (if k < q then E1 k else E2 (k - q)) = E1 k
          split
          · rfl
          · have : k = q := by omega
            subst this
            rw [Nat.sub_self, b1, a3]
        have H1q : ∀ k, k ≤ q → H k = H1 k := fun k hk => by
          show (if k < q then H1 k else H2 (k - q)) = H1 k
          split
          · rfl
          · have : k = q := by omega
            subst this
            rw [Nat.sub_self, b2, a4]
        have t : Trace P call ops ord q E H V := by
          have key : ∀ k, k < ops.size → guarded P call (decide (k < q)) ops (opN ops (ord.getD k 0)) (E k) (H k) = some (V k, H (k + 1)) ∧ E (k + 1) = upd (E k) (opN ops (ord.getD k 0)).dst (V k) := fun k hk => by
            have hko : k < ord.length := by rw [p.len]; exact hk
            have eo : ord[k]? = some (ord.getD k 0) := by rw [List.getD_eq_getElem?_getD, List.getElem?_eq_getElem hko]; rfl
            by_cases hkq : k < q
            · have := a5 k (opN ops (ord.getD k 0)) (by rw [List.getElem?_map, List.getElem?_take, if_pos hkq, eo]; rfl)
              rw [decide_eq_true hkq, E1q k (by omega), E1q (k + 1) (by omega), H1q k (by omega), H1q (k + 1) (by omega)]
              show _ = some ((if k < q then V1 k else V2 (k - q)), _) ∧ E1 (k + 1) = upd (E1 k) _ (if k < q then V1 k else V2 (k - q))
              rw [if_pos hkq]
              exact this
            · have := b5 (k - q) (opN ops (ord.getD k 0)) (by rw [List.getElem?_map, List.getElem?_drop, show q + (k - q) = k by omega, eo]; rfl)
              rw [decide_eq_false hkq]
              show guarded P call false ops _ (if k < q then E1 k else E2 (k - q)) (if k < q then H1 k else H2 (k - q)) = some ((if k < q then V1 k else V2 (k - q)), (if k + 1 < q then H1 (k + 1) else H2 (k + 1 - q))) ∧ (if k + 1 < q then E1 (k + 1) else E2 (k + 1 - q)) = upd (if k < q then E1 k else E2 (k - q)) _ (if k < q then V1 k else V2 (k - q))
              rw [if_neg hkq, if_neg hkq, if_neg hkq, if_neg (by omega), if_neg (by omega), show k + 1 - q = k - q + 1 by omega]
              exact this
          exact ⟨fun k hk => (key k hk).1, fun k hk => (key k hk).2⟩
        have hmono : ∀ {i j : Nat}, i ≤ j → j ≤ ops.size → Le (H i) (H j) := fun h1 h2 => t.le hcall h1 h2
        have notUp : ∀ k, ¬ Up (Array.replicate ops.size false) ord k := fun k hu => by
          unfold Up at hu
          simp only [Array.getD_eq_getD_getElem?, Array.getElem?_replicate] at hu
          split at hu <;> cases hu
        have hro : ∀ k, k < ops.size → ord.getD k 0 ∈ earlyL ops ord q → k < q ∧ ∀ c, q ≤ c → c ≤ ops.size → guarded P call true ops (opN ops (ord.getD k 0)) (E k) (H c) = some (V k, H c) := fun k hk hek => by
          obtain ⟨m1, x, m2⟩ := early_spec hek
          obtain ⟨hik, hpk⟩ := p.get hk
          have hkq : k < q := by
            obtain ⟨i, hi, hie⟩ := List.getElem_of_mem m1
            have hi1 : i < q := by simp at hi; omega
            have hi2 : i < ord.length := by simp at hi; omega
            have he1 : ord.getD i 0 = ord.getD k 0 := by rw [← hie, List.getElem_take, List.getD_eq_getElem?_getD, List.getElem?_eq_getElem hi2]; rfl
            obtain ⟨_, g⟩ := p.get (k := i) (by rw [← p.len]; exact hi2)
            rw [he1, hpk] at g
            omega
          obtain ⟨ty, ho, hgd, hw⟩ := plainLoad_spec m2
          refine ⟨hkq, fun c hqc hc => ?_⟩
          have hs := t.step k hk
          rw [decide_eq_true hkq] at hs
          have hg : ∀ τ, guarded P call true ops (opN ops (ord.getD k 0)) (E k) τ = match E k x with
            | .pointer (some a) => (loadV P ty τ a).map (·, τ)
            | _ => none := fun τ => by
            change (opN ops (ord.getD k 0)).op = _ at ho
            change (opN ops (ord.getD k 0)).guard = _ at hgd
            simp only [guarded, wantedA, hgd, stepOp, goCall, aop, ho, ev]
            rfl
          rw [hg] at hs ⊢
          have hE : E k x = e x := by
            rw [t.at (Nat.zero_le k) (by omega) (x := x) (fun i _ h2 => hw _ (p.get (by omega)).1), E0]
          have lk := hmono (Nat.zero_le k) (show k ≤ ops.size by omega)
          have lc := hmono (Nat.zero_le c) hc
          have lN := hmono (show k ≤ ops.size by omega) (Nat.le_refl _)
          obtain ⟨u, hv⟩ : ∃ u, Val μ (E k x) u := ⟨_, by rw [hE]; exact he x⟩
          cases hx : E k x with
          | pointer oa =>
            cases oa with
            | none => rw [hx] at hs; simp at hs
            | some a =>
              rw [hx] at hs hv
              simp only [Option.map_eq_some_iff] at hs ⊢
              obtain ⟨v, hv1, hv2⟩ := hs
              have hvv : v = V k := by injection hv2
              have alive : ∃ y : Blk, (H k)[a.block]? = some y ∧ y.perm ≠ .dead := by
                cases hy : (H k)[a.block]? with
                | none =>
                  have hrn : ∀ n, readN (H k) a n = none := fun n => by
                    unfold readN
                    rw [hy]
                    cases a.spot <;> rfl
                  unfold loadV at hv1
                  split at hv1 <;> simp [hrn] at hv1
                | some y =>
                  refine ⟨y, rfl, fun hd => ?_⟩
                  have hrn : ∀ n, readN (H k) a n = none := fun n => by
                    unfold readN
                    rw [hy]
                    cases a.spot <;> simp [hd]
                  unfold loadV at hv1
                  split at hv1 <;> simp [hrn] at hv1
              obtain ⟨y, hy, hyd⟩ := alive
              have same : (H c)[a.block]? = (H k)[a.block]? := by
                cases hb : (H 0)[a.block]? with
                | none =>
                  exfalso
                  have h1 := List.getElem?_eq_none_iff.1 hb
                  rw [H0] at h1
                  have h2 := get_lt hy
                  have h3 := lN.len
                  rw [HN] at h3
                  have := hU a.block h1 (by omega)
                  cases hv with
                  | scal hh => simp [scalarB] at hh
                  | ptr hh => rw [this] at hh; cases hh
                | some z =>
                  have hz : z.perm.own = false := by
                    rw [H0, ← hσ0] at hb
                    exact roEarly_at _ _ hek m2 (by rw [← hE]; exact hx) z hb
                  obtain ⟨zk, gk, _, rk, dk⟩ := lk.blk _ z hb
                  obtain ⟨zc, gc, _, rc, dc⟩ := lc.blk _ z hb
                  cases hp : z.perm with
                  | full => rw [hp] at hz; simp [Perm.own] at hz
                  | byt => rw [hp] at hz; simp [Perm.own] at hz
                  | dead =>
                    rw [gk] at hy; cases hy
                    exact absurd (dk hp) hyd
                  | ro => rw [gk, gc, rk hp, rc hp]
              refine ⟨v, ?_, by rw [hvv]⟩
              rw [← hv1]
              unfold loadV readN
              rw [same]
          | _ => rw [hx] at hs; simp at hs
        refine wp_region_any hm (any_sound hcall p t (μ0 := μ) (w0 := { w with drawn := w.drawn + 1 }) (nt := nt) (by rw [H0, HN]; exact hU) (fun i hi => by
            have := hok i hi
            simpa [opN, hi] using this) hro (fun a' w' hp => hQ a' w' ?_) ops.size _ a _ μ ?_ ?_)
        · rw [H0, EN, HN] at hp
          obtain ⟨μ', k1, k2, k3, k4, k5⟩ := hp
          exact ⟨μ', k1, ⟨k2.ext, k2.new, k2.keep, fun h => (by cases h), k2.size, k2.os, k2.tape, k2.output⟩, k3, k4, k5⟩
        · refine ⟨by simp, fun k _ hu => absurd hu (notUp k), fun x => ⟨0, Nat.zero_le _, by rw [E0]; exact he x, fun k _ _ => ⟨fun hu => absurd hu (notUp k), fun h => absurd h (Nat.not_lt_zero _)⟩⟩, hn, hd, ?_, fun l g1 g2 hne => ?_, ?_⟩
          · exact ⟨fun _ _ h => h, fun _ _ _ h => .inl h, fun _ _ _ => rfl, fun h => (by cases h), Nat.le_refl _, rfl, rfl, rfl⟩
          · rw [H0] at g1; rw [HN] at g2
            exact absurd (hU l g1 g2) hne
          · refine .inl ⟨fun k _ _ hu => absurd hu (notUp k), fun k hk _ => ?_⟩
            -- memory told ahead: it has lost permissions, and grown
            have hSk : Sim μ (H 0) w.heap := by rw [H0]; exact hS
            have hle := hmono (Nat.zero_le k) (show k ≤ ops.size by omega)
            have hsm := t.same hcall (Nat.zero_le k) hk (by omega)
            have hlN := (hmono (show k ≤ ops.size by omega) (Nat.le_refl _)).len
            refine ⟨hSk.lt, fun l1 l2 b N1 N2 hne m1 m2 hf ha => ?_, fun l b N x m1 hx hdd => ?_, hSk.glob⟩
            · have c1 : l1 < (H 0).length := by
                rcases Nat.lt_or_ge l1 (H 0).length with h1 | h1
                · exact h1
                · obtain ⟨x, hx, _⟩ := hf
                  have := get_lt hx
                  rw [H0] at h1
                  rw [hU l1 h1 (by rw [← HN]; omega)] at m1
                  cases m1
              refine hSk.inj l1 l2 b N1 N2 hne m1 m2 (hle.full c1 hf) ?_
              rcases Nat.lt_or_ge l2 (H 0).length with h2 | h2
              · rcases ha with ha | ha
                · exact .inl (hle.alive h2 ha)
                · have := hle.len; omega
              · exact .inr h2
            · have c1 : l < (H 0).length := by
                rcases Nat.lt_or_ge l (H 0).length with h1 | h1
                · exact h1
                · have := get_lt hx
                  rw [H0] at h1
                  rw [hU l h1 (by rw [← HN]; omega)] at m1
                  cases m1
              have hx0 := List.getElem?_eq_getElem c1
              obtain ⟨x', hx', q1, q2, q3⟩ := hle.blk l _ hx0
              rw [hx] at hx'; cases hx'
              have hcs := hsm l _ _ hx0 hx
              obtain ⟨c, elem, fr, r1, r0, r2, r3⟩ := hSk.blk l b N _ m1 hx0 (fun ed => hdd (q3 ed))
              exact ⟨c, elem, fr, r1, r0, fun hpp => r2 ((q1 (by rw [hpp]; rfl)).trans hpp), fun j u hj => r3 j u (by rw [← hcs]; exact hj)⟩
        · unfold left
          have := List.length_filter_le (fun i => !(Array.replicate ops.size false).getD i false) (List.range ops.size)
          simpa using this
end
end Go.Proofs.Ytibejcomfjddfaa.AM
end
section
set_option maxHeartbeats 8000000
set_option linter.unusedVariables false
set_option linter.unusedSimpArgs false

/- Code and calls of the abstract machine promise those of the model. -/
namespace Go.Proofs.Ytibejcomfjddfaa.AM
open Go Go.RowKit
section
variable {P : Program} {prim : CallF} {μ : Mu} {σ σ' : Heap} {w w' : World} {v v' : Value} {e e' : Env} {a : Act} {call : CallF}

theorem region_le {ops : Array Oper} {draw : Bool} (hcall : CallOk P call) (h : runRegion P call ops draw e σ = some (e', σ')) : Le σ σ' := by
  unfold runRegion at h
  split at h
  · split at h
    · rename_i ord q hp
      cases hr : runOps P call true ops ((ord.take q).map (ops.getD · default)) e (roEarly ops e (earlyL ops ord q) σ) with
      | none => rw [hr] at h; cases h
      | some r =>
        obtain ⟨e1, σ1⟩ := r
        rw [hr] at h
        exact (roEarly_spec (μ := fun _ => none) (h := #[]) (earlyL ops ord q) σ).2.2.1.trans ((runOps_le hcall _ hr).trans (runOps_le hcall _ h))
    · cases h
  · exact runOps_le hcall _ h

theorem callOf_le {run : Code → Env → Heap → Option (Ex × Env × Heap)} (hr : ∀ c e σ x e' σ', run c e σ = some (x, e', σ') → Le σ σ') {f : FuncId} {args : Array Value} (h : callOf P run f args σ = some (v, σ')) : Le σ σ' := by
  unfold callOf at h
  split at h
  · split at h
    · split at h
      · split at h
        · cases h
        · rename_i x e1 σ1 _ hrun
          cases hs : resultsOf P _ e1 σ1 with
          | none => rw [hs] at h; cases h
          | some u => rw [hs] at h; cases h; exact hr _ _ _ _ _ _ hrun
        · cases h
      · cases h
    · cases h
  · cases h

def exitOf : Ex → Exit
  | .normal => .normal
  | .exit id => .exit id
  | .ret => .ret
def PostX (nt : Nat) (μ : Mu) (σ : Heap) (w : World) (x : Ex) (e' : Env) (σ' : Heap) : Exit → Act → World → Prop := fun y a' w' => y = exitOf x ∧ Post nt μ σ w e' σ' a' w'
/-- What a run of code of the abstract machine promises. -/
def RunOk (P : Program) (run : Code → Env → Heap → Option (Ex × Env × Heap)) : Prop :=
  ∀ c e σ x e' σ', run c e σ = some (x, e', σ') → Le σ σ' ∧
    ∀ nt μ a w, okCode nt c = true → Sim μ σ w.heap → (∀ l, σ.length ≤ l → l < σ'.length → μ l = none) → EnvR μ e a → a.tmps.size = nt → a.defers = [] → c.wp P (PostX nt μ σ w x e' σ') a w

theorem callOk_of_run {run : Code → Env → Heap → Option (Ex × Env × Heap)} (hrun : RunOk P run) : CallOk P (callOf P run) := by
  intro f args σ v σ' h
  have hle := callOf_le (fun c e σ x e' σ' h => (hrun c e σ x e' σ' h).1) h
  unfold callOf at h
  cases hf : P.funcs[f]? with
  | none => rw [hf] at h; cases h
  | some fn =>
    rw [hf] at h
    dsimp only at h
    cases hb : fn.body with
    | none => rw [hb] at h; cases h
    | some c =>
      rw [hb] at h
      dsimp only at h
      split at h
      · rename_i hok
        obtain ⟨hok, hsz⟩ := hok
        have hok' : fn.name ≠ "runtime.NumGoroutine" ∧ okCode fn.ntmps c = true := by
          unfold okFn at hok
          rw [hb] at hok
          simpa using hok
        refine ⟨.inl ⟨fn, c, hf, hb, hok'.1⟩, hle, fun _ args' μ w hargs hS hU => ?_⟩
        have hargsz : args'.size = args.size := by simpa using hargs.1
        cases hr : run c (fun i => args.getD i undef) σ with
        | none => rw [hr] at h; cases h
        | some r =>
          obtain ⟨x, e1, σ1⟩ := r
          rw [hr] at h
          have key : ∀ y, x = y → (∀ id, y ≠ .exit id) → (resultsOf P fn.results.toList e1 σ1).map (·, σ1) = some (v, σ') → Calls P f args' w fun e w' => ∃ v' μ', e = .returned v' ∧ Val μ' v v' ∧ Sim μ' σ' w'.heap ∧ Fr false μ σ w μ' σ' w' := by
            intro y exy hny h
            cases hs : resultsOf P fn.results.toList e1 σ1 with
            | none => rw [hs] at h; cases h
            | some u =>
              rw [hs] at h
              cases h
              refine calls_of_wp hf hb ?_
              have henv : EnvR μ (fun i => args.getD i undef) { tmps := args' ++ Array.replicate (fn.ntmps - args'.size) undef, defers := [] } := by
                intro i
                simp only [Array.getD_eq_getD_getElem?]
                rcases Nat.lt_or_ge i args.size with hi | hi
                · rw [Array.getElem?_append_left (by omega)]
                  obtain ⟨u', g1, g2⟩ := hargs.get (i := i) (v := args[i]) (by simp [hi])
                  simp at g1
                  rw [g1]
                  simp [hi]
                  exact g2
                · rw [Array.getElem?_eq_none hi, Array.getElem?_append_right (by omega)]
                  have : ((Array.replicate (fn.ntmps - args'.size) undef)[i - args'.size]?).getD undef = undef := by
                    rw [Array.getElem?_replicate]
                    split <;> rfl
                  rw [this]
                  exact .undef
              have hwp := (hrun _ _ _ _ _ _ hr).2 fn.ntmps μ _ w hok'.2 hS hU henv (by simp; omega) rfl
              refine wp_mono hwp fun y' a' w' ⟨hy, μ', k1, k2, k3, k4, k5⟩ => ?_
              obtain ⟨v', g1, g2⟩ := results_sound k1 k3 hs
              subst hy
              cases x with
              | normal => exact ⟨k5, v', g1, v', μ', rfl, g2, k1, k2⟩
              | ret => exact ⟨k5, v', g1, v', μ', rfl, g2, k1, k2⟩
              | exit id => exact absurd exy.symm (hny id)
          cases x with
          | exit id => cases h
          | normal => exact key .normal rfl (fun id => by simp) h
          | ret => exact key .ret rfl (fun id => by simp) h
      · cases h

theorem withPrim_ok {call : CallF} (h1 : CallOk P prim) (h2 : CallOk P call) : CallOk P (withPrim prim call) := by
  intro f args σ v σ' h
  unfold withPrim at h
  split at h
  · rename_i r hr
    cases h
    exact h1 _ _ _ _ _ hr
  · exact h2 _ _ _ _ _ h
theorem exec_sound (hm : P.follows .mixedOrders = true) (hprim : CallOk P prim) : ∀ n, RunOk P (exec P prim n) ∧ ∀ c e σ x e' σ', exec P prim n (.loop c) e σ = some (x, e', σ') → ∀ nt μ a w, okCode nt c = true → Sim μ σ w.heap → (∀ l, σ.length ≤ l → l < σ'.length → μ l = none) → EnvR μ e a → a.tmps.size = nt → a.defers = [] →
    Code.rounds P c (PostX nt μ σ w x e' σ') n a w
  | 0 => ⟨fun c e σ x e' σ' h => by simp [exec] at h, fun c e σ x e' σ' h => by simp [exec] at h⟩
  | n + 1 => by
    obtain ⟨ihA, ihB⟩ := exec_sound hm hprim n
    have hcall := withPrim_ok hprim (callOk_of_run ihA)
    have loopB : ∀ c e σ x e' σ', exec P prim (n + 1) (.loop c) e σ = some (x, e', σ') → Le σ σ' ∧ ∀ nt μ a w, okCode nt c = true → Sim μ σ w.heap → (∀ l, σ.length ≤ l → l < σ'.length → μ l = none) → EnvR μ e a → a.tmps.size = nt → a.defers = [] →
        Code.rounds P c (PostX nt μ σ w x e' σ') (n + 1) a w := by
      intro c e σ x e' σ' h
      simp only [exec] at h
      cases h1 : exec P prim n c e σ with
      | none => rw [h1] at h; cases h
      | some r =>
        obtain ⟨x1, e1, σ1⟩ := r
        rw [h1] at h
        obtain ⟨le1, s1⟩ := ihA _ _ _ _ _ _ h1
        cases x1 with
        | normal =>
          dsimp only at h
          obtain ⟨le2, _⟩ := ihA _ _ _ _ _ _ h
          refine ⟨le1.trans le2, fun nt μ a w hok hS hU he hn hd => ?_⟩
          rw [rounds_succ]
          refine wp_mono (s1 nt μ a w hok hS (U_left hU le2) he hn hd) fun y a' w' ⟨hy, μ', k1, k2, k3, k4, k5⟩ => ?_
          subst hy
          show Code.rounds P c _ n a' w'
          have := ihB c e1 σ1 x e' σ' h nt μ' a' w' hok k1 (U_right hU le1 k2) k3 k4 k5
          exact rounds_mono (fun y a2 w2 ⟨hy, hp⟩ => ⟨hy, hp.trans (U_left hU le2) le1 le2 k2⟩) n a' w' this
        | exit id =>
          cases h
          refine ⟨le1, fun nt μ a w hok hS hU he hn hd => ?_⟩
          rw [rounds_succ]
          exact wp_mono (s1 nt μ a w hok hS hU he hn hd) fun y a' w' ⟨hy, hp⟩ => by subst hy; exact ⟨rfl, hp⟩
        | ret =>
          cases h
          refine ⟨le1, fun nt μ a w hok hS hU he hn hd => ?_⟩
          rw [rounds_succ]
          exact wp_mono (s1 nt μ a w hok hS hU he hn hd) fun y a' w' ⟨hy, hp⟩ => by subst hy; exact ⟨rfl, hp⟩
    refine ⟨fun c e σ x e' σ' h => ?_, fun c e σ x e' σ' h => (loopB c e σ x e' σ' h).2⟩
    cases c with
    | skip =>
      simp only [exec] at h; cases h
      exact ⟨.refl _, fun nt μ a w hok hS hU he hn hd => wp_skip ⟨rfl, μ, hS, .refl _ _ _ _, he, hn, hd⟩⟩
    | label l =>
      simp only [exec] at h; cases h
      exact ⟨.refl _, fun nt μ a w hok hS hU he hn hd => wp_label ⟨rfl, μ, hS, .refl _ _ _ _, he, hn, hd⟩⟩
    | exit id =>
      simp only [exec] at h; cases h
      exact ⟨.refl _, fun nt μ a w hok hS hU he hn hd => wp_exit ⟨rfl, μ, hS, .refl _ _ _ _, he, hn, hd⟩⟩
    | ret =>
      simp only [exec] at h; cases h
      exact ⟨.refl _, fun nt μ a w hok hS hU he hn hd => wp_ret ⟨rfl, μ, hS, .refl _ _ _ _, he, hn, hd⟩⟩
    | region id ops draw =>
      simp only [exec] at h
      cases hr : runRegion P (withPrim prim (callOf P (exec P prim n))) ops draw e σ with
      | none => rw [hr] at h; cases h
      | some r =>
        obtain ⟨e1, σ1⟩ := r
        rw [hr] at h; cases h
        refine ⟨region_le hcall hr, fun nt μ a w hok hS hU he hn hd => ?_⟩
        exact region_sound hm hcall hr (by simpa [okCode] using hok) hS hU he hn hd (fun a' w' hp => ⟨rfl, hp⟩)
    | seq c1 c2 =>
      simp only [exec] at h
      cases h1 : exec P prim n c1 e σ with
      | none => rw [h1] at h; cases h
      | some r =>
        obtain ⟨x1, e1, σ1⟩ := r
        rw [h1] at h
        obtain ⟨le1, s1⟩ := ihA _ _ _ _ _ _ h1
        cases x1 with
        | normal =>
          dsimp only at h
          obtain ⟨le2, s2⟩ := ihA _ _ _ _ _ _ h
          refine ⟨le1.trans le2, fun nt μ a w hok hS hU he hn hd => ?_⟩
          simp only [okCode, Bool.and_eq_true] at hok
          refine wp_seq (wp_mono (s1 nt μ a w hok.1 hS (U_left hU le2) he hn hd) fun y a' w' ⟨hy, μ', k1, k2, k3, k4, k5⟩ => ?_)
          subst hy
          show c2.wp P _ a' w'
          exact wp_mono (s2 nt μ' a' w' hok.2 k1 (U_right hU le1 k2) k3 k4 k5) fun y a2 w2 ⟨hy, hp⟩ => ⟨hy, hp.trans (U_left hU le2) le1 le2 k2⟩
        | exit id =>
          cases h
          refine ⟨le1, fun nt μ a w hok hS hU he hn hd => ?_⟩
          simp only [okCode, Bool.and_eq_true] at hok
          exact wp_seq (wp_mono (s1 nt μ a w hok.1 hS hU he hn hd) fun y a' w' ⟨hy, hp⟩ => by subst hy; exact ⟨rfl, hp⟩)
        | ret =>
          cases h
          refine ⟨le1, fun nt μ a w hok hS hU he hn hd => ?_⟩
          simp only [okCode, Bool.and_eq_true] at hok
          exact wp_seq (wp_mono (s1 nt μ a w hok.1 hS hU he hn hd) fun y a' w' ⟨hy, hp⟩ => by subst hy; exact ⟨rfl, hp⟩)
    | cond x1 c1 c2 =>
      simp only [exec] at h
      split at h
      · rename_i t ht
        obtain ⟨le1, s1⟩ := ihA _ _ _ _ _ _ h
        refine ⟨le1, fun nt μ a w hok hS hU he hn hd => ?_⟩
        simp only [okCode, Bool.and_eq_true] at hok
        have hv := ev_val hS.glob hok.1.1 he
        rw [ht] at hv
        refine wp_cond hv.bool (s1 nt μ a w ?_ hS hU he hn hd)
        cases t
        · exact hok.2
        · exact hok.1.2
      · cases h
    | block id c1 =>
      simp only [exec] at h
      cases h1 : exec P prim n c1 e σ with
      | none => rw [h1] at h; cases h
      | some r =>
        obtain ⟨x1, e1, σ1⟩ := r
        rw [h1] at h
        obtain ⟨le1, s1⟩ := ihA _ _ _ _ _ _ h1
        cases x1 with
        | normal =>
          cases h
          exact ⟨le1, fun nt μ a w hok hS hU he hn hd => wp_block (wp_mono (s1 nt μ a w hok hS hU he hn hd) fun y a' w' ⟨hy, hp⟩ => by subst hy; exact ⟨rfl, hp⟩)⟩
        | ret =>
          cases h
          exact ⟨le1, fun nt μ a w hok hS hU he hn hd => wp_block (wp_mono (s1 nt μ a w hok hS hU he hn hd) fun y a' w' ⟨hy, hp⟩ => by subst hy; exact ⟨rfl, hp⟩)⟩
        | exit i =>
          dsimp only at h
          by_cases hi : i = id
          · rw [if_pos hi] at h; cases h
            refine ⟨le1, fun nt μ a w hok hS hU he hn hd => wp_block (wp_mono (s1 nt μ a w hok hS hU he hn hd) fun y a' w' ⟨hy, hp⟩ => ?_)⟩
            subst hy
            show if i = id then _ else _
            rw [if_pos hi]; exact ⟨rfl, hp⟩
          · rw [if_neg hi] at h; cases h
            refine ⟨le1, fun nt μ a w hok hS hU he hn hd => wp_block (wp_mono (s1 nt μ a w hok hS hU he hn hd) fun y a' w' ⟨hy, hp⟩ => ?_)⟩
            subst hy
            show if i = id then _ else _
            rw [if_neg hi]; exact ⟨rfl, hp⟩
    | loop c1 =>
      obtain ⟨le1, s1⟩ := loopB c1 e σ x e' σ' h
      exact ⟨le1, fun nt μ a w hok hS hU he hn hd => wp_loop_rounds (n + 1) (s1 nt μ a w hok hS hU he hn hd)⟩
    | scope c1 =>
      simp only [exec] at h
      obtain ⟨le1, s1⟩ := ihA _ _ _ _ _ _ h
      refine ⟨le1, fun nt μ a w hok hS hU he hn hd => wp_scope_straight (wp_mono (s1 nt μ a w hok hS hU he hn hd) fun y a' w' ⟨hy, hp⟩ => ?_)⟩
      subst hy
      cases x <;> exact ⟨rfl, hp⟩
    | rangeFunc _ _ _ _ => simp [exec] at h
    | goto _ => simp [exec] at h
    | refuse _ => simp [exec] at h
/-- A call that comes to an answer in the abstract machine comes to it in the model. -/
theorem acall_sound (hm : P.follows .mixedOrders = true) (hprim : CallOk P prim) (n : Nat) : CallOk P (acall P prim n) := withPrim_ok hprim (callOk_of_run (exec_sound hm hprim n).1)

/-- A value whose addresses are all below B. -/
def idMu (h : Array Obj) : Mu := fun l => match h[l]? with
  | some (.cells c _ _) => some (l, c.size)
  | _ => none
open Classical in
/-- A value as the abstract machine may read it: itself, or a sign that nothing is known. -/
noncomputable def clean (h : Array Obj) (v : Value) : Value := if Val (idMu h) v v then v else .chan (some 0)
theorem clean_val (h : Array Obj) (v : Value) : Val (idMu h) (clean h v) v := by
  unfold clean
  split
  · assumption
  · exact .junk 0 v
/-- The memory of a world, all of it to be read alone. -/
noncomputable def heapOf (h : Array Obj) : Heap := h.toList.map fun o => match o with
  | .cells c _ _ => ⟨c.toList.map (clean h), .ro⟩
  | _ => ⟨[], .dead⟩
theorem heapOf_len (h : Array Obj) : (heapOf h).length = h.size := by simp [heapOf]
theorem heapOf_get (h : Array Obj) (l : Nat) : (heapOf h)[l]? = (h[l]?).map fun o => match o with
    | .cells c _ _ => ⟨c.toList.map (clean h), .ro⟩
    | _ => ⟨[], .dead⟩ := by simp [heapOf]
theorem heapOf_full {h : Array Obj} {l : Nat} : ¬ isFull (heapOf h) l := by
  rintro ⟨x, hx, hp⟩
  rw [heapOf_get] at hx
  cases ho : h[l]? with
  | none => rw [ho] at hx; cases hx
  | some o =>
    rw [ho] at hx
    cases o <;> (cases hx; cases hp)
/-- The package variables stand in the world's memory. -/
def Globs (h : Array Obj) : Prop := ∀ p ∈ gcells, ∃ e fr, h[p.1]? = some (.cells p.2.toArray e fr)
theorem Globs.id {h : Array Obj} (hg : Globs h) : ∀ p ∈ gcells, ∃ N, idMu h p.1 = some (p.1, N) := fun p hp => by
  obtain ⟨e, fr, h1⟩ := hg p hp
  exact ⟨_, by unfold idMu; rw [h1]⟩
theorem sim_start {h : Array Obj} (hg : Globs h) : Sim (idMu h) (heapOf h) h := by
  refine ⟨fun l b N hm => ?_, fun l1 l2 b N1 N2 _ _ _ hf _ => heapOf_full hf, fun l b N x hm hx hd => ?_, hg.id⟩
  · unfold idMu at hm
    split at hm
    · rename_i c e fr ho
      cases hm
      exact (Array.getElem?_eq_some_iff.1 ho).1
    · cases hm
  · unfold idMu at hm
    split at hm
    · rename_i c e fr ho
      cases hm
      rw [heapOf_get, ho] at hx
      cases hx
      refine ⟨c, e, fr, ho, rfl, fun hp => (by cases hp), fun j v hj => ?_⟩
      simp only [List.getElem?_map, Option.map_eq_some_iff] at hj
      obtain ⟨u, hu, rfl⟩ := hj
      exact ⟨u, by simpa using hu, clean_val h u⟩
    · cases hm
/-- A call that comes to an answer over the world's memory: the model comes to it, and nothing that stood is changed. -/
theorem start_sound (hm : P.follows .mixedOrders = true) (hprim : CallOk P prim) {n : Nat} {f : FuncId} {args : Array Value} {w : World} {σ' : Heap} (hgl : Globs w.heap) (hbody : HasBody P f) (h : acall P prim n f (args.map (clean w.heap)) (heapOf w.heap) = some (v, σ')) (hv : scalarB v = true) :
    Calls P f args w fun e w' => e = .returned v ∧ Below w.heap.size w w' := by
  obtain ⟨_, hle, hc⟩ := acall_sound hm hprim n _ _ _ _ _ h
  refine Calls.mono (hc hbody args (idMu w.heap) w ⟨by simp, fun i u u' h1 h2 => ?_⟩ (sim_start hgl) (fun l h1 _ => ?_)) fun e w' ⟨v', μ', he, k1, k2, k3⟩ => ?_
  · simp only [Array.toList_map, List.getElem?_map, Option.map_eq_some_iff] at h1
    obtain ⟨x, hx, rfl⟩ := h1
    rw [hx] at h2; cases h2
    exact clean_val _ _
  · rw [heapOf_len] at h1
    unfold idMu
    rw [Array.getElem?_eq_none h1]
  · subst he
    rw [scalar_val hv k1]
    exact ⟨rfl, k3.os, k3.tape, k3.output, k3.size, fun b hb => k3.keep b hb fun l N _ hf => heapOf_full hf⟩
theorem noPrim_ok : CallOk P noPrim := fun _ _ _ _ _ h => by cases h
/-- Functions without arguments whose answer the machine has worked out over no memory at all. -/
def knownPrim (l : List (FuncId × Value)) : CallF := fun f args σ => if args.size = 0 then ((l.find? (·.1 == f)).map fun p => (p.2, σ)) else none
/-- They answer so over any memory. -/
theorem knownPrim_ok (hgl : gcells = []) (hm : P.follows .mixedOrders = true) (hprim : CallOk P prim) (l : List (FuncId × Value)) (h : ∀ p ∈ l, scalarB p.2 = true ∧ HasBody P p.1 ∧ ∃ n τ, acall P prim n p.1 #[] [] = some (p.2, τ)) : CallOk P (knownPrim l) := by
  intro f args σ v σ' hk
  unfold knownPrim at hk
  split at hk
  · rename_i ha
    cases hf : l.find? (·.1 == f) with
    | none => rw [hf] at hk; cases hk
    | some p =>
      rw [hf] at hk
      cases hk
      obtain ⟨hv, hbd, n, τ, hc⟩ := h p (List.mem_of_find?_eq_some hf)
      have e0 : p.1 = f := by have := List.find?_some hf; simpa using this
      subst e0
      obtain ⟨h1, hle, h2⟩ := acall_sound hm hprim n _ _ _ _ _ hc
      refine ⟨.inl hbd, .refl _, fun _ args' μ w hargs hS hU => ?_⟩
      have hz : args' = #[] := by
        have := hargs.1
        simp at this
        exact Array.eq_empty_of_size_eq_zero (by omega)
      subst hz
      refine Calls.mono (h2 hbd #[] (fun _ => none) w .nil ⟨fun _ _ _ h => (by cases h), fun _ _ _ _ _ _ h => (by cases h), fun _ _ _ _ h => (by cases h), fun p hp => (by rw [hgl] at hp; cases hp)⟩ (fun _ _ _ => rfl)) fun e w' ⟨v', μ', he, k1, k2, k3⟩ => ?_
      have same : ∀ b, b < w.heap.size → w'.heap[b]? = w.heap[b]? := fun b hb => k3.keep b hb fun _ _ h => (by cases h)
      refine ⟨v', μ, he, ?_, ⟨fun l b N h => Nat.lt_of_lt_of_le (hS.lt l b N h) k3.size, hS.inj, fun l b N x h1 h2 h3 => by rw [same b (hS.lt l b N h1)]; exact hS.blk l b N x h1 h2 h3, hS.glob⟩, ⟨fun _ _ h => h, fun _ _ _ h => .inl h, fun b hb _ => same b hb, fun h => (by cases h), k3.size, k3.os, k3.tape, k3.output⟩⟩
      rw [scalar_val hv k1]
      exact .scal hv
  · cases hk
end
end Go.Proofs.Ytibejcomfjddfaa.AM
end
section
set_option maxHeartbeats 8000000
set_option linter.unusedVariables false
set_option linter.unusedSimpArgs false

/- Walking code of the abstract machine: rules. -/
namespace Go.Proofs.Ytibejcomfjddfaa.AM
open Go
section
variable {P : Program} {prim : CallF} {σ σ' : Heap} {v v' : Value} {e e' : Env} {call call' : CallF} {ops : Array Oper}

def CallLe (call call' : CallF) : Prop := ∀ f args σ r, call f args σ = some r → call' f args σ = some r
theorem guarded_mono (h : CallLe call call') {q : Bool} {o : Oper} {r : Value × Heap} (hg : guarded P call q ops o e σ = some r) : guarded P call' q ops o e σ = some r := by
  unfold guarded at hg ⊢
  split at hg
  · unfold stepOp at hg ⊢
    split at hg
    · rename_i f args _
      cases q with
      | false => exact h _ _ _ _ hg
      | true =>
        simp only [if_true, quietCall] at hg ⊢
        cases hc : call f args (lock σ) with
        | none => rw [hc] at hg; cases hg
        | some r => rw [hc] at hg; rw [h _ _ _ _ hc]; exact hg
    · exact hg
  · exact hg
  · cases hg
theorem runOps_mono (h : CallLe call call') {q : Bool} : ∀ (l : List Oper) {e : Env} {σ : Heap} {r : Env × Heap}, runOps P call q ops l e σ = some r → runOps P call' q ops l e σ = some r
  | [], _, _, _, hr => hr
  | o :: l, e, σ, r, hr => by
    simp only [runOps] at hr ⊢
    split at hr
    · rename_i v σ1 hg
      rw [guarded_mono h hg]
      exact runOps_mono h l hr
    · cases hr
theorem runRegion_mono (h : CallLe call call') {d : Bool} {r : Env × Heap} (hr : runRegion P call ops d e σ = some r) : runRegion P call' ops d e σ = some r := by
  unfold runRegion at hr ⊢
  split at hr
  · rename_i hd
    rw [if_pos hd]
    split at hr
    · split at hr
      · rename_i e1 σ1 h1
        simp only [runOps_mono h _ h1]
        exact runOps_mono h _ hr
      · cases hr
    · cases hr
  · rename_i hd
    rw [if_neg hd]
    exact runOps_mono h _ hr
theorem callOf_mono {run run' : Code → Env → Heap → Option (Ex × Env × Heap)} (h : ∀ c e σ r, run c e σ = some r → run' c e σ = some r) : CallLe (callOf P run) (callOf P run') := by
  intro f args σ r hc
  unfold callOf at hc ⊢
  split at hc
  · split at hc
    · split at hc
      · rename_i hok
        rw [if_pos hok]
        rename_i c _
        cases hr : run c (fun i => args.getD i undef) σ with
        | none => rw [hr] at hc; cases hc
        | some p =>
          rw [h _ _ _ _ hr]
          rw [hr] at hc
          exact hc
      · cases hc
    · cases hc
  · cases hc
theorem withPrim_mono (h : CallLe call call') : CallLe (withPrim prim call) (withPrim prim call') := by
  intro f args σ r hc
  unfold withPrim at hc ⊢
  split at hc
  · exact hc
  · exact h _ _ _ _ hc
theorem exec_succ : ∀ (n : Nat) (c : Code) (e : Env) (σ : Heap) (r : Ex × Env × Heap), exec P prim n c e σ = some r → exec P prim (n + 1) c e σ = some r
  | 0, c, e, σ, r, h => by simp [exec] at h
  | n + 1, c, e, σ, r, h => by
    have ih := exec_succ n
    unfold exec at h ⊢
    cases c with
    | skip => exact h
    | label _ => exact h
    | exit _ => exact h
    | ret => exact h
    | region id ops d =>
      dsimp only at h ⊢
      cases hr : runRegion P (withPrim prim (callOf P (exec P prim n))) ops d e σ with
      | none => rw [hr] at h; cases h
      | some p => rw [hr] at h; rw [runRegion_mono (withPrim_mono (callOf_mono ih)) hr]; exact h
    | seq a b =>
      dsimp only at h ⊢
      split at h
      · rename_i h1; rw [ih _ _ _ _ h1]; exact ih _ _ _ _ h
      · rename_i h1
        cases hx : exec P prim n a e σ with
        | none => rw [hx] at h; cases h
        | some p =>
          rw [ih _ _ _ _ hx]
          rw [hx] at h
          obtain ⟨x, e1, σ1⟩ := p
          cases x with
          | normal => exact absurd hx (h1 e1 σ1)
          | _ => exact h
    | cond x a b =>
      dsimp only at h ⊢
      split at h
      · exact ih _ _ _ _ h
      · cases h
    | block id a =>
      dsimp only at h ⊢
      cases hx : exec P prim n a e σ with
      | none => rw [hx] at h; cases h
      | some p => rw [ih _ _ _ _ hx]; rw [hx] at h; exact h
    | loop a =>
      dsimp only at h ⊢
      split at h
      · rename_i h1; rw [ih _ _ _ _ h1]; exact ih _ _ _ _ h
      · rename_i h1
        cases hx : exec P prim n a e σ with
        | none => rw [hx] at h; cases h
        | some p =>
          rw [ih _ _ _ _ hx]
          rw [hx] at h
          obtain ⟨x, e1, σ1⟩ := p
          cases x with
          | normal => exact absurd hx (h1 e1 σ1)
          | _ => exact h
    | scope a => exact ih _ _ _ _ h
    | rangeFunc _ _ _ _ => cases h
    | goto _ => cases h
    | refuse _ => cases h
theorem exec_mono {n m : Nat} (hnm : n ≤ m) {c : Code} {r : Ex × Env × Heap} (h : exec P prim n c e σ = some r) : exec P prim m c e σ = some r := by
  induction m with
  | zero => have : n = 0 := by omega
            subst this; exact h
  | succ m ih =>
    rcases Nat.lt_or_ge m n with h1 | h1
    · have : n = m + 1 := by omega
      subst this; exact h
    · exact exec_succ m _ _ _ _ (ih h1)
theorem acall_mono {n m : Nat} (hnm : n ≤ m) : CallLe (acall P prim n) (acall P prim m) := withPrim_mono (callOf_mono fun _ _ _ _ h => exec_mono hnm h)

/-- A call comes to an answer of which R holds. -/
def AC (P : Program) (prim : CallF) (f : FuncId) (args : Array Value) (σ : Heap) (R : Value → Heap → Prop) : Prop := ∃ n v σ', acall P prim n f args σ = some (v, σ') ∧ R v σ'
def ACq (P : Program) (prim : CallF) (q : Bool) (f : FuncId) (args : Array Value) (σ : Heap) (R : Value → Heap → Prop) : Prop :=
  if q then AC P prim f args (lock σ) (fun v τ => R v (σ ++ τ.drop σ.length)) else AC P prim f args σ R
/-- Code comes to an end of which K holds. -/
def W (P : Program) (prim : CallF) (c : Code) (K : Ex → Env → Heap → Prop) (e : Env) (σ : Heap) : Prop := ∃ n x e' σ', exec P prim n c e σ = some (x, e', σ') ∧ K x e' σ'
/-- Operations come to an end of which K holds. -/
def WO (P : Program) (prim : CallF) (q : Bool) (ops : Array Oper) (l : List Oper) (K : Env → Heap → Prop) (e : Env) (σ : Heap) : Prop := ∃ n e' σ', runOps P (acall P prim n) q ops l e σ = some (e', σ') ∧ K e' σ'
/-- What is behind an operation's answer. -/
def After (r : Option (Value × Heap)) (R : Value → Heap → Prop) : Prop := match r with
  | some (v, σ) => R v σ
  | none => False
theorem AC.mono {f : FuncId} {args : Array Value} {R R' : Value → Heap → Prop} (h : AC P prim f args σ R) (hr : ∀ v σ', R v σ' → R' v σ') : AC P prim f args σ R' :=
  let ⟨n, v, σ', h1, h2⟩ := h; ⟨n, v, σ', h1, hr _ _ h2⟩
theorem W.mono {c : Code} {K K' : Ex → Env → Heap → Prop} (h : W P prim c K e σ) (hk : ∀ x e σ, K x e σ → K' x e σ) : W P prim c K' e σ :=
  let ⟨n, x, e', σ', h1, h2⟩ := h; ⟨n, x, e', σ', h1, hk _ _ _ h2⟩
theorem ACq.get {q : Bool} {f : FuncId} {args : Array Value} {R : Value → Heap → Prop} (h : ACq P prim q f args σ R) : ∃ n v σ', (if q then quietCall (acall P prim n) else acall P prim n) f args σ = some (v, σ') ∧ R v σ' := by
  unfold ACq at h
  cases q with
  | false => exact h
  | true =>
    obtain ⟨n, v, τ, h1, h2⟩ := h
    exact ⟨n, v, _, by simp [quietCall, h1], h2⟩

theorem wo_nil {q : Bool} {K : Env → Heap → Prop} : WO P prim q ops [] K e σ ↔ K e σ := ⟨fun ⟨n, e', σ', h1, h2⟩ => by simp only [runOps] at h1; cases h1; exact h2, fun h => ⟨0, e, σ, rfl, h⟩⟩
/-- One operation. -/
def StepR (P : Program) (prim : CallF) (q : Bool) (ops : Array Oper) (o : Oper) (e : Env) (σ : Heap) (R : Value → Heap → Prop) : Prop :=
  match wantedA ops o e with
  | some true => match goCall (ev e) o.op with
    | some (f, args) => ACq P prim q f args σ R
    | none => After (aop P q (ev e) o σ) R
  | some false => R undef σ
  | none => False
theorem wo_cons {q : Bool} {K : Env → Heap → Prop} {o : Oper} {l : List Oper} (h : StepR P prim q ops o e σ fun v σ' => WO P prim q ops l K (upd e o.dst v) σ') : WO P prim q ops (o :: l) K e σ := by
  have fin : ∀ {n : Nat} {v : Value} {σ1 : Heap}, guarded P (acall P prim n) q ops o e σ = some (v, σ1) → WO P prim q ops l K (upd e o.dst v) σ1 → WO P prim q ops (o :: l) K e σ := fun {n v σ1} hg hw => by
    obtain ⟨m, e', σ', h1, h2⟩ := hw
    refine ⟨max n m, e', σ', ?_, h2⟩
    simp only [runOps]
    rw [guarded_mono (acall_mono (Nat.le_max_left n m)) hg]
    exact runOps_mono (acall_mono (Nat.le_max_right n m)) _ h1
  unfold StepR at h
  cases hw : wantedA ops o e with
  | none => rw [hw] at h; exact h.elim
  | some b =>
    rw [hw] at h
    cases b with
    | false => exact fin (n := 0) (by unfold guarded; rw [hw]) h
    | true =>
      dsimp only at h
      cases hc : goCall (ev e) o.op with
      | none =>
        rw [hc] at h
        dsimp only at h
        unfold After at h
        cases ha : aop P q (ev e) o σ with
        | none => rw [ha] at h; exact h.elim
        | some r =>
          obtain ⟨v, σ1⟩ := r
          rw [ha] at h
          exact fin (n := 0) (by unfold guarded stepOp; rw [hw]; dsimp only; rw [hc]; exact ha) h
      | some fa =>
        obtain ⟨f, args⟩ := fa
        rw [hc] at h
        obtain ⟨n, v, σ1, h1, h2⟩ := ACq.get h
        exact fin (n := n) (by unfold guarded stepOp; rw [hw]; dsimp only; rw [hc]; exact h1) h2

theorem w_skip {K : Ex → Env → Heap → Prop} (h : K .normal e σ) : W P prim .skip K e σ := ⟨1, _, _, _, rfl, h⟩
theorem w_label {l : Nat} {K : Ex → Env → Heap → Prop} (h : K .normal e σ) : W P prim (.label l) K e σ := ⟨1, _, _, _, rfl, h⟩
theorem w_exit {id : Nat} {K : Ex → Env → Heap → Prop} (h : K (.exit id) e σ) : W P prim (.exit id) K e σ := ⟨1, _, _, _, rfl, h⟩
theorem w_ret {K : Ex → Env → Heap → Prop} (h : K .ret e σ) : W P prim .ret K e σ := ⟨1, _, _, _, rfl, h⟩
/-- What follows code that ends normally, and what stands behind another end. -/
def Then (N : Env → Heap → Prop) (K : Ex → Env → Heap → Prop) : Ex → Env → Heap → Prop
  | .normal, e, σ => N e σ
  | x, e, σ => K x e σ
def Blk' (id : Nat) (K : Ex → Env → Heap → Prop) : Ex → Env → Heap → Prop
  | .exit i, e, σ => if i = id then K .normal e σ else K (.exit i) e σ
  | x, e, σ => K x e σ
theorem w_seq {a b : Code} {K : Ex → Env → Heap → Prop} (h : W P prim a (Then (W P prim b K) K) e σ) : W P prim (.seq a b) K e σ := by
  obtain ⟨n, x, e1, σ1, h1, h2⟩ := h
  cases x with
  | normal =>
    obtain ⟨m, x2, e2, σ2, h3, h4⟩ := h2
    refine ⟨max n m + 1, x2, e2, σ2, ?_, h4⟩
    simp only [exec]
    rw [exec_mono (Nat.le_max_left n m) h1]
    exact exec_mono (Nat.le_max_right n m) h3
  | exit i => exact ⟨n + 1, _, _, _, by simp only [exec]; rw [h1], h2⟩
  | ret => exact ⟨n + 1, _, _, _, by simp only [exec]; rw [h1], h2⟩
theorem w_cond {x : Operand} {a b : Code} {K : Ex → Env → Heap → Prop} {t : Bool} (ht : ev e x = .bool t) (h1 : t = true → W P prim a K e σ) (h2 : t = false → W P prim b K e σ) : W P prim (.cond x a b) K e σ := by
  cases t with
  | true =>
    obtain ⟨n, y, e', σ', g1, g2⟩ := h1 rfl
    exact ⟨n + 1, y, e', σ', by simp only [exec]; rw [ht]; exact g1, g2⟩
  | false =>
    obtain ⟨n, y, e', σ', g1, g2⟩ := h2 rfl
    exact ⟨n + 1, y, e', σ', by simp only [exec]; rw [ht]; exact g1, g2⟩
theorem w_block {id : Nat} {c : Code} {K : Ex → Env → Heap → Prop} (h : W P prim c (Blk' id K) e σ) : W P prim (.block id c) K e σ := by
  obtain ⟨n, x, e1, σ1, h1, h2⟩ := h
  cases x with
  | normal => exact ⟨n + 1, _, _, _, by simp only [exec]; rw [h1], h2⟩
  | ret => exact ⟨n + 1, _, _, _, by simp only [exec]; rw [h1], h2⟩
  | exit i =>
    simp only [Blk'] at h2
    by_cases hi : i = id
    · rw [if_pos hi] at h2; exact ⟨n + 1, _, _, _, by simp only [exec]; rw [h1]; simp only [hi, if_true], h2⟩
    · rw [if_neg hi] at h2; exact ⟨n + 1, _, _, _, by simp only [exec]; rw [h1]; simp only [hi, if_false], h2⟩
theorem w_scope {c : Code} {K : Ex → Env → Heap → Prop} (h : W P prim c K e σ) : W P prim (.scope c) K e σ := let ⟨n, x, e', σ', h1, h2⟩ := h; ⟨n + 1, x, e', σ', by simp only [exec]; exact h1, h2⟩
theorem w_region {id : Nat} {K : Ex → Env → Heap → Prop} (h : WO P prim false ops ops.toList (K .normal) e σ) : W P prim (.region id ops false) K e σ := by
  obtain ⟨n, e', σ', h1, h2⟩ := h
  exact ⟨n + 1, .normal, e', σ', by simp only [exec, runRegion]; rw [if_neg (by simp)]; exact congrArg (Option.map _) h1, h2⟩
theorem w_drawE {id : Nat} {ord : List Nat} {q : Nat} {K : Ex → Env → Heap → Prop} (hp : plan ops = some (ord, q))
    (h : WO P prim true ops ((ord.take q).map (ops.getD · default)) (WO P prim false ops ((ord.drop q).map (ops.getD · default)) (K .normal)) e (roEarly ops e (earlyL ops ord q) σ)) : W P prim (.region id ops true) K e σ := by
  obtain ⟨n, e1, σ1, h1, m, e2, σ2, h2, h3⟩ := h
  refine ⟨max n m + 1, .normal, e2, σ2, ?_, h3⟩
  simp only [exec, runRegion, if_true, hp]
  have g1 := runOps_mono (acall_mono (Nat.le_max_left n m)) _ h1
  have g2 := runOps_mono (acall_mono (Nat.le_max_right n m)) _ h2
  unfold acall at g1 g2
  rw [g1]
  dsimp only
  rw [g2]
  rfl
theorem w_draw {id : Nat} {ord : List Nat} {q : Nat} {K : Ex → Env → Heap → Prop} (hp : plan ops = some (ord, q)) (he : earlyL ops ord q = [])
    (h : WO P prim true ops ((ord.take q).map (ops.getD · default)) (WO P prim false ops ((ord.drop q).map (ops.getD · default)) (K .normal)) e σ) : W P prim (.region id ops true) K e σ := w_drawE hp (by rw [he]; exact h)
/-- A loop: I holds at each head, μ goes down. -/
theorem w_loop {c : Code} {K : Ex → Env → Heap → Prop} (I : Env → Heap → Prop) (μ : Env → Heap → Nat) (h0 : I e σ)
    (hr : ∀ e σ, I e σ → W P prim c (Then (fun e' σ' => I e' σ' ∧ μ e' σ' < μ e σ) K) e σ) : W P prim (.loop c) K e σ := by
  have key : ∀ n e σ, μ e σ < n → I e σ → W P prim (.loop c) K e σ := by
    intro n
    induction n with
    | zero => intro e σ h _; omega
    | succ n ih =>
      intro e σ hn hI
      obtain ⟨k, x, e1, σ1, h1, h2⟩ := hr e σ hI
      cases x with
      | normal =>
        obtain ⟨hI1, hlt⟩ := h2
        obtain ⟨m, x2, e2, σ2, h3, h4⟩ := ih e1 σ1 (by omega) hI1
        refine ⟨max k m + 1, x2, e2, σ2, ?_, h4⟩
        simp only [exec]
        rw [exec_mono (Nat.le_max_left k m) h1]
        exact exec_mono (Nat.le_max_right k m) h3
      | exit i => exact ⟨k + 1, _, _, _, by simp only [exec]; rw [h1], h2⟩
      | ret => exact ⟨k + 1, _, _, _, by simp only [exec]; rw [h1], h2⟩
  exact key _ e σ (Nat.lt_succ_self _) h0
/-- A loop by what varies. -/
theorem w_loopX {X : Type} {c : Code} {K : Ex → Env → Heap → Prop} (I : X → Env → Heap → Prop) (m : X → Nat) (x0 : X) (h0 : I x0 e σ)
    (hr : ∀ x e σ, I x e σ → W P prim c (Then (fun e' σ' => ∃ y, I y e' σ' ∧ m y < m x) K) e σ) : W P prim (.loop c) K e σ := by
  have key : ∀ n x e σ, m x < n → I x e σ → W P prim (.loop c) K e σ := by
    intro n
    induction n with
    | zero => intro x e σ h _; omega
    | succ n ih =>
      intro x e σ hn hI
      obtain ⟨k, y, e1, σ1, h1, h2⟩ := hr x e σ hI
      cases y with
      | normal =>
        obtain ⟨z, hI1, hlt⟩ := h2
        obtain ⟨j, x2, e2, σ2, h3, h4⟩ := ih z e1 σ1 (by omega) hI1
        refine ⟨max k j + 1, x2, e2, σ2, ?_, h4⟩
        simp only [exec]
        rw [exec_mono (Nat.le_max_left k j) h1]
        exact exec_mono (Nat.le_max_right k j) h3
      | exit i => exact ⟨k + 1, _, _, _, by simp only [exec]; rw [h1], h2⟩
      | ret => exact ⟨k + 1, _, _, _, by simp only [exec]; rw [h1], h2⟩
  exact key _ x0 e σ (Nat.lt_succ_self _) h0
/-- What stands behind a function's body. -/
def Body (P : Program) (fn : Func) (R : Value → Heap → Prop) : Ex → Env → Heap → Prop
  | .exit _, _, _ => False
  | _, e, σ => ∃ v, resultsOf P fn.results.toList e σ = some v ∧ R v σ
theorem ac_enter {f : FuncId} {fn : Func} {c : Code} {args : Array Value} {R : Value → Heap → Prop} (hp : prim f args σ = none) (hf : P.funcs[f]? = some fn) (hb : fn.body = some c) (hok : okFn fn = true) (hsz : args.size ≤ fn.ntmps)
    (h : W P prim c (Body P fn R) (fun i => args.getD i undef) σ) : AC P prim f args σ R := by
  obtain ⟨n, x, e', σ', h1, h2⟩ := h
  cases x with
  | exit i => exact h2.elim
  | normal =>
    obtain ⟨v, h3, h4⟩ := h2
    refine ⟨n, v, σ', ?_, h4⟩
    unfold acall withPrim callOf
    rw [hp]
    simp only [hf, hb]
    rw [if_pos ⟨hok, hsz⟩, h1]
    simp only [h3, Option.map_some]
  | ret =>
    obtain ⟨v, h3, h4⟩ := h2
    refine ⟨n, v, σ', ?_, h4⟩
    unfold acall withPrim callOf
    rw [hp]
    simp only [hf, hb]
    rw [if_pos ⟨hok, hsz⟩, h1]
    simp only [h3, Option.map_some]
theorem ac_prim {f : FuncId} {args : Array Value} {R : Value → Heap → Prop} (hp : prim f args σ = some (v, σ')) (h : R v σ') : AC P prim f args σ R :=
  ⟨0, v, σ', by unfold acall withPrim; rw [hp], h⟩
end
end Go.Proofs.Ytibejcomfjddfaa.AM
end
section
set_option maxHeartbeats 8000000
set_option linter.unusedVariables false
set_option linter.unusedSimpArgs false

/- Walking code of the abstract machine: the rules as equations for simp. -/
namespace Go.Proofs.Ytibejcomfjddfaa.AM
open Go
section
variable {P : Program} {prim : CallF} {σ σ' : Heap} {v v' : Value} {e e' : Env} {ops : Array Oper} {ρ : Operand → Value}
variable {dst : Option Tmp} {type : TypeId} {pos : String} {after : Array Edge} {guard : Option (Nat × Bool)}

/-- What follows, where simp does not look. -/
class KV where run : Value → Heap → Prop
class PP where
  a : Prop
  b : Prop
def VA (r : Option (Value × Heap)) [k : KV] : Prop := After r k.run
/-- A call to be answered for. -/
def CALL (P : Program) (prim : CallF) (f : FuncId) (args : Array Value) (σ : Heap) [k : KV] : Prop := AC P prim f args σ k.run
theorem CALL.of {f : FuncId} {args : Array Value} {R R' : Value → Heap → Prop} (h : AC P prim f args σ R) (hr : ∀ v σ', R v σ' → R' v σ') : @CALL P prim f args σ ⟨R'⟩ := h.mono hr
@[simp] theorem VA_some {u : Value} {τ : Heap} [k : KV] : VA (some (u, τ)) = k.run u τ := rfl
@[simp] theorem VA_none [k : KV] : VA none = False := rfl
@[simp] theorem VA_if {c : Prop} [Decidable c] {a : Value × Heap} [k : KV] : VA (if c then some a else none) ↔ (c ∧ k.run a.1 a.2) := by
  by_cases h : c <;> simp [h, VA, After]
@[simp] theorem VA_ite {c : Prop} [Decidable c] {a b : Value × Heap} [k : KV] : VA (if c then some a else some b) ↔ ((c → k.run a.1 a.2) ∧ (¬ c → k.run b.1 b.2)) := by
  by_cases h : c <;> simp [h, VA, After]
attribute [simp ↓] wo_nil
theorem wo_cons_eq {q : Bool} {K : Env → Heap → Prop} {o : Oper} {l : List Oper} : WO P prim q ops (o :: l) K e σ ↔ StepR P prim q ops o e σ fun v σ' => WO P prim q ops l K (upd e o.dst v) σ' := by
  refine ⟨fun ⟨n, e', σ', h1, h2⟩ => ?_, wo_cons⟩
  simp only [runOps] at h1
  split at h1
  · rename_i v σ1 hg
    have hK : WO P prim q ops l K (upd e o.dst v) σ1 := ⟨n, e', σ', h1, h2⟩
    unfold guarded at hg
    unfold StepR
    split at hg
    · rename_i hw
      rw [hw]
      unfold stepOp at hg
      dsimp only
      split at hg
      · rename_i f args hc
        rw [hc]
        dsimp only
        unfold ACq
        cases q with
        | false => exact ⟨n, v, σ1, hg, hK⟩
        | true =>
          simp only [if_true, quietCall] at hg ⊢
          cases hx : acall P prim n f args (lock σ) with
          | none => rw [hx] at hg; cases hg
          | some p => rw [hx] at hg; cases hg; exact ⟨n, _, _, hx, hK⟩
      · rename_i hc
        rw [hc]
        dsimp only
        rw [hg]
        exact hK
    · rename_i hw
      rw [hw]
      cases hg
      exact hK
    · cases hg
  · cases h1
attribute [simp ↓] wo_cons_eq
@[simp ↓] theorem w_skip_eq {K : Ex → Env → Heap → Prop} : W P prim .skip K e σ ↔ K .normal e σ := ⟨fun ⟨n, x, e', σ', h, hk⟩ => by cases n <;> simp [exec] at h; obtain ⟨rfl, rfl, rfl⟩ := h; exact hk, w_skip⟩
@[simp ↓] theorem w_label_eq {l : Nat} {K : Ex → Env → Heap → Prop} : W P prim (.label l) K e σ ↔ K .normal e σ := ⟨fun ⟨n, x, e', σ', h, hk⟩ => by cases n <;> simp [exec] at h; obtain ⟨rfl, rfl, rfl⟩ := h; exact hk, w_label⟩
@[simp ↓] theorem w_exit_eq {l : Nat} {K : Ex → Env → Heap → Prop} : W P prim (.exit l) K e σ ↔ K (.exit l) e σ := ⟨fun ⟨n, x, e', σ', h, hk⟩ => by cases n <;> simp [exec] at h; obtain ⟨rfl, rfl, rfl⟩ := h; exact hk, w_exit⟩
@[simp ↓] theorem w_ret_eq {K : Ex → Env → Heap → Prop} : W P prim .ret K e σ ↔ K .ret e σ := ⟨fun ⟨n, x, e', σ', h, hk⟩ => by cases n <;> simp [exec] at h; obtain ⟨rfl, rfl, rfl⟩ := h; exact hk, w_ret⟩
@[simp ↓] theorem w_seq_eq {a b : Code} {K : Ex → Env → Heap → Prop} : W P prim (.seq a b) K e σ ↔ W P prim a (Then (W P prim b K) K) e σ := by
  refine ⟨fun ⟨n, x, e', σ', h, hk⟩ => ?_, w_seq⟩
  cases n with
  | zero => simp [exec] at h
  | succ n =>
    simp only [exec] at h
    cases hx : exec P prim n a e σ with
    | none => rw [hx] at h; cases h
    | some p =>
      obtain ⟨y, e1, σ1⟩ := p
      rw [hx] at h
      cases y with
      | normal => exact ⟨n, _, _, _, hx, n, _, _, _, h, hk⟩
      | exit i => cases h; exact ⟨n, _, _, _, hx, hk⟩
      | ret => cases h; exact ⟨n, _, _, _, hx, hk⟩
@[simp ↓] theorem w_block_eq {id : Nat} {c : Code} {K : Ex → Env → Heap → Prop} : W P prim (.block id c) K e σ ↔ W P prim c (Blk' id K) e σ := by
  refine ⟨fun ⟨n, x, e', σ', h, hk⟩ => ?_, w_block⟩
  cases n with
  | zero => simp [exec] at h
  | succ n =>
    simp only [exec] at h
    cases hx : exec P prim n c e σ with
    | none => rw [hx] at h; cases h
    | some p =>
      obtain ⟨y, e1, σ1⟩ := p
      rw [hx] at h
      cases y with
      | normal => cases h; exact ⟨n, _, _, _, hx, hk⟩
      | ret => cases h; exact ⟨n, _, _, _, hx, hk⟩
      | exit i =>
        dsimp only at h
        refine ⟨n, _, _, _, hx, ?_⟩
        simp only [Blk']
        by_cases hi : i = id
        · rw [if_pos hi] at h ⊢; cases h; exact hk
        · rw [if_neg hi] at h ⊢; cases h; exact hk
@[simp ↓] theorem w_scope_eq {c : Code} {K : Ex → Env → Heap → Prop} : W P prim (.scope c) K e σ ↔ W P prim c K e σ := by
  refine ⟨fun ⟨n, x, e', σ', h, hk⟩ => ?_, w_scope⟩
  cases n with
  | zero => simp [exec] at h
  | succ n => simp only [exec] at h; exact ⟨n, _, _, _, h, hk⟩
@[simp ↓] theorem w_region_eq {id : Nat} {l : List Oper} {K : Ex → Env → Heap → Prop} : W P prim (.region id l.toArray false) K e σ ↔ WO P prim false l.toArray l (K .normal) e σ := by
  refine ⟨fun ⟨n, x, e', σ', h, hk⟩ => ?_, fun h => w_region (by simpa using h)⟩
  cases n with
  | zero => simp [exec] at h
  | succ n =>
    simp only [exec, runRegion] at h
    rw [if_neg (by simp)] at h
    cases hx : runOps P (withPrim prim (callOf P (exec P prim n))) false l.toArray l.toArray.toList e σ with
    | none => rw [hx] at h; cases h
    | some p => rw [hx] at h; cases h; exact ⟨n, _, _, hx, hk⟩
/-- A test: what must be shown on each way. -/
def CondR (v : Value) [c : PP] : Prop := match v with
  | .bool t => (t = true → c.a) ∧ (t = false → c.b)
  | _ => False
@[simp ↓] theorem w_cond_eq {x : Operand} {a b : Code} {K : Ex → Env → Heap → Prop} : W P prim (.cond x a b) K e σ ↔ @CondR (ev e x) ⟨W P prim a K e σ, W P prim b K e σ⟩ := by
  constructor
  · rintro ⟨n, y, e', σ', h, hk⟩
    cases n with
    | zero => simp [exec] at h
    | succ n =>
      simp only [exec] at h
      split at h
      · rename_i t ht
        rw [ht]
        exact ⟨fun e => by subst e; exact ⟨n, _, _, _, h, hk⟩, fun e => by subst e; exact ⟨n, _, _, _, h, hk⟩⟩
      · cases h
  · intro h
    cases hv : ev e x <;> rw [hv] at h <;> first | exact h.elim | exact w_cond hv h.1 h.2
theorem CondR_bool {t : Bool} [c : PP] : CondR (.bool t) ↔ (t = true → c.a) ∧ (t = false → c.b) := Iff.rfl
@[simp] theorem CondR_true [c : PP] : CondR (.bool true) ↔ c.a := by simp [CondR]
@[simp] theorem CondR_false [c : PP] : CondR (.bool false) ↔ c.b := by simp [CondR]
theorem CondR.on {t : Bool} {c : PP} (h1 : t = true → c.a) (h2 : t = false → c.b) : @CondR (.bool t) c := ⟨h1, h2⟩
theorem CondR.dec {p : Prop} [Decidable p] {c : PP} (h1 : p → c.a) (h2 : ¬ p → c.b) : @CondR (.bool (decide p)) c := ⟨fun h => h1 (of_decide_eq_true h), fun h => h2 (of_decide_eq_false h)⟩
@[simp ↓] theorem Then_normal {N : Env → Heap → Prop} {K : Ex → Env → Heap → Prop} : Then N K .normal e σ = N e σ := rfl
@[simp ↓] theorem Then_exit {N : Env → Heap → Prop} {K : Ex → Env → Heap → Prop} {i : Nat} : Then N K (.exit i) e σ = K (.exit i) e σ := rfl
@[simp ↓] theorem Then_ret {N : Env → Heap → Prop} {K : Ex → Env → Heap → Prop} : Then N K .ret e σ = K .ret e σ := rfl
@[simp ↓] theorem Blk_normal {id : Nat} {K : Ex → Env → Heap → Prop} : Blk' id K .normal e σ = K .normal e σ := rfl
@[simp ↓] theorem Blk_ret {id : Nat} {K : Ex → Env → Heap → Prop} : Blk' id K .ret e σ = K .ret e σ := rfl
@[simp ↓] theorem Blk_exit {id i : Nat} {K : Ex → Env → Heap → Prop} : Blk' id K (.exit i) e σ = if i = id then K .normal e σ else K (.exit i) e σ := rfl
theorem Blk_exit_same {id : Nat} {K : Ex → Env → Heap → Prop} : Blk' id K (.exit id) e σ = K .normal e σ := by simp
@[simp ↓] theorem Body_ret {fn : Func} {R : Value → Heap → Prop} : Body P fn R .ret e σ ↔ ∃ v, resultsOf P fn.results.toList e σ = some v ∧ R v σ := Iff.rfl
@[simp ↓] theorem Body_normal {fn : Func} {R : Value → Heap → Prop} : Body P fn R .normal e σ ↔ ∃ v, resultsOf P fn.results.toList e σ = some v ∧ R v σ := Iff.rfl
@[simp ↓] theorem ACq_false {f : FuncId} {args : Array Value} {R : Value → Heap → Prop} : ACq P prim false f args σ R = @CALL P prim f args σ ⟨R⟩ := rfl
@[simp ↓] theorem ACq_true {f : FuncId} {args : Array Value} {R : Value → Heap → Prop} : ACq P prim true f args σ R = @CALL P prim f args (lock σ) ⟨fun v τ => R v (σ ++ τ.drop σ.length)⟩ := rfl

/-- Are two structs or arrays the same? -/
def eqS (P : Program) (t : TypeId) (cs ds : Array Value) : Option Bool := if cs.all scalarB = true ∧ ds.all scalarB = true ∧ P.eqGuardType P.depth t = false then pureRun P (Op.equalIn Op.maxDepth t (.agg cs) (.agg ds)) else none
/-- Arithmetic and comparison of whole numbers and bools. -/
def binI (P : Program) (op : BinOp) (t : TypeId) (x y : Value) : Option Value := match x, y with
  | .int k m, .int k' n => match op with
    | .shl => if n < 0 then none else some (.int k (k.wrap (m * 2 ^ (min n.toNat k.bits))))
    | .shr => if n < 0 then none else some (.int k (m.fdiv (2 ^ (min n.toNat k.bits))))
    | op => if k = k' then match op with
      | .add => some (.int k (k.wrap (m + n)))
      | .sub => some (.int k (k.wrap (m - n)))
      | .mul => some (.int k (k.wrap (m * n)))
      | .quo => if n = 0 then none else some (.int k (k.wrap (m.tdiv n)))
      | .rem => if n = 0 then none else some (.int k (m.tmod n))
      | .and | .or | .xor | .andNot => some (.int k (bits op k m n))
      | .eql => some (.bool (decide (m = n)))
      | .neq => some (.bool (decide (m ≠ n)))
      | .lss => some (.bool (decide (m < n)))
      | .leq => some (.bool (decide (m ≤ n)))
      | .gtr => some (.bool (decide (m > n)))
      | .geq => some (.bool (decide (m ≥ n)))
      | _ => none
      else none
  | .bool a, .bool b => match P.underlying t, op with
    | some .bool, .eql => some (.bool (a == b))
    | some .bool, .neq => some (.bool (!(a == b)))
    | _, _ => none
  | .slice none 0 0, .slice none 0 0 => match P.underlying t, op with
    | some (.slice _), .eql => some (.bool true)
    | some (.slice _), .neq => some (.bool false)
    | _, _ => none
  | .agg cs, .agg ds => match op with
    | .eql => (eqS P t cs ds).map .bool
    | .neq => (eqS P t cs ds).map fun b => .bool (!b)
    | _ => none
  | _, _ => none
/-- aPure, not to be opened. -/
def aPure' (P : Program) (ρ : Operand → Value) (o : Oper) : Option Value := aPure P ρ o
theorem pureRun_bind {α β : Type} {s : Sem α} {f : α → Sem β} : pureRun P (s >>= f) = (pureRun P s).bind fun a => pureRun P (f a) := by
  show pureRun P (s.bind f) = _
  induction s with
  | pure a => rfl
  | program k ih => exact ih P
  | mark m k ih => exact ih
  | _ => rfl
@[simp] theorem pureRun_pure {α : Type} {a : α} : pureRun P (pure a : Sem α) = some a := rfl
theorem pureRun_program : pureRun P program = some P := rfl
theorem pureRun_underlying {t : TypeId} : pureRun P (underlying t) = P.underlying t := by
  unfold underlying
  rw [pureRun_bind, pureRun_program]
  simp only [Option.bind_some]
  cases P.underlying t <;> rfl
theorem eqGuard_agg {op : BinOp} {t : TypeId} {x y : Operand} {cs ds : Array Value} (h : P.eqGuardType P.depth t = false) : pureRun P (eqGuard op t x y (.agg cs) (.agg ds)) = some () := by
  unfold eqGuard
  cases op <;> simp [pureRun_bind, pureRun_program, h]
theorem eqS_sound {t ty : TypeId} {x y : Operand} {cs ds : Array Value} {b : Bool} (hx : ρ x = .agg cs) (hy : ρ y = .agg ds) (h : eqS P t cs ds = some b) :
    aPure P ρ ⟨dst, .binOp .eql t x y ty, type, pos, after, guard⟩ = some (.bool b) ∧ aPure P ρ ⟨dst, .binOp .neq t x y ty, type, pos, after, guard⟩ = some (.bool (!b)) := by
  unfold eqS at h
  split at h
  · rename_i hc
    obtain ⟨h1, h2, h3⟩ := hc
    have hfl : flatB (.agg cs) = true ∧ flatB (.agg ds) = true := ⟨h1, h2⟩
    have hop : ∀ op, ((Op.binOp op t x y ty).operands.all fun x => flatB (ρ x)) = true := fun op => by simp [Op.operands, hx, hy, hfl]
    refine ⟨?_, ?_⟩
    · unfold aPure
      rw [if_pos (hop _)]
      simp only [execOp, hx, hy]
      have : pureRun P (do eqGuard .eql t x y (.agg cs) (.agg ds); binOp .eql t (.agg cs) (.agg ds)) = some (.bool b) := by
        rw [pureRun_bind, eqGuard_agg h3]
        simp only [Option.bind_some, binOp]
        rw [pureRun_bind]
        have : pureRun P (Op.equal t (.agg cs) (.agg ds)) = some b := h
        rw [this]; rfl
      rw [pureRun_bind, this]
      rfl
    · unfold aPure
      rw [if_pos (hop _)]
      simp only [execOp, hx, hy]
      have : pureRun P (do eqGuard .neq t x y (.agg cs) (.agg ds); binOp .neq t (.agg cs) (.agg ds)) = some (.bool (!b)) := by
        rw [pureRun_bind, eqGuard_agg h3]
        simp only [Option.bind_some, binOp]
        rw [pureRun_bind]
        have : pureRun P (Op.equal t (.agg cs) (.agg ds)) = some b := h
        rw [this]; rfl
      rw [pureRun_bind, this]
      rfl
  · cases h
theorem binI_sound {op : BinOp} {t ty : TypeId} {x y : Operand} (h : binI P op t (ρ x) (ρ y) = some v) : aPure P ρ ⟨dst, .binOp op t x y ty, type, pos, after, guard⟩ = some v := by
  unfold binI at h
  split at h
  · rename_i k m k' n hx hy
    have fin : (pureRun P (do eqGuard op t x y (.int k m) (.int k' n); binOp op t (.int k m) (.int k' n)) = some v ∧ flatB v = true) → aPure P ρ ⟨dst, .binOp op t x y ty, type, pos, after, guard⟩ = some v := fun ⟨h1, h2⟩ => by
      unfold aPure
      rw [if_pos (by simp [Op.operands, hx, hy, flatB, scalarB])]
      simp only [execOp, hx, hy]
      rw [pureRun_bind, h1]
      simp [h2]
    apply fin
    rw [eqGuard_at_int, pureRun_bind]
    simp only [pureRun_pure, Option.bind_some]
    split at h
    · split at h
      · cases h
      · rename_i hn; cases h; exact ⟨by simp [binOp, Op.shift, hn], rfl⟩
    · split at h
      · cases h
      · rename_i hn; cases h; exact ⟨by simp [binOp, Op.shift, hn], rfl⟩
    · split at h
      · rename_i hk
        subst hk
        split at h <;> (try (split at h)) <;> first
          | (cases h; done)
          | (cases h; refine ⟨?_, rfl⟩; simp [binOp, Op.intArith, Op.intCmp, Bool.beq_eq_decide_eq, bne]; done)
          | (rename_i hn; cases h; refine ⟨?_, rfl⟩; simp [binOp, Op.intDiv, hn]; done)
          | (cases h; refine ⟨?_, rfl⟩; (first | rw [binOp_and] | rw [binOp_or] | rw [binOp_xor] | rw [binOp_andNot]); rfl)
      · cases h
  · rename_i a b hx hy
    split at h
    · rename_i hu
      cases h
      unfold aPure
      rw [if_pos (by simp [Op.operands, hx, hy, flatB, scalarB])]
      simp only [execOp, hx, hy]
      have : pureRun P (do eqGuard .eql t x y (.bool a) (.bool b); binOp .eql t (.bool a) (.bool b)) = some (.bool (a == b)) := by
        rw [eqGuard_at_bool, pureRun_bind]
        simp only [pureRun_pure, Option.bind_some, binOp]
        rw [pureRun_bind]
        have : pureRun P (Op.equal t (.bool a) (.bool b)) = some (a == b) := by
          show pureRun P (Op.equalIn (9999 + 1) t (.bool a) (.bool b)) = _
          generalize 9999 = d
          unfold Op.equalIn
          rw [pureRun_bind, pureRun_underlying, hu]
          rfl
        rw [this]; rfl
      rw [pureRun_bind, this]
      rfl
    · rename_i hu
      cases h
      unfold aPure
      rw [if_pos (by simp [Op.operands, hx, hy, flatB, scalarB])]
      simp only [execOp, hx, hy]
      have : pureRun P (do eqGuard .neq t x y (.bool a) (.bool b); binOp .neq t (.bool a) (.bool b)) = some (.bool (!(a == b))) := by
        rw [eqGuard_at_bool, pureRun_bind]
        simp only [pureRun_pure, Option.bind_some, binOp]
        rw [pureRun_bind]
        have : pureRun P (Op.equal t (.bool a) (.bool b)) = some (a == b) := by
          show pureRun P (Op.equalIn (9999 + 1) t (.bool a) (.bool b)) = _
          generalize 9999 = d
          unfold Op.equalIn
          rw [pureRun_bind, pureRun_underlying, hu]
          rfl
        rw [this]; rfl
      rw [pureRun_bind, this]
      rfl
    · cases h
  · rename_i hx hy
    have hop : ∀ op, ((Op.binOp op t x y ty).operands.all fun x => flatB (ρ x)) = true := fun op => by simp [Op.operands, hx, hy, flatB, scalarB]
    split at h
    · rename_i e' hu
      cases h
      have hq : pureRun P (Op.equal t (.slice none 0 0) (.slice none 0 0)) = some true := by
        show pureRun P (Op.equalIn (9999 + 1) t (.slice none 0 0) (.slice none 0 0)) = _
        generalize 9999 = d
        unfold Op.equalIn
        rw [pureRun_bind, pureRun_underlying, hu]
        rfl
      unfold aPure
      rw [if_pos (hop _)]
      simp only [execOp, hx, hy]
      have : pureRun P (do eqGuard .eql t x y (.slice none 0 0) (.slice none 0 0); binOp .eql t (.slice none 0 0) (.slice none 0 0)) = some (.bool true) := by
        rw [eqGuard_at_slice, pureRun_bind]
        simp only [pureRun_pure, Option.bind_some, binOp]
        rw [pureRun_bind, hq]; rfl
      rw [pureRun_bind, this]
      rfl
    · rename_i e' hu
      cases h
      have hq : pureRun P (Op.equal t (.slice none 0 0) (.slice none 0 0)) = some true := by
        show pureRun P (Op.equalIn (9999 + 1) t (.slice none 0 0) (.slice none 0 0)) = _
        generalize 9999 = d
        unfold Op.equalIn
        rw [pureRun_bind, pureRun_underlying, hu]
        rfl
      unfold aPure
      rw [if_pos (hop _)]
      simp only [execOp, hx, hy]
      have : pureRun P (do eqGuard .neq t x y (.slice none 0 0) (.slice none 0 0); binOp .neq t (.slice none 0 0) (.slice none 0 0)) = some (.bool false) := by
        rw [eqGuard_at_slice, pureRun_bind]
        simp only [pureRun_pure, Option.bind_some, binOp]
        rw [pureRun_bind, hq]; rfl
      rw [pureRun_bind, this]
      rfl
    · cases h
  · rename_i cs ds hx hy
    split at h
    · cases he : eqS P t cs ds with
      | none => rw [he] at h; cases h
      | some b => rw [he] at h; cases h; exact (eqS_sound hx hy he).1
    · cases he : eqS P t cs ds with
      | none => rw [he] at h; cases h
      | some b => rw [he] at h; cases h; exact (eqS_sound hx hy he).2
    · cases h
  · cases h
@[simp] theorem aPure_bin {op : BinOp} {t ty : TypeId} {x y : Operand} : aPure P ρ ⟨dst, .binOp op t x y ty, type, pos, after, guard⟩ = (match binI P op t (ρ x) (ρ y) with
    | some v => some v
    | none => aPure' P ρ ⟨dst, .binOp op t x y ty, type, pos, after, guard⟩) := by
  cases h : binI P op t (ρ x) (ρ y) with
  | none => rfl
  | some v => exact binI_sound h
def unI (op : UnOp) (x : Value) : Option Value := match op, x with
  | .not, .bool b => some (.bool !b)
  | .neg, .int k n => some (.int k (k.wrap (0 - n)))
  | .xor, .int k n => some (.int k (bits .xor k (if k.signed then -1 else k.max) n))
  | _, _ => none
@[simp] theorem aPure_un {op : UnOp} {t : TypeId} {x : Operand} : aPure P ρ ⟨dst, .unOp op t x, type, pos, after, guard⟩ = (match unI op (ρ x) with
    | some v => some v
    | none => aPure' P ρ ⟨dst, .unOp op t x, type, pos, after, guard⟩) := by
  cases h : unI op (ρ x) with
  | none => rfl
  | some v =>
    unfold unI at h
    split at h <;> cases h <;> rename_i hx <;> unfold aPure <;> (rw [if_pos (by simp [Op.operands, hx, flatB, scalarB])]) <;> simp only [execOp, hx] <;> rfl
/-- A conversion between kinds of whole numbers. -/
def convI (P : Program) (src dt : TypeId) (x : Value) : Option Value := match P.underlying src, P.underlying dt, x with
  | some _, some (.int k), .int _ n => some (.int k (k.wrap n))
  | _, _, _ => none
@[simp] theorem aPure_conv {src dt : TypeId} {x : Operand} : aPure P ρ ⟨dst, .convert src dt x, type, pos, after, guard⟩ = (match convI P src dt (ρ x) with
    | some v => some v
    | none => aPure' P ρ ⟨dst, .convert src dt x, type, pos, after, guard⟩) := by
  cases h : convI P src dt (ρ x) with
  | none => rfl
  | some v =>
    unfold convI at h
    split at h
    · rename_i d k k' n h1 h2 hx
      cases h
      unfold aPure
      rw [if_pos (by simp [Op.operands, hx, flatB, scalarB])]
      simp only [execOp, hx]
      have : pureRun P (convert src dt (.int k' n)) = some (.int k (k.wrap n)) := by
        unfold convert
        rw [pureRun_bind, pureRun_underlying, h1]
        simp only [Option.bind_some]
        rw [pureRun_bind, pureRun_underlying, h2]
        rfl
      rw [pureRun_bind, this]
      rfl
    · cases h

/-- An element's address. -/
def idxAddr (P : Program) (t : TypeId) (x i : Value) (σ : Heap) : Option (Value × Heap) := match P.underlying t, x, i with
    | some (.slice e), .slice (some a) n _, .int _ j => match szOf P e with
      | some s => if 0 ≤ j ∧ j < n then some (.pointer (some (a.add (j.toNat * s))), σ) else none
      | none => none
    | some (.array n e), .pointer (some a), .int _ j => match szOf P e with
      | some s => if 0 ≤ j ∧ j < n then some (.pointer (some (a.add (j.toNat * s))), σ) else none
      | none => none
    | _, _, _ => none
def binV (P : Program) (op : BinOp) (t : TypeId) (x y : Operand) (ty : TypeId) (ρ : Operand → Value) (o : Oper) (σ : Heap) : Option (Value × Heap) :=
    match strEq op (ρ x) (ρ y) with
    | some b => some (.bool b, σ)
    | none =>
    if flatB (ρ x) && flatB (ρ y) then (aPure P ρ o).map (·, σ) else
    match op with
    | .eql => (aEq P t (ρ x) (ρ y)).map fun b => (.bool b, σ)
    | .neq => (aEq P t (ρ x) (ρ y)).map fun b => (.bool (!b), σ)
    | _ => none
/-- By a guard. -/
def GuardR (g : Option Bool) [c : PP] : Prop := match g with
  | some true => c.a
  | some false => c.b
  | none => False
@[simp] theorem GuardR_true [c : PP] : GuardR (some true) = c.a := propext Iff.rfl
@[simp] theorem GuardR_false [c : PP] : GuardR (some false) = c.b := propext Iff.rfl
theorem GuardR_b {b : Bool} [c : PP] : GuardR (some b) ↔ (b = true → c.a) ∧ (b = false → c.b) := by cases b <;> simp [GuardR]
theorem GuardR.on {t : Bool} {c : PP} (h1 : t = true → c.a) (h2 : t = false → c.b) : @GuardR (some t) c := GuardR_b.2 ⟨h1, h2⟩
theorem GuardR.dec {p : Prop} [Decidable p] {c : PP} (h1 : p → c.a) (h2 : ¬ p → c.b) : @GuardR (some (decide p)) c := .on (fun h => h1 (of_decide_eq_true h)) (fun h => h2 (of_decide_eq_false h))
@[simp ↓] theorem step_guard {q : Bool} {op : Op} {jw : Nat × Bool} {R : Value → Heap → Prop} : StepR P prim q ops ⟨dst, op, type, pos, after, some jw⟩ e σ R = @GuardR (wantedA ops ⟨dst, op, type, pos, after, some jw⟩ e) ⟨StepR P prim q ops ⟨dst, op, type, pos, after, none⟩ e σ R, R undef σ⟩ := by
  unfold StepR GuardR
  cases wantedA ops ⟨dst, op, type, pos, after, some jw⟩ e with
  | none => rfl
  | some b => cases b <;> rfl
theorem step_call {q : Bool} {x : Operand} {as : Array Operand} {ts : Array TypeId} {R : Value → Heap → Prop} {f : FuncId} {fi cp : Array Value} (h : ev e x = .func (.func f) fi cp) :
    StepR P prim q ops ⟨dst, .call { callee := .value x, args := as, argTypes := ts }, type, pos, after, none⟩ e σ R = ACq P prim q f (fi ++ as.map (ev e) ++ cp) σ R := by
  simp only [StepR, wantedA, goCall, h]
/-- A call of a function value. -/
def CallV (P : Program) (prim : CallF) (q : Bool) (v : Value) (as : Array Value) (σ : Heap) [k : KV] : Prop := match v with
  | .func (.func f) fi cp => ACq P prim q f (fi ++ as ++ cp) σ k.run
  | _ => False
@[simp] theorem CallV_func {q : Bool} {f : FuncId} {fi cp as : Array Value} [k : KV] : CallV P prim q (.func (.func f) fi cp) as σ = ACq P prim q f (fi ++ as ++ cp) σ k.run := rfl
@[simp ↓] theorem step_callT {q : Bool} {t : Tmp} {as : Array Operand} {ts : Array TypeId} {R : Value → Heap → Prop} :
    StepR P prim q ops ⟨dst, .call { callee := .value (.tmp t), args := as, argTypes := ts }, type, pos, after, none⟩ e σ R = @CallV P prim q (e t) (as.map (ev e)) σ ⟨R⟩ := by
  simp only [StepR, wantedA, goCall, CallV, ev]
  split
  · rename_i f args h
    split at h
    · rename_i h2
      cases h
      rw [h2]
    · cases h
  · rename_i h
    split at h
    · cases h
    · rename_i h2
      split
      · rename_i f fi cp h3
        exact (h2 _ _ _ h3).elim
      · rfl
@[simp ↓] theorem step_callF {q : Bool} {f : FuncId} {as : Array Operand} {ts : Array TypeId} {R : Value → Heap → Prop} :
    StepR P prim q ops ⟨dst, .call { callee := .value (.func f), args := as, argTypes := ts }, type, pos, after, none⟩ e σ R = ACq P prim q f (as.map (ev e)) σ R := by
  simp [StepR, wantedA, goCall, ev]
@[simp ↓] theorem step_len {q : Bool} {x : Operand} {t : TypeId} {R : Value → Heap → Prop} : StepR P prim q ops ⟨dst, .call { callee := .builtin .len, args := #[x], argTypes := #[t] }, type, pos, after, none⟩ e σ R =
    @VA (match P.underlying t, ev e x with
      | some (.slice _), .slice _ n _ => some (.int .i64 n, σ)
      | some (.array n _), _ => some (.int .i64 n, σ)
      | _, _ => (aPure P (ev e) ⟨dst, .call { callee := .builtin .len, args := #[x], argTypes := #[t] }, type, pos, after, none⟩).map (·, σ)) ⟨R⟩ := rfl
@[simp ↓] theorem step_cap {q : Bool} {x : Operand} {t : TypeId} {R : Value → Heap → Prop} : StepR P prim q ops ⟨dst, .call { callee := .builtin .cap, args := #[x], argTypes := #[t] }, type, pos, after, none⟩ e σ R =
    @VA (match P.underlying t, ev e x with
      | some (.slice _), .slice _ _ c => if c < top then some (.int .i64 c, σ) else none
      | _, _ => none) ⟨R⟩ := rfl
@[simp ↓] theorem step_index {q : Bool} {t : TypeId} {x i : Operand} {R : Value → Heap → Prop} : StepR P prim q ops ⟨dst, .index t x i, type, pos, after, none⟩ e σ R =
    @VA (match P.underlying t, ev e x, ev e i with
      | some (.array n e), .agg cs, .int _ j => match szOf P e with
        | some s => if 0 ≤ j ∧ j < n then (partV P e cs (j.toNat * s)).map (·, σ) else none
        | none => none
      | _, _, _ => (aPure P (ev e) ⟨dst, .index t x i, type, pos, after, none⟩).map (·, σ)) ⟨R⟩ := rfl
@[simp ↓] theorem step_slice {q : Bool} {t : TypeId} {x : Operand} {lo hi mx : Option Operand} {R : Value → Heap → Prop} : StepR P prim q ops ⟨dst, .slice t x lo hi mx, type, pos, after, none⟩ e σ R =
    @VA (match ev e x with
      | .string _ => (aPure P (ev e) ⟨dst, .slice t x lo hi mx, type, pos, after, none⟩).map (·, σ)
      | _ => (aSlice P t (ev e x) (lo.map (ev e)) (hi.map (ev e)) (mx.map (ev e))).map (·, σ)) ⟨R⟩ := rfl
@[simp ↓] theorem step_makeSlice {q : Bool} {t : TypeId} {l c : Operand} {R : Value → Heap → Prop} : StepR P prim q ops ⟨dst, .makeSlice t l c, type, pos, after, none⟩ e σ R =
    @VA (match P.underlying t, ev e l, ev e c with
      | some (.slice e), .int _ l, .int _ c => match byOf P e with
        | some bytes => if 0 ≤ l ∧ l ≤ c ∧ c ≤ 17179869184 ∧ bytes ≤ 4096 then (zerosOf P e c.toNat).bind fun zs => (newBlk σ zs).map fun (a, σ') => (.slice (some a) l.toNat c.toNat, σ') else none
        | none => none
      | _, _, _ => none) ⟨R⟩ := rfl
/-- A literal's cells. -/
def buildV (P : Program) (t : TypeId) (parts : Array (Nat × Value)) : Option Value := match zeroOf P t with
    | some z => if flatB z = true ∧ (parts.all fun (_, x) => !junkB x) = true then (P.built t parts.toList).map fun cs => .agg cs else none
    | none => none
@[simp ↓] theorem step_build {q : Bool} {t : TypeId} {parts : Array (Nat × Operand)} {R : Value → Heap → Prop} : StepR P prim q ops ⟨dst, .build t parts, type, pos, after, none⟩ e σ R =
    @VA ((buildV P t (parts.map fun (i, x) => (i, ev e x))).map (·, σ)) ⟨R⟩ := by
  simp only [StepR, wantedA, goCall, aop, buildV]
  cases zeroOf P t with
  | none => rfl
  | some z =>
    dsimp only
    have : ((parts.map fun (i, x) => (i, ev e x)).all fun (_, x) => !junkB x) = (parts.all fun (_, x) => !junkB (ev e x)) := by
      rw [Array.all_map]; rfl
    rw [this]
    split
    · cases P.built t (parts.map fun (i, x) => (i, ev e x)).toList <;> rfl
    · rfl
def buildSliceV (P : Program) (t : TypeId) (len : Nat) (parts : Array (Nat × Value)) : Option (List Value) := match P.underlying t with
    | some (.slice e) => match szOf P e, zerosOf P e len with
      | some s, some zs => if len * s ≤ 16777216 ∧ len < top ∧ (parts.all fun (_, x) => !junkB x) = true then (Instr.fill (fun i => some (i * s, s)) zs.toArray parts.toList).map (·.toList) else none
      | _, _ => none
    | _ => none
@[simp ↓] theorem step_buildSlice {q : Bool} {t : TypeId} {len : Nat} {parts : Array (Nat × Operand)} {R : Value → Heap → Prop} : StepR P prim q ops ⟨dst, .buildSlice t len parts, type, pos, after, none⟩ e σ R =
    @VA ((buildSliceV P t len (parts.map fun (i, x) => (i, ev e x))).bind fun cs => (newBlkP σ cs (slPerm P t parts)).map fun (a, σ') => (.slice (some a) len len, σ')) ⟨R⟩ := by
  simp only [StepR, wantedA, goCall, aop, buildSliceV]
  cases P.underlying t with
  | none => rfl
  | some d =>
    cases d <;> try rfl
    rename_i e'
    dsimp only
    cases szOf P e' with
    | none => rfl
    | some s =>
      cases zerosOf P e' len with
      | none => rfl
      | some zs =>
        dsimp only
        have : ((parts.map fun (i, x) => (i, ev e x)).all fun (_, x) => !junkB x) = (parts.all fun (_, x) => !junkB (ev e x)) := by
          rw [Array.all_map]; rfl
        rw [this]
        split
        · cases Instr.fill (fun i => some (i * s, s)) zs.toArray (parts.map fun (i, x) => (i, ev e x)).toList <;> rfl
        · rfl
@[simp ↓] theorem step_move {q : Bool} {x : Operand} {R : Value → Heap → Prop} : StepR P prim q ops ⟨dst, .move x, type, pos, after, none⟩ e σ R = @VA (some (ev e x, σ)) ⟨R⟩ := rfl
@[simp ↓] theorem step_assign {q : Bool} {x : Operand} {R : Value → Heap → Prop} : StepR P prim q ops ⟨dst, .assign x, type, pos, after, none⟩ e σ R = @VA (some (ev e x, σ)) ⟨R⟩ := rfl
@[simp ↓] theorem step_pick {q : Bool} {c a b : Operand} {R : Value → Heap → Prop} : StepR P prim q ops ⟨dst, .pick c a b, type, pos, after, none⟩ e σ R = @VA (match ev e c with | .bool t => some (if t then ev e a else ev e b, σ) | _ => none) ⟨R⟩ := rfl
@[simp ↓] theorem step_extract {q : Bool} {x : Operand} {i : Nat} {R : Value → Heap → Prop} : StepR P prim q ops ⟨dst, .extract x i, type, pos, after, none⟩ e σ R = @VA (match ev e x with | .tuple vs => (vs[i]?).map (·, σ) | _ => none) ⟨R⟩ := rfl
@[simp ↓] theorem step_nilCheck {q : Bool} {x : Operand} {R : Value → Heap → Prop} : StepR P prim q ops ⟨dst, .nilCheck x, type, pos, after, none⟩ e σ R = @VA (match ev e x with | .pointer (some a) => some (.pointer (some a), σ) | .func (.func f) a b => some (.func (.func f) a b, σ) | _ => none) ⟨R⟩ := rfl
@[simp ↓] theorem step_alloc {q : Bool} {t : TypeId} {R : Value → Heap → Prop} : StepR P prim q ops ⟨dst, .alloc t, type, pos, after, none⟩ e σ R = @VA ((zerosOf P t 1).bind fun zs => (newBlk σ zs).map fun (a, σ') => (.pointer (some a), σ')) ⟨R⟩ := rfl
@[simp ↓] theorem step_box {q : Bool} {t : TypeId} {x : Operand} {R : Value → Heap → Prop} : StepR P prim q ops ⟨dst, .box t x, type, pos, after, none⟩ e σ R = @VA ((newBlk σ (ev e x).cells.toList).map fun (a, σ') => (.pointer (some a), σ')) ⟨R⟩ := rfl
@[simp ↓] theorem step_load {q : Bool} {t : TypeId} {x : Operand} {R : Value → Heap → Prop} : StepR P prim q ops ⟨dst, .load t x, type, pos, after, none⟩ e σ R = @VA (match ev e x with | .pointer (some a) => (loadV P t σ a).map (·, σ) | _ => none) ⟨R⟩ := rfl
@[simp ↓] theorem step_store {q : Bool} {t : TypeId} {x v : Operand} {R : Value → Heap → Prop} : StepR P prim q ops ⟨dst, .store t x v, type, pos, after, none⟩ e σ R = @VA (match ev e x, szOf P t with | .pointer (some a), some n => if q = false ∧ (ev e v).cells.size = n then (writeN σ a (ev e v).cells.toList).map fun σ' => (undef, σ') else none | _, _ => none) ⟨R⟩ := rfl
@[simp ↓] theorem step_fieldAddr {q : Bool} {t : TypeId} {x : Operand} {f : Nat} {R : Value → Heap → Prop} : StepR P prim q ops ⟨dst, .fieldAddr t x f, type, pos, after, none⟩ e σ R = @VA (match ev e x, fieldOf P t f with | .pointer (some a), some (off, ft) => (match szOf P ft with | some (_ + 1) => some (.pointer (some (a.add off)), σ) | _ => none) | _, _ => none) ⟨R⟩ := rfl
@[simp ↓] theorem step_field {q : Bool} {t : TypeId} {x : Operand} {f : Nat} {R : Value → Heap → Prop} : StepR P prim q ops ⟨dst, .field t x f, type, pos, after, none⟩ e σ R = @VA (match ev e x, fieldOf P t f with | .agg cs, some (off, ft) => (partV P ft cs off).map (·, σ) | _, _ => none) ⟨R⟩ := rfl
@[simp ↓] theorem step_indexAddr {q : Bool} {t : TypeId} {x i : Operand} {R : Value → Heap → Prop} : StepR P prim q ops ⟨dst, .indexAddr t x i, type, pos, after, none⟩ e σ R = @VA (idxAddr P t (ev e x) (ev e i) σ) ⟨R⟩ := rfl
@[simp ↓] theorem step_makeFunc {q : Bool} {f : FuncId} {a b : Array Operand} {R : Value → Heap → Prop} : StepR P prim q ops ⟨dst, .makeFunc (.func f) a b, type, pos, after, none⟩ e σ R = @VA (some (.func (.func f) (a.map (ev e)) (b.map (ev e)), σ)) ⟨R⟩ := rfl
@[simp ↓] theorem step_makeInterface {q : Bool} {t : TypeId} {x : Operand} {R : Value → Heap → Prop} : StepR P prim q ops ⟨dst, .makeInterface t x, type, pos, after, none⟩ e σ R = @VA (if P.concrete t = true then some (.iface t (ev e x), σ) else none) ⟨R⟩ := rfl
@[simp ↓] theorem step_binOp {q : Bool} {op : BinOp} {t : TypeId} {x y : Operand} {ty : TypeId} {R : Value → Heap → Prop} : StepR P prim q ops ⟨dst, .binOp op t x y ty, type, pos, after, none⟩ e σ R = @VA (binV P op t x y ty (ev e) ⟨dst, .binOp op t x y ty, type, pos, after, none⟩ σ) ⟨R⟩ := rfl
@[simp ↓] theorem step_unOp {q : Bool} {op : UnOp} {t : TypeId} {x : Operand} {R : Value → Heap → Prop} : StepR P prim q ops ⟨dst, .unOp op t x, type, pos, after, none⟩ e σ R = @VA ((aPure P (ev e) ⟨dst, .unOp op t x, type, pos, after, none⟩).map (·, σ)) ⟨R⟩ := rfl
@[simp ↓] theorem step_append {q : Bool} {s x : Operand} {t tx : TypeId} {R : Value → Heap → Prop} : StepR P prim q ops ⟨dst, .call { callee := .builtin .append, args := #[s, x], argTypes := #[t, tx] }, type, pos, after, none⟩ e σ R = @VA (match P.underlying tx with
  | some (.int _) => aZeros P t (ev e s) (ev e x) σ
  | _ => aAppend P q t tx (ev e s) (ev e x) σ) ⟨R⟩ := rfl
attribute [simp] ev upd newBlk newBlkP Value.cells cellB junkB Value.oneCell' loadV splice wantedA Addr.add_lit idxAddr binV strEq flatB scalarB binI unI convI resultsOf resultOf partV undef
end
end Go.Proofs.Ytibejcomfjddfaa.AM
end
section
set_option maxHeartbeats 8000000
set_option linter.unusedVariables false
set_option linter.unusedSimpArgs false

/- Reading and writing for simp; slices that read as lists. -/
namespace Go.Proofs.Ytibejcomfjddfaa.AM
open Go
section
variable {P : Program} {prim : CallF} {σ σ' τ : Heap} {v v' : Value}

def placesS (P : Program) (t : TypeId) : Option (List (Nat × Nat)) := match P.underlying t with
  | some (.struct fields) => List.mapM (fun f => Option.map (fun i => (f.offset, i.size)) (P.info? f.type)) fields.toList
  | _ => none
/-- The places of a literal's parts, structs and arrays. -/
def placesOf (P : Program) (t : TypeId) : Option (List (Nat × Nat)) := match P.underlying t with
  | some (.array n e) => if n ≤ 64 then (P.info? e).map fun ie => (List.range n).map fun i => (i * ie.size, ie.size) else none
  | _ => placesS P t
theorem buildV_struct {t : TypeId} {zs : Array Value} {pl : List (Nat × Nat)} {ps : Array (Nat × Value)} (hz : zeroOf P t = some (.agg zs)) (hf : flatB (.agg zs) = true) (hp : placesS P t = some pl) :
    buildV P t ps = if (ps.all fun (_, x) => !junkB x) = true then (Instr.fill (fun x => pl.toArray[x]?) zs ps.toList).map fun cs => .agg cs else none := by
  unfold buildV
  rw [hz]
  unfold placesS at hp
  split at hp
  · rename_i fs hu
    unfold zeroOf at hz
    cases hi : P.info? t with
    | none => rw [hi] at hz; cases hz
    | some it =>
      rw [hi] at hz
      simp only [Option.bind_some] at hz
      simp only [hf, true_and, Program.built, hi, hu, hz, hp, Value.cells]
  · cases hp

theorem fill_mono {f g : Nat → Option (Nat × Nat)} (hfg : ∀ i x, f i = some x → g i = some x) : ∀ (ps : List (Nat × Value)) (z r : Array Value), Instr.fill f z ps = some r → Instr.fill g z ps = some r
  | [], z, r, h => h
  | (i, v) :: ps, z, r, h => by
    unfold Instr.fill at h ⊢
    cases hi : f i with
    | none => rw [hi] at h; cases h
    | some x =>
      obtain ⟨off, size⟩ := x
      rw [hi] at h
      rw [hfg i _ hi]
      dsimp only at h ⊢
      split at h
      · cases h
      · rename_i hc
        rw [if_neg hc]
        exact fill_mono hfg ps _ r h
theorem buildV_places {t : TypeId} {zs : Array Value} {pl : List (Nat × Nat)} {ps : Array (Nat × Value)} {cs : Array Value} (hz : zeroOf P t = some (.agg zs)) (hf : flatB (.agg zs) = true) (hp : placesOf P t = some pl)
    (hj : (ps.all fun (_, x) => !junkB x) = true) (h : Instr.fill (fun x => pl.toArray[x]?) zs ps.toList = some cs) : buildV P t ps = some (.agg cs) := by
  unfold placesOf at hp
  split at hp
  · rename_i n e hu
    split at hp
    · cases he : P.info? e with
      | none => rw [he] at hp; cases hp
      | some ie =>
        rw [he] at hp
        cases hp
        unfold buildV
        rw [hz]
        unfold zeroOf at hz
        cases hi : P.info? t with
        | none => rw [hi] at hz; cases hz
        | some it =>
          rw [hi] at hz
          simp only [Option.bind_some] at hz
          have h2 := fill_mono (g := fun i => some (i * ie.size, ie.size)) (fun i x hx => by
            simp only [List.getElem?_toArray, List.getElem?_map] at hx
            by_cases hn : i < n
            · rw [List.getElem?_range hn] at hx
              cases hx; rfl
            · rw [List.getElem?_eq_none (by simpa using hn)] at hx
              cases hx) ps.toList zs cs h
          simp only [hf, hj, true_and, if_pos, Program.built, hi, hu, hz, he, Value.cells, h2, Option.map_some]
    · cases hp
  · rw [buildV_struct hz hf hp, if_pos hj, h]; rfl
/-- n cells of a block from place o on. -/
def readB (b : Option Blk) (o n : Nat) : Option (List Value) := match b with
  | some b => if b.perm ≠ .dead ∧ o + n ≤ b.cells.length then some ((b.cells.drop o).take n) else none
  | none => none
@[simp] theorem readN_eq {l o n : Nat} : readN σ ⟨l, o, none⟩ n = readB σ[l]? o n := by
  unfold readN readB
  cases σ[l]? <;> rfl
@[simp] theorem readB_full {cs : List Value} {o n : Nat} : readB (some ⟨cs, .full⟩) o n = if o + n ≤ cs.length then some ((cs.drop o).take n) else none := by simp [readB]
def writeB (b : Option Blk) (o : Nat) (vs : List Value) : Option Blk := match b with
  | some b => if b.perm = .full ∧ o + vs.length ≤ b.cells.length ∧ vs.all cellB = true then some ⟨splice b.cells o vs, .full⟩ else none
  | none => none
@[simp] theorem writeN_eq {l o : Nat} {vs : List Value} : writeN σ ⟨l, o, none⟩ vs = (writeB σ[l]? o vs).map fun b => σ.set l b := by
  unfold writeN writeB
  cases σ[l]? with
  | none => rfl
  | some b => dsimp only; split <;> rfl
@[simp] theorem writeB_full {cs : List Value} {o : Nat} {vs : List Value} : writeB (some ⟨cs, .full⟩) o vs = if o + vs.length ≤ cs.length ∧ vs.all cellB = true then some ⟨splice cs o vs, .full⟩ else none := by simp [writeB]
@[simp] theorem readB_lock {l o n : Nat} : readB (lock σ)[l]? o n = readB σ[l]? o n := by
  rw [lock_get]
  cases σ[l]? with
  | none => rfl
  | some b =>
    obtain ⟨cs, p⟩ := b
    cases p <;> simp [readB, Perm.own]
theorem readB_app {l o n : Nat} {vs : List Value} (h : readB σ[l]? o n = some vs) : readB (σ ++ τ)[l]? o n = some vs := by
  cases hl : σ[l]? with
  | none => rw [hl] at h; cases h
  | some b => rw [List.getElem?_append_left (get_lt hl)]; exact h
theorem readB_part {b : Option Blk} {o n : Nat} {vs : List Value} (h : readB b o n = some vs) {i m : Nat} (hm : i + m ≤ n) : readB b (o + i) m = some ((vs.drop i).take m) := by
  unfold readB at h ⊢
  cases b with
  | none => cases h
  | some b =>
    dsimp only at h ⊢
    split at h
    · rename_i hc
      cases h
      rw [if_pos ⟨hc.1, by omega⟩]
      congr 1
      rw [List.drop_take, List.drop_drop, List.take_take]
      congr 1
      omega
    · cases h
theorem readB_len {b : Option Blk} {o n : Nat} {vs : List Value} (h : readB b o n = some vs) : vs.length = n := by
  unfold readB at h
  cases b with
  | none => cases h
  | some b =>
    dsimp only at h
    split at h
    · cases h; simp; omega
    · cases h

/-- The value is a slice that reads as the list; each element is s cells. -/
structure Rows (σ : Heap) (v : Value) (s : Nat) (l : List (List Value)) : Prop where
  val : ∃ A c, v = .slice A l.length c ∧ (A = none → c = 0) ∧ (l ≠ [] → c < dng)
  cell : ∀ x ∈ l, x.length = s
  at_ : l ≠ [] → ∃ g o c, v = .slice (some ⟨g, o, none⟩) l.length c ∧ readB σ[g]? o (l.length * s) = some l.flatten
theorem Rows.app {s : Nat} {l : List (List Value)} (h : Rows σ v s l) (τ : Heap) : Rows (σ ++ τ) v s l :=
  ⟨h.val, h.cell, fun hn => by obtain ⟨g, o, c, h1, h2⟩ := h.at_ hn; exact ⟨g, o, c, h1, readB_app h2⟩⟩
theorem Rows.lock {s : Nat} {l : List (List Value)} (h : Rows σ v s l) : Rows (lock σ) v s l :=
  ⟨h.val, h.cell, fun hn => by obtain ⟨g, o, c, h1, h2⟩ := h.at_ hn; exact ⟨g, o, c, h1, by rw [readB_lock]; exact h2⟩⟩
theorem flatten_len {s : Nat} : ∀ {l : List (List Value)}, (∀ x ∈ l, x.length = s) → l.flatten.length = l.length * s
  | [], _ => by simp
  | x :: l, h => by
    rw [List.flatten_cons, List.length_append, flatten_len fun y hy => h y (by simp [hy]), h x (by simp), List.length_cons, Nat.add_mul]; omega
theorem flatten_at {s : Nat} : ∀ {l : List (List Value)}, (∀ x ∈ l, x.length = s) → ∀ {k : Nat} {x : List Value}, l[k]? = some x → (l.flatten.drop (k * s)).take s = x
  | [], _, k, x, hx => by simp at hx
  | y :: l, h, 0, x, hx => by
    simp at hx
    subst hx
    have := h y (by simp)
    simp [List.take_append, ← this]
  | y :: l, h, k + 1, x, hx => by
    have hy := h y (by simp)
    have ih := flatten_at (l := l) (fun z hz => h z (by simp [hz])) (k := k) (x := x) (by simpa using hx)
    rw [List.flatten_cons, Nat.add_mul, Nat.one_mul, Nat.add_comm, ← List.drop_drop, ← hy, List.drop_left, hy]
    exact ih
/-- Element k, cells from j on. -/
theorem Rows.read {s : Nat} {l : List (List Value)} (h : Rows σ v s l) {g o n c : Nat} (hv : v = .slice (some ⟨g, o, none⟩) n c) {k : Nat} {x : List Value} (hx : l[k]? = some x) {j m : Nat} (hj : j + m ≤ s) :
    readB σ[g]? (o + k * s + j) m = some ((x.drop j).take m) := by
  have hk := get_lt hx
  obtain ⟨g', o', c', h1, h2⟩ := h.at_ (by intro e; rw [e] at hk; simp at hk)
  rw [h1] at hv
  cases hv
  have hks : k * s + s ≤ l.length * s := by
    rw [← Nat.succ_mul]; exact Nat.mul_le_mul_right _ hk
  have := readB_part h2 (i := k * s + j) (m := m) (by omega)
  rw [Nat.add_assoc, this]
  congr 1
  have hf := flatten_at h.cell hx
  rw [← List.drop_drop, ← hf]
  rw [List.drop_take, List.take_take]
  congr 1
  omega
theorem Rows.nil {s : Nat} : Rows σ (.slice none 0 0) s [] := ⟨⟨none, 0, rfl, fun _ => rfl, fun h => absurd rfl h⟩, by simp, fun h => absurd rfl h⟩
/-- A block of its own, just told. -/
theorem Rows.of {s : Nat} {l : List (List Value)} {g c : Nat} {x : Blk} (hg : σ[g]? = some x) (hp : x.perm ≠ .dead) (hx : x.cells.take (l.length * s) = l.flatten) (hc : ∀ y ∈ l, y.length = s) (hcap : c < dng) : Rows σ (.slice (some ⟨g, 0, none⟩) l.length c) s l := by
  refine ⟨⟨_, _, rfl, fun h => (by cases h), fun _ => hcap⟩, hc, fun _ => ⟨g, 0, c, rfl, ?_⟩⟩
  have hl := flatten_len hc
  rw [hg]
  unfold readB
  have : l.length * s ≤ x.cells.length := by
    rw [← hl, ← hx]; simp; omega
  simp [hp, this, hx]
end
end Go.Proofs.Ytibejcomfjddfaa.AM
end
section
set_option maxHeartbeats 8000000
set_option linter.unusedVariables false
set_option linter.unusedSimpArgs false

/- Slices of one's own: append. -/
namespace Go.Proofs.Ytibejcomfjddfaa.AM
open Go
section
variable {P : Program} {prim : CallF} {σ σ' τ : Heap} {v v' : Value}
/-- buildSliceV, not to be opened. -/
def buildSliceV' (P : Program) (t : TypeId) (len : Nat) (parts : Array (Nat × Value)) : Option (List Value) := buildSliceV P t len parts
def capIs (c s n total : Nat) : Prop := match capOf c with
  | .exact C => n ≤ C ∧ C * s ≤ total
  | .unk es lb => es = s ∧ n ≤ lb ∧ lb * s ≤ total
  | .dng => False
theorem capIs_of {c s n lb total : Nat} (hc : capOf c = .unk s lb) (hn : n ≤ lb) (h : lb * s ≤ total) : capIs c s n total := by
  unfold capIs
  rw [hc]
  exact ⟨rfl, hn, h⟩
/-- A slice of one's own: it begins its block, and B holds of the block's number. -/
def Own (B : Nat → Prop) (σ : Heap) (v : Value) (s : Nat) (l : List (List Value)) : Prop :=
  (∀ x ∈ l, x.length = s ∧ x.all cellB = true) ∧ ((v = .slice none 0 0 ∧ l = []) ∨ ∃ g c rest, v = .slice (some ⟨g, 0, none⟩) l.length c ∧ B g ∧ σ[g]? = some ⟨l.flatten ++ rest, .full⟩ ∧ capIs c s l.length (l.length * s + rest.length))
theorem Own.nil {B : Nat → Prop} {s : Nat} : Own B σ (.slice none 0 0) s [] := ⟨by simp, .inl ⟨rfl, rfl⟩⟩
theorem capIs_le {c s n total : Nat} (h : capIs c s n total) : capIs c s 0 total := by
  unfold capIs at *
  split at h
  · exact ⟨by omega, h.2⟩
  · exact ⟨h.1, by omega, h.2.2⟩
  · exact h
theorem capIs_dng {c s n m : Nat} (h : capIs c s n m) : c < dng := by
  unfold capIs at h
  split at h
  · rename_i C hc; have := (capOf_exact hc).2; simp only [top, dng] at *; omega
  · rename_i es lb hc
    by_cases hd : c < dng
    · exact hd
    · exfalso
      rw [capOf_unk hc] at hd hc
      exact unk_dng (Nat.le_of_not_lt hd) hc
  · exact h.elim
theorem Own.rows {B : Nat → Prop} {s : Nat} {l : List (List Value)} (h : Own B σ v s l) : Rows σ v s l := by
  obtain ⟨hc, ⟨rfl, rfl⟩ | ⟨g, c, rest, rfl, hB, hg, hcap⟩⟩ := h
  · exact .nil
  · exact .of hg (by simp) (by simp only; rw [← flatten_len fun x hx => (hc x hx).1, List.take_left]) (fun x hx => (hc x hx).1) (capIs_dng hcap)
theorem Own.frame {B : Nat → Prop} {s : Nat} {l : List (List Value)} (h : Own B σ v s l) (hf : ∀ g, B g → g < σ.length → σ'[g]? = σ[g]?) : Own B σ' v s l := by
  obtain ⟨hc, h0 | ⟨g, c, rest, h1, hB, hg, hcap⟩⟩ := h
  · exact ⟨hc, .inl h0⟩
  · exact ⟨hc, .inr ⟨g, c, rest, h1, hB, by rw [hf g hB (get_lt hg)]; exact hg, hcap⟩⟩
theorem Own.weaken {B B' : Nat → Prop} {s : Nat} {l : List (List Value)} (h : Own B σ v s l) (hB : ∀ g, B g → g < σ.length → B' g) : Own B' σ v s l := by
  obtain ⟨hc, h0 | ⟨g, c, rest, h1, h2, hg, hcap⟩⟩ := h
  · exact ⟨hc, .inl h0⟩
  · exact ⟨hc, .inr ⟨g, c, rest, h1, hB g h2 (get_lt hg), hg, hcap⟩⟩
theorem Own.app {B : Nat → Prop} {s : Nat} {l : List (List Value)} (h : Own B σ v s l) (τ : Heap) : Own B (σ ++ τ) v s l := h.frame fun g _ hg => List.getElem?_append_left hg
theorem Own.len {B : Nat → Prop} {s : Nat} {l : List (List Value)} (h : Own B σ v s l) : ∃ A c, v = .slice A l.length c := by
  obtain ⟨_, ⟨h1, h2⟩ | ⟨g, c, rest, h1, _⟩⟩ := h
  · subst h2; exact ⟨_, _, h1⟩
  · exact ⟨_, _, h1⟩
/-- What append asks of types. -/
def appT (P : Program) (t tx : TypeId) (s : Nat) : Bool :=
  match P.underlying t, P.underlying tx with
  | some (.slice e), some (.slice _) => match szOf P e, byOf P e, zeroOf P e with
    | some s', some b, some z => s == s' && s' != 0 && z.cells.size == s' && decide (s' ≤ 1048576) && decide (b ≤ 4096)
    | _, _, _ => false
  | _, _ => false
theorem Rows.src {t : TypeId} {tx s : Nat} {xs : List (List Value)} (h : Rows σ v s xs) (ht : appT P t tx s = true) (h0 : xs ≠ [] ∨ v = .slice none 0 0) : srcOf P σ s tx v = some (xs.length, xs.flatten) := by
  unfold appT at ht
  split at ht
  · rename_i e e' h1 h2
    unfold srcOf
    rw [h2]
    by_cases hn : xs = []
    · rcases h0 with h0 | h0
      · exact (h0 hn).elim
      · subst hn; subst h0; rfl
    · obtain ⟨g, o, c, e1, e2⟩ := h.at_ hn
      subst e1
      simp only [readN_eq, e2]
      rfl
  · cases ht
theorem splice_own {l : List (List Value)} {rest xs : List Value} {s : Nat} (hc : ∀ x ∈ l, x.length = s) (hl : xs.length ≤ rest.length) : splice (l.flatten ++ rest) (l.length * s) xs = l.flatten ++ xs ++ rest.drop xs.length := by
  have := flatten_len hc
  unfold splice
  rw [← this, List.take_left, List.append_assoc, List.append_assoc]
  congr 2
  rw [← List.drop_drop, List.drop_left]
theorem append_nil {q : Bool} {t tx e size bytes m : Nat} {z : Value} {x : Value} {xs : List Value} (h1 : P.underlying t = some (.slice e)) (h3 : szOf P e = some size) (h4 : byOf P e = some bytes) (h5 : zeroOf P e = some z) (hs : srcOf P σ size tx x = some (m, xs))
    (hc : size ≠ 0 ∧ z.cells.size = size ∧ size ≤ 1048576 ∧ bytes ≤ 4096 ∧ 0 + m ≤ 17179869184 ∧ xs.all cellB = true) : aAppend P q t tx (.slice none 0 0) x σ = if m = 0 then some (.slice none 0 0, σ) else some (.slice (some ⟨σ.length, 0, none⟩) m (unk size m), σ ++ [⟨xs, .full⟩]) := by
  unfold aAppend
  rw [h1]; dsimp only
  rw [h3, h4, h5]; dsimp only
  rw [hs]; dsimp only
  rw [if_neg (Decidable.not_not.2 hc), if_pos ⟨rfl, rfl⟩]
  unfold newBlk
  rw [if_pos hc.2.2.2.2.2]
  rfl
theorem append_exact {t tx e size bytes m n c : Nat} {z : Value} {x : Value} {a : Addr} {xs : List Value} (h1 : P.underlying t = some (.slice e)) (h3 : szOf P e = some size) (h4 : byOf P e = some bytes) (h5 : zeroOf P e = some z) (hs : srcOf P σ size tx x = some (m, xs))
    (hc : size ≠ 0 ∧ z.cells.size = size ∧ size ≤ 1048576 ∧ bytes ≤ 4096 ∧ n + m ≤ 17179869184 ∧ xs.all cellB = true) (hcap : capOf c = .exact c) : aAppend P false t tx (.slice (some a) n c) x σ =
      if n + m ≤ c then (if m = 0 then some (.slice (some a) n c, σ) else (writeN σ (a.add (n * size)) xs).map fun σ' => (.slice (some a) (n + m) c, σ'))
            else match readN σ a (n * size) with
              | some olds => (newBlk σ (olds ++ xs)).map fun (a, σ') => (.slice (some a) (n + m) (unk size (n + m)), σ')
              | none => none := by
  unfold aAppend
  rw [h1]; dsimp only
  rw [h3, h4, h5]; dsimp only
  rw [hs]; dsimp only
  rw [if_neg (Decidable.not_not.2 hc), hcap]
  rfl
theorem append_unk {t tx e size bytes m n c es lb : Nat} {z : Value} {x : Value} {l : Nat} {xs : List Value} {b : Blk} (h1 : P.underlying t = some (.slice e)) (h3 : szOf P e = some size) (h4 : byOf P e = some bytes) (h5 : zeroOf P e = some z) (hs : srcOf P σ size tx x = some (m, xs))
    (hc : size ≠ 0 ∧ z.cells.size = size ∧ size ≤ 1048576 ∧ bytes ≤ 4096 ∧ n + m ≤ 17179869184 ∧ xs.all cellB = true) (hcap : capOf c = .unk es lb) (hb : σ[l]? = some b) : aAppend P false t tx (.slice (some ⟨l, 0, none⟩) n c) x σ =
      if m = 0 then some (.slice (some ⟨l, 0, none⟩) n c, σ)
            else if n + m ≤ lb then (writeN σ (Addr.add ⟨l, 0, none⟩ (n * size)) xs).map fun σ' => (.slice (some ⟨l, 0, none⟩) (n + m) c, σ')
            else if b.perm = .full ∧ n * size ≤ b.cells.length ∧ es = size then (newBlk (kill σ l) (b.cells.take (n * size) ++ xs)).map fun (a, σ') => (.slice (some a) (n + m) (unk size (n + m)), σ')
                else none := by
  unfold aAppend
  rw [h1]; dsimp only
  rw [h3, h4, h5]; dsimp only
  rw [hs]; dsimp only
  rw [if_neg (Decidable.not_not.2 hc), hcap]; dsimp only
  rw [hb]
  rfl
theorem Own.appendF {B : Nat → Prop} {s : Nat} {l xs : List (List Value)} {t tx : TypeId} {src : Value} (h : Own B σ v s l) (ht : appT P t tx s = true) (hsrc : srcOf P σ s tx src = some (xs.length, xs.flatten))
    (hxs : ∀ x ∈ xs, x.length = s) (hx : ∀ x ∈ xs, x.all cellB = true) (hlen : l.length + xs.length ≤ 17179869184) (hB : B σ.length) :
    ∃ v' σ', aAppend P false t tx v src σ = some (v', σ') ∧ Own B σ' v' s (l ++ xs) ∧ (∀ g, g < σ.length → ¬ B g → σ'[g]? = σ[g]?) ∧ σ.length ≤ σ'.length := by
  obtain ⟨hc2, hv⟩ := h
  have hc : ∀ x ∈ l, x.length = s := fun x hx => (hc2 x hx).1
  have hcc : ∀ x ∈ l ++ xs, x.length = s ∧ x.all cellB = true := fun x hm => by
    rcases List.mem_append.1 hm with hm | hm
    · exact hc2 x hm
    · exact ⟨hxs x hm, hx x hm⟩
  have hallo : (l.flatten ++ xs.flatten).all cellB = true := by
    rw [← List.flatten_append, List.all_eq_true]
    intro y hy
    obtain ⟨x, hm, hy⟩ := List.mem_flatten.1 hy
    exact List.all_eq_true.1 (hcc x hm).2 y hy
  have hxl := flatten_len hxs
  have hall : xs.flatten.all cellB = true := by
    rw [List.all_eq_true]
    intro y hy
    obtain ⟨x, hm, hy⟩ := List.mem_flatten.1 hy
    exact List.all_eq_true.1 (hx x hm) y hy
  unfold appT at ht
  split at ht
  · rename_i e e' h1 h2
    split at ht
    · rename_i s' b z h3 h4 h5
      simp only [Bool.and_eq_true, beq_iff_eq, bne_iff_ne, decide_eq_true_eq] at ht
      obtain ⟨⟨⟨⟨rfl, ht2⟩, ht3⟩, ht4⟩, ht5⟩ := ht
      have hs0 : 0 < s := Nat.pos_of_ne_zero ht2
      rcases hv with ⟨rfl, rfl⟩ | ⟨g, c, rest, rfl, hBg, hg, hcap⟩
      · rw [append_nil h1 h3 h4 h5 hsrc ⟨ht2, ht3, ht4, ht5, by simpa using hlen, hall⟩]
        by_cases hm : xs.length = 0
        · have : xs = [] := List.eq_nil_of_length_eq_zero hm
          subst this
          exact ⟨.slice none 0 0, σ, by simp, .nil, fun _ _ _ => rfl, Nat.le_refl _⟩
        · rw [if_neg hm]
          refine ⟨_, _, rfl, ⟨hcc, .inr ⟨σ.length, unk s xs.length, [], by simp, hB, by simp, ?_⟩⟩, fun k hk _ => List.getElem?_append_left hk, by simp⟩
          refine capIs_of (lb := xs.length) (capOf_unk_eq (by simp only [top]; simp only [List.length_nil] at hlen; omega) (by omega)) (by simp) ?_
          simp only [List.nil_append, List.length_nil, Nat.add_zero, Nat.le_refl]
      · have hlt := get_lt hg
        have hlf := flatten_len hc
        have inplace : (l.length + xs.length) * s ≤ l.length * s + rest.length → capIs c s (l.length + xs.length) (l.length * s + rest.length) → ∃ v' σ', (writeN σ (Addr.add ⟨g, 0, none⟩ (l.length * s)) xs.flatten).map (fun σ' => ((Value.slice (some ⟨g, 0, none⟩) (l.length + xs.length) c), σ')) = some (v', σ') ∧ Own B σ' v' s (l ++ xs) ∧ (∀ g, g < σ.length → ¬ B g → σ'[g]? = σ[g]?) ∧ σ.length ≤ σ'.length   := fun hfit hcapn => by
          rw [Nat.add_mul] at hfit
          have hr : xs.flatten.length ≤ rest.length := by omega
          rw [Addr.add_lit, writeN_eq, hg, writeB_full, if_pos ⟨by rw [List.length_append]; omega, hall⟩]
          refine ⟨_, _, rfl, ⟨hcc, .inr ⟨g, c, rest.drop xs.flatten.length, by simp, hBg, ?_, ?_⟩⟩, fun k hk hnB => ?_, by simp⟩
          · rw [Nat.zero_add, splice_own hc hr, List.getElem?_set_self hlt]
            simp
          · have : (l ++ xs).length * s + (rest.drop xs.flatten.length).length = l.length * s + rest.length := by
              rw [List.length_append, Nat.add_mul, List.length_drop]; omega
            rw [this, List.length_append]; exact hcapn
          · rw [List.getElem?_set_ne (by intro e; subst e; exact hnB hBg)]
        have hcap' := hcap
        unfold capIs at hcap
        split at hcap
        · rename_i C hC
          have hCc := (capOf_exact hC).1
          subst hCc
          rw [append_exact h1 h3 h4 h5 hsrc ⟨ht2, ht3, ht4, ht5, hlen, hall⟩ hC]
          by_cases hfit : l.length + xs.length ≤ C
          · rw [if_pos hfit]
            by_cases hm : xs.length = 0
            · have : xs = [] := List.eq_nil_of_length_eq_zero hm
              subst this
              exact ⟨.slice (some ⟨g, 0, none⟩) l.length C, σ, by simp, by rw [List.append_nil]; exact ⟨hc2, .inr ⟨g, _, rest, rfl, hBg, hg, hcap'⟩⟩, fun _ _ _ => rfl, Nat.le_refl _⟩
            · rw [if_neg hm]
              exact inplace (Nat.le_trans (Nat.mul_le_mul_right _ hfit) hcap.2) (by unfold capIs; rw [hC]; exact ⟨hfit, hcap.2⟩)
          · rw [if_neg hfit, readN_eq, hg, readB_full, if_pos (by rw [List.length_append, hlf]; omega)]
            simp only [List.drop_zero]
            rw [← hlf, List.take_left]
            simp only [newBlk, hallo, if_true]
            refine ⟨_, _, rfl, ⟨hcc, .inr ⟨σ.length, unk s (l.length + xs.length), [], by simp, hB, by simp, ?_⟩⟩, fun k hk _ => List.getElem?_append_left hk, by simp⟩
            refine capIs_of (lb := l.length + xs.length) (capOf_unk_eq (by simp only [top]; omega) (by omega)) (by simp only [List.length_append, Nat.le_refl]) ?_
            simp only [List.length_append, List.length_nil, Nat.add_zero, Nat.le_refl]
        · rename_i es lb hC
          obtain ⟨rfl, hnlb, hlb⟩ := hcap
          rw [append_unk h1 h3 h4 h5 hsrc ⟨ht2, ht3, ht4, ht5, hlen, hall⟩ hC hg]
          by_cases hm : xs.length = 0
          · have : xs = [] := List.eq_nil_of_length_eq_zero hm
            subst this
            exact ⟨.slice (some ⟨g, 0, none⟩) l.length c, σ, by simp, by rw [List.append_nil]; exact ⟨hc2, .inr ⟨g, _, rest, rfl, hBg, hg, hcap'⟩⟩, fun _ _ _ => rfl, Nat.le_refl _⟩
          · rw [if_neg hm]
            by_cases hfit : l.length + xs.length ≤ lb
            · rw [if_pos hfit]
              exact inplace (Nat.le_trans (Nat.mul_le_mul_right _ hfit) hlb) (by unfold capIs; rw [hC]; exact ⟨rfl, hfit, hlb⟩)
            · rw [if_neg hfit, if_pos ⟨rfl, by simp only [List.length_append, hlf]; omega, rfl⟩, ← hlf, List.take_left]
              unfold newBlk
              rw [if_pos hallo]
              refine ⟨_, _, rfl, ⟨hcc, .inr ⟨σ.length, unk es (l.length + xs.length), [], by simp [kill_len], hB, by rw [List.getElem?_append_right (by simp [kill_len])]; simp [kill_len], ?_⟩⟩, fun k hk hnB => ?_, by simp [kill_len]⟩
              · refine capIs_of (lb := l.length + xs.length) (capOf_unk_eq (by simp only [top]; omega) (by omega)) (by simp only [List.length_append, Nat.le_refl]) ?_
                simp only [List.length_append, List.length_nil, Nat.add_zero, Nat.le_refl]
              · rw [List.getElem?_append_left (by rw [kill_len]; exact hk), kill_get, if_neg (by intro e; subst e; exact hnB hBg)]
        · exact hcap.elim
    · cases ht
  · cases ht
theorem Own.append {B : Nat → Prop} {s : Nat} {l xs : List (List Value)} {t tx : TypeId} {src : Value} (h : Own B σ v s l) (ht : appT P t tx s = true) (hsrc : srcOf P σ s tx src = some (xs.length, xs.flatten))
    (hxs : ∀ x ∈ xs, x.length = s) (hx : ∀ x ∈ xs, x.all cellB = true) (hlen : l.length + xs.length ≤ 17179869184) (hB : B σ.length) {k : KV}
    (hk : ∀ v' σ', Own B σ' v' s (l ++ xs) → (∀ g, g < σ.length → ¬ B g → σ'[g]? = σ[g]?) → σ.length ≤ σ'.length → k.run v' σ') : @VA (aAppend P false t tx v src σ) k := by
  obtain ⟨v', σ', h1, h2, h3, h4⟩ := h.appendF ht hsrc hxs hx hlen hB
  rw [h1]
  exact hk v' σ' h2 h3 h4
/-- Nothing of one's own slice. -/
theorem Own.zero {B : Nat → Prop} {s n g c : Nat} {l : List (List Value)} (h : Own B σ (.slice (some ⟨g, 0, none⟩) n c) s l) : Own B σ (.slice (some ⟨g, 0, none⟩) 0 c) s [] := by
  obtain ⟨hc, ⟨h1, _⟩ | ⟨g', c', rest, h1, hB, hg, hcap⟩⟩ := h
  · cases h1
  · cases h1
    have := flatten_len fun x hx => (hc x hx).1
    exact ⟨by simp, .inr ⟨g, c, l.flatten ++ rest, rfl, hB, by simpa using hg, capIs_le (n := l.length) (by simpa [this] using hcap)⟩⟩
theorem Own.slice0 {B : Nat → Prop} {s n g c t e : Nat} {l : List (List Value)} {k : IntKind} (h : Own B σ (.slice (some ⟨g, 0, none⟩) n c) s l) (ht : P.underlying t = some (.slice e)) (hs : szOf P e = some s) : aSlice P t (.slice (some ⟨g, 0, none⟩) n c) none (some (.int k 0)) none = some (.slice (some ⟨g, 0, none⟩) 0 c) := by
  obtain ⟨hc, ⟨h1, _⟩ | ⟨g', c', rest, h1, hB, hg, hcap⟩⟩ := h
  · cases h1
  · cases h1
    unfold aSlice
    simp only [intOpt]
    rw [ht]; dsimp only
    rw [hs]; dsimp only
    unfold capIs at hcap
    split at hcap
    · rename_i C hC
      have hCc := (capOf_exact hC).1
      subst hCc
      rw [hC]; dsimp only
      simp [bounds]
    · rename_i es lb hC
      rw [hC]; dsimp only
      simp [bounds]
    · exact hcap.elim
/-- Made zeros at nil. -/
theorem Own.zeros {B : Nat → Prop} {s b n t e : Nat} {k : IntKind} {z : List Value} (ht : P.underlying t = some (.slice e)) (hs : szOf P e = some s) (hb : byOf P e = some b) (hz : ∀ n, zerosOf P e n = some (List.replicate n z).flatten) (hzs : z.length = s) (hzc : z.all cellB = true)
    (h0 : 0 < n) (hn : n ≤ 17179869184) (hs0 : 0 < s) (hs1 : s ≤ 1048576) (hb4 : b ≤ 4096) (hB : B σ.length) :
    aZeros P t (.slice none 0 0) (.int k n) σ = some (.slice (some ⟨σ.length, 0, none⟩) n (unk s n), σ ++ [⟨(List.replicate n z).flatten, .full⟩]) ∧ Own B (σ ++ [⟨(List.replicate n z).flatten, .full⟩]) (.slice (some ⟨σ.length, 0, none⟩) n (unk s n)) s (List.replicate n z) := by
  refine ⟨?_, ?_⟩
  · simp only [aZeros, ht, hs, hb, hz]
    rw [if_pos ⟨by omega, by omega, hs0, hs1, hb4⟩]
    unfold newBlk
    rw [if_pos (by
      rw [List.all_eq_true]
      intro y hy
      obtain ⟨x, hm, hy⟩ := List.mem_flatten.1 hy
      rw [(List.mem_replicate.1 hm).2] at hy
      exact List.all_eq_true.1 hzc y hy)]
    rfl
  · refine ⟨fun x hx => by rw [(List.mem_replicate.1 hx).2]; exact ⟨hzs, hzc⟩, .inr ⟨σ.length, unk s n, [], by rw [List.length_replicate], hB, by simp, ?_⟩⟩
    refine capIs_of (lb := n) (capOf_unk_eq (by simp only [top]; omega) (by omega)) (by simp only [List.length_replicate, Nat.le_refl]) ?_
    simp only [List.length_replicate, List.length_nil, Nat.add_zero, Nat.le_refl]
/-- A slice literal of one element. -/
@[simp] theorem buildSliceV_one {t : TypeId} {x : Value} : buildSliceV P t 1 #[(0, x)] = match P.underlying t with
    | some (.slice e) => match szOf P e, zerosOf P e 1 with
      | some s, some zs => if zs.length = s ∧ 0 < s ∧ s ≤ 16777216 ∧ junkB x = false ∧ x.cells.size = s then some x.cells.toList else buildSliceV' P t 1 #[(0, x)]
      | _, _ => none
    | _ => none := by
  unfold buildSliceV' buildSliceV
  cases P.underlying t with
  | none => rfl
  | some d =>
    cases d <;> try rfl
    rename_i e
    dsimp only
    cases szOf P e with
    | none => rfl
    | some s =>
      cases zerosOf P e 1 with
      | none => rfl
      | some zs =>
        dsimp only
        by_cases h : zs.length = s ∧ 0 < s ∧ s ≤ 16777216 ∧ junkB x = false ∧ x.cells.size = s
        · rw [if_pos h]
          obtain ⟨h1, h0, h2, h3, h4⟩ := h
          rw [if_pos ⟨by omega, by decide, by simpa using h3⟩]
          have := Great.fill_whole h0 [x] zs.toArray (by simpa using h4) (by simp [h1])
          simp at this
          rw [this]
          simp
        · rw [if_neg h]
/-- A loop's first round. -/
theorem w_once {c : Code} {K : Ex → Env → Heap → Prop} {e : Env} (h : W P prim c (Then (W P prim (.loop c) K) K) e σ) : W P prim (.loop c) K e σ := by
  obtain ⟨k, y, e1, σ1, h1, h2⟩ := h
  cases y with
  | normal =>
    obtain ⟨j, x2, e2, σ2, h3, h4⟩ := h2
    refine ⟨max k j + 1, x2, e2, σ2, ?_, h4⟩
    simp only [exec]
    rw [exec_mono (Nat.le_max_left k j) h1]
    exact exec_mono (Nat.le_max_right k j) h3
  | exit i => exact ⟨k + 1, _, _, _, by simp only [exec]; rw [h1], h2⟩
  | ret => exact ⟨k + 1, _, _, _, by simp only [exec]; rw [h1], h2⟩
/-- What stood before stands. -/
def Ext (σ ρ : Heap) : Prop := ∀ g, g < σ.length → ρ[g]? = σ[g]?
theorem Ext.refl : Ext σ σ := fun _ _ => rfl
theorem Ext.app {τ : Heap} : Ext σ (σ ++ τ) := fun _ h => List.getElem?_append_left h
theorem Ext.ex {ρ : Heap} (h : Ext σ ρ) : ∃ τ, ρ = σ ++ τ := by
  refine ⟨ρ.drop σ.length, ?_⟩
  refine List.ext_getElem? fun i => ?_
  by_cases hi : i < σ.length
  · rw [List.getElem?_append_left hi, h i hi]
  · rw [List.getElem?_append_right (by omega), List.getElem?_drop]
    congr 1
    omega
theorem Ext.len {ρ : Heap} (h : Ext σ ρ) : σ.length ≤ ρ.length := by
  obtain ⟨τ, rfl⟩ := h.ex
  simp
end
end Go.Proofs.Ytibejcomfjddfaa.AM
end
