/- Code and calls of the abstract machine promise those of the model. -/
import Derived.Test.YtenbclcfhjdcaaaAMm
namespace Go.Proofs.Ytenbclcfhjdcaaa.AM
open Go Go.RowKit
section
variable {P : Program} {prim : CallF} {μ : Mu} {σ σ' : Heap} {w w' : World} {v v' : Value} {e e' : Env} {a : Act} {call : CallF}

theorem region_le {ops : Array Oper} {draw : Bool} (hcall : CallOk P call) (h : runRegion P call ops draw e σ = some (e', σ')) : Le σ σ' := by
  unfold runRegion at h
  split at h
  · split at h
    · rename_i ord q hp
      cases hr : runOps P call true ops ((ord.take q).map (ops.getD · default)) e σ with
      | none => rw [hr] at h; cases h
      | some r =>
        obtain ⟨e1, σ1⟩ := r
        rw [hr] at h
        exact (runOps_le hcall _ hr).trans (runOps_le hcall _ h)
    · cases h
  · exact runOps_le hcall _ h

theorem callOf_le {run : Code → Env → Heap → Option (Ex × Env × Heap)} (hr : ∀ c e σ x e' σ', run c e σ = some (x, e', σ') → Le σ σ') {f : FuncId} {args : Array Value} (h : callOf P run f args σ = some (v, σ')) : Le σ σ' := by
  unfold callOf at h
  split at h
  · split at h
    · split at h
      · split at h
        · cases h
        · rename_i x e1 σ1 _ hrun
          cases hs : resultsOf P _ e1 σ1 with
          | none => rw [hs] at h; cases h
          | some u => rw [hs] at h; cases h; exact hr _ _ _ _ _ _ hrun
        · cases h
      · cases h
    · cases h
  · cases h

def exitOf : Ex → Exit
  | .normal => .normal
  | .exit id => .exit id
  | .ret => .ret
def PostX (nt : Nat) (μ : Mu) (σ : Heap) (w : World) (x : Ex) (e' : Env) (σ' : Heap) : Exit → Act → World → Prop := fun y a' w' => y = exitOf x ∧ Post nt μ σ w e' σ' a' w'
/-- What a run of code of the abstract machine promises. -/
def RunOk (P : Program) (run : Code → Env → Heap → Option (Ex × Env × Heap)) : Prop :=
  ∀ c e σ x e' σ', run c e σ = some (x, e', σ') → Le σ σ' ∧
    ∀ nt μ a w, okCode nt c = true → Sim μ σ w.heap → (∀ l, σ.length ≤ l → l < σ'.length → μ l = none) → EnvR μ e a → a.tmps.size = nt → a.defers = [] → c.wp P (PostX nt μ σ w x e' σ') a w

theorem callOk_of_run {run : Code → Env → Heap → Option (Ex × Env × Heap)} (hrun : RunOk P run) : CallOk P (callOf P run) := by
  intro f args σ v σ' h
  have hle := callOf_le (fun c e σ x e' σ' h => (hrun c e σ x e' σ' h).1) h
  unfold callOf at h
  cases hf : P.funcs[f]? with
  | none => rw [hf] at h; cases h
  | some fn =>
    rw [hf] at h
    dsimp only at h
    cases hb : fn.body with
    | none => rw [hb] at h; cases h
    | some c =>
      rw [hb] at h
      dsimp only at h
      split at h
      · rename_i hok
        obtain ⟨hok, hsz⟩ := hok
        have hok' : fn.name ≠ "runtime.NumGoroutine" ∧ okCode fn.ntmps c = true := by
          unfold okFn at hok
          rw [hb] at hok
          simpa using hok
        refine ⟨⟨fn, c, rfl, hb, hok'.1⟩, hle, fun args' μ w hargs hS hU => ?_⟩
        have hargsz : args'.size = args.size := by simpa using hargs.1
        cases hr : run c (fun i => args.getD i undef) σ with
        | none => rw [hr] at h; cases h
        | some r =>
          obtain ⟨x, e1, σ1⟩ := r
          rw [hr] at h
          have key : ∀ y, x = y → (∀ id, y ≠ .exit id) → (resultsOf P fn.results.toList e1 σ1).map (·, σ1) = some (v, σ') → Calls P f args' w fun e w' => ∃ v' μ', e = .returned v' ∧ Val μ' v v' ∧ Sim μ' σ' w'.heap ∧ Fr false μ σ w μ' σ' w' := by
            intro y exy hny h
            cases hs : resultsOf P fn.results.toList e1 σ1 with
            | none => rw [hs] at h; cases h
            | some u =>
              rw [hs] at h
              cases h
              refine calls_of_wp hf hb ?_
              have henv : EnvR μ (fun i => args.getD i undef) { tmps := args' ++ Array.replicate (fn.ntmps - args'.size) undef, defers := [] } := by
                intro i
                simp only [Array.getD_eq_getD_getElem?]
                rcases Nat.lt_or_ge i args.size with hi | hi
                · rw [Array.getElem?_append_left (by omega)]
                  obtain ⟨u', g1, g2⟩ := hargs.get (i := i) (v := args[i]) (by simp [hi])
                  simp at g1
                  rw [g1]
                  simp [hi]
                  exact g2
                · rw [Array.getElem?_eq_none hi, Array.getElem?_append_right (by omega)]
                  have : ((Array.replicate (fn.ntmps - args'.size) undef)[i - args'.size]?).getD undef = undef := by
                    rw [Array.getElem?_replicate]
                    split <;> rfl
                  rw [this]
                  exact .undef
              have hwp := (hrun _ _ _ _ _ _ hr).2 fn.ntmps μ _ w hok'.2 hS hU henv (by simp; omega) rfl
              refine wp_mono hwp fun y' a' w' ⟨hy, μ', k1, k2, k3, k4, k5⟩ => ?_
              obtain ⟨v', g1, g2⟩ := results_sound k1 k3 hs
              subst hy
              cases x with
              | normal => exact ⟨k5, v', g1, v', μ', rfl, g2, k1, k2⟩
              | ret => exact ⟨k5, v', g1, v', μ', rfl, g2, k1, k2⟩
              | exit id => exact absurd exy.symm (hny id)
          cases x with
          | exit id => cases h
          | normal => exact key .normal rfl (fun id => by simp) h
          | ret => exact key .ret rfl (fun id => by simp) h
      · cases h

theorem withPrim_ok {call : CallF} (h1 : CallOk P prim) (h2 : CallOk P call) : CallOk P (withPrim prim call) := by
  intro f args σ v σ' h
  unfold withPrim at h
  split at h
  · rename_i r hr
    cases h
    exact h1 _ _ _ _ _ hr
  · exact h2 _ _ _ _ _ h
theorem exec_sound (hm : P.follows .mixedOrders = true) (hprim : CallOk P prim) : ∀ n, RunOk P (exec P prim n) ∧ ∀ c e σ x e' σ', exec P prim n (.loop c) e σ = some (x, e', σ') → ∀ nt μ a w, okCode nt c = true → Sim μ σ w.heap → (∀ l, σ.length ≤ l → l < σ'.length → μ l = none) → EnvR μ e a → a.tmps.size = nt → a.defers = [] →
    Code.rounds P c (PostX nt μ σ w x e' σ') n a w
  | 0 => ⟨fun c e σ x e' σ' h => by simp [exec] at h, fun c e σ x e' σ' h => by simp [exec] at h⟩
  | n + 1 => by
    obtain ⟨ihA, ihB⟩ := exec_sound hm hprim n
    have hcall := withPrim_ok hprim (callOk_of_run ihA)
    have loopB : ∀ c e σ x e' σ', exec P prim (n + 1) (.loop c) e σ = some (x, e', σ') → Le σ σ' ∧ ∀ nt μ a w, okCode nt c = true → Sim μ σ w.heap → (∀ l, σ.length ≤ l → l < σ'.length → μ l = none) → EnvR μ e a → a.tmps.size = nt → a.defers = [] →
        Code.rounds P c (PostX nt μ σ w x e' σ') (n + 1) a w := by
      intro c e σ x e' σ' h
      simp only [exec] at h
      cases h1 : exec P prim n c e σ with
      | none => rw [h1] at h; cases h
      | some r =>
        obtain ⟨x1, e1, σ1⟩ := r
        rw [h1] at h
        obtain ⟨le1, s1⟩ := ihA _ _ _ _ _ _ h1
        cases x1 with
        | normal =>
          dsimp only at h
          obtain ⟨le2, _⟩ := ihA _ _ _ _ _ _ h
          refine ⟨le1.trans le2, fun nt μ a w hok hS hU he hn hd => ?_⟩
          rw [rounds_succ]
          refine wp_mono (s1 nt μ a w hok hS (U_left hU le2) he hn hd) fun y a' w' ⟨hy, μ', k1, k2, k3, k4, k5⟩ => ?_
          subst hy
          show Code.rounds P c _ n a' w'
          have := ihB c e1 σ1 x e' σ' h nt μ' a' w' hok k1 (U_right hU le1 k2) k3 k4 k5
          exact rounds_mono (fun y a2 w2 ⟨hy, hp⟩ => ⟨hy, hp.trans (U_left hU le2) le1 le2 k2⟩) n a' w' this
        | exit id =>
          cases h
          refine ⟨le1, fun nt μ a w hok hS hU he hn hd => ?_⟩
          rw [rounds_succ]
          exact wp_mono (s1 nt μ a w hok hS hU he hn hd) fun y a' w' ⟨hy, hp⟩ => by subst hy; exact ⟨rfl, hp⟩
        | ret =>
          cases h
          refine ⟨le1, fun nt μ a w hok hS hU he hn hd => ?_⟩
          rw [rounds_succ]
          exact wp_mono (s1 nt μ a w hok hS hU he hn hd) fun y a' w' ⟨hy, hp⟩ => by subst hy; exact ⟨rfl, hp⟩
    refine ⟨fun c e σ x e' σ' h => ?_, fun c e σ x e' σ' h => (loopB c e σ x e' σ' h).2⟩
    cases c with
    | skip =>
      simp only [exec] at h; cases h
      exact ⟨.refl _, fun nt μ a w hok hS hU he hn hd => wp_skip ⟨rfl, μ, hS, .refl _ _ _ _, he, hn, hd⟩⟩
    | label l =>
      simp only [exec] at h; cases h
      exact ⟨.refl _, fun nt μ a w hok hS hU he hn hd => wp_label ⟨rfl, μ, hS, .refl _ _ _ _, he, hn, hd⟩⟩
    | exit id =>
      simp only [exec] at h; cases h
      exact ⟨.refl _, fun nt μ a w hok hS hU he hn hd => wp_exit ⟨rfl, μ, hS, .refl _ _ _ _, he, hn, hd⟩⟩
    | ret =>
      simp only [exec] at h; cases h
      exact ⟨.refl _, fun nt μ a w hok hS hU he hn hd => wp_ret ⟨rfl, μ, hS, .refl _ _ _ _, he, hn, hd⟩⟩
    | region id ops draw =>
      simp only [exec] at h
      cases hr : runRegion P (withPrim prim (callOf P (exec P prim n))) ops draw e σ with
      | none => rw [hr] at h; cases h
      | some r =>
        obtain ⟨e1, σ1⟩ := r
        rw [hr] at h; cases h
        refine ⟨region_le hcall hr, fun nt μ a w hok hS hU he hn hd => ?_⟩
        exact region_sound hm hcall hr (by simpa [okCode] using hok) hS hU he hn hd (fun a' w' hp => ⟨rfl, hp⟩)
    | seq c1 c2 =>
      simp only [exec] at h
      cases h1 : exec P prim n c1 e σ with
      | none => rw [h1] at h; cases h
      | some r =>
        obtain ⟨x1, e1, σ1⟩ := r
        rw [h1] at h
        obtain ⟨le1, s1⟩ := ihA _ _ _ _ _ _ h1
        cases x1 with
        | normal =>
          dsimp only at h
          obtain ⟨le2, s2⟩ := ihA _ _ _ _ _ _ h
          refine ⟨le1.trans le2, fun nt μ a w hok hS hU he hn hd => ?_⟩
          simp only [okCode, Bool.and_eq_true] at hok
          refine wp_seq (wp_mono (s1 nt μ a w hok.1 hS (U_left hU le2) he hn hd) fun y a' w' ⟨hy, μ', k1, k2, k3, k4, k5⟩ => ?_)
          subst hy
          show c2.wp P _ a' w'
          exact wp_mono (s2 nt μ' a' w' hok.2 k1 (U_right hU le1 k2) k3 k4 k5) fun y a2 w2 ⟨hy, hp⟩ => ⟨hy, hp.trans (U_left hU le2) le1 le2 k2⟩
        | exit id =>
          cases h
          refine ⟨le1, fun nt μ a w hok hS hU he hn hd => ?_⟩
          simp only [okCode, Bool.and_eq_true] at hok
          exact wp_seq (wp_mono (s1 nt μ a w hok.1 hS hU he hn hd) fun y a' w' ⟨hy, hp⟩ => by subst hy; exact ⟨rfl, hp⟩)
        | ret =>
          cases h
          refine ⟨le1, fun nt μ a w hok hS hU he hn hd => ?_⟩
          simp only [okCode, Bool.and_eq_true] at hok
          exact wp_seq (wp_mono (s1 nt μ a w hok.1 hS hU he hn hd) fun y a' w' ⟨hy, hp⟩ => by subst hy; exact ⟨rfl, hp⟩)
    | cond x1 c1 c2 =>
      simp only [exec] at h
      split at h
      · rename_i t ht
        obtain ⟨le1, s1⟩ := ihA _ _ _ _ _ _ h
        refine ⟨le1, fun nt μ a w hok hS hU he hn hd => ?_⟩
        simp only [okCode, Bool.and_eq_true] at hok
        have hv := ev_val hok.1.1 he
        rw [ht] at hv
        refine wp_cond hv.bool (s1 nt μ a w ?_ hS hU he hn hd)
        cases t
        · exact hok.2
        · exact hok.1.2
      · cases h
    | block id c1 =>
      simp only [exec] at h
      cases h1 : exec P prim n c1 e σ with
      | none => rw [h1] at h; cases h
      | some r =>
        obtain ⟨x1, e1, σ1⟩ := r
        rw [h1] at h
        obtain ⟨le1, s1⟩ := ihA _ _ _ _ _ _ h1
        cases x1 with
        | normal =>
          cases h
          exact ⟨le1, fun nt μ a w hok hS hU he hn hd => wp_block (wp_mono (s1 nt μ a w hok hS hU he hn hd) fun y a' w' ⟨hy, hp⟩ => by subst hy; exact ⟨rfl, hp⟩)⟩
        | ret =>
          cases h
          exact ⟨le1, fun nt μ a w hok hS hU he hn hd => wp_block (wp_mono (s1 nt μ a w hok hS hU he hn hd) fun y a' w' ⟨hy, hp⟩ => by subst hy; exact ⟨rfl, hp⟩)⟩
        | exit i =>
          dsimp only at h
          by_cases hi : i = id
          · rw [if_pos hi] at h; cases h
            refine ⟨le1, fun nt μ a w hok hS hU he hn hd => wp_block (wp_mono (s1 nt μ a w hok hS hU he hn hd) fun y a' w' ⟨hy, hp⟩ => ?_)⟩
            subst hy
            show if i = id then _ else _
            rw [if_pos hi]; exact ⟨rfl, hp⟩
          · rw [if_neg hi] at h; cases h
            refine ⟨le1, fun nt μ a w hok hS hU he hn hd => wp_block (wp_mono (s1 nt μ a w hok hS hU he hn hd) fun y a' w' ⟨hy, hp⟩ => ?_)⟩
            subst hy
            show if i = id then _ else _
            rw [if_neg hi]; exact ⟨rfl, hp⟩
    | loop c1 =>
      obtain ⟨le1, s1⟩ := loopB c1 e σ x e' σ' h
      exact ⟨le1, fun nt μ a w hok hS hU he hn hd => wp_loop_rounds (n + 1) (s1 nt μ a w hok hS hU he hn hd)⟩
    | scope c1 =>
      simp only [exec] at h
      obtain ⟨le1, s1⟩ := ihA _ _ _ _ _ _ h
      refine ⟨le1, fun nt μ a w hok hS hU he hn hd => wp_scope_straight (wp_mono (s1 nt μ a w hok hS hU he hn hd) fun y a' w' ⟨hy, hp⟩ => ?_)⟩
      subst hy
      cases x <;> exact ⟨rfl, hp⟩
    | rangeFunc _ _ _ _ => simp [exec] at h
    | goto _ => simp [exec] at h
    | refuse _ => simp [exec] at h
/-- A call that comes to an answer in the abstract machine comes to it in the model. -/
theorem acall_sound (hm : P.follows .mixedOrders = true) (hprim : CallOk P prim) (n : Nat) : CallOk P (acall P prim n) := withPrim_ok hprim (callOk_of_run (exec_sound hm hprim n).1)

/-- A value whose addresses are all below B. -/
def idMu (h : Array Obj) : Mu := fun l => match h[l]? with
  | some (.cells c _ _) => some (l, c.size)
  | _ => none
open Classical in
/-- A value as the abstract machine may read it: itself, or a sign that nothing is known. -/
noncomputable def clean (h : Array Obj) (v : Value) : Value := if Val (idMu h) v v then v else .chan (some 0)
theorem clean_val (h : Array Obj) (v : Value) : Val (idMu h) (clean h v) v := by
  unfold clean
  split
  · assumption
  · exact .junk 0 v
/-- The memory of a world, all of it to be read alone. -/
noncomputable def heapOf (h : Array Obj) : Heap := h.toList.map fun o => match o with
  | .cells c _ _ => ⟨c.toList.map (clean h), .ro⟩
  | _ => ⟨[], .dead⟩
theorem heapOf_len (h : Array Obj) : (heapOf h).length = h.size := by simp [heapOf]
theorem heapOf_get (h : Array Obj) (l : Nat) : (heapOf h)[l]? = (h[l]?).map fun o => match o with
    | .cells c _ _ => ⟨c.toList.map (clean h), .ro⟩
    | _ => ⟨[], .dead⟩ := by simp [heapOf]
theorem heapOf_full {h : Array Obj} {l : Nat} : ¬ isFull (heapOf h) l := by
  rintro ⟨x, hx, hp⟩
  rw [heapOf_get] at hx
  cases ho : h[l]? with
  | none => rw [ho] at hx; cases hx
  | some o =>
    rw [ho] at hx
    cases o <;> (cases hx; cases hp)
theorem sim_start (h : Array Obj) : Sim (idMu h) (heapOf h) h := by
  refine ⟨fun l b N hm => ?_, fun l1 l2 b N1 N2 _ _ _ hf _ => heapOf_full hf, fun l b N x hm hx hd => ?_⟩
  · unfold idMu at hm
    split at hm
    · rename_i c e fr ho
      cases hm
      exact (Array.getElem?_eq_some_iff.1 ho).1
    · cases hm
  · unfold idMu at hm
    split at hm
    · rename_i c e fr ho
      cases hm
      rw [heapOf_get, ho] at hx
      cases hx
      refine ⟨c, e, fr, ho, rfl, fun hp => (by cases hp), fun j v hj => ?_⟩
      simp only [List.getElem?_map, Option.map_eq_some_iff] at hj
      obtain ⟨u, hu, rfl⟩ := hj
      exact ⟨u, by simpa using hu, clean_val h u⟩
    · cases hm
/-- A call that comes to an answer over the world's memory: the model comes to it, and nothing that stood is changed. -/
theorem start_sound (hm : P.follows .mixedOrders = true) (hprim : CallOk P prim) {n : Nat} {f : FuncId} {args : Array Value} {w : World} {σ' : Heap} (h : acall P prim n f (args.map (clean w.heap)) (heapOf w.heap) = some (v, σ')) (hv : scalarB v = true) :
    Calls P f args w fun e w' => e = .returned v ∧ Below w.heap.size w w' := by
  obtain ⟨_, hle, hc⟩ := acall_sound hm hprim n _ _ _ _ _ h
  refine Calls.mono (hc args (idMu w.heap) w ⟨by simp, fun i u u' h1 h2 => ?_⟩ (sim_start _) (fun l h1 _ => ?_)) fun e w' ⟨v', μ', he, k1, k2, k3⟩ => ?_
  · simp only [Array.toList_map, List.getElem?_map, Option.map_eq_some_iff] at h1
    obtain ⟨x, hx, rfl⟩ := h1
    rw [hx] at h2; cases h2
    exact clean_val _ _
  · rw [heapOf_len] at h1
    unfold idMu
    rw [Array.getElem?_eq_none h1]
  · subst he
    rw [scalar_val hv k1]
    exact ⟨rfl, k3.os, k3.tape, k3.output, k3.size, fun b hb => k3.keep b hb fun l N _ hf => heapOf_full hf⟩
theorem noPrim_ok : CallOk P noPrim := fun _ _ _ _ _ h => by cases h
/-- Functions without arguments whose answer the machine has worked out over no memory at all. -/
def knownPrim (l : List (FuncId × Value)) : CallF := fun f args σ => if args.size = 0 then ((l.find? (·.1 == f)).map fun p => (p.2, σ)) else none
/-- They answer so over any memory. -/
theorem knownPrim_ok (hm : P.follows .mixedOrders = true) (hprim : CallOk P prim) (l : List (FuncId × Value)) (h : ∀ p ∈ l, scalarB p.2 = true ∧ ∃ n τ, acall P prim n p.1 #[] [] = some (p.2, τ)) : CallOk P (knownPrim l) := by
  intro f args σ v σ' hk
  unfold knownPrim at hk
  split at hk
  · rename_i ha
    cases hf : l.find? (·.1 == f) with
    | none => rw [hf] at hk; cases hk
    | some p =>
      rw [hf] at hk
      cases hk
      obtain ⟨hv, n, τ, hc⟩ := h p (List.mem_of_find?_eq_some hf)
      have e0 : p.1 = f := by have := List.find?_some hf; simpa using this
      subst e0
      obtain ⟨h1, hle, h2⟩ := acall_sound hm hprim n _ _ _ _ _ hc
      refine ⟨h1, .refl _, fun args' μ w hargs hS hU => ?_⟩
      have hz : args' = #[] := by
        have := hargs.1
        simp at this
        exact Array.eq_empty_of_size_eq_zero (by omega)
      subst hz
      refine Calls.mono (h2 #[] (fun _ => none) w .nil ⟨fun _ _ _ h => (by cases h), fun _ _ _ _ _ _ h => (by cases h), fun _ _ _ _ h => (by cases h)⟩ (fun _ _ _ => rfl)) fun e w' ⟨v', μ', he, k1, k2, k3⟩ => ?_
      have same : ∀ b, b < w.heap.size → w'.heap[b]? = w.heap[b]? := fun b hb => k3.keep b hb fun _ _ h => (by cases h)
      refine ⟨v', μ, he, ?_, ⟨fun l b N h => Nat.lt_of_lt_of_le (hS.lt l b N h) k3.size, hS.inj, fun l b N x h1 h2 h3 => by rw [same b (hS.lt l b N h1)]; exact hS.blk l b N x h1 h2 h3⟩, ⟨fun _ _ h => h, fun _ _ _ h => .inl h, fun b hb _ => same b hb, fun h => (by cases h), k3.size, k3.os, k3.tape, k3.output⟩⟩
      rw [scalar_val hv k1]
      exact .scal hv
  · cases hk
end
end Go.Proofs.Ytenbclcfhjdcaaa.AM
