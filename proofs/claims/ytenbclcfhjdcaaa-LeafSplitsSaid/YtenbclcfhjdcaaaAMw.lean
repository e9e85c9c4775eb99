/- Walking code of the abstract machine: rules. -/
import Derived.Test.YtenbclcfhjdcaaaAMn
namespace Go.Proofs.Ytenbclcfhjdcaaa.AM
open Go
section
variable {P : Program} {prim : CallF} {σ σ' : Heap} {v v' : Value} {e e' : Env} {call call' : CallF} {ops : Array Oper}

def CallLe (call call' : CallF) : Prop := ∀ f args σ r, call f args σ = some r → call' f args σ = some r
theorem guarded_mono (h : CallLe call call') {q : Bool} {o : Oper} {r : Value × Heap} (hg : guarded P call q ops o e σ = some r) : guarded P call' q ops o e σ = some r := by
  unfold guarded at hg ⊢
  split at hg
  · unfold stepOp at hg ⊢
    split at hg
    · rename_i f args _
      cases q with
      | false => exact h _ _ _ _ hg
      | true =>
        simp only [if_true, quietCall] at hg ⊢
        cases hc : call f args (lock σ) with
        | none => rw [hc] at hg; cases hg
        | some r => rw [hc] at hg; rw [h _ _ _ _ hc]; exact hg
    · exact hg
  · exact hg
  · cases hg
theorem runOps_mono (h : CallLe call call') {q : Bool} : ∀ (l : List Oper) {e : Env} {σ : Heap} {r : Env × Heap}, runOps P call q ops l e σ = some r → runOps P call' q ops l e σ = some r
  | [], _, _, _, hr => hr
  | o :: l, e, σ, r, hr => by
    simp only [runOps] at hr ⊢
    split at hr
    · rename_i v σ1 hg
      rw [guarded_mono h hg]
      exact runOps_mono h l hr
    · cases hr
theorem runRegion_mono (h : CallLe call call') {d : Bool} {r : Env × Heap} (hr : runRegion P call ops d e σ = some r) : runRegion P call' ops d e σ = some r := by
  unfold runRegion at hr ⊢
  split at hr
  · rename_i hd
    rw [if_pos hd]
    split at hr
    · split at hr
      · rename_i e1 σ1 h1
        simp only [runOps_mono h _ h1]
        exact runOps_mono h _ hr
      · cases hr
    · cases hr
  · rename_i hd
    rw [if_neg hd]
    exact runOps_mono h _ hr
theorem callOf_mono {run run' : Code → Env → Heap → Option (Ex × Env × Heap)} (h : ∀ c e σ r, run c e σ = some r → run' c e σ = some r) : CallLe (callOf P run) (callOf P run') := by
  intro f args σ r hc
  unfold callOf at hc ⊢
  split at hc
  · split at hc
    · split at hc
      · rename_i hok
        rw [if_pos hok]
        rename_i c _
        cases hr : run c (fun i => args.getD i undef) σ with
        | none => rw [hr] at hc; cases hc
        | some p =>
          rw [h _ _ _ _ hr]
          rw [hr] at hc
          exact hc
      · cases hc
    · cases hc
  · cases hc
theorem withPrim_mono (h : CallLe call call') : CallLe (withPrim prim call) (withPrim prim call') := by
  intro f args σ r hc
  unfold withPrim at hc ⊢
  split at hc
  · exact hc
  · exact h _ _ _ _ hc
theorem exec_succ : ∀ (n : Nat) (c : Code) (e : Env) (σ : Heap) (r : Ex × Env × Heap), exec P prim n c e σ = some r → exec P prim (n + 1) c e σ = some r
  | 0, c, e, σ, r, h => by simp [exec] at h
  | n + 1, c, e, σ, r, h => by
    have ih := exec_succ n
    unfold exec at h ⊢
    cases c with
    | skip => exact h
    | label _ => exact h
    | exit _ => exact h
    | ret => exact h
    | region id ops d =>
      dsimp only at h ⊢
      cases hr : runRegion P (withPrim prim (callOf P (exec P prim n))) ops d e σ with
      | none => rw [hr] at h; cases h
      | some p => rw [hr] at h; rw [runRegion_mono (withPrim_mono (callOf_mono ih)) hr]; exact h
    | seq a b =>
      dsimp only at h ⊢
      split at h
      · rename_i h1; rw [ih _ _ _ _ h1]; exact ih _ _ _ _ h
      · rename_i h1
        cases hx : exec P prim n a e σ with
        | none => rw [hx] at h; cases h
        | some p =>
          rw [ih _ _ _ _ hx]
          rw [hx] at h
          obtain ⟨x, e1, σ1⟩ := p
          cases x with
          | normal => exact absurd hx (h1 e1 σ1)
          | _ => exact h
    | cond x a b =>
      dsimp only at h ⊢
      split at h
      · exact ih _ _ _ _ h
      · cases h
    | block id a =>
      dsimp only at h ⊢
      cases hx : exec P prim n a e σ with
      | none => rw [hx] at h; cases h
      | some p => rw [ih _ _ _ _ hx]; rw [hx] at h; exact h
    | loop a =>
      dsimp only at h ⊢
      split at h
      · rename_i h1; rw [ih _ _ _ _ h1]; exact ih _ _ _ _ h
      · rename_i h1
        cases hx : exec P prim n a e σ with
        | none => rw [hx] at h; cases h
        | some p =>
          rw [ih _ _ _ _ hx]
          rw [hx] at h
          obtain ⟨x, e1, σ1⟩ := p
          cases x with
          | normal => exact absurd hx (h1 e1 σ1)
          | _ => exact h
    | scope a => exact ih _ _ _ _ h
    | rangeFunc _ _ _ _ => cases h
    | goto _ => cases h
    | refuse _ => cases h
theorem exec_mono {n m : Nat} (hnm : n ≤ m) {c : Code} {r : Ex × Env × Heap} (h : exec P prim n c e σ = some r) : exec P prim m c e σ = some r := by
  induction m with
  | zero => have : n = 0 := by omega
            subst this; exact h
  | succ m ih =>
    rcases Nat.lt_or_ge m n with h1 | h1
    · have : n = m + 1 := by omega
      subst this; exact h
    · exact exec_succ m _ _ _ _ (ih h1)
theorem acall_mono {n m : Nat} (hnm : n ≤ m) : CallLe (acall P prim n) (acall P prim m) := withPrim_mono (callOf_mono fun _ _ _ _ h => exec_mono hnm h)

/-- A call comes to an answer of which R holds. -/
def AC (P : Program) (prim : CallF) (f : FuncId) (args : Array Value) (σ : Heap) (R : Value → Heap → Prop) : Prop := ∃ n v σ', acall P prim n f args σ = some (v, σ') ∧ R v σ'
def ACq (P : Program) (prim : CallF) (q : Bool) (f : FuncId) (args : Array Value) (σ : Heap) (R : Value → Heap → Prop) : Prop :=
  if q then AC P prim f args (lock σ) (fun v τ => R v (σ ++ τ.drop σ.length)) else AC P prim f args σ R
/-- Code comes to an end of which K holds. -/
def W (P : Program) (prim : CallF) (c : Code) (K : Ex → Env → Heap → Prop) (e : Env) (σ : Heap) : Prop := ∃ n x e' σ', exec P prim n c e σ = some (x, e', σ') ∧ K x e' σ'
/-- Operations come to an end of which K holds. -/
def WO (P : Program) (prim : CallF) (q : Bool) (ops : Array Oper) (l : List Oper) (K : Env → Heap → Prop) (e : Env) (σ : Heap) : Prop := ∃ n e' σ', runOps P (acall P prim n) q ops l e σ = some (e', σ') ∧ K e' σ'
/-- What is behind an operation's answer. -/
def After (r : Option (Value × Heap)) (R : Value → Heap → Prop) : Prop := match r with
  | some (v, σ) => R v σ
  | none => False
theorem AC.mono {f : FuncId} {args : Array Value} {R R' : Value → Heap → Prop} (h : AC P prim f args σ R) (hr : ∀ v σ', R v σ' → R' v σ') : AC P prim f args σ R' :=
  let ⟨n, v, σ', h1, h2⟩ := h; ⟨n, v, σ', h1, hr _ _ h2⟩
theorem W.mono {c : Code} {K K' : Ex → Env → Heap → Prop} (h : W P prim c K e σ) (hk : ∀ x e σ, K x e σ → K' x e σ) : W P prim c K' e σ :=
  let ⟨n, x, e', σ', h1, h2⟩ := h; ⟨n, x, e', σ', h1, hk _ _ _ h2⟩
theorem ACq.get {q : Bool} {f : FuncId} {args : Array Value} {R : Value → Heap → Prop} (h : ACq P prim q f args σ R) : ∃ n v σ', (if q then quietCall (acall P prim n) else acall P prim n) f args σ = some (v, σ') ∧ R v σ' := by
  unfold ACq at h
  cases q with
  | false => exact h
  | true =>
    obtain ⟨n, v, τ, h1, h2⟩ := h
    exact ⟨n, v, _, by simp [quietCall, h1], h2⟩

theorem wo_nil {q : Bool} {K : Env → Heap → Prop} : WO P prim q ops [] K e σ ↔ K e σ := ⟨fun ⟨n, e', σ', h1, h2⟩ => by simp only [runOps] at h1; cases h1; exact h2, fun h => ⟨0, e, σ, rfl, h⟩⟩
/-- One operation. -/
def StepR (P : Program) (prim : CallF) (q : Bool) (ops : Array Oper) (o : Oper) (e : Env) (σ : Heap) (R : Value → Heap → Prop) : Prop :=
  match wantedA ops o e with
  | some true => match goCall (ev e) o.op with
    | some (f, args) => ACq P prim q f args σ R
    | none => After (aop P q (ev e) o σ) R
  | some false => R undef σ
  | none => False
theorem wo_cons {q : Bool} {K : Env → Heap → Prop} {o : Oper} {l : List Oper} (h : StepR P prim q ops o e σ fun v σ' => WO P prim q ops l K (upd e o.dst v) σ') : WO P prim q ops (o :: l) K e σ := by
  have fin : ∀ {n : Nat} {v : Value} {σ1 : Heap}, guarded P (acall P prim n) q ops o e σ = some (v, σ1) → WO P prim q ops l K (upd e o.dst v) σ1 → WO P prim q ops (o :: l) K e σ := fun {n v σ1} hg hw => by
    obtain ⟨m, e', σ', h1, h2⟩ := hw
    refine ⟨max n m, e', σ', ?_, h2⟩
    simp only [runOps]
    rw [guarded_mono (acall_mono (Nat.le_max_left n m)) hg]
    exact runOps_mono (acall_mono (Nat.le_max_right n m)) _ h1
  unfold StepR at h
  cases hw : wantedA ops o e with
  | none => rw [hw] at h; exact h.elim
  | some b =>
    rw [hw] at h
    cases b with
    | false => exact fin (n := 0) (by unfold guarded; rw [hw]) h
    | true =>
      dsimp only at h
      cases hc : goCall (ev e) o.op with
      | none =>
        rw [hc] at h
        dsimp only at h
        unfold After at h
        cases ha : aop P q (ev e) o σ with
        | none => rw [ha] at h; exact h.elim
        | some r =>
          obtain ⟨v, σ1⟩ := r
          rw [ha] at h
          exact fin (n := 0) (by unfold guarded stepOp; rw [hw]; dsimp only; rw [hc]; exact ha) h
      | some fa =>
        obtain ⟨f, args⟩ := fa
        rw [hc] at h
        obtain ⟨n, v, σ1, h1, h2⟩ := ACq.get h
        exact fin (n := n) (by unfold guarded stepOp; rw [hw]; dsimp only; rw [hc]; exact h1) h2

theorem w_skip {K : Ex → Env → Heap → Prop} (h : K .normal e σ) : W P prim .skip K e σ := ⟨1, _, _, _, rfl, h⟩
theorem w_label {l : Nat} {K : Ex → Env → Heap → Prop} (h : K .normal e σ) : W P prim (.label l) K e σ := ⟨1, _, _, _, rfl, h⟩
theorem w_exit {id : Nat} {K : Ex → Env → Heap → Prop} (h : K (.exit id) e σ) : W P prim (.exit id) K e σ := ⟨1, _, _, _, rfl, h⟩
theorem w_ret {K : Ex → Env → Heap → Prop} (h : K .ret e σ) : W P prim .ret K e σ := ⟨1, _, _, _, rfl, h⟩
/-- What follows code that ends normally, and what stands behind another end. -/
def Then (N : Env → Heap → Prop) (K : Ex → Env → Heap → Prop) : Ex → Env → Heap → Prop
  | .normal, e, σ => N e σ
  | x, e, σ => K x e σ
def Blk' (id : Nat) (K : Ex → Env → Heap → Prop) : Ex → Env → Heap → Prop
  | .exit i, e, σ => if i = id then K .normal e σ else K (.exit i) e σ
  | x, e, σ => K x e σ
theorem w_seq {a b : Code} {K : Ex → Env → Heap → Prop} (h : W P prim a (Then (W P prim b K) K) e σ) : W P prim (.seq a b) K e σ := by
  obtain ⟨n, x, e1, σ1, h1, h2⟩ := h
  cases x with
  | normal =>
    obtain ⟨m, x2, e2, σ2, h3, h4⟩ := h2
    refine ⟨max n m + 1, x2, e2, σ2, ?_, h4⟩
    simp only [exec]
    rw [exec_mono (Nat.le_max_left n m) h1]
    exact exec_mono (Nat.le_max_right n m) h3
  | exit i => exact ⟨n + 1, _, _, _, by simp only [exec]; rw [h1], h2⟩
  | ret => exact ⟨n + 1, _, _, _, by simp only [exec]; rw [h1], h2⟩
theorem w_cond {x : Operand} {a b : Code} {K : Ex → Env → Heap → Prop} {t : Bool} (ht : ev e x = .bool t) (h1 : t = true → W P prim a K e σ) (h2 : t = false → W P prim b K e σ) : W P prim (.cond x a b) K e σ := by
  cases t with
  | true =>
    obtain ⟨n, y, e', σ', g1, g2⟩ := h1 rfl
    exact ⟨n + 1, y, e', σ', by simp only [exec]; rw [ht]; exact g1, g2⟩
  | false =>
    obtain ⟨n, y, e', σ', g1, g2⟩ := h2 rfl
    exact ⟨n + 1, y, e', σ', by simp only [exec]; rw [ht]; exact g1, g2⟩
theorem w_block {id : Nat} {c : Code} {K : Ex → Env → Heap → Prop} (h : W P prim c (Blk' id K) e σ) : W P prim (.block id c) K e σ := by
  obtain ⟨n, x, e1, σ1, h1, h2⟩ := h
  cases x with
  | normal => exact ⟨n + 1, _, _, _, by simp only [exec]; rw [h1], h2⟩
  | ret => exact ⟨n + 1, _, _, _, by simp only [exec]; rw [h1], h2⟩
  | exit i =>
    simp only [Blk'] at h2
    by_cases hi : i = id
    · rw [if_pos hi] at h2; exact ⟨n + 1, _, _, _, by simp only [exec]; rw [h1]; simp only [hi, if_true], h2⟩
    · rw [if_neg hi] at h2; exact ⟨n + 1, _, _, _, by simp only [exec]; rw [h1]; simp only [hi, if_false], h2⟩
theorem w_scope {c : Code} {K : Ex → Env → Heap → Prop} (h : W P prim c K e σ) : W P prim (.scope c) K e σ := let ⟨n, x, e', σ', h1, h2⟩ := h; ⟨n + 1, x, e', σ', by simp only [exec]; exact h1, h2⟩
theorem w_region {id : Nat} {K : Ex → Env → Heap → Prop} (h : WO P prim false ops ops.toList (K .normal) e σ) : W P prim (.region id ops false) K e σ := by
  obtain ⟨n, e', σ', h1, h2⟩ := h
  exact ⟨n + 1, .normal, e', σ', by simp only [exec, runRegion]; rw [if_neg (by simp)]; exact congrArg (Option.map _) h1, h2⟩
theorem w_draw {id : Nat} {ord : List Nat} {q : Nat} {K : Ex → Env → Heap → Prop} (hp : plan ops = some (ord, q))
    (h : WO P prim true ops ((ord.take q).map (ops.getD · default)) (WO P prim false ops ((ord.drop q).map (ops.getD · default)) (K .normal)) e σ) : W P prim (.region id ops true) K e σ := by
  obtain ⟨n, e1, σ1, h1, m, e2, σ2, h2, h3⟩ := h
  refine ⟨max n m + 1, .normal, e2, σ2, ?_, h3⟩
  simp only [exec, runRegion, if_true, hp]
  have g1 := runOps_mono (acall_mono (Nat.le_max_left n m)) _ h1
  have g2 := runOps_mono (acall_mono (Nat.le_max_right n m)) _ h2
  unfold acall at g1 g2
  rw [g1]
  dsimp only
  rw [g2]
  rfl
/-- A loop: I holds at each head, μ goes down. -/
theorem w_loop {c : Code} {K : Ex → Env → Heap → Prop} (I : Env → Heap → Prop) (μ : Env → Heap → Nat) (h0 : I e σ)
    (hr : ∀ e σ, I e σ → W P prim c (Then (fun e' σ' => I e' σ' ∧ μ e' σ' < μ e σ) K) e σ) : W P prim (.loop c) K e σ := by
  have key : ∀ n e σ, μ e σ < n → I e σ → W P prim (.loop c) K e σ := by
    intro n
    induction n with
    | zero => intro e σ h _; omega
    | succ n ih =>
      intro e σ hn hI
      obtain ⟨k, x, e1, σ1, h1, h2⟩ := hr e σ hI
      cases x with
      | normal =>
        obtain ⟨hI1, hlt⟩ := h2
        obtain ⟨m, x2, e2, σ2, h3, h4⟩ := ih e1 σ1 (by omega) hI1
        refine ⟨max k m + 1, x2, e2, σ2, ?_, h4⟩
        simp only [exec]
        rw [exec_mono (Nat.le_max_left k m) h1]
        exact exec_mono (Nat.le_max_right k m) h3
      | exit i => exact ⟨k + 1, _, _, _, by simp only [exec]; rw [h1], h2⟩
      | ret => exact ⟨k + 1, _, _, _, by simp only [exec]; rw [h1], h2⟩
  exact key _ e σ (Nat.lt_succ_self _) h0
/-- A loop by what varies. -/
theorem w_loopX {X : Type} {c : Code} {K : Ex → Env → Heap → Prop} (I : X → Env → Heap → Prop) (m : X → Nat) (x0 : X) (h0 : I x0 e σ)
    (hr : ∀ x e σ, I x e σ → W P prim c (Then (fun e' σ' => ∃ y, I y e' σ' ∧ m y < m x) K) e σ) : W P prim (.loop c) K e σ := by
  have key : ∀ n x e σ, m x < n → I x e σ → W P prim (.loop c) K e σ := by
    intro n
    induction n with
    | zero => intro x e σ h _; omega
    | succ n ih =>
      intro x e σ hn hI
      obtain ⟨k, y, e1, σ1, h1, h2⟩ := hr x e σ hI
      cases y with
      | normal =>
        obtain ⟨z, hI1, hlt⟩ := h2
        obtain ⟨j, x2, e2, σ2, h3, h4⟩ := ih z e1 σ1 (by omega) hI1
        refine ⟨max k j + 1, x2, e2, σ2, ?_, h4⟩
        simp only [exec]
        rw [exec_mono (Nat.le_max_left k j) h1]
        exact exec_mono (Nat.le_max_right k j) h3
      | exit i => exact ⟨k + 1, _, _, _, by simp only [exec]; rw [h1], h2⟩
      | ret => exact ⟨k + 1, _, _, _, by simp only [exec]; rw [h1], h2⟩
  exact key _ x0 e σ (Nat.lt_succ_self _) h0
/-- What stands behind a function's body. -/
def Body (P : Program) (fn : Func) (R : Value → Heap → Prop) : Ex → Env → Heap → Prop
  | .exit _, _, _ => False
  | _, e, σ => ∃ v, resultsOf P fn.results.toList e σ = some v ∧ R v σ
theorem ac_enter {f : FuncId} {fn : Func} {c : Code} {args : Array Value} {R : Value → Heap → Prop} (hp : prim f args σ = none) (hf : P.funcs[f]? = some fn) (hb : fn.body = some c) (hok : okFn fn = true) (hsz : args.size ≤ fn.ntmps)
    (h : W P prim c (Body P fn R) (fun i => args.getD i undef) σ) : AC P prim f args σ R := by
  obtain ⟨n, x, e', σ', h1, h2⟩ := h
  cases x with
  | exit i => exact h2.elim
  | normal =>
    obtain ⟨v, h3, h4⟩ := h2
    refine ⟨n, v, σ', ?_, h4⟩
    unfold acall withPrim callOf
    rw [hp]
    simp only [hf, hb]
    rw [if_pos ⟨hok, hsz⟩, h1]
    simp only [h3, Option.map_some]
  | ret =>
    obtain ⟨v, h3, h4⟩ := h2
    refine ⟨n, v, σ', ?_, h4⟩
    unfold acall withPrim callOf
    rw [hp]
    simp only [hf, hb]
    rw [if_pos ⟨hok, hsz⟩, h1]
    simp only [h3, Option.map_some]
theorem ac_prim {f : FuncId} {args : Array Value} {R : Value → Heap → Prop} (hp : prim f args σ = some (v, σ')) (h : R v σ') : AC P prim f args σ R :=
  ⟨0, v, σ', by unfold acall withPrim; rw [hp], h⟩
end
end Go.Proofs.Ytenbclcfhjdcaaa.AM
