/- Walking code of the abstract machine: the rules as equations for simp. -/
import Derived.Test.YtenbclcfhjdcaaaAMw
namespace Go.Proofs.Ytenbclcfhjdcaaa.AM
open Go
section
variable {P : Program} {prim : CallF} {σ σ' : Heap} {v v' : Value} {e e' : Env} {ops : Array Oper} {ρ : Operand → Value}
variable {dst : Option Tmp} {type : TypeId} {pos : String} {after : Array Edge} {guard : Option (Nat × Bool)}

/-- What follows, where simp does not look. -/
class KV where run : Value → Heap → Prop
class PP where
  a : Prop
  b : Prop
def VA (r : Option (Value × Heap)) [k : KV] : Prop := After r k.run
/-- A call to be answered for. -/
def CALL (P : Program) (prim : CallF) (f : FuncId) (args : Array Value) (σ : Heap) [k : KV] : Prop := AC P prim f args σ k.run
theorem CALL.of {f : FuncId} {args : Array Value} {R R' : Value → Heap → Prop} (h : AC P prim f args σ R) (hr : ∀ v σ', R v σ' → R' v σ') : @CALL P prim f args σ ⟨R'⟩ := h.mono hr
@[simp] theorem VA_some {u : Value} {τ : Heap} [k : KV] : VA (some (u, τ)) = k.run u τ := rfl
@[simp] theorem VA_none [k : KV] : VA none = False := rfl
@[simp] theorem VA_if {c : Prop} [Decidable c] {a : Value × Heap} [k : KV] : VA (if c then some a else none) ↔ (c ∧ k.run a.1 a.2) := by
  by_cases h : c <;> simp [h, VA, After]
@[simp] theorem VA_ite {c : Prop} [Decidable c] {a b : Value × Heap} [k : KV] : VA (if c then some a else some b) ↔ ((c → k.run a.1 a.2) ∧ (¬ c → k.run b.1 b.2)) := by
  by_cases h : c <;> simp [h, VA, After]
attribute [simp ↓] wo_nil
theorem wo_cons_eq {q : Bool} {K : Env → Heap → Prop} {o : Oper} {l : List Oper} : WO P prim q ops (o :: l) K e σ ↔ StepR P prim q ops o e σ fun v σ' => WO P prim q ops l K (upd e o.dst v) σ' := by
  refine ⟨fun ⟨n, e', σ', h1, h2⟩ => ?_, wo_cons⟩
  simp only [runOps] at h1
  split at h1
  · rename_i v σ1 hg
    have hK : WO P prim q ops l K (upd e o.dst v) σ1 := ⟨n, e', σ', h1, h2⟩
    unfold guarded at hg
    unfold StepR
    split at hg
    · rename_i hw
      rw [hw]
      unfold stepOp at hg
      dsimp only
      split at hg
      · rename_i f args hc
        rw [hc]
        dsimp only
        unfold ACq
        cases q with
        | false => exact ⟨n, v, σ1, hg, hK⟩
        | true =>
          simp only [if_true, quietCall] at hg ⊢
          cases hx : acall P prim n f args (lock σ) with
          | none => rw [hx] at hg; cases hg
          | some p => rw [hx] at hg; cases hg; exact ⟨n, _, _, hx, hK⟩
      · rename_i hc
        rw [hc]
        dsimp only
        rw [hg]
        exact hK
    · rename_i hw
      rw [hw]
      cases hg
      exact hK
    · cases hg
  · cases h1
attribute [simp ↓] wo_cons_eq
@[simp ↓] theorem w_skip_eq {K : Ex → Env → Heap → Prop} : W P prim .skip K e σ ↔ K .normal e σ := ⟨fun ⟨n, x, e', σ', h, hk⟩ => by cases n <;> simp [exec] at h; obtain ⟨rfl, rfl, rfl⟩ := h; exact hk, w_skip⟩
@[simp ↓] theorem w_label_eq {l : Nat} {K : Ex → Env → Heap → Prop} : W P prim (.label l) K e σ ↔ K .normal e σ := ⟨fun ⟨n, x, e', σ', h, hk⟩ => by cases n <;> simp [exec] at h; obtain ⟨rfl, rfl, rfl⟩ := h; exact hk, w_label⟩
@[simp ↓] theorem w_exit_eq {l : Nat} {K : Ex → Env → Heap → Prop} : W P prim (.exit l) K e σ ↔ K (.exit l) e σ := ⟨fun ⟨n, x, e', σ', h, hk⟩ => by cases n <;> simp [exec] at h; obtain ⟨rfl, rfl, rfl⟩ := h; exact hk, w_exit⟩
@[simp ↓] theorem w_ret_eq {K : Ex → Env → Heap → Prop} : W P prim .ret K e σ ↔ K .ret e σ := ⟨fun ⟨n, x, e', σ', h, hk⟩ => by cases n <;> simp [exec] at h; obtain ⟨rfl, rfl, rfl⟩ := h; exact hk, w_ret⟩
@[simp ↓] theorem w_seq_eq {a b : Code} {K : Ex → Env → Heap → Prop} : W P prim (.seq a b) K e σ ↔ W P prim a (Then (W P prim b K) K) e σ := by
  refine ⟨fun ⟨n, x, e', σ', h, hk⟩ => ?_, w_seq⟩
  cases n with
  | zero => simp [exec] at h
  | succ n =>
    simp only [exec] at h
    cases hx : exec P prim n a e σ with
    | none => rw [hx] at h; cases h
    | some p =>
      obtain ⟨y, e1, σ1⟩ := p
      rw [hx] at h
      cases y with
      | normal => exact ⟨n, _, _, _, hx, n, _, _, _, h, hk⟩
      | exit i => cases h; exact ⟨n, _, _, _, hx, hk⟩
      | ret => cases h; exact ⟨n, _, _, _, hx, hk⟩
@[simp ↓] theorem w_block_eq {id : Nat} {c : Code} {K : Ex → Env → Heap → Prop} : W P prim (.block id c) K e σ ↔ W P prim c (Blk' id K) e σ := by
  refine ⟨fun ⟨n, x, e', σ', h, hk⟩ => ?_, w_block⟩
  cases n with
  | zero => simp [exec] at h
  | succ n =>
    simp only [exec] at h
    cases hx : exec P prim n c e σ with
    | none => rw [hx] at h; cases h
    | some p =>
      obtain ⟨y, e1, σ1⟩ := p
      rw [hx] at h
      cases y with
      | normal => cases h; exact ⟨n, _, _, _, hx, hk⟩
      | ret => cases h; exact ⟨n, _, _, _, hx, hk⟩
      | exit i =>
        dsimp only at h
        refine ⟨n, _, _, _, hx, ?_⟩
        simp only [Blk']
        by_cases hi : i = id
        · rw [if_pos hi] at h ⊢; cases h; exact hk
        · rw [if_neg hi] at h ⊢; cases h; exact hk
@[simp ↓] theorem w_scope_eq {c : Code} {K : Ex → Env → Heap → Prop} : W P prim (.scope c) K e σ ↔ W P prim c K e σ := by
  refine ⟨fun ⟨n, x, e', σ', h, hk⟩ => ?_, w_scope⟩
  cases n with
  | zero => simp [exec] at h
  | succ n => simp only [exec] at h; exact ⟨n, _, _, _, h, hk⟩
@[simp ↓] theorem w_region_eq {id : Nat} {l : List Oper} {K : Ex → Env → Heap → Prop} : W P prim (.region id l.toArray false) K e σ ↔ WO P prim false l.toArray l (K .normal) e σ := by
  refine ⟨fun ⟨n, x, e', σ', h, hk⟩ => ?_, fun h => w_region (by simpa using h)⟩
  cases n with
  | zero => simp [exec] at h
  | succ n =>
    simp only [exec, runRegion] at h
    rw [if_neg (by simp)] at h
    cases hx : runOps P (withPrim prim (callOf P (exec P prim n))) false l.toArray l.toArray.toList e σ with
    | none => rw [hx] at h; cases h
    | some p => rw [hx] at h; cases h; exact ⟨n, _, _, hx, hk⟩
/-- A test: what must be shown on each way. -/
def CondR (v : Value) [c : PP] : Prop := match v with
  | .bool t => (t = true → c.a) ∧ (t = false → c.b)
  | _ => False
@[simp ↓] theorem w_cond_eq {x : Operand} {a b : Code} {K : Ex → Env → Heap → Prop} : W P prim (.cond x a b) K e σ ↔ @CondR (ev e x) ⟨W P prim a K e σ, W P prim b K e σ⟩ := by
  constructor
  · rintro ⟨n, y, e', σ', h, hk⟩
    cases n with
    | zero => simp [exec] at h
    | succ n =>
      simp only [exec] at h
      split at h
      · rename_i t ht
        rw [ht]
        exact ⟨fun e => by subst e; exact ⟨n, _, _, _, h, hk⟩, fun e => by subst e; exact ⟨n, _, _, _, h, hk⟩⟩
      · cases h
  · intro h
    cases hv : ev e x <;> rw [hv] at h <;> first | exact h.elim | exact w_cond hv h.1 h.2
theorem CondR_bool {t : Bool} [c : PP] : CondR (.bool t) ↔ (t = true → c.a) ∧ (t = false → c.b) := Iff.rfl
@[simp] theorem CondR_true [c : PP] : CondR (.bool true) ↔ c.a := by simp [CondR]
@[simp] theorem CondR_false [c : PP] : CondR (.bool false) ↔ c.b := by simp [CondR]
theorem CondR.on {t : Bool} {c : PP} (h1 : t = true → c.a) (h2 : t = false → c.b) : @CondR (.bool t) c := ⟨h1, h2⟩
theorem CondR.dec {p : Prop} [Decidable p] {c : PP} (h1 : p → c.a) (h2 : ¬ p → c.b) : @CondR (.bool (decide p)) c := ⟨fun h => h1 (of_decide_eq_true h), fun h => h2 (of_decide_eq_false h)⟩
@[simp ↓] theorem Then_normal {N : Env → Heap → Prop} {K : Ex → Env → Heap → Prop} : Then N K .normal e σ = N e σ := rfl
@[simp ↓] theorem Then_exit {N : Env → Heap → Prop} {K : Ex → Env → Heap → Prop} {i : Nat} : Then N K (.exit i) e σ = K (.exit i) e σ := rfl
@[simp ↓] theorem Then_ret {N : Env → Heap → Prop} {K : Ex → Env → Heap → Prop} : Then N K .ret e σ = K .ret e σ := rfl
@[simp ↓] theorem Blk_normal {id : Nat} {K : Ex → Env → Heap → Prop} : Blk' id K .normal e σ = K .normal e σ := rfl
@[simp ↓] theorem Blk_ret {id : Nat} {K : Ex → Env → Heap → Prop} : Blk' id K .ret e σ = K .ret e σ := rfl
@[simp ↓] theorem Blk_exit {id i : Nat} {K : Ex → Env → Heap → Prop} : Blk' id K (.exit i) e σ = if i = id then K .normal e σ else K (.exit i) e σ := rfl
theorem Blk_exit_same {id : Nat} {K : Ex → Env → Heap → Prop} : Blk' id K (.exit id) e σ = K .normal e σ := by simp
@[simp ↓] theorem Body_ret {fn : Func} {R : Value → Heap → Prop} : Body P fn R .ret e σ ↔ ∃ v, resultsOf P fn.results.toList e σ = some v ∧ R v σ := Iff.rfl
@[simp ↓] theorem Body_normal {fn : Func} {R : Value → Heap → Prop} : Body P fn R .normal e σ ↔ ∃ v, resultsOf P fn.results.toList e σ = some v ∧ R v σ := Iff.rfl
@[simp ↓] theorem ACq_false {f : FuncId} {args : Array Value} {R : Value → Heap → Prop} : ACq P prim false f args σ R = @CALL P prim f args σ ⟨R⟩ := rfl
@[simp ↓] theorem ACq_true {f : FuncId} {args : Array Value} {R : Value → Heap → Prop} : ACq P prim true f args σ R = @CALL P prim f args (lock σ) ⟨fun v τ => R v (σ ++ τ.drop σ.length)⟩ := rfl

/-- Are two structs or arrays the same? -/
def eqS (P : Program) (t : TypeId) (cs ds : Array Value) : Option Bool := if cs.all scalarB = true ∧ ds.all scalarB = true ∧ P.eqGuardType P.depth t = false then pureRun P (Op.equalIn Op.maxDepth t (.agg cs) (.agg ds)) else none
/-- Arithmetic and comparison of whole numbers and bools. -/
def binI (P : Program) (op : BinOp) (t : TypeId) (x y : Value) : Option Value := match x, y with
  | .int k m, .int k' n => match op with
    | .shl => if n < 0 then none else some (.int k (k.wrap (m * 2 ^ (min n.toNat k.bits))))
    | .shr => if n < 0 then none else some (.int k (m.fdiv (2 ^ (min n.toNat k.bits))))
    | op => if k = k' then match op with
      | .add => some (.int k (k.wrap (m + n)))
      | .sub => some (.int k (k.wrap (m - n)))
      | .mul => some (.int k (k.wrap (m * n)))
      | .quo => if n = 0 then none else some (.int k (k.wrap (m.tdiv n)))
      | .rem => if n = 0 then none else some (.int k (m.tmod n))
      | .and | .or | .xor | .andNot => some (.int k (bits op k m n))
      | .eql => some (.bool (decide (m = n)))
      | .neq => some (.bool (decide (m ≠ n)))
      | .lss => some (.bool (decide (m < n)))
      | .leq => some (.bool (decide (m ≤ n)))
      | .gtr => some (.bool (decide (m > n)))
      | .geq => some (.bool (decide (m ≥ n)))
      | _ => none
      else none
  | .bool a, .bool b => match P.underlying t, op with
    | some .bool, .eql => some (.bool (a == b))
    | some .bool, .neq => some (.bool (!(a == b)))
    | _, _ => none
  | .slice none 0 0, .slice none 0 0 => match P.underlying t, op with
    | some (.slice _), .eql => some (.bool true)
    | some (.slice _), .neq => some (.bool false)
    | _, _ => none
  | .agg cs, .agg ds => match op with
    | .eql => (eqS P t cs ds).map .bool
    | .neq => (eqS P t cs ds).map fun b => .bool (!b)
    | _ => none
  | _, _ => none
/-- aPure, not to be opened. -/
def aPure' (P : Program) (ρ : Operand → Value) (o : Oper) : Option Value := aPure P ρ o
theorem pureRun_bind {α β : Type} {s : Sem α} {f : α → Sem β} : pureRun P (s >>= f) = (pureRun P s).bind fun a => pureRun P (f a) := by
  show pureRun P (s.bind f) = _
  induction s with
  | pure a => rfl
  | program k ih => exact ih P
  | mark m k ih => exact ih
  | _ => rfl
@[simp] theorem pureRun_pure {α : Type} {a : α} : pureRun P (pure a : Sem α) = some a := rfl
theorem pureRun_program : pureRun P program = some P := rfl
theorem pureRun_underlying {t : TypeId} : pureRun P (underlying t) = P.underlying t := by
  unfold underlying
  rw [pureRun_bind, pureRun_program]
  simp only [Option.bind_some]
  cases P.underlying t <;> rfl
theorem eqGuard_agg {op : BinOp} {t : TypeId} {x y : Operand} {cs ds : Array Value} (h : P.eqGuardType P.depth t = false) : pureRun P (eqGuard op t x y (.agg cs) (.agg ds)) = some () := by
  unfold eqGuard
  cases op <;> simp [pureRun_bind, pureRun_program, h]
theorem eqS_sound {t ty : TypeId} {x y : Operand} {cs ds : Array Value} {b : Bool} (hx : ρ x = .agg cs) (hy : ρ y = .agg ds) (h : eqS P t cs ds = some b) :
    aPure P ρ ⟨dst, .binOp .eql t x y ty, type, pos, after, guard⟩ = some (.bool b) ∧ aPure P ρ ⟨dst, .binOp .neq t x y ty, type, pos, after, guard⟩ = some (.bool (!b)) := by
  unfold eqS at h
  split at h
  · rename_i hc
    obtain ⟨h1, h2, h3⟩ := hc
    have hfl : flatB (.agg cs) = true ∧ flatB (.agg ds) = true := ⟨h1, h2⟩
    have hop : ∀ op, ((Op.binOp op t x y ty).operands.all fun x => flatB (ρ x)) = true := fun op => by simp [Op.operands, hx, hy, hfl]
    refine ⟨?_, ?_⟩
    · unfold aPure
      rw [if_pos (hop _)]
      simp only [execOp, hx, hy]
      have : pureRun P (do eqGuard .eql t x y (.agg cs) (.agg ds); binOp .eql t (.agg cs) (.agg ds)) = some (.bool b) := by
        rw [pureRun_bind, eqGuard_agg h3]
        simp only [Option.bind_some, binOp]
        rw [pureRun_bind]
        have : pureRun P (Op.equal t (.agg cs) (.agg ds)) = some b := h
        rw [this]; rfl
      rw [pureRun_bind, this]
      rfl
    · unfold aPure
      rw [if_pos (hop _)]
      simp only [execOp, hx, hy]
      have : pureRun P (do eqGuard .neq t x y (.agg cs) (.agg ds); binOp .neq t (.agg cs) (.agg ds)) = some (.bool (!b)) := by
        rw [pureRun_bind, eqGuard_agg h3]
        simp only [Option.bind_some, binOp]
        rw [pureRun_bind]
        have : pureRun P (Op.equal t (.agg cs) (.agg ds)) = some b := h
        rw [this]; rfl
      rw [pureRun_bind, this]
      rfl
  · cases h
theorem binI_sound {op : BinOp} {t ty : TypeId} {x y : Operand} (h : binI P op t (ρ x) (ρ y) = some v) : aPure P ρ ⟨dst, .binOp op t x y ty, type, pos, after, guard⟩ = some v := by
  unfold binI at h
  split at h
  · rename_i k m k' n hx hy
    have fin : (pureRun P (do eqGuard op t x y (.int k m) (.int k' n); binOp op t (.int k m) (.int k' n)) = some v ∧ flatB v = true) → aPure P ρ ⟨dst, .binOp op t x y ty, type, pos, after, guard⟩ = some v := fun ⟨h1, h2⟩ => by
      unfold aPure
      rw [if_pos (by simp [Op.operands, hx, hy, flatB, scalarB])]
      simp only [execOp, hx, hy]
      rw [pureRun_bind, h1]
      simp [h2]
    apply fin
    rw [eqGuard_at_int, pureRun_bind]
    simp only [pureRun_pure, Option.bind_some]
    split at h
    · split at h
      · cases h
      · rename_i hn; cases h; exact ⟨by simp [binOp, Op.shift, hn], rfl⟩
    · split at h
      · cases h
      · rename_i hn; cases h; exact ⟨by simp [binOp, Op.shift, hn], rfl⟩
    · split at h
      · rename_i hk
        subst hk
        split at h <;> (try (split at h)) <;> first
          | (cases h; done)
          | (cases h; refine ⟨?_, rfl⟩; simp [binOp, Op.intArith, Op.intCmp, Bool.beq_eq_decide_eq, bne]; done)
          | (rename_i hn; cases h; refine ⟨?_, rfl⟩; simp [binOp, Op.intDiv, hn]; done)
          | (cases h; refine ⟨?_, rfl⟩; (first | rw [binOp_and] | rw [binOp_or] | rw [binOp_xor] | rw [binOp_andNot]); rfl)
      · cases h
  · rename_i a b hx hy
    split at h
    · rename_i hu
      cases h
      unfold aPure
      rw [if_pos (by simp [Op.operands, hx, hy, flatB, scalarB])]
      simp only [execOp, hx, hy]
      have : pureRun P (do eqGuard .eql t x y (.bool a) (.bool b); binOp .eql t (.bool a) (.bool b)) = some (.bool (a == b)) := by
        rw [eqGuard_at_bool, pureRun_bind]
        simp only [pureRun_pure, Option.bind_some, binOp]
        rw [pureRun_bind]
        have : pureRun P (Op.equal t (.bool a) (.bool b)) = some (a == b) := by
          show pureRun P (Op.equalIn (9999 + 1) t (.bool a) (.bool b)) = _
          generalize 9999 = d
          unfold Op.equalIn
          rw [pureRun_bind, pureRun_underlying, hu]
          rfl
        rw [this]; rfl
      rw [pureRun_bind, this]
      rfl
    · rename_i hu
      cases h
      unfold aPure
      rw [if_pos (by simp [Op.operands, hx, hy, flatB, scalarB])]
      simp only [execOp, hx, hy]
      have : pureRun P (do eqGuard .neq t x y (.bool a) (.bool b); binOp .neq t (.bool a) (.bool b)) = some (.bool (!(a == b))) := by
        rw [eqGuard_at_bool, pureRun_bind]
        simp only [pureRun_pure, Option.bind_some, binOp]
        rw [pureRun_bind]
        have : pureRun P (Op.equal t (.bool a) (.bool b)) = some (a == b) := by
          show pureRun P (Op.equalIn (9999 + 1) t (.bool a) (.bool b)) = _
          generalize 9999 = d
          unfold Op.equalIn
          rw [pureRun_bind, pureRun_underlying, hu]
          rfl
        rw [this]; rfl
      rw [pureRun_bind, this]
      rfl
    · cases h
  · rename_i hx hy
    have hop : ∀ op, ((Op.binOp op t x y ty).operands.all fun x => flatB (ρ x)) = true := fun op => by simp [Op.operands, hx, hy, flatB, scalarB]
    split at h
    · rename_i e' hu
      cases h
      have hq : pureRun P (Op.equal t (.slice none 0 0) (.slice none 0 0)) = some true := by
        show pureRun P (Op.equalIn (9999 + 1) t (.slice none 0 0) (.slice none 0 0)) = _
        generalize 9999 = d
        unfold Op.equalIn
        rw [pureRun_bind, pureRun_underlying, hu]
        rfl
      unfold aPure
      rw [if_pos (hop _)]
      simp only [execOp, hx, hy]
      have : pureRun P (do eqGuard .eql t x y (.slice none 0 0) (.slice none 0 0); binOp .eql t (.slice none 0 0) (.slice none 0 0)) = some (.bool true) := by
        rw [eqGuard_at_slice, pureRun_bind]
        simp only [pureRun_pure, Option.bind_some, binOp]
        rw [pureRun_bind, hq]; rfl
      rw [pureRun_bind, this]
      rfl
    · rename_i e' hu
      cases h
      have hq : pureRun P (Op.equal t (.slice none 0 0) (.slice none 0 0)) = some true := by
        show pureRun P (Op.equalIn (9999 + 1) t (.slice none 0 0) (.slice none 0 0)) = _
        generalize 9999 = d
        unfold Op.equalIn
        rw [pureRun_bind, pureRun_underlying, hu]
        rfl
      unfold aPure
      rw [if_pos (hop _)]
      simp only [execOp, hx, hy]
      have : pureRun P (do eqGuard .neq t x y (.slice none 0 0) (.slice none 0 0); binOp .neq t (.slice none 0 0) (.slice none 0 0)) = some (.bool false) := by
        rw [eqGuard_at_slice, pureRun_bind]
        simp only [pureRun_pure, Option.bind_some, binOp]
        rw [pureRun_bind, hq]; rfl
      rw [pureRun_bind, this]
      rfl
    · cases h
  · rename_i cs ds hx hy
    split at h
    · cases he : eqS P t cs ds with
      | none => rw [he] at h; cases h
      | some b => rw [he] at h; cases h; exact (eqS_sound hx hy he).1
    · cases he : eqS P t cs ds with
      | none => rw [he] at h; cases h
      | some b => rw [he] at h; cases h; exact (eqS_sound hx hy he).2
    · cases h
  · cases h
@[simp] theorem aPure_bin {op : BinOp} {t ty : TypeId} {x y : Operand} : aPure P ρ ⟨dst, .binOp op t x y ty, type, pos, after, guard⟩ = (match binI P op t (ρ x) (ρ y) with
    | some v => some v
    | none => aPure' P ρ ⟨dst, .binOp op t x y ty, type, pos, after, guard⟩) := by
  cases h : binI P op t (ρ x) (ρ y) with
  | none => rfl
  | some v => exact binI_sound h
def unI (op : UnOp) (x : Value) : Option Value := match op, x with
  | .not, .bool b => some (.bool !b)
  | .neg, .int k n => some (.int k (k.wrap (0 - n)))
  | .xor, .int k n => some (.int k (bits .xor k (if k.signed then -1 else k.max) n))
  | _, _ => none
@[simp] theorem aPure_un {op : UnOp} {t : TypeId} {x : Operand} : aPure P ρ ⟨dst, .unOp op t x, type, pos, after, guard⟩ = (match unI op (ρ x) with
    | some v => some v
    | none => aPure' P ρ ⟨dst, .unOp op t x, type, pos, after, guard⟩) := by
  cases h : unI op (ρ x) with
  | none => rfl
  | some v =>
    unfold unI at h
    split at h <;> cases h <;> rename_i hx <;> unfold aPure <;> (rw [if_pos (by simp [Op.operands, hx, flatB, scalarB])]) <;> simp only [execOp, hx] <;> rfl
/-- A conversion between kinds of whole numbers. -/
def convI (P : Program) (src dt : TypeId) (x : Value) : Option Value := match P.underlying src, P.underlying dt, x with
  | some _, some (.int k), .int _ n => some (.int k (k.wrap n))
  | _, _, _ => none
@[simp] theorem aPure_conv {src dt : TypeId} {x : Operand} : aPure P ρ ⟨dst, .convert src dt x, type, pos, after, guard⟩ = (match convI P src dt (ρ x) with
    | some v => some v
    | none => aPure' P ρ ⟨dst, .convert src dt x, type, pos, after, guard⟩) := by
  cases h : convI P src dt (ρ x) with
  | none => rfl
  | some v =>
    unfold convI at h
    split at h
    · rename_i d k k' n h1 h2 hx
      cases h
      unfold aPure
      rw [if_pos (by simp [Op.operands, hx, flatB, scalarB])]
      simp only [execOp, hx]
      have : pureRun P (convert src dt (.int k' n)) = some (.int k (k.wrap n)) := by
        unfold convert
        rw [pureRun_bind, pureRun_underlying, h1]
        simp only [Option.bind_some]
        rw [pureRun_bind, pureRun_underlying, h2]
        rfl
      rw [pureRun_bind, this]
      rfl
    · cases h

/-- An element's address. -/
def idxAddr (P : Program) (t : TypeId) (x i : Value) (σ : Heap) : Option (Value × Heap) := match P.underlying t, x, i with
    | some (.slice e), .slice (some a) n _, .int _ j => match szOf P e with
      | some s => if 0 ≤ j ∧ j < n then some (.pointer (some (a.add (j.toNat * s))), σ) else none
      | none => none
    | some (.array n e), .pointer (some a), .int _ j => match szOf P e with
      | some s => if 0 ≤ j ∧ j < n then some (.pointer (some (a.add (j.toNat * s))), σ) else none
      | none => none
    | _, _, _ => none
def binV (P : Program) (op : BinOp) (t : TypeId) (x y : Operand) (ty : TypeId) (ρ : Operand → Value) (o : Oper) (σ : Heap) : Option (Value × Heap) :=
    match strEq op (ρ x) (ρ y) with
    | some b => some (.bool b, σ)
    | none =>
    if flatB (ρ x) && flatB (ρ y) then (aPure P ρ o).map (·, σ) else
    match op with
    | .eql => (aEq P t (ρ x) (ρ y)).map fun b => (.bool b, σ)
    | .neq => (aEq P t (ρ x) (ρ y)).map fun b => (.bool (!b), σ)
    | _ => none
/-- By a guard. -/
def GuardR (g : Option Bool) [c : PP] : Prop := match g with
  | some true => c.a
  | some false => c.b
  | none => False
@[simp] theorem GuardR_true [c : PP] : GuardR (some true) = c.a := rfl
@[simp] theorem GuardR_false [c : PP] : GuardR (some false) = c.b := rfl
theorem GuardR_b {b : Bool} [c : PP] : GuardR (some b) ↔ (b = true → c.a) ∧ (b = false → c.b) := by cases b <;> simp [GuardR]
theorem GuardR.on {t : Bool} {c : PP} (h1 : t = true → c.a) (h2 : t = false → c.b) : @GuardR (some t) c := GuardR_b.2 ⟨h1, h2⟩
theorem GuardR.dec {p : Prop} [Decidable p] {c : PP} (h1 : p → c.a) (h2 : ¬ p → c.b) : @GuardR (some (decide p)) c := .on (fun h => h1 (of_decide_eq_true h)) (fun h => h2 (of_decide_eq_false h))
@[simp ↓] theorem step_guard {q : Bool} {op : Op} {jw : Nat × Bool} {R : Value → Heap → Prop} : StepR P prim q ops ⟨dst, op, type, pos, after, some jw⟩ e σ R = @GuardR (wantedA ops ⟨dst, op, type, pos, after, some jw⟩ e) ⟨StepR P prim q ops ⟨dst, op, type, pos, after, none⟩ e σ R, R undef σ⟩ := by
  unfold StepR GuardR
  cases wantedA ops ⟨dst, op, type, pos, after, some jw⟩ e with
  | none => rfl
  | some b => cases b <;> rfl
theorem step_call {q : Bool} {x : Operand} {as : Array Operand} {ts : Array TypeId} {R : Value → Heap → Prop} {f : FuncId} {fi cp : Array Value} (h : ev e x = .func (.func f) fi cp) :
    StepR P prim q ops ⟨dst, .call { callee := .value x, args := as, argTypes := ts }, type, pos, after, none⟩ e σ R = ACq P prim q f (fi ++ as.map (ev e) ++ cp) σ R := by
  simp only [StepR, wantedA, goCall, h]
/-- A call of a function value. -/
def CallV (P : Program) (prim : CallF) (q : Bool) (v : Value) (as : Array Value) (σ : Heap) [k : KV] : Prop := match v with
  | .func (.func f) fi cp => ACq P prim q f (fi ++ as ++ cp) σ k.run
  | _ => False
@[simp] theorem CallV_func {q : Bool} {f : FuncId} {fi cp as : Array Value} [k : KV] : CallV P prim q (.func (.func f) fi cp) as σ = ACq P prim q f (fi ++ as ++ cp) σ k.run := rfl
@[simp ↓] theorem step_callT {q : Bool} {t : Tmp} {as : Array Operand} {ts : Array TypeId} {R : Value → Heap → Prop} :
    StepR P prim q ops ⟨dst, .call { callee := .value (.tmp t), args := as, argTypes := ts }, type, pos, after, none⟩ e σ R = @CallV P prim q (e t) (as.map (ev e)) σ ⟨R⟩ := by
  simp only [StepR, wantedA, goCall, CallV, ev]
  split
  · rename_i f args h
    split at h
    · rename_i h2
      cases h
      rw [h2]
    · cases h
  · rename_i h
    split at h
    · cases h
    · rename_i h2
      split
      · rename_i f fi cp h3
        exact (h2 _ _ _ h3).elim
      · rfl
@[simp ↓] theorem step_callF {q : Bool} {f : FuncId} {as : Array Operand} {ts : Array TypeId} {R : Value → Heap → Prop} :
    StepR P prim q ops ⟨dst, .call { callee := .value (.func f), args := as, argTypes := ts }, type, pos, after, none⟩ e σ R = ACq P prim q f (as.map (ev e)) σ R := by
  simp [StepR, wantedA, goCall, ev]
@[simp ↓] theorem step_len {q : Bool} {x : Operand} {t : TypeId} {R : Value → Heap → Prop} : StepR P prim q ops ⟨dst, .call { callee := .builtin .len, args := #[x], argTypes := #[t] }, type, pos, after, none⟩ e σ R =
    @VA (match P.underlying t, ev e x with
      | some (.slice _), .slice _ n _ => some (.int .i64 n, σ)
      | some (.array n _), _ => some (.int .i64 n, σ)
      | _, _ => (aPure P (ev e) ⟨dst, .call { callee := .builtin .len, args := #[x], argTypes := #[t] }, type, pos, after, none⟩).map (·, σ)) ⟨R⟩ := rfl
@[simp ↓] theorem step_cap {q : Bool} {x : Operand} {t : TypeId} {R : Value → Heap → Prop} : StepR P prim q ops ⟨dst, .call { callee := .builtin .cap, args := #[x], argTypes := #[t] }, type, pos, after, none⟩ e σ R =
    @VA (match P.underlying t, ev e x with
      | some (.slice _), .slice _ _ c => if c < top then some (.int .i64 c, σ) else none
      | _, _ => none) ⟨R⟩ := rfl
@[simp ↓] theorem step_index {q : Bool} {t : TypeId} {x i : Operand} {R : Value → Heap → Prop} : StepR P prim q ops ⟨dst, .index t x i, type, pos, after, none⟩ e σ R =
    @VA (match P.underlying t, ev e x, ev e i with
      | some (.array n e), .agg cs, .int _ j => match szOf P e with
        | some s => if 0 ≤ j ∧ j < n then (partV P e cs (j.toNat * s)).map (·, σ) else none
        | none => none
      | _, _, _ => (aPure P (ev e) ⟨dst, .index t x i, type, pos, after, none⟩).map (·, σ)) ⟨R⟩ := rfl
@[simp ↓] theorem step_slice {q : Bool} {t : TypeId} {x : Operand} {lo hi mx : Option Operand} {R : Value → Heap → Prop} : StepR P prim q ops ⟨dst, .slice t x lo hi mx, type, pos, after, none⟩ e σ R =
    @VA (match ev e x with
      | .string _ => (aPure P (ev e) ⟨dst, .slice t x lo hi mx, type, pos, after, none⟩).map (·, σ)
      | _ => (aSlice P t (ev e x) (lo.map (ev e)) (hi.map (ev e)) (mx.map (ev e))).map (·, σ)) ⟨R⟩ := rfl
@[simp ↓] theorem step_makeSlice {q : Bool} {t : TypeId} {l c : Operand} {R : Value → Heap → Prop} : StepR P prim q ops ⟨dst, .makeSlice t l c, type, pos, after, none⟩ e σ R =
    @VA (match P.underlying t, ev e l, ev e c with
      | some (.slice e), .int _ l, .int _ c => match byOf P e with
        | some bytes => if 0 ≤ l ∧ l ≤ c ∧ c ≤ 17179869184 ∧ bytes ≤ 4096 then (zerosOf P e c.toNat).bind fun zs => (newBlk σ zs).map fun (a, σ') => (.slice (some a) l.toNat c.toNat, σ') else none
        | none => none
      | _, _, _ => none) ⟨R⟩ := rfl
/-- A literal's cells. -/
def buildV (P : Program) (t : TypeId) (parts : Array (Nat × Value)) : Option Value := match zeroOf P t with
    | some z => if flatB z = true ∧ (parts.all fun (_, x) => !junkB x) = true then (P.built t parts.toList).map fun cs => .agg cs else none
    | none => none
@[simp ↓] theorem step_build {q : Bool} {t : TypeId} {parts : Array (Nat × Operand)} {R : Value → Heap → Prop} : StepR P prim q ops ⟨dst, .build t parts, type, pos, after, none⟩ e σ R =
    @VA ((buildV P t (parts.map fun (i, x) => (i, ev e x))).map (·, σ)) ⟨R⟩ := by
  simp only [StepR, wantedA, goCall, aop, buildV]
  cases zeroOf P t with
  | none => rfl
  | some z =>
    dsimp only
    have : ((parts.map fun (i, x) => (i, ev e x)).all fun (_, x) => !junkB x) = (parts.all fun (_, x) => !junkB (ev e x)) := by
      rw [Array.all_map]; rfl
    rw [this]
    split
    · cases P.built t (parts.map fun (i, x) => (i, ev e x)).toList <;> rfl
    · rfl
def buildSliceV (P : Program) (t : TypeId) (len : Nat) (parts : Array (Nat × Value)) : Option (List Value) := match P.underlying t with
    | some (.slice e) => match szOf P e, zerosOf P e len with
      | some s, some zs => if len * s ≤ 16777216 ∧ len < top ∧ (parts.all fun (_, x) => !junkB x) = true then (Instr.fill (fun i => some (i * s, s)) zs.toArray parts.toList).map (·.toList) else none
      | _, _ => none
    | _ => none
@[simp ↓] theorem step_buildSlice {q : Bool} {t : TypeId} {len : Nat} {parts : Array (Nat × Operand)} {R : Value → Heap → Prop} : StepR P prim q ops ⟨dst, .buildSlice t len parts, type, pos, after, none⟩ e σ R =
    @VA ((buildSliceV P t len (parts.map fun (i, x) => (i, ev e x))).bind fun cs => (newBlk σ cs).map fun (a, σ') => (.slice (some a) len len, σ')) ⟨R⟩ := by
  simp only [StepR, wantedA, goCall, aop, buildSliceV]
  cases P.underlying t with
  | none => rfl
  | some d =>
    cases d <;> try rfl
    rename_i e'
    dsimp only
    cases szOf P e' with
    | none => rfl
    | some s =>
      cases zerosOf P e' len with
      | none => rfl
      | some zs =>
        dsimp only
        have : ((parts.map fun (i, x) => (i, ev e x)).all fun (_, x) => !junkB x) = (parts.all fun (_, x) => !junkB (ev e x)) := by
          rw [Array.all_map]; rfl
        rw [this]
        split
        · cases Instr.fill (fun i => some (i * s, s)) zs.toArray (parts.map fun (i, x) => (i, ev e x)).toList <;> rfl
        · rfl
@[simp ↓] theorem step_move {q : Bool} {x : Operand} {R : Value → Heap → Prop} : StepR P prim q ops ⟨dst, .move x, type, pos, after, none⟩ e σ R = @VA (some (ev e x, σ)) ⟨R⟩ := rfl
@[simp ↓] theorem step_assign {q : Bool} {x : Operand} {R : Value → Heap → Prop} : StepR P prim q ops ⟨dst, .assign x, type, pos, after, none⟩ e σ R = @VA (some (ev e x, σ)) ⟨R⟩ := rfl
@[simp ↓] theorem step_pick {q : Bool} {c a b : Operand} {R : Value → Heap → Prop} : StepR P prim q ops ⟨dst, .pick c a b, type, pos, after, none⟩ e σ R = @VA (match ev e c with | .bool t => some (if t then ev e a else ev e b, σ) | _ => none) ⟨R⟩ := rfl
@[simp ↓] theorem step_extract {q : Bool} {x : Operand} {i : Nat} {R : Value → Heap → Prop} : StepR P prim q ops ⟨dst, .extract x i, type, pos, after, none⟩ e σ R = @VA (match ev e x with | .tuple vs => (vs[i]?).map (·, σ) | _ => none) ⟨R⟩ := rfl
@[simp ↓] theorem step_nilCheck {q : Bool} {x : Operand} {R : Value → Heap → Prop} : StepR P prim q ops ⟨dst, .nilCheck x, type, pos, after, none⟩ e σ R = @VA (match ev e x with | .pointer (some a) => some (.pointer (some a), σ) | .func (.func f) a b => some (.func (.func f) a b, σ) | _ => none) ⟨R⟩ := rfl
@[simp ↓] theorem step_alloc {q : Bool} {t : TypeId} {R : Value → Heap → Prop} : StepR P prim q ops ⟨dst, .alloc t, type, pos, after, none⟩ e σ R = @VA ((zerosOf P t 1).bind fun zs => (newBlk σ zs).map fun (a, σ') => (.pointer (some a), σ')) ⟨R⟩ := rfl
@[simp ↓] theorem step_box {q : Bool} {t : TypeId} {x : Operand} {R : Value → Heap → Prop} : StepR P prim q ops ⟨dst, .box t x, type, pos, after, none⟩ e σ R = @VA ((newBlk σ (ev e x).cells.toList).map fun (a, σ') => (.pointer (some a), σ')) ⟨R⟩ := rfl
@[simp ↓] theorem step_load {q : Bool} {t : TypeId} {x : Operand} {R : Value → Heap → Prop} : StepR P prim q ops ⟨dst, .load t x, type, pos, after, none⟩ e σ R = @VA (match ev e x with | .pointer (some a) => (loadV P t σ a).map (·, σ) | _ => none) ⟨R⟩ := rfl
@[simp ↓] theorem step_store {q : Bool} {t : TypeId} {x v : Operand} {R : Value → Heap → Prop} : StepR P prim q ops ⟨dst, .store t x v, type, pos, after, none⟩ e σ R = @VA (match ev e x, szOf P t with | .pointer (some a), some n => if q = false ∧ (ev e v).cells.size = n then (writeN σ a (ev e v).cells.toList).map fun σ' => (undef, σ') else none | _, _ => none) ⟨R⟩ := rfl
@[simp ↓] theorem step_fieldAddr {q : Bool} {t : TypeId} {x : Operand} {f : Nat} {R : Value → Heap → Prop} : StepR P prim q ops ⟨dst, .fieldAddr t x f, type, pos, after, none⟩ e σ R = @VA (match ev e x, fieldOf P t f with | .pointer (some a), some (off, ft) => (match szOf P ft with | some (_ + 1) => some (.pointer (some (a.add off)), σ) | _ => none) | _, _ => none) ⟨R⟩ := rfl
@[simp ↓] theorem step_field {q : Bool} {t : TypeId} {x : Operand} {f : Nat} {R : Value → Heap → Prop} : StepR P prim q ops ⟨dst, .field t x f, type, pos, after, none⟩ e σ R = @VA (match ev e x, fieldOf P t f with | .agg cs, some (off, ft) => (partV P ft cs off).map (·, σ) | _, _ => none) ⟨R⟩ := rfl
@[simp ↓] theorem step_indexAddr {q : Bool} {t : TypeId} {x i : Operand} {R : Value → Heap → Prop} : StepR P prim q ops ⟨dst, .indexAddr t x i, type, pos, after, none⟩ e σ R = @VA (idxAddr P t (ev e x) (ev e i) σ) ⟨R⟩ := rfl
@[simp ↓] theorem step_makeFunc {q : Bool} {f : FuncId} {a b : Array Operand} {R : Value → Heap → Prop} : StepR P prim q ops ⟨dst, .makeFunc (.func f) a b, type, pos, after, none⟩ e σ R = @VA (some (.func (.func f) (a.map (ev e)) (b.map (ev e)), σ)) ⟨R⟩ := rfl
@[simp ↓] theorem step_makeInterface {q : Bool} {t : TypeId} {x : Operand} {R : Value → Heap → Prop} : StepR P prim q ops ⟨dst, .makeInterface t x, type, pos, after, none⟩ e σ R = @VA (if P.concrete t = true then some (.iface t (ev e x), σ) else none) ⟨R⟩ := rfl
@[simp ↓] theorem step_binOp {q : Bool} {op : BinOp} {t : TypeId} {x y : Operand} {ty : TypeId} {R : Value → Heap → Prop} : StepR P prim q ops ⟨dst, .binOp op t x y ty, type, pos, after, none⟩ e σ R = @VA (binV P op t x y ty (ev e) ⟨dst, .binOp op t x y ty, type, pos, after, none⟩ σ) ⟨R⟩ := rfl
@[simp ↓] theorem step_unOp {q : Bool} {op : UnOp} {t : TypeId} {x : Operand} {R : Value → Heap → Prop} : StepR P prim q ops ⟨dst, .unOp op t x, type, pos, after, none⟩ e σ R = @VA ((aPure P (ev e) ⟨dst, .unOp op t x, type, pos, after, none⟩).map (·, σ)) ⟨R⟩ := rfl
@[simp ↓] theorem step_append {q : Bool} {s x : Operand} {t tx : TypeId} {R : Value → Heap → Prop} : StepR P prim q ops ⟨dst, .call { callee := .builtin .append, args := #[s, x], argTypes := #[t, tx] }, type, pos, after, none⟩ e σ R = @VA (match P.underlying tx with
  | some (.int _) => aZeros P t (ev e s) (ev e x) σ
  | _ => aAppend P q t tx (ev e s) (ev e x) σ) ⟨R⟩ := rfl
attribute [simp] ev upd newBlk Value.cells cellB junkB Value.oneCell' loadV splice wantedA Addr.add_lit idxAddr binV strEq flatB scalarB binI unI convI resultsOf resultOf partV undef
end
end Go.Proofs.Ytenbclcfhjdcaaa.AM
