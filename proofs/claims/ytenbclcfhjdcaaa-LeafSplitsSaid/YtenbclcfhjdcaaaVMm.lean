/- The machine of values: the rules as equations for simp. -/
import Derived.Test.YtenbclcfhjdcaaaVMl
namespace Go.Proofs.Ytenbclcfhjdcaaa.VM
open Go AM
section
variable {P : Program} {prim : CallF} {own : List Tmp} {H H' : Hp} {v x : V} {e e' : Ev} {ops : Array Oper} {q : Bool} {k : V → Hp → Prop} {Q : Ex → Ev → Hp → Prop} {Q1 : Ev → Hp → Prop}
variable {dst : Option Tmp} {type : TypeId} {pos : String} {after : Array Edge} {guard : Option (Nat × Bool)}

/-- What is behind an operation's answer. -/
def VK (r : Option (V × Hp)) [k : KVV] : Prop := match r with
  | some (v, H) => k.run v H
  | none => False
@[simp] theorem VK_some {u : V} {T : Hp} [k : KVV] : VK (some (u, T)) = k.run u T := propext Iff.rfl
@[simp] theorem VK_none [k : KVV] : VK none = False := propext Iff.rfl
@[simp] theorem VK_if {c : Prop} [Decidable c] {a : V × Hp} [k : KVV] : VK (if c then some a else none) ↔ (c ∧ k.run a.1 a.2) := by
  by_cases h : c <;> simp [h, VK]
@[simp] theorem VK_ite {c : Prop} [Decidable c] {a b : V × Hp} [k : KVV] : VK (if c then some a else some b) ↔ ((c → k.run a.1 a.2) ∧ (¬ c → k.run b.1 b.2)) := by
  by_cases h : c <;> simp [h, VK]
/-- A call to be answered for. -/
def CALLv (P : Program) (prim : CallF) (q : Bool) (f : FuncId) (args : List V) (H : Hp) [k : KVV] : Prop := VCq P prim q f args H k.run
@[simp ↓] theorem vw_skip : vw P prim own .skip Q e H = Q .normal e H := propext Iff.rfl
@[simp ↓] theorem vw_label {l : Nat} : vw P prim own (.label l) Q e H = Q .normal e H := propext Iff.rfl
@[simp ↓] theorem vw_exit {l : Nat} : vw P prim own (.exit l) Q e H = Q (.exit l) e H := propext Iff.rfl
@[simp ↓] theorem vw_ret : vw P prim own .ret Q e H = Q .ret e H := propext Iff.rfl
@[simp ↓] theorem vw_seq {a b : Code} : vw P prim own (.seq a b) Q e H = vw P prim own a (ThenV (vw P prim own b Q) Q) e H := propext Iff.rfl
@[simp ↓] theorem vw_block {id : Nat} {a : Code} : vw P prim own (.block id a) Q e H = vw P prim own a (BlkV id Q) e H := propext Iff.rfl
@[simp ↓] theorem vw_scope {a : Code} : vw P prim own (.scope a) Q e H = vw P prim own a Q e H := propext Iff.rfl
@[simp ↓] theorem vw_cond {x : Operand} {a b : Code} : vw P prim own (.cond x a b) Q e H = @CondV (vev e x) ⟨vw P prim own a Q e H, vw P prim own b Q e H⟩ := propext Iff.rfl
@[simp ↓] theorem vw_region {id : Nat} {l : List Oper} : vw P prim own (.region id l.toArray false) Q e H = vwo P prim own false l.toArray l (Q .normal) e H := propext Iff.rfl
theorem v_draw {id : Nat} {ops : Array Oper} {ord : List Nat} {m : Nat} (hp : plan ops = some (ord, m)) (h : vwo P prim own true ops ((ord.take m).map (ops.getD · default)) (vwo P prim own false ops ((ord.drop m).map (ops.getD · default)) (Q .normal)) e H) :
    vw P prim own (.region id ops true) Q e H := ⟨_, hp, h⟩
@[simp ↓] theorem ThenV_normal {N : Ev → Hp → Prop} : ThenV N Q .normal e H = N e H := propext Iff.rfl
@[simp ↓] theorem ThenV_exit {N : Ev → Hp → Prop} {i : Nat} : ThenV N Q (.exit i) e H = Q (.exit i) e H := propext Iff.rfl
@[simp ↓] theorem ThenV_ret {N : Ev → Hp → Prop} : ThenV N Q .ret e H = Q .ret e H := propext Iff.rfl
@[simp ↓] theorem BlkV_normal {id : Nat} : BlkV id Q .normal e H = Q .normal e H := propext Iff.rfl
@[simp ↓] theorem BlkV_ret {id : Nat} : BlkV id Q .ret e H = Q .ret e H := propext Iff.rfl
@[simp ↓] theorem BlkV_exit {id i : Nat} : BlkV id Q (.exit i) e H = if i = id then Q .normal e H else Q (.exit i) e H := propext Iff.rfl
@[simp ↓] theorem BodyV_ret {fn : Func} {n : Nat} [k : KVV] : BodyV P fn n .ret e H = ∃ v, vresults P fn.results.toList e H = some v ∧ @GVH n v H k := propext Iff.rfl
@[simp ↓] theorem BodyV_normal {fn : Func} {n : Nat} [k : KVV] : BodyV P fn n .normal e H = ∃ v, vresults P fn.results.toList e H = some v ∧ @GVH n v H k := propext Iff.rfl
@[simp ↓] theorem vwo_nil : vwo P prim own q ops [] Q1 e H = Q1 e H := propext Iff.rfl
@[simp ↓] theorem vwo_cons {o : Oper} {l : List Oper} : vwo P prim own q ops (o :: l) Q1 e H = vstep P prim own q ops o e H fun v H' => vwo P prim own q ops l Q1 (vupd e o.dst v) H' := propext Iff.rfl
@[simp] theorem CondV_true [c : PP] : CondV (.lit (.bool true)) ↔ c.a := by simp [CondV]
@[simp] theorem CondV_false [c : PP] : CondV (.lit (.bool false)) ↔ c.b := by simp [CondV]
theorem CondV.on {t : Bool} {c : PP} (h1 : t = true → c.a) (h2 : t = false → c.b) : @CondV (.lit (.bool t)) c := ⟨h1, h2⟩
theorem CondV.dec {p : Prop} [Decidable p] {c : PP} (h1 : p → c.a) (h2 : ¬ p → c.b) : @CondV (.lit (.bool (decide p))) c := ⟨fun h => h1 (of_decide_eq_true h), fun h => h2 (of_decide_eq_false h)⟩
@[simp ↓] theorem vstep_guard {op : Op} {jw : Nat × Bool} : vstep P prim own q ops ⟨dst, op, type, pos, after, some jw⟩ e H k = @GuardR (wantedV ops ⟨dst, op, type, pos, after, some jw⟩ e) ⟨vstep P prim own q ops ⟨dst, op, type, pos, after, none⟩ e H k, k (.tup []) H⟩ := by
  show (match wantedV ops ⟨dst, op, type, pos, after, some jw⟩ e with | some true => _ | some false => _ | none => _) = _
  unfold GuardR
  cases wantedV ops ⟨dst, op, type, pos, after, some jw⟩ e with
  | none => rfl
  | some b => cases b <;> rfl
/-- A call of a function value. -/
def CallVv (P : Program) (prim : CallF) (q : Bool) (v : V) (as : List V) (H : Hp) [k : KVV] : Prop := match v with
  | .fn f fi cp => CALLv P prim q f (fi ++ as ++ cp) H
  | _ => False
@[simp] theorem CallVv_fn {f : FuncId} {fi cp as : List V} [k : KVV] : CallVv P prim q (.fn f fi cp) as H = CALLv P prim q f (fi ++ as ++ cp) H := propext Iff.rfl
@[simp ↓] theorem vstep_callT {t : Tmp} {as : List Operand} {ts : Array TypeId} :
    vstep P prim own q ops ⟨dst, .call { callee := .value (.tmp t), args := as.toArray, argTypes := ts }, type, pos, after, none⟩ e H k = @CallVv P prim q (e t) (as.map (vev e)) H ⟨k⟩ := by
  show (match goCallV (vev e) (.call { callee := .value (.tmp t), args := as.toArray, argTypes := ts }) with | some (f, args) => VCq P prim q f args H k | none => False) = _
  unfold goCallV CallVv CALLv
  dsimp only [vev]
  cases e t <;> exact propext Iff.rfl
@[simp ↓] theorem vstep_callF {f : FuncId} {as : List Operand} {ts : Array TypeId} :
    vstep P prim own q ops ⟨dst, .call { callee := .value (.func f), args := as.toArray, argTypes := ts }, type, pos, after, none⟩ e H k = @CALLv P prim q f (as.map (vev e)) H ⟨k⟩ := by
  show VCq P prim q f ([] ++ as.map (vev e) ++ []) H k = _
  rw [List.nil_append, List.append_nil]; rfl
@[simp ↓] theorem vstep_len {x : Operand} {t : TypeId} : vstep P prim own q ops ⟨dst, .call { callee := .builtin .len, args := #[x], argTypes := #[t] }, type, pos, after, none⟩ e H k = @VK (match P.underlying t, vev e x with
      | some .string, .lit (.string s) => some (.lit (.int .i64 s.size), H)
      | _, _ => (vLen P t H (vev e x)).map (·, H)) ⟨k⟩ := propext Iff.rfl
@[simp ↓] theorem vstep_append {s x : Operand} {t tx : TypeId} : vstep P prim own q ops ⟨dst, .call { callee := .builtin .append, args := #[s, x], argTypes := #[t, tx] }, type, pos, after, none⟩ e H k = @VK (match P.underlying tx with
      | some (.int _) => vZeros P t H (vev e s) (vev e x)
      | _ => vAppend P q t tx H (vev e s) (vev e x)) ⟨k⟩ := propext Iff.rfl
@[simp ↓] theorem vstep_cap {x : Operand} {t : TypeId} : vstep P prim own q ops ⟨dst, .call { callee := .builtin .cap, args := #[x], argTypes := #[t] }, type, pos, after, none⟩ e H k = @VK (match P.underlying t, vev e x with
      | some (.slice _), .lit (.slice none 0 0) => some (.lit (.int .i64 0), H)
      | _, _ => none) ⟨k⟩ := propext Iff.rfl
@[simp ↓] theorem vstep_min {x y : Operand} {ts : Array TypeId} : vstep P prim own q ops ⟨dst, .call { callee := .builtin .min, args := #[x, y], argTypes := ts }, type, pos, after, none⟩ e H k = @VK (match toVal (vev e x), toVal (vev e y) with
      | some (.int k m), some (.int _ n) => some (.lit (.int k (if n < m then n else m)), H)
      | _, _ => none) ⟨k⟩ := propext Iff.rfl
@[simp ↓] theorem vstep_max {x y : Operand} {ts : Array TypeId} : vstep P prim own q ops ⟨dst, .call { callee := .builtin .max, args := #[x, y], argTypes := ts }, type, pos, after, none⟩ e H k = @VK (match toVal (vev e x), toVal (vev e y) with
      | some (.int k m), some (.int _ n) => some (.lit (.int k (if n > m then n else m)), H)
      | _, _ => none) ⟨k⟩ := propext Iff.rfl
@[simp ↓] theorem vstep_copy {d x : Operand} {t tx : TypeId} : vstep P prim own q ops ⟨dst, .call { callee := .builtin .copy, args := #[d, x], argTypes := #[t, tx] }, type, pos, after, none⟩ e H k = @VK (if q then none else vCopy P t tx (vev e d) (vev e x) H) ⟨k⟩ := propext Iff.rfl
@[simp ↓] theorem vstep_move {x : Operand} : vstep P prim own q ops ⟨dst, .move x, type, pos, after, none⟩ e H k = @VK (some (vev e x, H)) ⟨k⟩ := propext Iff.rfl
@[simp ↓] theorem vstep_assign {x : Operand} : vstep P prim own q ops ⟨dst, .assign x, type, pos, after, none⟩ e H k = @VK (some (vev e x, H)) ⟨k⟩ := propext Iff.rfl
@[simp ↓] theorem vstep_pick {c a b : Operand} : vstep P prim own q ops ⟨dst, .pick c a b, type, pos, after, none⟩ e H k = @VK (match vev e c with | .lit (.bool t) => some (if t then vev e a else vev e b, H) | _ => none) ⟨k⟩ := propext Iff.rfl
@[simp ↓] theorem vstep_extract {x : Operand} {i : Nat} : vstep P prim own q ops ⟨dst, .extract x i, type, pos, after, none⟩ e H k = @VK (match vev e x with | .tup vs => (vs[i]?).map (·, H) | _ => none) ⟨k⟩ := propext Iff.rfl
@[simp ↓] theorem vstep_nilCheck {x : Operand} : vstep P prim own q ops ⟨dst, .nilCheck x, type, pos, after, none⟩ e H k = @VK (if nonNil (vev e x) = true then some (vev e x, H) else none) ⟨k⟩ := propext Iff.rfl
@[simp ↓] theorem vstep_alloc {t : TypeId} : vstep P prim own q ops ⟨dst, .alloc t, type, pos, after, none⟩ e H k = @VK ((zerosOf P t 1).bind fun zs => (litCells zs).map fun cs => (.ptr H.length 0, H ++ [.mem cs true])) ⟨k⟩ := propext Iff.rfl
@[simp ↓] theorem vstep_box {t : TypeId} {x : Operand} : vstep P prim own q ops ⟨dst, .box t x, type, pos, after, none⟩ e H k = @VK (if (vev e x).cells.all V.isCell = true then some (.ptr H.length 0, H ++ [.mem (vev e x).cells true]) else none) ⟨k⟩ := propext Iff.rfl
@[simp ↓] theorem vstep_load {t : TypeId} {x : Operand} : vstep P prim own q ops ⟨dst, .load t x, type, pos, after, none⟩ e H k = @VK ((vLoad P t H (vev e x)).map (·, H)) ⟨k⟩ := propext Iff.rfl
@[simp ↓] theorem vstep_store {t : TypeId} {x v : Operand} : vstep P prim own q ops ⟨dst, .store t x v, type, pos, after, none⟩ e H k = @VK (if q then none else (vStore P t H (vev e x) (vev e v)).map fun H' => (.tup [], H')) ⟨k⟩ := propext Iff.rfl
@[simp ↓] theorem vstep_fieldAddr {t : TypeId} {x : Operand} {f : Nat} : vstep P prim own q ops ⟨dst, .fieldAddr t x f, type, pos, after, none⟩ e H k = @VK ((vFieldAddr P t (vev e x) f).map (·, H)) ⟨k⟩ := propext Iff.rfl
@[simp ↓] theorem vstep_field {t : TypeId} {x : Operand} {f : Nat} : vstep P prim own q ops ⟨dst, .field t x f, type, pos, after, none⟩ e H k = @VK (match vev e x, fieldOf P t f with
    | .agg cs, some (off, ft) => (partVV P ft cs off).map (·, H)
    | _, _ => none) ⟨k⟩ := propext Iff.rfl
@[simp ↓] theorem vstep_indexAddr {t : TypeId} {x i : Operand} : vstep P prim own q ops ⟨dst, .indexAddr t x i, type, pos, after, none⟩ e H k = @VK ((vIdx P t H (vev e x) (vev e i)).map (·, H)) ⟨k⟩ := propext Iff.rfl
@[simp ↓] theorem vstep_index {t : TypeId} {x i : Operand} : vstep P prim own q ops ⟨dst, .index t x i, type, pos, after, none⟩ e H k = @VK (match P.underlying t, vev e x, isInt (vev e i) with
    | some (.array n e), .agg cs, some j => match szOf P e with
      | some s => if 0 ≤ j ∧ j < n then (partVV P e cs (j.toNat * s)).map (·, H) else none
      | none => none
    | _, _, _ => none) ⟨k⟩ := propext Iff.rfl
@[simp ↓] theorem vstep_slice {t : TypeId} {x : Operand} {lo hi mx : Option Operand} : vstep P prim own q ops ⟨dst, .slice t x lo hi mx, type, pos, after, none⟩ e H k = @VK (match vNone P t H (vev e x) (lo.map (vev e)) (hi.map (vev e)) (mx.map (vev e)) with
    | some r => some r
    | none => match vTrunc P t H (vev e x) (lo.map (vev e)) (hi.map (vev e)) (mx.map (vev e)) with
      | some r => some r
      | none => (vSlice P t H (vev e x) (lo.map (vev e)) (hi.map (vev e)) (mx.map (vev e))).map (·, H)) ⟨k⟩ := propext Iff.rfl
@[simp ↓] theorem vstep_makeFunc {f : FuncId} {a b : List Operand} : vstep P prim own q ops ⟨dst, .makeFunc (.func f) a.toArray b.toArray, type, pos, after, none⟩ e H k = @VK (some (.fn f (a.map (vev e)) (b.map (vev e)), H)) ⟨k⟩ := propext Iff.rfl
@[simp ↓] theorem vstep_makeInterface {t : TypeId} {x : Operand} : vstep P prim own q ops ⟨dst, .makeInterface t x, type, pos, after, none⟩ e H k = @VK (if P.concrete t = true then some (.ifc t (vev e x), H) else none) ⟨k⟩ := propext Iff.rfl
@[simp ↓] theorem vstep_makeSlice {t : TypeId} {l c : Operand} : vstep P prim own q ops ⟨dst, .makeSlice t l c, type, pos, after, none⟩ e H k = @VK (vMake P t (vev e l) (vev e c) H) ⟨k⟩ := propext Iff.rfl
@[simp ↓] theorem vstep_build {t : TypeId} {ps : List (Nat × Operand)} : vstep P prim own q ops ⟨dst, .build t ps.toArray, type, pos, after, none⟩ e H k = @VK ((vBuild P t (ps.map fun p => (p.1, vev e p.2))).map (·, H)) ⟨k⟩ := propext Iff.rfl
@[simp ↓] theorem vstep_buildSlice {d : Tmp} {t : TypeId} {len : Nat} {ps : List (Nat × Operand)} : vstep P prim own q ops ⟨some d, .buildSlice t len ps.toArray, type, pos, after, none⟩ e H k = @VK (vLit P (own.contains d) t len (ps.map fun p => (p.1, vev e p.2)) H) ⟨k⟩ := propext Iff.rfl
/-- A comparison, or arithmetic. -/
def VB (P : Program) (op : BinOp) (t : TypeId) (x y : V) (H : Hp) [k : KVV] : Prop := match op with
  | .eql => match nilCmp P H t x y with
    | some n => ∀ b : Bool, (0 < n → b = false) → k.run (.lit (.bool b)) H
    | none => VK ((vBin P .eql t x y).map (·, H))
  | .neq => match nilCmp P H t x y with
    | some n => ∀ b : Bool, (0 < n → b = true) → k.run (.lit (.bool b)) H
    | none => VK ((vBin P .neq t x y).map (·, H))
  | op => VK ((vBin P op t x y).map (·, H))
@[simp ↓] theorem vstep_binOp {op : BinOp} {t : TypeId} {x y : Operand} {ty : TypeId} : vstep P prim own q ops ⟨dst, .binOp op t x y ty, type, pos, after, none⟩ e H k = @VB P op t (vev e x) (vev e y) H ⟨k⟩ := by
  show (match nilOp P (vev e) (.binOp op t x y ty) H with
      | some (neq, n) => ∀ b : Bool, (0 < n → b = neq) → k (.lit (.bool b)) H
      | none => (match (vBin P op t (vev e x) (vev e y)).map (·, H) with
        | some (v, H') => k v H'
        | none => False)) = _
  unfold nilOp VB VK
  cases op <;> first | exact propext Iff.rfl | (dsimp only; cases nilCmp P H t (vev e x) (vev e y) <;> exact propext Iff.rfl)
@[simp ↓] theorem vstep_unOp {op : UnOp} {t : TypeId} {x : Operand} : vstep P prim own q ops ⟨dst, .unOp op t x, type, pos, after, none⟩ e H k = @VK (match toVal (vev e x) with
    | some a => ((unI op a).bind mkLit).map (·, H)
    | none => none) ⟨k⟩ := propext Iff.rfl
@[simp ↓] theorem vstep_convert {d : Tmp} {src dt : TypeId} {x : Operand} : vstep P prim own q ops ⟨some d, .convert src dt x, type, pos, after, none⟩ e H k = @VK (vConv P (own.contains d) src dt (vev e x) H) ⟨k⟩ := propext Iff.rfl
@[simp] theorem isCell_lit {v : Value} : (V.lit v).isCell = cellB v := rfl
@[simp] theorem isCell_fsl {k : Bool} {s : Nat} {r : List (List V)} : (V.fsl k s r).isCell = true := rfl
@[simp] theorem isCell_fptr {r : List V} : (V.fptr r).isCell = true := rfl
@[simp] theorem isCell_ptr {g o : Nat} : (V.ptr g o).isCell = true := rfl
@[simp] theorem isCell_own {g o : Nat} : (V.own g o).isCell = true := rfl
@[simp] theorem isCell_elt {g o k w : Nat} : (V.elt g o k w).isCell = true := rfl
@[simp] theorem isCell_fn {f : FuncId} {a b : List V} : (V.fn f a b).isCell = true := rfl
@[simp] theorem isCell_ifc {t : TypeId} {v : V} : (V.ifc t v).isCell = true := rfl
@[simp] theorem isCell_agg {a : List V} : (V.agg a).isCell = false := rfl
@[simp] theorem cells_agg {a : List V} : (V.agg a).cells = a := rfl
@[simp] theorem cells_lit {v : Value} : (V.lit v).cells = [V.lit v] := rfl
@[simp] theorem cells_fsl {k : Bool} {s : Nat} {r : List (List V)} : (V.fsl k s r).cells = [V.fsl k s r] := rfl
@[simp] theorem cells_fptr {r : List V} : (V.fptr r).cells = [V.fptr r] := rfl
@[simp] theorem cells_ptr {g o : Nat} : (V.ptr g o).cells = [V.ptr g o] := rfl
@[simp] theorem cells_own {g o : Nat} : (V.own g o).cells = [V.own g o] := rfl
@[simp] theorem cells_elt {g o k w : Nat} : (V.elt g o k w).cells = [V.elt g o k w] := rfl
@[simp] theorem cells_fn {f : FuncId} {a b : List V} : (V.fn f a b).cells = [V.fn f a b] := rfl
@[simp] theorem cells_ifc {t : TypeId} {v : V} : (V.ifc t v).cells = [V.ifc t v] := rfl
theorem cells_cell {v : V} (h : v.isCell = true) : v.cells = [v] := by cases v <;> first | rfl | cases h
/-- Literals of structs. -/
@[simp] theorem fillV_nil {place : Nat → Option (Nat × Nat)} {cells : List V} : fillV place cells [] = some cells := rfl
theorem RowsOk_nil {s : Nat} : RowsOk s [] := fun r hr => by simp at hr
@[simp] theorem RowsOk_nil_iff {s : Nat} : RowsOk s [] ↔ True := ⟨fun _ => trivial, fun _ => RowsOk_nil⟩
@[simp] theorem RowsOk_cons_iff {s : Nat} {r : List V} {rs : List (List V)} : RowsOk s (r :: rs) ↔ (r.length = s ∧ r.all V.isCell = true) ∧ RowsOk s rs := by
  unfold RowsOk; simp
@[simp] theorem RowsOk_app_iff {s : Nat} {r rs : List (List V)} : RowsOk s (r ++ rs) ↔ RowsOk s r ∧ RowsOk s rs := by
  exact ⟨fun h => ⟨fun x hx => h x (List.mem_append_left _ hx), fun x hx => h x (List.mem_append_right _ hx)⟩, fun h => RowsOk.append h.1 h.2⟩
@[simp] theorem RowsOk_map_iff {α : Type} {s : Nat} {f : α → List V} {l : List α} : RowsOk s (l.map f) ↔ ∀ a ∈ l, (f a).length = s ∧ (f a).all V.isCell = true := by
  unfold RowsOk; simp
@[simp] theorem clip_apply {n : Nat} {t : Tmp} : clip n e t = if belB n (e t) = true then e t else .junk := rfl
@[simp] theorem range1 : List.range 1 = [0] := rfl
@[simp] theorem range2 : List.range 2 = [0, 1] := rfl
@[simp] theorem range3 : List.range 3 = [0, 1, 2] := rfl
@[simp] theorem range4 : List.range 4 = [0, 1, 2, 3] := rfl
@[simp] theorem range5 : List.range 5 = [0, 1, 2, 3, 4] := rfl
@[simp] theorem range6 : List.range 6 = [0, 1, 2, 3, 4, 5] := rfl
@[simp] theorem range7 : List.range 7 = [0, 1, 2, 3, 4, 5, 6] := rfl
@[simp] theorem range8 : List.range 8 = [0, 1, 2, 3, 4, 5, 6, 7] := rfl
@[simp] theorem range9 : List.range 9 = [0, 1, 2, 3, 4, 5, 6, 7, 8] := rfl
@[simp] theorem range10 : List.range 10 = [0, 1, 2, 3, 4, 5, 6, 7, 8, 9] := rfl
@[simp] theorem range11 : List.range 11 = [0, 1, 2, 3, 4, 5, 6, 7, 8, 9, 10] := rfl
@[simp] theorem range12 : List.range 12 = [0, 1, 2, 3, 4, 5, 6, 7, 8, 9, 10, 11] := rfl
@[simp] theorem range13 : List.range 13 = [0, 1, 2, 3, 4, 5, 6, 7, 8, 9, 10, 11, 12] := rfl
/-- Contracts. -/
theorem CALLv.ofH {f : FuncId} {args : List V} {R : V → Prop} (h : ∀ H, VC P prim f args H fun u T => R u ∧ T = H) {k : KVV} (hk : ∀ u, R u → k.run u H) : @CALLv P prim q f args H k := by
  refine ⟨H, .refl, ?_⟩
  cases q with
  | false => exact (h H).mono fun u T ⟨e1, e2⟩ => by subst e2; exact hk u e1
  | true => exact (h (lockV H)).mono fun u T ⟨e1, e2⟩ => by subst e2; exact ⟨[], by simp, by simp, by simpa using hk u e1⟩
/-- A call whose answer is a value. -/
def Ans (P : Program) (prim : CallF) (f : FuncId) (args : List V) (v : V) : Prop := ∀ H, VC P prim f args H fun u T => u = v ∧ T = H
theorem Ans.call {f : FuncId} {args : List V} (h : Ans P prim f args v) {k : KVV} (hk : k.run v H) : @CALLv P prim q f args H k := .ofH (R := (· = v)) h fun u e => by subst e; exact hk
/-- A call that makes one object. -/
def AnsK (P : Program) (prim : CallF) (f : FuncId) (args : List V) (v : Nat → V) (y : Ob) : Prop := y.rwOk ∧ ∀ H, VC P prim f args H fun u T => u = v H.length ∧ T = H ++ [y]
theorem AnsK.call {f : FuncId} {args : List V} {y : Ob} {v : Nat → V} (h : AnsK P prim f args v y) {k : KVV} (hk : k.run (v H.length) (H ++ [y])) : @CALLv P prim q f args H k := by
  refine ⟨H, .refl, ?_⟩
  cases q with
  | false => exact (h.2 H).mono fun u T ⟨e1, e2⟩ => by subst e2; subst e1; exact hk
  | true => exact (h.2 (lockV H)).mono fun u T ⟨e1, e2⟩ => by subst e2; subst e1; exact ⟨[y], rfl, by simpa using h.1, by simpa [lockV] using hk⟩
/-- A call that answers rows of one's own. -/
def AnsO (P : Program) (prim : CallF) (f : FuncId) (args : List V) (s : Nat) (rows : List (List V)) : Prop := ∀ H, VC P prim f args H fun u T => ∃ w t, u = .own H.length w ∧ T = H ++ [.vec w rows s true t]
theorem AnsO.call {f : FuncId} {args : List V} {s : Nat} {rows : List (List V)} (h : AnsO P prim f args s rows) {k : KVV} (hk : ∀ w t, k.run (.own H.length w) (H ++ [.vec w rows s true t])) : @CALLv P prim q f args H k := by
  refine ⟨H, .refl, ?_⟩
  cases q with
  | false => exact (h H).mono fun u T ⟨w, t, e1, e2⟩ => by subst e2; subst e1; exact hk w t
  | true => exact (h (lockV H)).mono fun u T ⟨w, t, e1, e2⟩ => by subst e2; subst e1; exact ⟨[_], rfl, by simp [Ob.rwOk], by simpa [lockV] using hk w t⟩
/-- A call that may change what stands. -/
theorem CALLv.at {f : FuncId} {args : List V} {R : V → Hp → Prop} {k : KVV} (h : VC P prim f args H R) (hk : ∀ v T, R v T → k.run v T) : @CALLv P prim false f args H k := ⟨H, .refl, h.mono hk⟩
theorem VC.up {f : FuncId} {args args' : List V} {R : V → Hp → Prop} (ha : Ups H.length [] [] H args' args) (h : VC P prim f args' H R) : VC P prim f args H R := by
  intro K φ σ as hR hs
  obtain ⟨K', φ', h1, h2, h3⟩ := ghostA (L := []) (E := []) (H0 := H) (Z := []) (Z' := []) (X := []) (Y := []) hR hR.cl (by simp) (by simp) (by simp) (by simp) rfl rfl (by simp)
  simp only [List.map_nil, List.append_nil, List.length_nil, Nat.add_zero] at h1 h2 h3
  have conv : ∀ {us vs : List V} {l : List Value}, Ups H.length [] [] H us vs → VRs K vs φ l → VRs K' us φ' l := fun {us} => by
    induction us with
    | nil => intro vs l hu hv; simp only [Ups] at hu; subst hu; exact hv
    | cons u us ih =>
      intro vs l hu hv
      simp only [Ups] at hu
      obtain ⟨w, ws, rfl, e1, e2⟩ := hu
      obtain ⟨a, as', f1, f2, f3⟩ := hv
      exact ⟨a, as', f1, h3 e1 f2, ih e2 f3⟩
  rw [← hR.len] at h1
  exact (h K' φ' σ as h2 (conv ha hs)).mono fun a σ' ⟨K2, φ2, v, H2, g1, g2, g3, g4⟩ => ⟨K2, φ2, v, H2, h1.trans g1 (h1.le_len (Nat.le_refl _)), g2, g3, g4⟩
section
variable {n : Nat} {L E : List Nat} {H1 : Hp}
@[simp] theorem Ups_nil : Ups n L E H1 [] [] ↔ True := by simp [Ups]
@[simp] theorem Ups_cons {v u : V} {vs us : List V} : Ups n L E H1 (v :: vs) (u :: us) ↔ Up n L E H1 v u ∧ Ups n L E H1 vs us := by
  simp only [Ups]
  exact ⟨fun ⟨_, _, h, h1, h2⟩ => by cases h; exact ⟨h1, h2⟩, fun ⟨h1, h2⟩ => ⟨_, _, rfl, h1, h2⟩⟩
@[simp] theorem UpR_nil : UpR n L E H1 [] [] ↔ True := by simp [UpR]
@[simp] theorem UpR_cons {v u : List V} {vs us : List (List V)} : UpR n L E H1 (v :: vs) (u :: us) ↔ Ups n L E H1 v u ∧ UpR n L E H1 vs us := by
  simp only [UpR]
  exact ⟨fun ⟨_, _, h, h1, h2⟩ => by cases h; exact ⟨h1, h2⟩, fun ⟨h1, h2⟩ => ⟨_, _, rfl, h1, h2⟩⟩
@[simp] theorem UpOs_nil : UpOs n L E H1 [] [] ↔ True := by simp [UpOs]
@[simp] theorem UpOs_cons {v u : Ob} {vs us : List Ob} : UpOs n L E H1 (v :: vs) (u :: us) ↔ UpO n L E H1 v u ∧ UpOs n L E H1 vs us := by
  simp only [UpOs]
  exact ⟨fun ⟨_, _, h, h1, h2⟩ => by cases h; exact ⟨h1, h2⟩, fun ⟨h1, h2⟩ => ⟨_, _, rfl, h1, h2⟩⟩
@[simp] theorem UpO_mem {c c0 : List V} {r r0 : Bool} : UpO n L E H1 (.mem c r) (.mem c0 r0) ↔ r = r0 ∧ Ups n L E H1 c c0 := Iff.rfl
@[simp] theorem UpO_vec {w w0 s s0 : Nat} {c c0 : List (List V)} {r r0 t t0 : Bool} : UpO n L E H1 (.vec w c s r t) (.vec w0 c0 s0 r0 t0) ↔ w = w0 ∧ s = s0 ∧ r = r0 ∧ t = t0 ∧ RowsOk s c ∧ UpR n L E H1 c c0 := Iff.rfl
@[simp] theorem UpO_fro {w w0 s s0 : Nat} {c c0 : List (List V)} : UpO n L E H1 (.fro w c s) (.fro w0 c0 s0) ↔ w = w0 ∧ s = s0 ∧ c = c0 := Iff.rfl
/-- Rows without objects stay. -/
theorem UpR_pure {v : List (List V)} (h : ∀ r ∈ v, pureVs r = true) : UpR n L E H1 v v ↔ True := ⟨fun _ => trivial, fun _ => UpR.self h⟩
@[simp] theorem UpR_map {α : Type} {f : α → List V} {l : List α} (h : ∀ a, pureVs (f a) = true) : UpR n L E H1 (l.map f) (l.map f) ↔ True := UpR_pure fun r hr => by obtain ⟨a, _, rfl⟩ := List.mem_map.1 hr; exact h a
/-- Rows that name no object. -/
def PureR (rows : List (List V)) : Prop := ∀ r ∈ rows, pureVs r = true
@[simp] theorem PureR_nil : PureR [] ↔ True := by simp [PureR]
@[simp] theorem PureR_cons {r : List V} {rs : List (List V)} : PureR (r :: rs) ↔ pureVs r = true ∧ PureR rs := by simp [PureR]
@[simp] theorem PureR_app {r rs : List (List V)} : PureR (r ++ rs) ↔ PureR r ∧ PureR rs := by
  unfold PureR
  exact ⟨fun h => ⟨fun x hx => h x (List.mem_append_left _ hx), fun x hx => h x (List.mem_append_right _ hx)⟩, fun h x hx => (List.mem_append.1 hx).elim (h.1 x) (h.2 x)⟩
@[simp] theorem PureR_map {α : Type} {f : α → List V} {l : List α} : PureR (l.map f) ↔ ∀ a ∈ l, pureVs (f a) = true := by simp [PureR]
theorem PureR.take {l : List (List V)} (h : PureR l) (n : Nat) : PureR (l.take n) := fun r hr => h r (List.mem_of_mem_take hr)
theorem PureR.drop {l : List (List V)} (h : PureR l) (n : Nat) : PureR (l.drop n) := fun r hr => h r (List.mem_of_mem_drop hr)
@[simp] theorem PureR_take {α : Type} {f : α → List V} {l : List α} {n : Nat} (h : ∀ a, pureVs (f a) = true) : PureR ((l.map f).take n) ↔ True := ⟨fun _ => trivial, fun _ => .take (PureR_map.2 fun a _ => h a) n⟩
@[simp] theorem PureR_drop {α : Type} {f : α → List V} {l : List α} {n : Nat} (h : ∀ a, pureVs (f a) = true) : PureR ((l.map f).drop n) ↔ True := ⟨fun _ => trivial, fun _ => .drop (PureR_map.2 fun a _ => h a) n⟩
@[simp] theorem PureR_rep {r : List V} {n : Nat} (h : pureVs r = true) : PureR (List.replicate n r) ↔ True := ⟨fun _ => trivial, fun _ x hx => by rw [(List.mem_replicate.1 hx).2]; exact h⟩
/-- One's own rows, frozen. -/
def UpFz (n : Nat) (L E : List Nat) (H1 : Hp) (s : Nat) (rows : List (List V)) (g w : Nat) : Prop := match H1[g]? with
  | some (.vec w' rows0 s' _ _) => w = w' ∧ s = s' ∧ n ≤ g ∧ g ∉ L ∧ (rows = rows0 ∨ UpR n L E H1 rows rows0)
  | some (.fro w' rows0 s') => w = w' ∧ s = s' ∧ rows = rows0
  | _ => False
@[simp] theorem Up_fsl_own {k : Bool} {s g w : Nat} {rows : List (List V)} : Up n L E H1 (.fsl k s rows) (.own g w) ↔ PureR rows ∧ UpFz n L E H1 s rows g w := by
  simp only [Up, PureR, UpFz]
  constructor
  · rintro (⟨_, h, _⟩ | ⟨h, _⟩ | ⟨hp, g', w', rows0, h, hq⟩)
    · cases h
    · cases h
    · cases h
      refine ⟨hp, ?_⟩
      rcases hq with ⟨rw, t, h1, h2, h3, h4⟩ | ⟨h1, h2⟩
      · rw [h1]; exact ⟨rfl, rfl, h2, h3, .inr h4⟩
      · rw [h1]; exact ⟨rfl, rfl, h2⟩
  · rintro ⟨hp, h⟩
    refine .inr (.inr ⟨hp, g, w, ?_⟩)
    split at h
    · rename_i w' rows0 s' rw t hg
      obtain ⟨rfl, rfl, h1, h2, h3⟩ := h
      refine ⟨rows0, rfl, .inl ⟨rw, t, hg, h1, h2, ?_⟩⟩
      rcases h3 with h3 | h3
      · subst h3; exact UpR.self hp
      · exact h3
    · rename_i w' rows0 s' hg
      obtain ⟨rfl, rfl, rfl⟩ := h
      exact ⟨_, rfl, .inr ⟨hg, rfl⟩⟩
    · exact h.elim
@[simp] theorem Up_fsl_fsl {k k0 : Bool} {s s0 : Nat} {rows rows0 : List (List V)} : Up n L E H1 (.fsl k s rows) (.fsl k0 s0 rows0) ↔ s0 = s ∧ rows0 = rows ∧ (k = true → k0 = true) := by
  simp only [Up]
  constructor
  · rintro (⟨_, h, h1⟩ | ⟨h, _⟩ | ⟨_, _, _, _, h, _⟩)
    · cases h; exact ⟨rfl, rfl, h1⟩
    · cases h
    · cases h
  · rintro ⟨rfl, rfl, h⟩; exact .inl ⟨_, rfl, h⟩
@[simp] theorem Up_fsl_nil {k : Bool} {s : Nat} {rows : List (List V)} : Up n L E H1 (.fsl k s rows) (.lit (.slice none 0 0)) ↔ rows = [] ∧ s < 4294967296 := by
  simp only [Up]
  constructor
  · rintro (⟨_, h, _⟩ | ⟨_, h, h1⟩ | ⟨_, _, _, _, h, _⟩)
    · cases h
    · exact ⟨List.eq_nil_of_length_eq_zero h, h1⟩
    · cases h
  · rintro ⟨rfl, h⟩; exact .inr (.inl ⟨trivial, rfl, h⟩)
@[simp] theorem Up_lit {v : Value} {u : V} : Up n L E H1 (.lit v) u ↔ u = .lit v := by simp only [Up]
@[simp] theorem Up_agg {vs us : List V} : Up n L E H1 (.agg vs) (.agg us) ↔ Ups n L E H1 vs us := by
  simp only [Up]
  exact ⟨fun ⟨_, h, h1⟩ => by cases h; exact h1, fun h => ⟨_, rfl, h⟩⟩
@[simp] theorem Up_tup {vs us : List V} : Up n L E H1 (.tup vs) (.tup us) ↔ Ups n L E H1 vs us := by
  simp only [Up]
  exact ⟨fun ⟨_, h, h1⟩ => by cases h; exact h1, fun h => ⟨_, rfl, h⟩⟩
@[simp] theorem Up_junk {u : V} : Up n L E H1 .junk u ↔ True := by simp only [Up]
@[simp] theorem Up_own_nil {g w : Nat} : Up n L E H1 (.own g w) (.lit (.slice none 0 0)) ↔ n + L.length ≤ g ∧ g < n + L.length + E.length ∧ w = 0 := by
  simp only [Up]
  constructor
  · rintro (⟨_, h⟩ | ⟨_, h, _⟩ | ⟨h1, h2, h3, _⟩)
    · cases h
    · cases h
    · exact ⟨h1, h2, h3⟩
  · rintro ⟨h1, h2, h3⟩; exact .inr (.inr ⟨h1, h2, h3, trivial⟩)
@[simp] theorem Up_own_own {g w g0 w0 : Nat} : Up n L E H1 (.own g w) (.own g0 w0) ↔ w0 = w ∧ ((g < n ∧ g0 = g) ∨ (n ≤ g ∧ L[g - n]? = some g0)) := by
  simp only [Up]
  constructor
  · rintro (⟨h1, h⟩ | ⟨_, h, h1⟩ | ⟨_, _, _, h⟩)
    · cases h; exact ⟨rfl, .inl ⟨h1, rfl⟩⟩
    · cases h; exact ⟨rfl, .inr h1⟩
    · cases h
  · rintro ⟨rfl, ⟨h1, rfl⟩ | h⟩
    · exact .inl ⟨h1, rfl⟩
    · exact .inr (.inl ⟨_, rfl, h⟩)
@[simp] theorem Up_ptr_ptr {g o g0 o0 : Nat} : Up n L E H1 (.ptr g o) (.ptr g0 o0) ↔ o0 = o ∧ ((g < n ∧ g0 = g) ∨ (n ≤ g ∧ L[g - n]? = some g0)) := by
  simp only [Up]
  constructor
  · rintro (⟨h1, h⟩ | ⟨_, h, h1⟩)
    · cases h; exact ⟨rfl, .inl ⟨h1, rfl⟩⟩
    · cases h; exact ⟨rfl, .inr h1⟩
  · rintro ⟨rfl, ⟨h1, rfl⟩ | h⟩
    · exact .inl ⟨h1, rfl⟩
    · exact .inr ⟨_, rfl, h⟩
/-- An object's cells, frozen. -/
def UpFp (n : Nat) (L E : List Nat) (H1 : Hp) (cs : List V) (g o : Nat) : Prop := match H1[g]? with
  | some (.mem cells _) => n ≤ g ∧ g ∉ L ∧ o ≤ cells.length ∧ Ups n L E H1 cs (cells.drop o)
  | _ => False
@[simp] theorem Up_fptr_ptr {cs : List V} {g o : Nat} : Up n L E H1 (.fptr cs) (.ptr g o) ↔ pureVs cs = true ∧ UpFp n L E H1 cs g o := by
  simp only [Up, UpFp]
  constructor
  · rintro (h | ⟨hp, g', o', cells, rw, h, h1, h2⟩)
    · cases h
    · cases h; rw [h1]; exact ⟨hp, h2⟩
  · rintro ⟨hp, h⟩
    refine .inr ⟨hp, g, o, ?_⟩
    split at h
    · rename_i cells rw hg
      exact ⟨cells, rw, rfl, hg, h⟩
    · exact h.elim
@[simp] theorem Up_fptr_fptr {cs cs0 : List V} : Up n L E H1 (.fptr cs) (.fptr cs0) ↔ cs0 = cs := by
  simp only [Up]
  constructor
  · rintro (h | ⟨_, _, _, _, _, h, _⟩) <;> cases h; rfl
  · rintro rfl; exact .inl rfl
@[simp] theorem Up_fn {f : FuncId} {fi cp fi0 cp0 : List V} : Up n L E H1 (.fn f fi cp) (.fn f fi0 cp0) ↔ Ups n L E H1 fi fi0 ∧ Ups n L E H1 cp cp0 := by
  simp only [Up]
  exact ⟨fun ⟨_, _, h, h1⟩ => by cases h; exact h1, fun h => ⟨_, _, rfl, h⟩⟩
attribute [simp] UpFz UpFp
end
end
attribute [simp] vev vupd ofVal toVal litsOf flatB vLen lenOf rowsAt rowsOf vLoad at_ vStore putAt spl vFieldAddr vIdx isInt vSlice intOptV vSliceR vAppend srcV vBin vEq mkLit vConv bytesV vBuild vLit litRows vMake vNone vTrunc vZeros nilI VB nilCmp litCells partVV nonNil wantedV vresults vresult vresultL pureV pureVs belB belBs fillV vCopy
end Go.Proofs.Ytenbclcfhjdcaaa.VM
