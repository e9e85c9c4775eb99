/- An abstract machine beside the model's: memory as a list of blocks with permissions, operations in the text's order. Definitions. -/
import Derived.Deep.AppendSrc
import Derived.Deep.Upon
import Derived.Laws.MakeOwn
import Derived.Laws.IdiomCopy
import Derived.Laws.Tables
import Derived.Laws.BytesString
import Derived.Lib.ConvBytes
import Derived.Orders
import Derived.Scope
import Derived.Below
import Derived.WideLaws
import Derived.WalkKit
namespace Go.Proofs.Ytenbclcfhjdcaaa.AM
open Go

inductive Perm where | full | ro | dead
  deriving DecidableEq, Repr
structure Blk where
  cells : List Value
  perm : Perm
abbrev Heap := List Blk
abbrev Env := Nat → Value

def top : Nat := 18446744073709551616
/-- The capacity of an empty slice whose place is unknown. -/
def dng : Nat := 340282366920938463463374607431768211456
/-- A capacity that is unknown, of elements of s cells: at least lb. -/
def unk (s lb : Nat) : Nat := top * (s + 1) + lb
inductive Cap where | exact (c : Nat) | unk (s lb : Nat) | dng
/-- What a capacity of the abstract machine says. -/
def capOf (c : Nat) : Cap := if c < top then .exact c else if c < dng then .unk (c / top - 1) (c % top) else .dng

/-- A value of one cell without an address. -/
def scalarB : Value → Bool
  | .bool _ | .int _ _ | .float _ _ | .complex _ _ _ | .string _ | .pointer none | .slice none 0 0 | .map none | .chan none | .nilFunc | .nilIface => true
  | _ => false
/-- A value without addresses. -/
def flatB : Value → Bool
  | .agg cs => cs.all scalarB
  | .tuple cs => cs.all scalarB
  | .iface _ v => scalarB v
  | v => scalarB v
def junkB : Value → Bool
  | .chan (some _) => true
  | _ => false
/-- May it stand in a cell? -/
def cellB (v : Value) : Bool := v.oneCell' && !junkB v

def ev (e : Env) : Operand → Value
  | .tmp t => e t
  | .const v => v
  | .global g => .pointer (some ⟨g, 0, none⟩)
  | .func f => .func (.func f) #[] #[]
def upd (e : Env) (d : Option Tmp) (v : Value) : Env :=
  match d with
  | some i => fun j => if j = i then v else e j
  | none => e

def pureRun {α : Type} (P : Program) : Sem α → Option α
  | .pure a => some a
  | .program k => pureRun P (k P)
  | .mark _ k => pureRun P k
  | _ => none

def szOf (P : Program) (t : TypeId) : Option Nat := (P.info? t).map (·.size)
def byOf (P : Program) (t : TypeId) : Option Nat := (P.info? t).map (·.bytes)
def zeroOf (P : Program) (t : TypeId) : Option Value := (P.info? t).bind (·.zero)
def aggOf (P : Program) (t : TypeId) : Option Bool :=
  match P.underlying t with
  | some (.struct _) | some (.array _ _) => some true
  | some _ => some false
  | none => none

def readN (σ : Heap) (a : Addr) (n : Nat) : Option (List Value) :=
  match a.spot, σ[a.block]? with
  | none, some b => if b.perm ≠ .dead ∧ a.off + n ≤ b.cells.length then some ((b.cells.drop a.off).take n) else none
  | _, _ => none
def splice (cs : List Value) (o : Nat) (vs : List Value) : List Value := cs.take o ++ vs ++ cs.drop (o + vs.length)
def writeN (σ : Heap) (a : Addr) (vs : List Value) : Option Heap :=
  match a.spot, σ[a.block]? with
  | none, some b => if b.perm = .full ∧ a.off + vs.length ≤ b.cells.length ∧ vs.all cellB = true then some (σ.set a.block ⟨splice b.cells a.off vs, .full⟩) else none
  | _, _ => none
def newBlk (σ : Heap) (cs : List Value) : Option (Addr × Heap) :=
  if cs.all cellB = true then some (⟨σ.length, 0, none⟩, σ ++ [⟨cs, .full⟩]) else none

def loadV (P : Program) (t : TypeId) (σ : Heap) (a : Addr) : Option Value :=
  match aggOf P t, szOf P t with
  | some true, some n => (readN σ a n).map fun l => .agg l.toArray
  | some false, _ => (readN σ a 1).bind (·[0]?)
  | _, _ => none
def partV (P : Program) (t : TypeId) (cs : Array Value) (off : Nat) : Option Value :=
  match aggOf P t, szOf P t with
  | some true, some n => some (.agg (cs.extract off (off + n)))
  | some false, _ => cs[off]?
  | _, _ => none
def zerosOf (P : Program) (t : TypeId) (n : Nat) : Option (List Value) :=
  match zeroOf P t, szOf P t with
  | some z, some s => if flatB z = true ∧ z.cells.size = s then some (List.replicate n z.cells.toList).flatten else none
  | _, _ => none

def fieldOf (P : Program) (t : TypeId) (f : Nat) : Option (Nat × TypeId) :=
  match P.underlying t with
  | some (.struct fs) => (fs[f]?).map fun x => (x.offset, x.type)
  | _ => none

/-- The cells of what is appended or copied, and how many elements. -/
def srcOf (P : Program) (σ : Heap) (size : Nat) (tx : TypeId) (x : Value) : Option (Nat × List Value) :=
  match P.underlying tx, x with
  | some (.slice _), .slice (some a) n _ => (readN σ a (n * size)).map (n, ·)
  | some (.slice _), .slice none 0 0 => some (0, [])
  | some .string, .string s => if size = 1 then some (s.size, byteCells s) else none
  | _, _ => none

def kill (σ : Heap) (l : Nat) : Heap := σ.modify l fun b => { b with perm := .dead }

/-- append; q: nothing that stands may be written over. -/
def aAppend (P : Program) (q : Bool) (t tx : TypeId) (s x : Value) (σ : Heap) : Option (Value × Heap) :=
  match P.underlying t, s with
  | some (.slice e), .slice A n c =>
    match szOf P e, byOf P e, zeroOf P e with
    | some size, some bytes, some z =>
      match srcOf P σ size tx x with
      | some (m, xs) =>
        if ¬ (size ≠ 0 ∧ z.cells.size = size ∧ size ≤ 1048576 ∧ bytes ≤ 4096 ∧ n + m ≤ 17179869184 ∧ xs.all cellB = true) then none else
        match A with
        | none => if n = 0 ∧ c = 0 then (if m = 0 then some (s, σ) else (newBlk σ xs).map fun (a, σ') => (.slice (some a) m (unk size m), σ')) else none
        | some a =>
          match capOf c with
          | .exact c =>
            if n + m ≤ c then (if m = 0 then some (s, σ) else if q then none else (writeN σ (a.add (n * size)) xs).map fun σ' => (.slice A (n + m) c, σ'))
            else match readN σ a (n * size) with
              | some olds => (newBlk σ (olds ++ xs)).map fun (a, σ') => (.slice (some a) (n + m) (unk size (n + m)), σ')
              | none => none
          | .unk es lb =>
            if m = 0 then some (s, σ)
            else if n + m ≤ lb then (if q then none else (writeN σ (a.add (n * size)) xs).map fun σ' => (.slice A (n + m) c, σ'))
            else match a, σ[a.block]? with
              | ⟨l, 0, none⟩, some b =>
                if b.perm = .full ∧ n * size ≤ b.cells.length ∧ es = size then (newBlk (kill σ l) (b.cells.take (n * size) ++ xs)).map fun (a, σ') => (.slice (some a) (n + m) (unk size (n + m)), σ')
                else none
              | _, _ => none
          | .dng => none
      | none => none
    | _, _, _ => none
  | _, _ => none

/-- append of made zeros, to nil alone. -/
def aZeros (P : Program) (t : TypeId) (s x : Value) (σ : Heap) : Option (Value × Heap) :=
  match P.underlying t, s, x with
  | some (.slice e), .slice none 0 0, .int _ n =>
    match szOf P e, byOf P e, zerosOf P e n.toNat with
    | some size, some bytes, some zs => if 0 < n ∧ n ≤ 17179869184 ∧ 0 < size ∧ size ≤ 1048576 ∧ bytes ≤ 4096 then (newBlk σ zs).map fun (a, σ') => (.slice (some a) n.toNat (unk size n.toNat), σ') else none
    | _, _, _ => none
  | _, _, _ => none
def aApp (P : Program) (q : Bool) (t tx : TypeId) (s x : Value) (σ : Heap) : Option (Value × Heap) :=
  match P.underlying tx with
  | some (.int _) => aZeros P t s x σ
  | _ => aAppend P q t tx s x σ

def intOpt : Option Value → Option (Option Int)
  | none => some none
  | some (.int _ i) => some (some i)
  | _ => none
/-- Bounds of a slice expression: low, high, the capacity's bound. -/
def bounds (len cap : Nat) (lo hi mx : Option Int) : Option (Nat × Nat × Nat) :=
  match lo, hi, mx with
  | none, none, none => some (0, len, cap)
  | some l, none, none => if 0 ≤ l ∧ l ≤ len then some (l.toNat, len, cap) else none
  | none, some h, none => if 0 ≤ h ∧ h ≤ cap then some (0, h.toNat, cap) else none
  | some l, some h, none => if 0 ≤ l ∧ l ≤ h ∧ h ≤ cap then some (l.toNat, h.toNat, cap) else none
  | none, some h, some m => if 0 ≤ h ∧ h ≤ m ∧ m ≤ cap then some (0, h.toNat, m.toNat) else none
  | some l, some h, some m => if 0 ≤ l ∧ l ≤ h ∧ h ≤ m ∧ m ≤ cap then some (l.toNat, h.toNat, m.toNat) else none
  | _, none, some _ => none
def aSlice (P : Program) (t : TypeId) (x : Value) (lo hi mx : Option Value) : Option Value :=
  match intOpt lo, intOpt hi, intOpt mx with
  | some lo, some hi, some mx =>
    match P.underlying t, x with
    | some (.slice e), .slice A n c =>
      match szOf P e with
      | none => none
      | some size =>
        match A with
        | none => if n = 0 ∧ c = 0 then (bounds 0 0 lo hi mx).map fun _ => .slice none 0 0 else none
        | some a =>
          match capOf c with
          | .exact c => (bounds n c lo hi mx).map fun (l, h, m) => .slice (some (if m = l then a else a.add (l * size))) (h - l) (m - l)
          | .unk es lb =>
            match bounds n lb lo hi mx with
            | none => none
            | some (l, h, m) =>
              if mx.isSome then some (.slice (some (if m = l then a else a.add (l * size))) (h - l) (m - l))
              else if l = 0 then some (.slice (some a) h c)
              else if l < h ∧ es = size then some (.slice (some (a.add (l * size))) (h - l) (unk es (lb - l)))
              else if l = h then some (.slice (some a) 0 AM.dng)
              else none
          | .dng => (bounds 0 0 lo hi mx).map fun _ => .slice (some a) 0 AM.dng
    | some (.array n e), .pointer (some a) =>
      match szOf P e with
      | none => none
      | some size => if n < top then (bounds n n lo hi mx).map fun (l, h, m) => .slice (some (if m = l then a else a.add (l * size))) (h - l) (m - l) else none
    | _, _ => none
  | _, _, _ => none

/-- '==' where one of the two may have an address. -/
def aEq (P : Program) (t : TypeId) (x y : Value) : Option Bool :=
  match P.underlying t, x, y with
  | some (.pointer _), .pointer (some _), .pointer none | some (.pointer _), .pointer none, .pointer (some _) => some false
  | some (.slice _), .slice (some _) _ _, .slice none _ _ | some (.slice _), .slice none _ _, .slice (some _) _ _ => some false
  | some (.map _ _), .map (some _), .map none | some (.map _ _), .map none, .map (some _) => some false
  | some (.func _ _ _), .func _ _ _, .nilFunc | some (.func _ _ _), .nilFunc, .func _ _ _ => some false
  | some (.interface _), .iface _ _, .nilIface | some (.interface _), .nilIface, .iface _ _ => some false
  | _, _, _ => none

def byteOfV : Value → Option UInt8
  | .int .u8 n => some (UInt8.ofNat n.toNat)
  | _ => none

/-- '==' and '!=' of strings (by their lists: the kernel can compute it). -/
def strEq : BinOp → Value → Value → Option Bool
  | .eql, .string a, .string b => some (a.data.toList == b.data.toList)
  | .neq, .string a, .string b => some (!(a.data.toList == b.data.toList))
  | _, _, _ => none

/-- An operation that only computes. -/
def aPure (P : Program) (ρ : Operand → Value) (o : Oper) : Option Value :=
  if o.op.operands.all (fun x => flatB (ρ x)) then
    match pureRun P (execOp ρ o) with
    | some (.value v) => if flatB v then some v else none
    | _ => none
  else none

/-- One operation that is no call of a Go function. -/
def aop (P : Program) (q : Bool) (ρ : Operand → Value) (o : Oper) (σ : Heap) : Option (Value × Heap) :=
  match o.op with
  | .move x | .assign x => some (ρ x, σ)
  | .pick c a b => match ρ c with
    | .bool t => some (if t then ρ a else ρ b, σ)
    | _ => none
  | .extract x i => match ρ x with
    | .tuple vs => (vs[i]?).map (·, σ)
    | _ => none
  | .nilCheck x => match ρ x with
    | .pointer (some a) => some (.pointer (some a), σ)
    | .func (.func f) a b => some (.func (.func f) a b, σ)
    | _ => none
  | .alloc t => (zerosOf P t 1).bind fun zs => (newBlk σ zs).map fun (a, σ') => (.pointer (some a), σ')
  | .box _ x => (newBlk σ (ρ x).cells.toList).map fun (a, σ') => (.pointer (some a), σ')
  | .load t x => match ρ x with
    | .pointer (some a) => (loadV P t σ a).map (·, σ)
    | _ => none
  | .store t x v => match ρ x, szOf P t with
    | .pointer (some a), some n => if q = false ∧ (ρ v).cells.size = n then (writeN σ a (ρ v).cells.toList).map fun σ' => (undef, σ') else none
    | _, _ => none
  | .fieldAddr t x f => match ρ x, fieldOf P t f with
    | .pointer (some a), some (off, ft) => match szOf P ft with
      | some (_ + 1) => some (.pointer (some (a.add off)), σ)
      | _ => none
    | _, _ => none
  | .field t x f => match ρ x, fieldOf P t f with
    | .agg cs, some (off, ft) => (partV P ft cs off).map (·, σ)
    | _, _ => none
  | .indexAddr t x i => match P.underlying t, ρ x, ρ i with
    | some (.slice e), .slice (some a) n _, .int _ j => match szOf P e with
      | some s => if 0 ≤ j ∧ j < n then some (.pointer (some (a.add (j.toNat * s))), σ) else none
      | none => none
    | some (.array n e), .pointer (some a), .int _ j => match szOf P e with
      | some s => if 0 ≤ j ∧ j < n then some (.pointer (some (a.add (j.toNat * s))), σ) else none
      | none => none
    | _, _, _ => none
  | .index t x i => match P.underlying t, ρ x, ρ i with
    | some (.array n e), .agg cs, .int _ j => match szOf P e with
      | some s => if 0 ≤ j ∧ j < n then (partV P e cs (j.toNat * s)).map (·, σ) else none
      | none => none
    | _, _, _ => (aPure P ρ o).map (·, σ)
  | .slice t x lo hi mx => match ρ x with
    | .string _ => (aPure P ρ o).map (·, σ)
    | _ => (aSlice P t (ρ x) (lo.map ρ) (hi.map ρ) (mx.map ρ)).map (·, σ)
  | .makeFunc fn first captured => match fn with
    | .func f => some (.func (.func f) (first.map ρ) (captured.map ρ), σ)
    | _ => none
  | .makeInterface t x => if P.concrete t = true then some (.iface t (ρ x), σ) else none
  | .makeSlice t l c => match P.underlying t, ρ l, ρ c with
    | some (.slice e), .int _ l, .int _ c => match byOf P e with
      | some bytes => if 0 ≤ l ∧ l ≤ c ∧ c ≤ 17179869184 ∧ bytes ≤ 4096 then (zerosOf P e c.toNat).bind fun zs => (newBlk σ zs).map fun (a, σ') => (.slice (some a) l.toNat c.toNat, σ') else none
      | none => none
    | _, _, _ => none
  | .build t parts => match zeroOf P t with
    | some z => if flatB z = true ∧ (parts.all fun (_, x) => !junkB (ρ x)) = true then (P.built t (parts.map fun (i, x) => (i, ρ x)).toList).map fun cs => (.agg cs, σ) else none
    | none => none
  | .buildSlice t len parts => match P.underlying t with
    | some (.slice e) => match szOf P e, zerosOf P e len with
      | some s, some zs => if len * s ≤ 16777216 ∧ len < top ∧ (parts.all fun (_, x) => !junkB (ρ x)) = true then
          (Instr.fill (fun i => some (i * s, s)) zs.toArray (parts.map fun (i, x) => (i, ρ x)).toList).bind fun cs => (newBlk σ cs.toList).map fun (a, σ') => (.slice (some a) len len, σ')
        else none
      | _, _ => none
    | _ => none
  | .binOp op t x y _ =>
    match strEq op (ρ x) (ρ y) with
    | some b => some (.bool b, σ)
    | none =>
    if flatB (ρ x) && flatB (ρ y) then (aPure P ρ o).map (·, σ) else
    match op with
    | .eql => (aEq P t (ρ x) (ρ y)).map fun b => (.bool b, σ)
    | .neq => (aEq P t (ρ x) (ρ y)).map fun b => (.bool (!b), σ)
    | _ => none
  | .convert src dst x => match P.underlying src, P.underlying dst, ρ x with
    | some (.slice e), some .string, .slice A n _ => match P.underlying e with
      | some (.int .u8) => match A with
        | some a => match readN σ a n with
          | some cs => match cs.mapM byteOfV with
            | some bs => some (.string ⟨bs.toArray⟩, σ)
            | none => none
          | none => none
        | none => none
      | _ => none
    | some (.slice _), some (.slice e), .slice (some a) n c => match P.underlying e, σ[a.block]? with
      | some (.int .u8), some b => if src = dst ∧ b.perm = .full ∧ c < dng then some (.slice (some a) n c, σ) else none
      | _, _ => none
    | some .string, some (.slice e), .string s => match P.underlying e with
      | some (.int .u8) => if s.size ≤ 17179869184 then (newBlk σ (byteCells s)).map fun (a, σ') => (.slice (some a) s.size (unk 1 s.size), σ') else none
      | _ => none
    | _, _, _ => (aPure P ρ o).map (·, σ)
  | .call { callee := .builtin b, args, argTypes } => match b, args.toList, argTypes.toList with
    | .append, [s, x], [t, tx] => aApp P q t tx (ρ s) (ρ x) σ
    | .len, [x], [t] => match P.underlying t, ρ x with
      | some (.slice _), .slice _ n _ => some (.int .i64 n, σ)
      | some (.array n _), _ => some (.int .i64 n, σ)
      | _, _ => (aPure P ρ o).map (·, σ)
    | .cap, [x], [t] => match P.underlying t, ρ x with
      | some (.slice _), .slice _ _ c => if c < top then some (.int .i64 c, σ) else none
      | _, _ => none
    | .copy, [d, s], [t, tx] => if q then none else match P.underlying t, ρ d with
      | some (.slice e), .slice A n _ => match szOf P e with
        | some size => match (match ρ s with | .slice _ _ _ => srcOf P σ size tx (ρ s) | _ => none) with
          | some (m, xs) =>
            if Nat.min m n = 0 then some (.int .i64 0, σ) else
            match A with
            | some a => (writeN σ a (xs.take (Nat.min m n * size))).map fun σ' => (.int .i64 (Nat.min m n : Nat), σ')
            | none => none
          | none => none
        | none => none
      | _, _ => none
    | .clear, [x], [t] => if q then none else match P.underlying t, ρ x with
      | some (.slice e), .slice A n _ => if n = 0 then some (undef, σ) else match A with
        | some a => (zerosOf P e n).bind fun zs => (writeN σ a zs).map fun σ' => (undef, σ')
        | none => none
      | _, _ => none
    | _, _, _ => (aPure P ρ o).map (·, σ)
  | .unOp _ _ _ => (aPure P ρ o).map (·, σ)
  | _ => none

/-- A call of a Go function: which, and its arguments. -/
def goCall (ρ : Operand → Value) (op : Op) : Option (FuncId × Array Value) :=
  match op with
  | .call { callee := .value x, args, .. } => match ρ x with
    | .func (.func f) first captured => some (f, first ++ args.map ρ ++ captured)
    | _ => none
  | _ => none

abbrev CallF := FuncId → Array Value → Heap → Option (Value × Heap)

def lock (σ : Heap) : Heap := σ.map fun b => { b with perm := if b.perm = .full then .ro else b.perm }
/-- A call that may change nothing that stands. -/
def quietCall (call : CallF) : CallF := fun f args σ => (call f args (lock σ)).map fun (v, τ) => (v, σ ++ τ.drop σ.length)

def stepOp (P : Program) (call : CallF) (q : Bool) (o : Oper) (e : Env) (σ : Heap) : Option (Value × Heap) :=
  match goCall (ev e) o.op with
  | some (f, args) => (if q then quietCall call else call) f args σ
  | none => aop P q (ev e) o σ

def wantedA (ops : Array Oper) (o : Oper) (e : Env) : Option Bool :=
  match o.guard with
  | none => some true
  | some (j, want) => match (ops[j]?).bind (·.dst) with
    | none => some false
    | some d => match e d with
      | .bool b => some (b == want)
      | .chan (some _) => none
      | _ => some false

/-- One operation, with its guard. -/
def guarded (P : Program) (call : CallF) (q : Bool) (ops : Array Oper) (o : Oper) (e : Env) (σ : Heap) : Option (Value × Heap) :=
  match wantedA ops o e with
  | some true => stepOp P call q o e σ
  | some false => some (undef, σ)
  | none => none

def runOps (P : Program) (call : CallF) (q : Bool) (ops : Array Oper) : List Oper → Env → Heap → Option (Env × Heap)
  | [], e, σ => some (e, σ)
  | o :: l, e, σ => match guarded P call q ops o e σ with
    | some (v, σ') => runOps P call q ops l (upd e o.dst v) σ'
    | none => none

/-- Does it only compute (no look at memory, no block)? -/
def pureOp : Op → Bool
  | .move _ | .assign _ | .pick .. | .extract .. | .nilCheck _ | .fieldAddr .. | .field .. | .indexAddr .. | .index .. | .slice .. | .makeFunc .. | .makeInterface .. | .build .. | .binOp .. | .unOp .. => true
  | .call { callee := .builtin b, .. } => match b with
    | .len | .cap | .min | .max => true
    | _ => false
  | _ => false
def appendOp : Op → Bool
  | .call { callee := .builtin .append, .. } => true
  | _ => false
/-- May it stand among operations whose order is open? -/
def quietOp : Op → Bool
  | .load .. | .alloc _ | .box .. | .buildSlice .. | .makeSlice .. | .convert .. | .call { callee := .value _, .. } => true
  | op => pureOp op || appendOp op
def namesOf (ops : Array Oper) (o : Oper) : List Tmp := o.dst.toList ++ Oper.looksAt ops o

/-- Is it an order (ord) of the operations that keeps to what each waits for, the first q of them quiet, the others each waiting for all that is loud ahead of it? -/
def planOk (ops : Array Oper) (ord : List Nat) (q : Nat) : Bool :=
  let bef := Region.before ops
  let waits (i j : Nat) : Bool := (bef.getD i 0).testBit j      -- i waits for j
  let opAt (i : Nat) : Op := (ops.getD i default).op
  ord.length == ops.size && ord.Nodup && ord.all (· < ops.size) && (List.range ops.size).all (fun i => ord.contains i) &&
  (List.range ops.size).all (fun i => ((ops.getD i default).after.all fun e => !Region.binds .any e || (e.on < ops.size && ord.idxOf e.on < ord.idxOf i)) &&
    bef.getD i 0 == (ops.getD i default).after.toList.foldl (fun s e => if Region.binds .any e then s ||| 2 ^ e.on ||| bef.getD e.on 0 else s) 0) &&
  (List.range ord.length).all (fun k =>
    let i := ord.getD k 0
    let aheadLoud := (ord.take k).filter fun j => !pureOp (opAt j)
    if k < q then quietOp (opAt i) && (!appendOp (opAt i) || aheadLoud.all (waits i)) else pureOp (opAt i) || aheadLoud.all (waits i)) && q ≤ ord.length &&
  (List.range ops.size).all (fun i => (List.range ops.size).all fun j =>
    i == j || waits i j || waits j i || (match (ops.getD i default).dst with
      | some d => !(namesOf ops (ops.getD j default)).contains d
      | none => true))
def eager (ops : Array Oper) : List Nat :=
  let bef := Region.before ops
  let all := List.range ops.size
  let first := (all.filter fun i => appendOp (ops.getD i default).op).foldl (fun acc c => acc ++ (all.filter fun j => (bef.getD c 0).testBit j && !acc.contains j) ++ (if acc.contains c then [] else [c])) []
  first ++ all.filter fun j => !first.contains j
def splitAt (ops : Array Oper) (ord : List Nat) : Nat :=
  ((List.range (ops.size + 1)).find? fun q => planOk ops ord q).getD 0
def plan (ops : Array Oper) : Option (List Nat × Nat) :=
  let a := List.range ops.size
  if planOk ops a (splitAt ops a) then some (a, splitAt ops a) else
  let b := eager ops
  if planOk ops b (splitAt ops b) then some (b, splitAt ops b) else none

def runRegion (P : Program) (call : CallF) (ops : Array Oper) (draw : Bool) (e : Env) (σ : Heap) : Option (Env × Heap) :=
  if draw then
    match plan ops with
    | some (ord, q) => match runOps P call true ops ((ord.take q).map (ops.getD · default)) e σ with
      | some (e', σ') => runOps P call false ops ((ord.drop q).map (ops.getD · default)) e' σ'
      | none => none
    | none => none
  else runOps P call false ops ops.toList e σ

inductive Ex where | normal | exit (id : Nat) | ret
  deriving DecidableEq

def resultOf (P : Program) (e : Env) (σ : Heap) : ResultVar → Option Value
  | .tmp t => some (e t)
  | .cell a t => match e a with
    | .pointer (some p) => loadV P t σ p
    | _ => none
def resultsOf (P : Program) (rs : List ResultVar) (e : Env) (σ : Heap) : Option Value :=
  match rs with
  | [r] => resultOf P e σ r
  | rs => (rs.mapM (resultOf P e σ)).map fun vs => .tuple vs.toArray

def okOperand : Operand → Bool
  | .const v => flatB v
  | .global _ => false
  | _ => true
def okOper (nt : Nat) (o : Oper) : Bool :=
  (match o.dst with | some d => decide (d < nt) | none => true) && o.op.operands.all okOperand && (match o.op with | .select _ _ => false | _ => true)
def okCode (nt : Nat) : Code → Bool
  | .skip | .label _ | .exit _ | .ret => true
  | .region _ ops _ => ops.all (okOper nt)
  | .seq a b => okCode nt a && okCode nt b
  | .cond c a b => okOperand c && okCode nt a && okCode nt b
  | .block _ a | .loop a | .scope a => okCode nt a
  | _ => false
def okFn (fn : Func) : Bool :=
  fn.name != "runtime.NumGoroutine" && (match fn.body with | some c => okCode fn.ntmps c | none => false)

def callOf (P : Program) (run : Code → Env → Heap → Option (Ex × Env × Heap)) : CallF := fun f args σ =>
  match P.funcs[f]? with
  | some fn => match fn.body with
    | some c => if okFn fn = true ∧ args.size ≤ fn.ntmps then
        match run c (fun i => args.getD i undef) σ with
        | some (.exit _, _, _) => none
        | some (_, e, σ') => (resultsOf P fn.results.toList e σ').map (·, σ')
        | none => none
      else none
    | none => none
  | none => none

/-- Calls whose answer is known otherwise (prim), and all others. -/
def withPrim (prim call : CallF) : CallF := fun f args σ => match prim f args σ with
  | some r => some r
  | none => call f args σ
def exec (P : Program) (prim : CallF) : Nat → Code → Env → Heap → Option (Ex × Env × Heap)
  | 0, _, _, _ => none
  | n + 1, c, e, σ => match c with
    | .skip | .label _ => some (.normal, e, σ)
    | .exit id => some (.exit id, e, σ)
    | .ret => some (.ret, e, σ)
    | .region _ ops draw => (runRegion P (withPrim prim (callOf P (exec P prim n))) ops draw e σ).map fun (e', σ') => (.normal, e', σ')
    | .seq a b => match exec P prim n a e σ with
      | some (.normal, e', σ') => exec P prim n b e' σ'
      | r => r
    | .cond x a b => match ev e x with
      | .bool t => exec P prim n (if t then a else b) e σ
      | _ => none
    | .block id a => match exec P prim n a e σ with
      | some (.exit i, e', σ') => if i = id then some (.normal, e', σ') else some (.exit i, e', σ')
      | r => r
    | .loop a => match exec P prim n a e σ with
      | some (.normal, e', σ') => exec P prim n (.loop a) e' σ'
      | r => r
    | .scope a => exec P prim n a e σ
    | _ => none
def acall (P : Program) (prim : CallF) (n : Nat) : CallF := withPrim prim (callOf P (exec P prim n))
def noPrim : CallF := fun _ _ _ => none
end Go.Proofs.Ytenbclcfhjdcaaa.AM
