/- What the proof of SampleOrders rests on, part 1 of 7. -/
import Derived.Below
import Derived.Deep.AppendSrc
import Derived.Deep.Upon
import Derived.Laws.BytesString
import Derived.Laws.IdiomCopy
import Derived.Laws.MakeOwn
import Derived.Laws.Tables
import Derived.Lib.AppendZeros
import Derived.Lib.AppendZerosOnto
import Derived.Lib.ConvBytes
import Derived.LoopN
import Derived.Orders
import Derived.Scope
import Derived.WalkKit
import Derived.WideLaws
section
set_option maxHeartbeats 8000000
set_option linter.unusedVariables false
set_option linter.unusedSimpArgs false

/- An abstract machine beside the model's: memory as a list of blocks with permissions, operations in the text's order. Definitions. -/
namespace Go.Proofs.Ytibejcomfjddfaa.AM
open Go

/-- full: one's own, to be written; byt: one's own, bytes of a constant, not to be written (it may be marked as a string's); ro: to be read alone. -/
inductive Perm where | full | byt | ro | dead
  deriving DecidableEq, Repr
def Perm.own : Perm → Bool
  | .full | .byt => true
  | _ => false
structure Blk where
  cells : List Value
  perm : Perm
abbrev Heap := List Blk
abbrev Env := Nat → Value

def top : Nat := 18446744073709551616
/-- The capacity of an empty slice whose place is unknown. -/
def dng : Nat := 340282366920938463463374607431768211456
/-- A capacity that is unknown, of elements of s cells: at least lb. -/
def unk (s lb : Nat) : Nat := top * (s + 1) + lb
inductive Cap where | exact (c : Nat) | unk (s lb : Nat) | dng
/-- What a capacity of the abstract machine says. -/
def capOf (c : Nat) : Cap := if c < top then .exact c else if c < dng then .unk (c / top - 1) (c % top) else .dng

/-- A value of one cell without an address. -/
def scalarB : Value → Bool
  | .bool _ | .int _ _ | .float _ _ | .complex _ _ _ | .string _ | .pointer none | .slice none 0 0 | .map none | .chan none | .nilFunc | .nilIface => true
  | _ => false
/-- A value without addresses. -/
def flatB : Value → Bool
  | .agg cs => cs.all scalarB
  | .tuple cs => cs.all scalarB
  | .iface _ v => scalarB v
  | v => scalarB v
def junkB : Value → Bool
  | .chan (some _) => true
  | _ => false
/-- May it stand in a cell? -/
def cellB (v : Value) : Bool := v.oneCell' && !junkB v

/-- Package variables that are read: their blocks and cells. -/
def gcells : List (Nat × List Value) := []
def ev (e : Env) : Operand → Value
  | .tmp t => e t
  | .const v => v
  | .global g => .pointer (some ⟨g, 0, none⟩)
  | .func f => .func (.func f) #[] #[]
def upd (e : Env) (d : Option Tmp) (v : Value) : Env :=
  match d with
  | some i => fun j => if j = i then v else e j
  | none => e

def pureRun {α : Type} (P : Program) : Sem α → Option α
  | .pure a => some a
  | .program k => pureRun P (k P)
  | .mark _ k => pureRun P k
  | _ => none

def szOf (P : Program) (t : TypeId) : Option Nat := (P.info? t).map (·.size)
def byOf (P : Program) (t : TypeId) : Option Nat := (P.info? t).map (·.bytes)
def zeroOf (P : Program) (t : TypeId) : Option Value := (P.info? t).bind (·.zero)
def aggOf (P : Program) (t : TypeId) : Option Bool :=
  match P.underlying t with
  | some (.struct _) | some (.array _ _) => some true
  | some _ => some false
  | none => none

def readN (σ : Heap) (a : Addr) (n : Nat) : Option (List Value) :=
  match a.spot, σ[a.block]? with
  | none, some b => if b.perm ≠ .dead ∧ a.off + n ≤ b.cells.length then some ((b.cells.drop a.off).take n) else none
  | _, _ => none
def splice (cs : List Value) (o : Nat) (vs : List Value) : List Value := cs.take o ++ vs ++ cs.drop (o + vs.length)
def writeN (σ : Heap) (a : Addr) (vs : List Value) : Option Heap :=
  match a.spot, σ[a.block]? with
  | none, some b => if b.perm = .full ∧ a.off + vs.length ≤ b.cells.length ∧ vs.all cellB = true then some (σ.set a.block ⟨splice b.cells a.off vs, .full⟩) else none
  | _, _ => none
def newBlk (σ : Heap) (cs : List Value) : Option (Addr × Heap) :=
  if cs.all cellB = true then some (⟨σ.length, 0, none⟩, σ ++ [⟨cs, .full⟩]) else none

def loadV (P : Program) (t : TypeId) (σ : Heap) (a : Addr) : Option Value :=
  match aggOf P t, szOf P t with
  | some true, some n => (readN σ a n).map fun l => .agg l.toArray
  | some false, _ => (readN σ a 1).bind (·[0]?)
  | _, _ => none
def partV (P : Program) (t : TypeId) (cs : Array Value) (off : Nat) : Option Value :=
  match aggOf P t, szOf P t with
  | some true, some n => some (.agg (cs.extract off (off + n)))
  | some false, _ => cs[off]?
  | _, _ => none
def zerosOf (P : Program) (t : TypeId) (n : Nat) : Option (List Value) :=
  match zeroOf P t, szOf P t with
  | some z, some s => if flatB z = true ∧ z.cells.size = s then some (List.replicate n z.cells.toList).flatten else none
  | _, _ => none

def fieldOf (P : Program) (t : TypeId) (f : Nat) : Option (Nat × TypeId) :=
  match P.underlying t with
  | some (.struct fs) => (fs[f]?).map fun x => (x.offset, x.type)
  | _ => none

/-- The cells of what is appended or copied, and how many elements. -/
def srcOf (P : Program) (σ : Heap) (size : Nat) (tx : TypeId) (x : Value) : Option (Nat × List Value) :=
  match P.underlying tx, x with
  | some (.slice _), .slice (some a) n _ => (readN σ a (n * size)).map (n, ·)
  | some (.slice _), .slice none 0 0 => some (0, [])
  | some .string, .string s => if size = 1 then some (s.size, byteCells s) else none
  | _, _ => none

def kill (σ : Heap) (l : Nat) : Heap := σ.modify l fun b => { b with perm := .dead }

def newBlkP (σ : Heap) (cs : List Value) (p : Perm) : Option (Addr × Heap) :=
  if cs.all cellB = true then some (⟨σ.length, 0, none⟩, σ ++ [⟨cs, p⟩]) else none
/-- Are they the bytes of a constant? -/
def constBytes (P : Program) (e : TypeId) (parts : Array (Nat × Operand)) : Bool :=
  (match P.underlying e with
  | some (.int .u8) => true
  | _ => false) && parts.size != 0 && parts.all fun (_, x) => match x with
    | .const _ => true
    | _ => false
/-- Literals of constant bytes that the program appends to, and never converts. -/
def fullLits : List (List Int) := []
def litNum : Operand → Option Int
  | .const (.int .u8 n) => some n
  | _ => none
def fullLit (parts : Array (Nat × Operand)) : Bool := fullLits.contains (parts.toList.filterMap fun p => litNum p.2)
def slPerm (P : Program) (t : TypeId) (parts : Array (Nat × Operand)) : Perm := match P.underlying t with
  | some (.slice e) => if constBytes P e parts = true ∧ fullLit parts = false then .byt else .full
  | _ => .full

/-- append; q: nothing that stands may be written over. -/
def aAppend (P : Program) (q : Bool) (t tx : TypeId) (s x : Value) (σ : Heap) : Option (Value × Heap) :=
  match P.underlying t, s with
  | some (.slice e), .slice A n c =>
    match szOf P e, byOf P e, zeroOf P e with
    | some size, some bytes, some z =>
      match srcOf P σ size tx x with
      | some (m, xs) =>
        if ¬ (size ≠ 0 ∧ z.cells.size = size ∧ size ≤ 1048576 ∧ bytes ≤ 4096 ∧ n + m ≤ 17179869184 ∧ xs.all cellB = true) then none else
        match A with
        | none => if n = 0 ∧ c = 0 then (if m = 0 then some (s, σ) else (newBlk σ xs).map fun (a, σ') => (.slice (some a) m (unk size m), σ')) else none
        | some a =>
          match capOf c with
          | .exact c =>
            if n + m ≤ c then (if m = 0 then some (s, σ) else if q then none else (writeN σ (a.add (n * size)) xs).map fun σ' => (.slice A (n + m) c, σ'))
            else match readN σ a (n * size) with
              | some olds => (newBlk σ (olds ++ xs)).map fun (a, σ') => (.slice (some a) (n + m) (unk size (n + m)), σ')
              | none => none
          | .unk es lb =>
            if m = 0 then some (s, σ)
            else if n + m ≤ lb then (if q then none else (writeN σ (a.add (n * size)) xs).map fun σ' => (.slice A (n + m) c, σ'))
            else match a, σ[a.block]? with
              | ⟨l, 0, none⟩, some b =>
                if b.perm = .full ∧ n * size ≤ b.cells.length ∧ es = size then (newBlk (kill σ l) (b.cells.take (n * size) ++ xs)).map fun (a, σ') => (.slice (some a) (n + m) (unk size (n + m)), σ')
                else none
              | _, _ => none
          | .dng => none
      | none => none
    | _, _, _ => none
  | _, _ => none

/-- append of made zeros, to nil, or where there is no room. -/
def aZeros (P : Program) (t : TypeId) (s x : Value) (σ : Heap) : Option (Value × Heap) :=
  match P.underlying t, s, x with
  | some (.slice e), .slice none 0 0, .int _ n =>
    match szOf P e, byOf P e, zerosOf P e n.toNat with
    | some size, some bytes, some zs => if 0 < n ∧ n ≤ 17179869184 ∧ 0 < size ∧ size ≤ 1048576 ∧ bytes ≤ 4096 then (newBlk σ zs).map fun (a, σ') => (.slice (some a) n.toNat (unk size n.toNat), σ') else none
    | _, _, _ => none
  | some (.slice e), .slice (some a) k c, .int _ n =>
    match szOf P e, byOf P e, zerosOf P e n.toNat with
    | some size, some bytes, some zs => match readN σ a (k * size) with
      | some olds => if 0 < n ∧ k + n.toNat ≤ 17179869184 ∧ 0 < size ∧ size ≤ 1048576 ∧ bytes ≤ 4096 ∧ c < k + n.toNat then (newBlk σ (olds ++ zs)).map fun (a, σ') => (.slice (some a) (k + n.toNat) (unk size (k + n.toNat)), σ') else none
      | none => none
    | _, _, _ => none
  | _, _, _ => none
def aApp (P : Program) (q : Bool) (t tx : TypeId) (s x : Value) (σ : Heap) : Option (Value × Heap) :=
  match P.underlying tx with
  | some (.int _) => aZeros P t s x σ
  | _ => aAppend P q t tx s x σ

def intOpt : Option Value → Option (Option Int)
  | none => some none
  | some (.int _ i) => some (some i)
  | _ => none
/-- Bounds of a slice expression: low, high, the capacity's bound. -/
def bounds (len cap : Nat) (lo hi mx : Option Int) : Option (Nat × Nat × Nat) :=
  match lo, hi, mx with
  | none, none, none => some (0, len, cap)
  | some l, none, none => if 0 ≤ l ∧ l ≤ len then some (l.toNat, len, cap) else none
  | none, some h, none => if 0 ≤ h ∧ h ≤ cap then some (0, h.toNat, cap) else none
  | some l, some h, none => if 0 ≤ l ∧ l ≤ h ∧ h ≤ cap then some (l.toNat, h.toNat, cap) else none
  | none, some h, some m => if 0 ≤ h ∧ h ≤ m ∧ m ≤ cap then some (0, h.toNat, m.toNat) else none
  | some l, some h, some m => if 0 ≤ l ∧ l ≤ h ∧ h ≤ m ∧ m ≤ cap then some (l.toNat, h.toNat, m.toNat) else none
  | _, none, some _ => none
def aSlice (P : Program) (t : TypeId) (x : Value) (lo hi mx : Option Value) : Option Value :=
  match intOpt lo, intOpt hi, intOpt mx with
  | some lo, some hi, some mx =>
    match P.underlying t, x with
    | some (.slice e), .slice A n c =>
      match szOf P e with
      | none => none
      | some size =>
        match A with
        | none => if n = 0 ∧ c = 0 then (bounds 0 0 lo hi mx).map fun _ => .slice none 0 0 else none
        | some a =>
          match capOf c with
          | .exact c => (bounds n c lo hi mx).map fun (l, h, m) => .slice (some (if m = l then a else a.add (l * size))) (h - l) (m - l)
          | .unk es lb =>
            match bounds n lb lo hi mx with
            | none => none
            | some (l, h, m) =>
              if mx.isSome then some (.slice (some (if m = l then a else a.add (l * size))) (h - l) (m - l))
              else if l = 0 then some (.slice (some a) h c)
              else if l < h ∧ es = size then some (.slice (some (a.add (l * size))) (h - l) (unk es (lb - l)))
              else if l = h then some (.slice (some a) 0 AM.dng)
              else none
          | .dng => (bounds 0 0 lo hi mx).map fun _ => .slice (some a) 0 AM.dng
    | some (.array n e), .pointer (some a) =>
      match szOf P e with
      | none => none
      | some size => if n < top then (bounds n n lo hi mx).map fun (l, h, m) => .slice (some (if m = l then a else a.add (l * size))) (h - l) (m - l) else none
    | _, _ => none
  | _, _, _ => none

/-- '==' where one of the two may have an address. -/
def aEq (P : Program) (t : TypeId) (x y : Value) : Option Bool :=
  match P.underlying t, x, y with
  | some (.pointer _), .pointer (some _), .pointer none | some (.pointer _), .pointer none, .pointer (some _) => some false
  | some (.slice _), .slice (some _) _ _, .slice none _ _ | some (.slice _), .slice none _ _, .slice (some _) _ _ => some false
  | some (.map _ _), .map (some _), .map none | some (.map _ _), .map none, .map (some _) => some false
  | some (.func _ _ _), .func _ _ _, .nilFunc | some (.func _ _ _), .nilFunc, .func _ _ _ => some false
  | some (.interface _), .iface _ _, .nilIface | some (.interface _), .nilIface, .iface _ _ => some false
  | _, _, _ => none

def byteOfV : Value → Option UInt8
  | .int .u8 n => some (UInt8.ofNat n.toNat)
  | _ => none

/-- '==' and '!=' of strings (by their lists: the kernel can compute it). -/
def strEq : BinOp → Value → Value → Option Bool
  | .eql, .string a, .string b => some (a.data.toList == b.data.toList)
  | .neq, .string a, .string b => some (!(a.data.toList == b.data.toList))
  | _, _, _ => none

/-- An operation that only computes. -/
def aPure (P : Program) (ρ : Operand → Value) (o : Oper) : Option Value :=
  if o.op.operands.all (fun x => flatB (ρ x)) then
    match pureRun P (execOp ρ o) with
    | some (.value v) => if flatB v then some v else none
    | _ => none
  else none

/-- One operation that is no call of a Go function. -/
def aop (P : Program) (q : Bool) (ρ : Operand → Value) (o : Oper) (σ : Heap) : Option (Value × Heap) :=
  match o.op with
  | .move x | .assign x => some (ρ x, σ)
  | .pick c a b => match ρ c with
    | .bool t => some (if t then ρ a else ρ b, σ)
    | _ => none
  | .extract x i => match ρ x with
    | .tuple vs => (vs[i]?).map (·, σ)
    | _ => none
  | .nilCheck x => match ρ x with
    | .pointer (some a) => some (.pointer (some a), σ)
    | .func (.func f) a b => some (.func (.func f) a b, σ)
    | _ => none
  | .alloc t => (zerosOf P t 1).bind fun zs => (newBlk σ zs).map fun (a, σ') => (.pointer (some a), σ')
  | .box _ x => (newBlk σ (ρ x).cells.toList).map fun (a, σ') => (.pointer (some a), σ')
  | .load t x => match ρ x with
    | .pointer (some a) => (loadV P t σ a).map (·, σ)
    | _ => none
  | .store t x v => match ρ x, szOf P t with
    | .pointer (some a), some n => if q = false ∧ (ρ v).cells.size = n then (writeN σ a (ρ v).cells.toList).map fun σ' => (undef, σ') else none
    | _, _ => none
  | .fieldAddr t x f => match ρ x, fieldOf P t f with
    | .pointer (some a), some (off, ft) => match szOf P ft with
      | some (_ + 1) => some (.pointer (some (a.add off)), σ)
      | _ => none
    | _, _ => none
  | .field t x f => match ρ x, fieldOf P t f with
    | .agg cs, some (off, ft) => (partV P ft cs off).map (·, σ)
    | _, _ => none
  | .indexAddr t x i => match P.underlying t, ρ x, ρ i with
    | some (.slice e), .slice (some a) n _, .int _ j => match szOf P e with
      | some s => if 0 ≤ j ∧ j < n then some (.pointer (some (a.add (j.toNat * s))), σ) else none
      | none => none
    | some (.array n e), .pointer (some a), .int _ j => match szOf P e with
      | some s => if 0 ≤ j ∧ j < n then some (.pointer (some (a.add (j.toNat * s))), σ) else none
      | none => none
    | _, _, _ => none
  | .index t x i => match P.underlying t, ρ x, ρ i with
    | some (.array n e), .agg cs, .int _ j => match szOf P e with
      | some s => if 0 ≤ j ∧ j < n then (partV P e cs (j.toNat * s)).map (·, σ) else none
      | none => none
    | _, _, _ => (aPure P ρ o).map (·, σ)
  | .slice t x lo hi mx => match ρ x with
    | .string _ => (aPure P ρ o).map (·, σ)
    | _ => (aSlice P t (ρ x) (lo.map ρ) (hi.map ρ) (mx.map ρ)).map (·, σ)
  | .makeFunc fn first captured => match fn with
    | .func f => some (.func (.func f) (first.map ρ) (captured.map ρ), σ)
    | _ => none
  | .makeInterface t x => if P.concrete t = true then some (.iface t (ρ x), σ) else none
  | .makeSlice t l c => match P.underlying t, ρ l, ρ c with
    | some (.slice e), .int _ l, .int _ c => match byOf P e with
      | some bytes => if 0 ≤ l ∧ l ≤ c ∧ c ≤ 17179869184 ∧ bytes ≤ 4096 then (zerosOf P e c.toNat).bind fun zs => (newBlk σ zs).map fun (a, σ') => (.slice (some a) l.toNat c.toNat, σ') else none
      | none => none
    | _, _, _ => none
  | .build t parts => match zeroOf P t with
    | some z => if flatB z = true ∧ (parts.all fun (_, x) => !junkB (ρ x)) = true then (P.built t (parts.map fun (i, x) => (i, ρ x)).toList).map fun cs => (.agg cs, σ) else none
    | none => none
  | .buildSlice t len parts => match P.underlying t with
    | some (.slice e) => match szOf P e, zerosOf P e len with
      | some s, some zs => if len * s ≤ 16777216 ∧ len < top ∧ (parts.all fun (_, x) => !junkB (ρ x)) = true then
          (Instr.fill (fun i => some (i * s, s)) zs.toArray (parts.map fun (i, x) => (i, ρ x)).toList).bind fun cs => (newBlkP σ cs.toList (slPerm P t parts)).map fun (a, σ') => (.slice (some a) len len, σ')
        else none
      | _, _ => none
    | _ => none
  | .binOp op t x y _ =>
    match strEq op (ρ x) (ρ y) with
    | some b => some (.bool b, σ)
    | none =>
    if flatB (ρ x) && flatB (ρ y) then (aPure P ρ o).map (·, σ) else
    match op with
    | .eql => (aEq P t (ρ x) (ρ y)).map fun b => (.bool b, σ)
    | .neq => (aEq P t (ρ x) (ρ y)).map fun b => (.bool (!b), σ)
    | _ => none
  | .convert src dst x => match P.underlying src, P.underlying dst, ρ x with
    | some (.slice e), some .string, .slice A n c => match P.underlying e with
      | some (.int .u8) => match A with
        | some a => match readN σ a n with
          | some cs => match cs.mapM byteOfV with
            | some bs => some (.string ⟨bs.toArray⟩, σ)
            | none => none
          | none => none
        | none => if n = 0 ∧ c = 0 then some (.string ⟨#[]⟩, σ) else none
      | _ => none
    | some (.slice _), some (.slice e), .slice (some a) n c => match P.underlying e, σ[a.block]? with
      | some (.int .u8), some b => if src = dst ∧ b.perm = .byt ∧ c < dng then some (.slice (some a) n c, σ) else none
      | _, _ => none
    | some .string, some (.slice e), .string s => match P.underlying e with
      | some (.int .u8) => if s.size ≤ 17179869184 then (newBlkP σ (byteCells s) .byt).map fun (a, σ') => (.slice (some a) s.size (unk 1 s.size), σ') else none
      | _ => none
    | _, _, _ => (aPure P ρ o).map (·, σ)
  | .call { callee := .builtin b, args, argTypes } => match b, args.toList, argTypes.toList with
    | .append, [s, x], [t, tx] => aApp P q t tx (ρ s) (ρ x) σ
    | .len, [x], [t] => match P.underlying t, ρ x with
      | some (.slice _), .slice _ n _ => some (.int .i64 n, σ)
      | some (.array n _), _ => some (.int .i64 n, σ)
      | _, _ => (aPure P ρ o).map (·, σ)
    | .cap, [x], [t] => match P.underlying t, ρ x with
      | some (.slice _), .slice _ _ c => if c < top then some (.int .i64 c, σ) else none
      | _, _ => none
    | .copy, [d, s], [t, tx] => if q then none else match P.underlying t, ρ d with
      | some (.slice e), .slice A n _ => match szOf P e with
        | some size => match (match ρ s with | .slice _ _ _ => srcOf P σ size tx (ρ s) | _ => none) with
          | some (m, xs) =>
            if Nat.min m n = 0 then some (.int .i64 0, σ) else
            match A with
            | some a => (writeN σ a (xs.take (Nat.min m n * size))).map fun σ' => (.int .i64 (Nat.min m n : Nat), σ')
            | none => none
          | none => none
        | none => none
      | _, _ => none
    | .clear, [x], [t] => if q then none else match P.underlying t, ρ x with
      | some (.slice e), .slice A n _ => if n = 0 then some (undef, σ) else match A with
        | some a => (zerosOf P e n).bind fun zs => (writeN σ a zs).map fun σ' => (undef, σ')
        | none => none
      | _, _ => none
    | _, _, _ => (aPure P ρ o).map (·, σ)
  | .unOp _ _ _ => (aPure P ρ o).map (·, σ)
  | _ => none

/-- A call of a Go function: which, and its arguments. -/
def goCall (ρ : Operand → Value) (op : Op) : Option (FuncId × Array Value) :=
  match op with
  | .call { callee := .value x, args, .. } => match ρ x with
    | .func (.func f) first captured => some (f, first ++ args.map ρ ++ captured)
    | _ => none
  | _ => none

abbrev CallF := FuncId → Array Value → Heap → Option (Value × Heap)

def lock (σ : Heap) : Heap := σ.map fun b => { b with perm := if b.perm.own = true then .ro else b.perm }
/-- A call that may change nothing that stands. -/
def quietCall (call : CallF) : CallF := fun f args σ => (call f args (lock σ)).map fun (v, τ) => (v, σ ++ τ.drop σ.length)

def stepOp (P : Program) (call : CallF) (q : Bool) (o : Oper) (e : Env) (σ : Heap) : Option (Value × Heap) :=
  match goCall (ev e) o.op with
  | some (f, args) => (if q then quietCall call else call) f args σ
  | none => aop P q (ev e) o σ

def wantedA (ops : Array Oper) (o : Oper) (e : Env) : Option Bool :=
  match o.guard with
  | none => some true
  | some (j, want) => match (ops[j]?).bind (·.dst) with
    | none => some false
    | some d => match e d with
      | .bool b => some (b == want)
      | .chan (some _) => none
      | _ => some false

/-- One operation, with its guard. -/
def guarded (P : Program) (call : CallF) (q : Bool) (ops : Array Oper) (o : Oper) (e : Env) (σ : Heap) : Option (Value × Heap) :=
  match wantedA ops o e with
  | some true => stepOp P call q o e σ
  | some false => some (undef, σ)
  | none => none

def runOps (P : Program) (call : CallF) (q : Bool) (ops : Array Oper) : List Oper → Env → Heap → Option (Env × Heap)
  | [], e, σ => some (e, σ)
  | o :: l, e, σ => match guarded P call q ops o e σ with
    | some (v, σ') => runOps P call q ops l (upd e o.dst v) σ'
    | none => none

/-- Does it only compute (no look at memory, no block)? -/
def pureOp : Op → Bool
  | .move _ | .assign _ | .pick .. | .extract .. | .nilCheck _ | .fieldAddr .. | .field .. | .indexAddr .. | .index .. | .slice .. | .makeFunc .. | .makeInterface .. | .build .. | .binOp .. | .unOp .. => true
  | .call { callee := .builtin b, .. } => match b with
    | .len | .cap | .min | .max => true
    | _ => false
  | _ => false
def appendOp : Op → Bool
  | .call { callee := .builtin .append, .. } => true
  | _ => false
/-- May it stand among operations whose order is open? -/
def quietOp : Op → Bool
  | .load .. | .alloc _ | .box .. | .buildSlice .. | .makeSlice .. | .convert .. | .call { callee := .value _, .. } => true
  | op => pureOp op || appendOp op
def namesOf (ops : Array Oper) (o : Oper) : List Tmp := o.dst.toList ++ Oper.looksAt ops o

/-- A function that writes in place what its caller has just made. -/
def inPlace (f : Nat) : Bool := f == 1000000000
def inPlaceOp : Op → Bool
  | .call { callee := .value (.func f), .. } => inPlace f
  | _ => false
/-- Is it a plain load through a temporary that the region does not write? -/
def plainLoad (ops : Array Oper) (o : Oper) : Option Tmp := match o.op with
  | .load _ (.tmp t) => if o.guard.isNone && (List.range ops.size).all (fun i => (ops.getD i default).dst != some t) then some t else none
  | _ => none
/-- Loads among the first q that what is loud behind need not wait for. -/
def earlyL (ops : Array Oper) (ord : List Nat) (q : Nat) : List Nat :=
  if (List.range ops.size).any (fun i => inPlaceOp (ops.getD i default).op) then (ord.take q).filter fun j => (plainLoad ops (ops.getD j default)).isSome else []
/-- Is it an order (ord) of the operations that keeps to what each waits for, the first q of them quiet, the others each waiting for all that is loud ahead of it (but the early loads)? -/
def planOk (ops : Array Oper) (ord : List Nat) (q : Nat) : Bool :=
  let bef := Region.before ops
  let waits (i j : Nat) : Bool := (bef.getD i 0).testBit j      -- i waits for j
  let opAt (i : Nat) : Op := (ops.getD i default).op
  let early := earlyL ops ord q
  ord.length == ops.size && ord.Nodup && ord.all (· < ops.size) && (List.range ops.size).all (fun i => ord.contains i) &&
  (List.range ops.size).all (fun i => ((ops.getD i default).after.all fun e => !Region.binds .any e || (e.on < ops.size && ord.idxOf e.on < ord.idxOf i)) &&
    bef.getD i 0 == (ops.getD i default).after.toList.foldl (fun s e => if Region.binds .any e then s ||| 2 ^ e.on ||| bef.getD e.on 0 else s) 0) &&
  (List.range ord.length).all (fun k =>
    let i := ord.getD k 0
    let aheadLoud := (ord.take k).filter fun j => !pureOp (opAt j)
    if k < q then quietOp (opAt i) && !inPlaceOp (opAt i) && (!appendOp (opAt i) || aheadLoud.all (waits i)) else pureOp (opAt i) || aheadLoud.all (fun j => waits i j || early.contains j)) && q ≤ ord.length &&
  (List.range ops.size).all (fun i => (List.range ops.size).all fun j =>
    i == j || waits i j || waits j i || (match (ops.getD i default).dst with
      | some d => !(namesOf ops (ops.getD j default)).contains d
      | none => true))
def eager (ops : Array Oper) : List Nat :=
  let bef := Region.before ops
  let all := List.range ops.size
  let first := (all.filter fun i => appendOp (ops.getD i default).op).foldl (fun acc c => acc ++ (all.filter fun j => (bef.getD c 0).testBit j && !acc.contains j) ++ (if acc.contains c then [] else [c])) []
  first ++ all.filter fun j => !first.contains j
def splitAt (ops : Array Oper) (ord : List Nat) : Nat :=
  ((List.range (ops.size + 1)).find? fun q => planOk ops ord q).getD 0
def plan (ops : Array Oper) : Option (List Nat × Nat) :=
  let a := List.range ops.size
  if planOk ops a (splitAt ops a) then some (a, splitAt ops a) else
  let b := eager ops
  if planOk ops b (splitAt ops b) then some (b, splitAt ops b) else none

/-- A block that is not written any more. -/
def roAt (σ : Heap) (l : Nat) : Heap := σ.modify l fun b => { b with perm := if b.perm.own = true then .ro else b.perm }
/-- The blocks under the early loads are not written any more. -/
def roEarly (ops : Array Oper) (e : Env) (js : List Nat) (σ : Heap) : Heap := js.foldl (fun σ j => match plainLoad ops (ops.getD j default) with
  | some t => match e t with
    | .pointer (some a) => roAt σ a.block
    | _ => σ
  | none => σ) σ
def runRegion (P : Program) (call : CallF) (ops : Array Oper) (draw : Bool) (e : Env) (σ : Heap) : Option (Env × Heap) :=
  if draw then
    match plan ops with
    | some (ord, q) => match runOps P call true ops ((ord.take q).map (ops.getD · default)) e (roEarly ops e (earlyL ops ord q) σ) with
      | some (e', σ') => runOps P call false ops ((ord.drop q).map (ops.getD · default)) e' σ'
      | none => none
    | none => none
  else runOps P call false ops ops.toList e σ

inductive Ex where | normal | exit (id : Nat) | ret
  deriving DecidableEq

def resultOf (P : Program) (e : Env) (σ : Heap) : ResultVar → Option Value
  | .tmp t => some (e t)
  | .cell a t => match e a with
    | .pointer (some p) => loadV P t σ p
    | _ => none
def resultsOf (P : Program) (rs : List ResultVar) (e : Env) (σ : Heap) : Option Value :=
  match rs with
  | [r] => resultOf P e σ r
  | rs => (rs.mapM (resultOf P e σ)).map fun vs => .tuple vs.toArray

def okOperand : Operand → Bool
  | .const v => flatB v
  | .global g => gcells.any fun p => p.1 == g
  | _ => true
def okOper (nt : Nat) (o : Oper) : Bool :=
  (match o.dst with | some d => decide (d < nt) | none => true) && o.op.operands.all okOperand && (match o.op with | .select _ _ => false | _ => true)
def okCode (nt : Nat) : Code → Bool
  | .skip | .label _ | .exit _ | .ret => true
  | .region _ ops _ => ops.all (okOper nt)
  | .seq a b => okCode nt a && okCode nt b
  | .cond c a b => okOperand c && okCode nt a && okCode nt b
  | .block _ a | .loop a | .scope a => okCode nt a
  | _ => false
def okFn (fn : Func) : Bool :=
  fn.name != "runtime.NumGoroutine" && (match fn.body with | some c => okCode fn.ntmps c | none => false)

def callOf (P : Program) (run : Code → Env → Heap → Option (Ex × Env × Heap)) : CallF := fun f args σ =>
  match P.funcs[f]? with
  | some fn => match fn.body with
    | some c => if okFn fn = true ∧ args.size ≤ fn.ntmps then
        match run c (fun i => args.getD i undef) σ with
        | some (.exit _, _, _) => none
        | some (_, e, σ') => (resultsOf P fn.results.toList e σ').map (·, σ')
        | none => none
      else none
    | none => none
  | none => none

/-- Calls whose answer is known otherwise (prim), and all others. -/
def withPrim (prim call : CallF) : CallF := fun f args σ => match prim f args σ with
  | some r => some r
  | none => call f args σ
def exec (P : Program) (prim : CallF) : Nat → Code → Env → Heap → Option (Ex × Env × Heap)
  | 0, _, _, _ => none
  | n + 1, c, e, σ => match c with
    | .skip | .label _ => some (.normal, e, σ)
    | .exit id => some (.exit id, e, σ)
    | .ret => some (.ret, e, σ)
    | .region _ ops draw => (runRegion P (withPrim prim (callOf P (exec P prim n))) ops draw e σ).map fun (e', σ') => (.normal, e', σ')
    | .seq a b => match exec P prim n a e σ with
      | some (.normal, e', σ') => exec P prim n b e' σ'
      | r => r
    | .cond x a b => match ev e x with
      | .bool t => exec P prim n (if t then a else b) e σ
      | _ => none
    | .block id a => match exec P prim n a e σ with
      | some (.exit i, e', σ') => if i = id then some (.normal, e', σ') else some (.exit i, e', σ')
      | r => r
    | .loop a => match exec P prim n a e σ with
      | some (.normal, e', σ') => exec P prim n (.loop a) e' σ'
      | r => r
    | .scope a => exec P prim n a e σ
    | _ => none
def acall (P : Program) (prim : CallF) (n : Nat) : CallF := withPrim prim (callOf P (exec P prim n))
def noPrim : CallF := fun _ _ _ => none
end Go.Proofs.Ytibejcomfjddfaa.AM
end
section
set_option maxHeartbeats 8000000
set_option linter.unusedVariables false
set_option linter.unusedSimpArgs false

/- The abstract machine's memory and the model's: what they have to do with each other. -/
namespace Go.Proofs.Ytibejcomfjddfaa.AM
open Go

/-- Which block of the model's an abstract one is, and how many cells that has. -/
abbrev Mu := Nat → Option (Nat × Nat)
/-- An abstract value, and what stands for it. -/
inductive Val (μ : Mu) : Value → Value → Prop
  | junk (r : Nat) (v : Value) : Val μ (.chan (some r)) v
  | scal {v : Value} (h : scalarB v = true) : Val μ v v
  | ptr {l b o N : Nat} (h : μ l = some (b, N)) : Val μ (.pointer (some ⟨l, o, none⟩)) (.pointer (some ⟨b, o, none⟩))
  | sl {l b o n c N : Nat} (h : μ l = some (b, N)) (hc : c < top) : Val μ (.slice (some ⟨l, o, none⟩) n c) (.slice (some ⟨b, o, none⟩) n c)
  | slu {l b o n s lb c' N : Nat} (h : μ l = some (b, N)) (h0 : lb ≤ maxLen) (h1 : lb ≤ c') (h2 : n ≤ c') (h3 : c' ≤ maxLen) (h4 : o + c' * s ≤ N) (hs : s ≤ 1048576) : Val μ (.slice (some ⟨l, o, none⟩) n (unk s lb)) (.slice (some ⟨b, o, none⟩) n c')
  | sld {a a' : Addr} {c c' : Nat} (hc : dng ≤ c) : Val μ (.slice (some a) 0 c) (.slice (some a') 0 c')
  | func {f : FuncId} {a a' b b' : Array Value} (ha : a'.size = a.size) (hb : b'.size = b.size) (h1 : ∀ (i : Nat) (v v' : Value), a[i]? = some v → a'[i]? = some v' → Val μ v v')
      (h2 : ∀ (i : Nat) (v v' : Value), b[i]? = some v → b'[i]? = some v' → Val μ v v') : Val μ (.func (.func f) a b) (.func (.func f) a' b')
  | iface {t : TypeId} {v v' : Value} (h : Val μ v v') : Val μ (.iface t v) (.iface t v')
  | agg {a a' : Array Value} (ha : a'.size = a.size) (h1 : ∀ (i : Nat) (v v' : Value), a[i]? = some v → a'[i]? = some v' → Val μ v v') : Val μ (.agg a) (.agg a')
  | tup {a a' : Array Value} (ha : a'.size = a.size) (h1 : ∀ (i : Nat) (v v' : Value), a[i]? = some v → a'[i]? = some v' → Val μ v v') : Val μ (.tuple a) (.tuple a')

theorem Val.mono {μ μ' : Mu} (h : ∀ l b, μ l = some b → μ' l = some b) {v v' : Value} (hv : Val μ v v') : Val μ' v v' := by
  induction hv with
  | junk r v => exact .junk r v
  | scal h => exact .scal h
  | ptr h1 => exact .ptr (h _ _ h1)
  | sl h1 h2 => exact .sl (h _ _ h1) h2
  | slu h1 h2 h3 h4 h5 h6 h7 => exact .slu (h _ _ h1) h2 h3 h4 h5 h6 h7
  | sld h => exact .sld h
  | func h1 h2 _ _ i1 i2 => exact .func h1 h2 i1 i2
  | iface _ i => exact .iface i
  | agg h1 _ i => exact .agg h1 i
  | tup h1 _ i => exact .tup h1 i
theorem Val.undef {μ : Mu} : Val μ Go.undef Go.undef := .tup rfl (fun i v v' h => by simp at h)

/-- Two lists of values. -/
def ValL (μ : Mu) (l l' : List Value) : Prop := l'.length = l.length ∧ ∀ (i : Nat) (v v' : Value), l[i]? = some v → l'[i]? = some v' → Val μ v v'
theorem ValL.mono {μ μ' : Mu} (h : ∀ l b, μ l = some b → μ' l = some b) {l l' : List Value} (hv : ValL μ l l') : ValL μ' l l' :=
  ⟨hv.1, fun i v v' h1 h2 => (hv.2 i v v' h1 h2).mono h⟩
theorem ValL.nil {μ : Mu} : ValL μ [] [] := ⟨rfl, fun i v v' h => by simp at h⟩
theorem ValL.one {μ : Mu} {v v' : Value} (h : Val μ v v') : ValL μ [v] [v'] := ⟨rfl, fun i u u' h1 h2 => by
  cases i with
  | zero => simp at h1 h2; subst h1; subst h2; exact h
  | succ i => simp at h1⟩
theorem ValL.append {μ : Mu} {a a' b b' : List Value} (h1 : ValL μ a a') (h2 : ValL μ b b') : ValL μ (a ++ b) (a' ++ b') := by
  refine ⟨by simp [h1.1, h2.1], fun i v v' e1 e2 => ?_⟩
  rcases Nat.lt_or_ge i a.length with h | h
  · rw [List.getElem?_append_left h] at e1
    rw [List.getElem?_append_left (by rw [h1.1]; exact h)] at e2
    exact h1.2 _ _ _ e1 e2
  · rw [List.getElem?_append_right h] at e1
    rw [List.getElem?_append_right (by rw [h1.1]; exact h), h1.1] at e2
    exact h2.2 _ _ _ e1 e2
theorem ValL.take {μ : Mu} {a a' : List Value} (h1 : ValL μ a a') (n : Nat) : ValL μ (a.take n) (a'.take n) := by
  refine ⟨by simp [h1.1], fun i v v' e1 e2 => ?_⟩
  rw [List.getElem?_take] at e1 e2
  split at e1
  · rename_i hlt; rw [if_pos hlt] at e2; exact h1.2 _ _ _ e1 e2
  · cases e1
theorem ValL.drop {μ : Mu} {a a' : List Value} (h1 : ValL μ a a') (n : Nat) : ValL μ (a.drop n) (a'.drop n) := by
  refine ⟨by simp [h1.1], fun i v v' e1 e2 => ?_⟩
  rw [List.getElem?_drop] at e1 e2
  exact h1.2 _ _ _ e1 e2
theorem ValL.get {μ : Mu} {a a' : List Value} (h1 : ValL μ a a') {i : Nat} {v : Value} (h : a[i]? = some v) : ∃ v', a'[i]? = some v' ∧ Val μ v v' := by
  have hlt : i < a'.length := by rw [h1.1]; exact (List.getElem?_eq_some_iff.1 h).1
  exact ⟨_, List.getElem?_eq_getElem hlt, h1.2 _ _ _ h (List.getElem?_eq_getElem hlt)⟩
theorem ValL.get' {μ : Mu} {a a' : List Value} (h1 : ValL μ a a') {i : Nat} {v' : Value} (h : a'[i]? = some v') : ∃ v, a[i]? = some v ∧ Val μ v v' := by
  have hlt : i < a.length := by rw [← h1.1]; exact (List.getElem?_eq_some_iff.1 h).1
  exact ⟨_, List.getElem?_eq_getElem hlt, h1.2 _ _ _ (List.getElem?_eq_getElem hlt) h⟩
theorem Val.aggL {μ : Mu} {a a' : Array Value} (h : ValL μ a.toList a'.toList) : Val μ (.agg a) (.agg a') :=
  .agg (by simpa using h.1) (fun i v v' e1 e2 => h.2 i v v' (by simpa using e1) (by simpa using e2))
theorem ValL.ofA {μ : Mu} {a a' : Array Value} (ha : a'.size = a.size) (h1 : ∀ (i : Nat) (v v' : Value), a[i]? = some v → a'[i]? = some v' → Val μ v v') : ValL μ a.toList a'.toList :=
  ⟨by simpa using ha, fun i v v' e1 e2 => h1 i v v' (by simpa using e1) (by simpa using e2)⟩

theorem scalar_val {μ : Mu} {v v' : Value} (h : scalarB v = true) (hv : Val μ v v') : v' = v := by
  cases hv <;> first | rfl | simp [scalarB] at h
theorem allScalar_val {μ : Mu} {a a' : Array Value} (h : a.all scalarB = true) (ha : a'.size = a.size) (h1 : ∀ (i : Nat) (v v' : Value), a[i]? = some v → a'[i]? = some v' → Val μ v v') : a' = a := by
  apply Array.ext ha
  intro i hi1 hi2
  have hs : scalarB a[i] = true := by
    rw [Array.all_eq_true] at h; exact h i hi2
  exact scalar_val hs (h1 i _ _ (by simp [hi2]) (by simp [hi1]))
theorem flat_val {μ : Mu} {v v' : Value} (h : flatB v = true) (hv : Val μ v v') : v' = v := by
  cases hv with
  | scal _ => rfl
  | agg ha h1 => rw [allScalar_val h ha h1]
  | tup ha h1 => rw [allScalar_val h ha h1]
  | iface h1 => rw [scalar_val h h1]
  | _ => simp [flatB, scalarB] at h
theorem val_flat {μ : Mu} {v : Value} (h : flatB v = true) : Val μ v v := by
  have key : ∀ a : Array Value, a.all scalarB = true → ∀ (i : Nat) (v v' : Value), a[i]? = some v → a[i]? = some v' → Val μ v v' := by
    intro a ha i v v' e1 e2
    rw [e1] at e2; cases e2
    obtain ⟨hi, rfl⟩ := Array.getElem?_eq_some_iff.1 e1
    rw [Array.all_eq_true] at ha
    exact .scal (ha i hi)
  cases v with
  | agg a => exact .agg rfl (key a h)
  | tuple a => exact .tup rfl (key a h)
  | iface t v => exact .iface (.scal h)
  | _ => exact .scal h

/-- No cell of the block is frozen, and it bears no mark. -/
def frOk (fr : Nat × Nat) : Prop := fr.1 = fr.2
/-- The cells of an abstract block stand at the head of a block of the model's. -/
def Holds (μ : Mu) (x : Blk) (N : Nat) (o : Option Obj) : Prop :=
  ∃ c elem fr, o = some (.cells c elem fr) ∧ c.size = N ∧ (x.perm = .full → frOk fr) ∧ ∀ (j : Nat) v, x.cells[j]? = some v → ∃ v', c[j]? = some v' ∧ Val μ v v'
def alive (σ : Heap) (l : Nat) : Prop := ∃ x : Blk, σ[l]? = some x ∧ x.perm ≠ .dead
def isFull (σ : Heap) (l : Nat) : Prop := ∃ x : Blk, σ[l]? = some x ∧ x.perm.own = true
theorem isFull.alive {σ : Heap} {l : Nat} (h : isFull σ l) : alive σ l := by
  obtain ⟨x, h1, h2⟩ := h; exact ⟨x, h1, fun e => by rw [e] at h2; cases h2⟩
structure Sim (μ : Mu) (σ : Heap) (h : Array Obj) : Prop where
  lt : ∀ l b N, μ l = some (b, N) → b < h.size
  inj : ∀ l1 l2 b N1 N2, l1 ≠ l2 → μ l1 = some (b, N1) → μ l2 = some (b, N2) → isFull σ l1 → (alive σ l2 ∨ σ.length ≤ l2) → False
  blk : ∀ (l b N : Nat) (x : Blk), μ l = some (b, N) → σ[l]? = some x → x.perm ≠ .dead → Holds μ x N h[b]?
  glob : ∀ p ∈ gcells, ∃ N, μ p.1 = some (p.1, N)
theorem globExt {μ μ' : Mu} (h : ∀ p ∈ gcells, ∃ N, μ p.1 = some (p.1, N)) (he : ∀ l b, μ l = some b → μ' l = some b) : ∀ p ∈ gcells, ∃ N, μ' p.1 = some (p.1, N) := fun p hp => (h p hp).imp fun _ h => he _ _ h
/-- The model's block b bears the same cells. -/
def SameB (y : Prop) (h h' : Array Obj) (b : Nat) : Prop := ∀ c elem fr, h[b]? = some (.cells c elem fr) → ∃ fr', h'[b]? = some (.cells c elem fr') ∧ (y → frOk fr → frOk fr')
theorem SameB.of_eq {y : Prop} {h h' : Array Obj} {b : Nat} (e : h'[b]? = h[b]?) : SameB y h h' b := fun c elem fr hc => ⟨fr, e.trans hc, fun _ => id⟩
/-- It isn't a block of bytes that may be marked. -/
def noByt (σ : Heap) (l : Nat) : Prop := ∀ x : Blk, σ[l]? = some x → x.perm ≠ .byt
/-- Abstract memory grows, permissions are lost, what may only be read stays. -/
structure Le (σ σ' : Heap) : Prop where
  len : σ.length ≤ σ'.length
  blk : ∀ (l : Nat) (x : Blk), σ[l]? = some x → ∃ x' : Blk, σ'[l]? = some x' ∧ (x'.perm.own = true → x.perm = x'.perm) ∧ (x.perm = .ro → x' = x) ∧ (x.perm = .dead → x'.perm = .dead)
theorem Le.refl (σ : Heap) : Le σ σ := ⟨Nat.le_refl _, fun l x h => ⟨x, h, fun _ => rfl, fun _ => rfl, id⟩⟩
theorem Le.trans {a b c : Heap} (h1 : Le a b) (h2 : Le b c) : Le a c := by
  refine ⟨Nat.le_trans h1.len h2.len, fun l x h => ?_⟩
  obtain ⟨y, hy, y1, y2, y3⟩ := h1.blk l x h
  obtain ⟨z, hz, z1, z2, z3⟩ := h2.blk l y hy
  refine ⟨z, hz, fun e => (y1 (by rw [z1 e]; exact e)).trans (z1 e), fun e => ?_, fun e => z3 (y3 e)⟩
  rw [y2 e] at z2
  exact z2 e
theorem get_lt {α : Type} {l : List α} {i : Nat} {x : α} (h : l[i]? = some x) : i < l.length := (List.getElem?_eq_some_iff.1 h).1
theorem Le.full {σ σ' : Heap} (h : Le σ σ') {l : Nat} (hl : l < σ.length) (hf : isFull σ' l) : isFull σ l := by
  obtain ⟨x, h1, h2⟩ := hf
  obtain ⟨y, hy, y1, _⟩ := h.blk l _ (List.getElem?_eq_getElem hl)
  rw [h1] at hy; cases hy
  exact ⟨_, List.getElem?_eq_getElem hl, by rw [y1 h2]; exact h2⟩
theorem Le.alive {σ σ' : Heap} (h : Le σ σ') {l : Nat} (hl : l < σ.length) (hf : alive σ' l) : alive σ l := by
  obtain ⟨x, h1, h2⟩ := hf
  obtain ⟨y, hy, _, _, y3⟩ := h.blk l _ (List.getElem?_eq_getElem hl)
  rw [h1] at hy; cases hy
  exact ⟨_, List.getElem?_eq_getElem hl, fun e => h2 (y3 e)⟩
/-- What becomes of the model's world. q: nothing that stands is written over. -/
structure Fr (q : Bool) (μ : Mu) (σ : Heap) (w : World) (μ' : Mu) (σ' : Heap) (w' : World) : Prop where
  ext : ∀ l b, μ l = some b → μ' l = some b
  new : ∀ l b N, μ' l = some (b, N) → μ l = some (b, N) ∨ (σ.length ≤ l ∧ l < σ'.length ∧ (w.heap.size ≤ b ∨ ∃ l0, μ l0 = some (b, N) ∧ isFull σ l0 ∧ ¬ alive σ' l0))
  keep : ∀ b, b < w.heap.size → (∀ l N, μ l = some (b, N) → isFull σ l → False) → w'.heap[b]? = w.heap[b]?
  keepQ : q = true → ∀ l b N, μ l = some (b, N) → alive σ' l → SameB (noByt σ l) w.heap w'.heap b
  size : w.heap.size ≤ w'.heap.size
  os : w'.os = w.os
  tape : w'.tape = w.tape
  output : w'.output = w.output
theorem Fr.refl (q : Bool) (μ : Mu) (σ : Heap) (w : World) : Fr q μ σ w μ σ w :=
  ⟨fun _ _ h => h, fun _ _ _ h => .inl h, fun _ _ _ => rfl, fun _ _ _ _ _ _ => .of_eq rfl, Nat.le_refl _, rfl, rfl, rfl⟩
theorem Fr.trans {μ μ1 μ2 : Mu} {σ σ1 σ2 : Heap} {w w1 w2 : World} (hU : ∀ l, σ.length ≤ l → l < σ1.length → μ l = none) (l1 : Le σ σ1) (l2 : Le σ1 σ2) (h1 : Fr false μ σ w μ1 σ1 w1) (h2 : Fr false μ1 σ1 w1 μ2 σ2 w2) : Fr false μ σ w μ2 σ2 w2 := by
  have old : ∀ l b, μ l = some b → isFull σ1 l → l < σ.length := fun l b h hf => by
    obtain ⟨x, hx, _⟩ := hf
    rcases Nat.lt_or_ge l σ.length with h1 | h1
    · exact h1
    · rw [hU l h1 (get_lt hx)] at h; cases h
  have dead : ∀ l, isFull σ l → ¬ alive σ1 l → ¬ alive σ2 l := fun l hf hn ha => by
    obtain ⟨x, hx, _⟩ := hf
    exact hn (l2.alive (Nat.lt_of_lt_of_le (get_lt hx) l1.len) ha)
  refine ⟨fun l b h => h2.ext l b (h1.ext l b h), fun l b N h => ?_, fun b hb hn => ?_, fun h => (by cases h), Nat.le_trans h1.size h2.size, h2.os.trans h1.os, h2.tape.trans h1.tape, h2.output.trans h1.output⟩
  · rcases h2.new l b N h with h | ⟨a1, a2, h⟩
    · rcases h1.new l b N h with h | ⟨b1, b2, h⟩
      · exact .inl h
      · refine .inr ⟨b1, Nat.lt_of_lt_of_le b2 l2.len, ?_⟩
        rcases h with h | ⟨l0, c1, c2, c3⟩
        · exact .inl h
        · exact .inr ⟨l0, c1, c2, dead l0 c2 c3⟩
    · refine .inr ⟨Nat.le_trans l1.len a1, a2, ?_⟩
      rcases h with h | ⟨l0, c1, c2, c3⟩
      · exact .inl (Nat.le_trans h1.size h)
      · rcases h1.new l0 b N c1 with h | ⟨b1, b2, h⟩
        · exact .inr ⟨l0, h, l1.full (old l0 _ h c2) c2, c3⟩
        · rcases h with h | ⟨l00, d1, d2, d3⟩
          · exact .inl h
          · exact .inr ⟨l00, d1, d2, dead l00 d2 d3⟩
  · rw [h2.keep b (Nat.lt_of_lt_of_le hb h1.size) ?_, h1.keep b hb hn]
    intro l N hl hf
    rcases h1.new l b N hl with h | ⟨b1, b2, h⟩
    · exact hn l N h (l1.full (old l _ h hf) hf)
    · rcases h with h | ⟨l0, c1, c2, _⟩
      · omega
      · exact hn l0 N c1 c2
end Go.Proofs.Ytibejcomfjddfaa.AM
end
section
set_option maxHeartbeats 8000000
set_option linter.unusedVariables false
set_option linter.unusedSimpArgs false

/- What an operation may do to memory: nothing, a new block, cells written, a block handed on. -/
namespace Go.Proofs.Ytibejcomfjddfaa.AM
open Go

theorem pureRun_run {α : Type} {P : Program} : ∀ (s : Sem α) {a : α}, pureRun P s = some a → ∀ w : World, s.run P w = .ok a w
  | .pure a, b, h, w => by simp only [pureRun] at h; cases h; rfl
  | .program k, b, h, w => by simp only [pureRun] at h; exact pureRun_run (k P) h w
  | .mark m k, b, h, w => by simp only [pureRun] at h; exact pureRun_run k h w
  | .load .., _, h, _ => by simp [pureRun] at h
  | .store .., _, h, _ => by simp [pureRun] at h
  | .new .., _, h, _ => by simp [pureRun] at h
  | .shape .., _, h, _ => by simp [pureRun] at h
  | .freeze .., _, h, _ => by simp [pureRun] at h
  | .frozen .., _, h, _ => by simp [pureRun] at h
  | .getObj .., _, h, _ => by simp [pureRun] at h
  | .setObj .., _, h, _ => by simp [pureRun] at h
  | .choose .., _, h, _ => by simp [pureRun] at h
  | .sys .., _, h, _ => by simp [pureRun] at h
  | .halt _, _, h, _ => by simp [pureRun] at h

/-- The operation's run in the model: a value, and the world behind it. -/
def Runs (P : Program) (o : Oper) (ρ : Operand → Value) (w : World) (v : Value) (w' : World) : Prop :=
  (execOp ρ o).run P w = .ok (.value v) w' ∨ ((execOp ρ o).run P w = .ok .skip w' ∧ v = undef)
/-- What the abstract operation promises of the model's. -/
def Out (P : Program) (q : Bool) (o : Oper) (ρ' : Operand → Value) (μ : Mu) (σ : Heap) (w : World) (v : Value) (σ' : Heap) : Prop :=
  ∃ v' w' μ', Runs P o ρ' w v' w' ∧ Val μ' v v' ∧ Sim μ' σ' w'.heap ∧ Fr q μ σ w μ' σ' w' ∧ Le σ σ'
section
variable {P : Program} {q : Bool} {o : Oper} {ρ' : Operand → Value} {μ : Mu} {σ σ' : Heap} {w w' : World} {v v' : Value}
theorem Out.same (hS : Sim μ σ w.heap) (hr : Runs P o ρ' w v' w) (hv : Val μ v v') : Out P q o ρ' μ σ w v σ :=
  ⟨v', w, μ, hr, hv, hS, .refl _ _ _ _, .refl _⟩

theorem mapOf (μ : Mu) (σ : Heap) (b : Nat × Nat) : (fun l => if l = σ.length then some b else μ l) σ.length = some b := by simp

theorem Sim.kill (hS : Sim μ σ w.heap) (l : Nat) : Sim μ (kill σ l) w.heap := by
  have hg : ∀ k x, (AM.kill σ l)[k]? = some x → ∃ y, σ[k]? = some y ∧ x.cells = y.cells ∧ (x.perm = y.perm ∨ x.perm = .dead) ∧ (k = l → x.perm = .dead) := by
    intro k x h
    unfold AM.kill at h
    rw [List.getElem?_modify] at h
    cases hk : σ[k]? with
    | none => rw [hk] at h; simp at h
    | some y =>
      rw [hk] at h
      by_cases e : l = k
      · simp [e] at h; subst h; exact ⟨y, rfl, rfl, .inr rfl, fun _ => rfl⟩
      · simp [e] at h; subst h; exact ⟨y, rfl, rfl, .inl rfl, fun e' => absurd e'.symm e⟩
  refine ⟨hS.lt, fun l1 l2 b N1 N2 hne h1 h2 hf ha => ?_, fun k b N x hk hx hd => ?_, hS.glob⟩
  · obtain ⟨x, hx, hp⟩ := hf
    obtain ⟨y, hy, _, hyp, _⟩ := hg _ _ hx
    refine hS.inj l1 l2 b N1 N2 hne h1 h2 ⟨y, hy, ?_⟩ ?_
    · rcases hyp with e | e
      · rw [← e]; exact hp
      · rw [e] at hp; cases hp
    · rcases ha with ⟨z, hz, hzp⟩ | ha
      · obtain ⟨u, hu, _, hup, _⟩ := hg _ _ hz
        refine .inl ⟨u, hu, ?_⟩
        rcases hup with e | e
        · rw [← e]; exact hzp
        · exact absurd e hzp
      · exact .inr (by simpa [AM.kill] using ha)
  · obtain ⟨y, hy, hc, hyp, _⟩ := hg _ _ hx
    have hyp' : x.perm = y.perm := hyp.resolve_right hd
    obtain ⟨c, elem, fr, e, h0, h1, h2⟩ := hS.blk k b N y hk hy (by rw [← hyp']; exact hd)
    exact ⟨c, elem, fr, e, h0, fun h => h1 (by rw [← hyp']; exact h), fun j v h => h2 j v (by rw [← hc]; exact h)⟩
theorem kill_get (σ : Heap) (l k : Nat) : (kill σ l)[k]? = if l = k then (σ[k]?).map (fun b => ⟨b.cells, .dead⟩) else σ[k]? := by
  unfold kill
  rw [List.getElem?_modify]
  cases σ[k]? <;> (split <;> rfl)
theorem kill_len (σ : Heap) (l : Nat) : (kill σ l).length = σ.length := by simp [kill]
theorem Le.kill (σ : Heap) (l : Nat) (hl : ∀ x, σ[l]? = some x → x.perm ≠ .ro) : Le σ (kill σ l) := by
  refine ⟨by simp [kill_len], fun k x h => ?_⟩
  rw [kill_get]
  by_cases e : l = k
  · rw [if_pos e, h]
    refine ⟨_, rfl, fun h => (by cases h), fun hr => ?_, fun _ => rfl⟩
    subst e; exact absurd hr (hl x h)
  · rw [if_neg e, h]; exact ⟨x, rfl, fun _ => rfl, fun _ => rfl, id⟩
theorem Le.snoc (σ : Heap) (x : Blk) : Le σ (σ ++ [x]) :=
  ⟨by simp, fun l y h => ⟨y, by rw [List.getElem?_append_left (get_lt h)]; exact h, fun _ => rfl, fun _ => rfl, id⟩⟩

/-- A new block in both. -/
theorem sim_new {C : Array Value} {e : TypeId} {fr : Nat × Nat} {cs : List Value} {p : Perm} (hS : Sim μ σ w.heap) (hU : μ σ.length = none)
    (hh : w'.heap = w.heap.push (.cells C e fr)) (hfr : p = .full → frOk fr) (hc : ∀ (j : Nat) v, cs[j]? = some v → ∃ v', C[j]? = some v' ∧ Val μ v v') :
    Sim (fun l => if l = σ.length then some (w.heap.size, C.size) else μ l) (σ ++ [⟨cs, p⟩]) w'.heap := by
  have ext : ∀ l b, μ l = some b → (if l = σ.length then some (w.heap.size, C.size) else μ l) = some b := fun l b h => by
    by_cases e : l = σ.length
    · rw [e, hU] at h; cases h
    · rw [if_neg e]; exact h
  have old : ∀ b, b < w.heap.size → w'.heap[b]? = w.heap[b]? := fun b hb => by
    rw [hh, Array.getElem?_push]; split
    · omega
    · rfl
  have gold : ∀ l x, l ≠ σ.length → (σ ++ [⟨cs, p⟩])[l]? = some x → σ[l]? = some x := fun l x hne h => by
    rcases Nat.lt_or_ge l σ.length with hl | hl
    · rwa [List.getElem?_append_left hl] at h
    · rw [List.getElem?_append_right hl, List.getElem?_eq_none (by simp; omega)] at h; cases h
  refine ⟨fun l b N h => ?_, fun l1 l2 b N1 N2 hne h1 h2 hf ha => ?_, fun l b N x h hx hd => ?_, globExt hS.glob ext⟩
  · rw [hh, Array.size_push]
    by_cases e : l = σ.length
    · rw [if_pos e] at h; cases h; omega
    · rw [if_neg e] at h; have := hS.lt l b N h; omega
  · by_cases e1 : l1 = σ.length
    · rw [if_pos e1] at h1; cases h1
      by_cases e2 : l2 = σ.length
      · exact hne (e1.trans e2.symm)
      · rw [if_neg e2] at h2; have := hS.lt _ _ _ h2; omega
    · rw [if_neg e1] at h1
      by_cases e2 : l2 = σ.length
      · rw [if_pos e2] at h2; cases h2; have := hS.lt _ _ _ h1; omega
      · rw [if_neg e2] at h2
        obtain ⟨x, hx, hp⟩ := hf
        refine hS.inj l1 l2 b N1 N2 hne h1 h2 ⟨x, gold l1 x e1 hx, hp⟩ ?_
        rcases ha with ⟨y, hy, hyp⟩ | ha
        · exact .inl ⟨y, gold l2 y e2 hy, hyp⟩
        · exact .inr (by simp at ha; omega)
  · by_cases e1 : l = σ.length
    · subst e1
      rw [if_pos rfl] at h; cases h
      rw [List.getElem?_append_right (Nat.le_refl _)] at hx
      simp at hx; subst hx
      exact ⟨C, e, fr, by rw [hh]; simp, rfl, hfr, fun j v hv => by
        obtain ⟨v', h1, h2⟩ := hc j v hv
        exact ⟨v', h1, h2.mono ext⟩⟩
    · rw [if_neg e1] at h
      obtain ⟨c, elem, fr, e, a0, a1, a2⟩ := hS.blk l b N x h (gold l x e1 hx) hd
      refine ⟨c, elem, fr, by rw [old b (hS.lt l b N h)]; exact e, a0, a1, fun j v hv => ?_⟩
      obtain ⟨v', b1, b2⟩ := a2 j v hv
      exact ⟨v', b1, b2.mono ext⟩
theorem fr_new {o2 : Obj} {x : Blk} {C : Array Value} (hS : Sim μ σ w.heap) (hU : μ σ.length = none) (hh : w'.heap = w.heap.push o2) (h1 : w'.os = w.os) (h2 : w'.tape = w.tape) (h3 : w'.output = w.output) :
    Fr q μ σ w (fun l => if l = σ.length then some (w.heap.size, C.size) else μ l) (σ ++ [x]) w' := by
  have old : ∀ b, b < w.heap.size → w'.heap[b]? = w.heap[b]? := fun b hb => by
    rw [hh, Array.getElem?_push]; split
    · omega
    · rfl
  refine ⟨fun l b h => ?_, fun l b N h => ?_, fun b hb _ => old b hb, fun _ l b N h _ => .of_eq (old b (hS.lt l b N h)), by rw [hh]; simp, h1, h2, h3⟩
  · by_cases e : l = σ.length
    · rw [e, hU] at h; cases h
    · rw [if_neg e]; exact h
  · by_cases e : l = σ.length
    · rw [if_pos e] at h; cases h
      exact .inr ⟨by omega, by simp; omega, .inl (Nat.le_refl _)⟩
    · rw [if_neg e] at h; exact .inl h
/-- An operation that lays a new block. -/
theorem Out.new {C : Array Value} {e : TypeId} {fr : Nat × Nat} {cs : List Value} {p : Perm} (hS : Sim μ σ w.heap) (hU : μ σ.length = none) (hr : Runs P o ρ' w v' w')
    (hh : w'.heap = w.heap.push (.cells C e fr)) (hfr : p = .full → frOk fr) (hc : ∀ (j : Nat) v, cs[j]? = some v → ∃ v', C[j]? = some v' ∧ Val μ v v')
    (h1 : w'.os = w.os) (h2 : w'.tape = w.tape) (h3 : w'.output = w.output) (hv : ∀ μ' : Mu, μ' σ.length = some (w.heap.size, C.size) → Val μ' v v') :
    Out P q o ρ' μ σ w v (σ ++ [⟨cs, p⟩]) :=
  ⟨v', w', _, hr, hv _ (mapOf μ σ _), sim_new hS hU hh hfr hc, fr_new hS hU hh h1 h2 h3, .snoc _ _⟩

/-- What is read. -/
theorem read_sim {a : Addr} {n : Nat} {vs : List Value} {b N : Nat} (hS : Sim μ σ w.heap) (hm : μ a.block = some (b, N)) (h : readN σ a n = some vs) :
    a.spot = none ∧ ∃ vs', ValL μ vs vs' ∧ vs.length = n ∧ (∀ (j : Nat) v', vs'[j]? = some v' → w.cell? ⟨b, a.off + j, none⟩ = some v') ∧
      ∃ c elem fr, w.heap[b]? = some (.cells c elem fr) ∧ c.size = N ∧ a.off + n ≤ c.size := by
  unfold readN at h
  cases hs : a.spot with
  | some _ => rw [hs] at h; simp at h
  | none =>
    cases hb : σ[a.block]? with
    | none => rw [hs, hb] at h; simp at h
    | some x =>
      rw [hs, hb] at h
      dsimp only at h
      split at h
      · rename_i hc
        obtain ⟨hd, hl⟩ := hc
        cases h
        obtain ⟨c, elem, fr, e, a0, _, a2⟩ := hS.blk _ b N x hm hb hd
        have hsz : x.cells.length ≤ c.size := by
          rcases Nat.eq_zero_or_pos x.cells.length with h0 | h0
          · omega
          · obtain ⟨v', h1, _⟩ := a2 (x.cells.length - 1) _ (List.getElem?_eq_getElem (by omega))
            have := (Array.getElem?_eq_some_iff.1 h1).1
            omega
        refine ⟨rfl, ((c.toList.drop a.off).take n), ⟨by simp; omega, fun i v v' h1 h2 => ?_⟩, by simp; omega, fun j v' h1 => ?_, c, elem, fr, e, a0, by omega⟩
        · rw [List.getElem?_take] at h1 h2
          split at h1
          · rename_i hi
            rw [if_pos hi] at h2
            rw [List.getElem?_drop] at h1 h2
            obtain ⟨u, b1, b2⟩ := a2 _ _ h1
            rw [Array.getElem?_toList, b1] at h2
            cases h2; exact b2
          · cases h1
        · rw [List.getElem?_take] at h1
          split at h1
          · rw [List.getElem?_drop, Array.getElem?_toList] at h1
            simp only [World.cell?, e]
            simpa using h1
          · cases h1
      · cases h

theorem setCells_same3 (b : Nat) : ∀ (vs : List Value) (o : Nat) (w : World), (w.setCells b o vs).os = w.os ∧ (w.setCells b o vs).tape = w.tape ∧ (w.setCells b o vs).output = w.output ∧ (w.setCells b o vs).heap.size = w.heap.size
  | [], _, _ => ⟨rfl, rfl, rfl, rfl⟩
  | v :: r, o, w => by
    obtain ⟨h1, h2, h3, h4⟩ := setCells_same3 b r (o + 1) (w.setCell ⟨b, o, none⟩ v)
    exact ⟨h1, h2, h3, h4.trans (by simp)⟩
theorem setCells_other (b : Nat) : ∀ (vs : List Value) (o : Nat) (w : World) (k : Nat), k ≠ b → (w.setCells b o vs).heap[k]? = w.heap[k]?
  | [], _, _, _, _ => rfl
  | v :: r, o, w, k, h => by
    rw [World.setCells, setCells_other b r (o + 1) _ k h]
    simp [World.setCell, Array.getElem?_modify, Ne.symm h]
theorem setCells_at (b : Nat) (e : TypeId) (fr : Nat × Nat) : ∀ (vs : List Value) (o : Nat) (w : World) (c : Array Value), w.heap[b]? = some (.cells c e fr) → o + vs.length ≤ c.size →
    ∃ c', (w.setCells b o vs).heap[b]? = some (.cells c' e fr) ∧ c'.size = c.size ∧ ∀ j : Nat, c'[j]? = if o ≤ j ∧ j < o + vs.length then vs[j - o]? else c[j]?
  | [], o, w, c, h, _ => ⟨c, h, rfl, fun j => by simp; intro h1 h2; omega⟩
  | v :: r, o, w, c, h, hl => by
    simp only [List.length_cons] at hl
    have h' : (w.setCell ⟨b, o, none⟩ v).heap[b]? = some (.cells (c.setIfInBounds o v) e fr) := by simp [World.setCell, Array.getElem?_modify, h]
    obtain ⟨c', h1, h2, h3⟩ := setCells_at b e fr r (o + 1) (w.setCell ⟨b, o, none⟩ v) _ h' (by simp; omega)
    refine ⟨c', h1, by simpa using h2, fun j => ?_⟩
    rw [h3 j]
    by_cases e1 : o + 1 ≤ j ∧ j < o + 1 + r.length
    · rw [if_pos e1, if_pos ⟨by omega, by simp; omega⟩]
      rw [show j - o = (j - (o + 1)) + 1 by omega, List.getElem?_cons_succ]
    · rw [if_neg e1]
      by_cases e2 : j = o
      · subst e2
        rw [if_pos ⟨Nat.le_refl _, by simp⟩]
        rw [Array.getElem?_setIfInBounds]
        simp
        omega
      · rw [if_neg (by simp; omega)]
        rw [Array.getElem?_setIfInBounds_ne (Ne.symm e2)]

/-- What is written. -/
theorem write_sim {a : Addr} {vs vs' : List Value} {b N : Nat} (hS : Sim μ σ w.heap) (hm : μ a.block = some (b, N)) (h : writeN σ a vs = some σ') (hv : ValL μ vs vs') :
    a.spot = none ∧ Sim μ σ' (w.setCells b a.off vs').heap ∧ Fr false μ σ w μ σ' (w.setCells b a.off vs') ∧ Le σ σ' ∧ σ'.length = σ.length ∧
      (∀ j, j < vs'.length → (w.cell? ⟨b, a.off + j, none⟩).isSome = true) ∧ (∀ j, j < vs'.length → w.frozen? ⟨b, a.off + j, none⟩ = false) ∧ (vs.all cellB = true) := by
  unfold writeN at h
  cases hs : a.spot with
  | some _ => rw [hs] at h; simp at h
  | none =>
    cases hb : σ[a.block]? with
    | none => rw [hs, hb] at h; simp at h
    | some x =>
      rw [hs, hb] at h
      dsimp only at h
      split at h
      · rename_i hc
        obtain ⟨hp, hl, hcell⟩ := hc
        cases h
        obtain ⟨c, elem, fr, e, a0, a1, a2⟩ := hS.blk _ b N x hm hb (by rw [hp]; simp)
        have hfr := a1 hp
        have hsz : x.cells.length ≤ c.size := by
          rcases Nat.eq_zero_or_pos x.cells.length with h0 | h0
          · omega
          · obtain ⟨v', h1, _⟩ := a2 (x.cells.length - 1) _ (List.getElem?_eq_getElem (by omega))
            have := (Array.getElem?_eq_some_iff.1 h1).1
            omega
        have hl' : vs'.length = vs.length := hv.1
        obtain ⟨c', e', hsz', hget⟩ := setCells_at b elem fr vs' a.off w c e (by omega)
        obtain ⟨s1, s2, s3, s4⟩ := setCells_same3 b vs' a.off w
        have hff : isFull σ a.block := ⟨x, hb, by rw [hp]; rfl⟩
        have hlt : a.block < σ.length := get_lt hb
        have gset : ∀ k y, (σ.set a.block ⟨splice x.cells a.off vs, .full⟩)[k]? = some y → (k ≠ a.block ∧ σ[k]? = some y) ∨ (k = a.block ∧ y = ⟨splice x.cells a.off vs, .full⟩) := fun k y hk => by
          rw [List.getElem?_set] at hk
          split at hk
          · rename_i e
            first | rw [if_pos (by omega)] at hk | skip
            cases hk; exact .inr ⟨e.symm, rfl⟩
          · rename_i e; exact .inl ⟨fun e' => e e'.symm, hk⟩
        have full' : ∀ k, isFull (σ.set a.block ⟨splice x.cells a.off vs, .full⟩) k → isFull σ k := fun k ⟨y, hy, hyp⟩ => by
          rcases gset k y hy with ⟨_, h⟩ | ⟨e, _⟩
          · exact ⟨y, h, hyp⟩
          · rw [e]; exact hff
        have alive' : ∀ k, alive (σ.set a.block ⟨splice x.cells a.off vs, .full⟩) k → alive σ k := fun k ⟨y, hy, hyp⟩ => by
          rcases gset k y hy with ⟨_, h⟩ | ⟨e, _⟩
          · exact ⟨y, h, hyp⟩
          · rw [e]; exact hff.alive
        refine ⟨rfl, ⟨fun l b N h => by rw [s4]; exact hS.lt l b N h, fun l1 l2 b N1 N2 hne h1 h2 hf ha => hS.inj l1 l2 b N1 N2 hne h1 h2 (full' _ hf) (ha.imp (alive' _) (by simp)), fun l b' N' y hl1 hy hd => ?_, hS.glob⟩, ?_, ?_, by simp, fun j hj => ?_, fun j hj => ?_, hcell⟩
        · rcases gset l y hy with ⟨hne, h⟩ | ⟨el, ey⟩
          · have hb' : b' ≠ b := fun e => by
              subst e
              exact hS.inj a.block l b' N N' (Ne.symm hne) hm hl1 hff (.inl ⟨y, h, hd⟩)
            obtain ⟨c2, elem2, fr2, k1, k0, k2, k3⟩ := hS.blk l b' N' y hl1 h hd
            exact ⟨c2, elem2, fr2, by rw [setCells_other b _ _ _ _ hb']; exact k1, k0, k2, k3⟩
          · subst el; subst ey
            rw [hm] at hl1; cases hl1
            refine ⟨c', elem, fr, e', hsz'.trans a0, fun _ => hfr, fun j v hj => ?_⟩
            rw [hget j]
            unfold splice at hj
            rcases Nat.lt_or_ge j a.off with g1 | g1
            · rw [if_neg (by omega)]
              rw [List.append_assoc, List.getElem?_append_left (by simp; omega), List.getElem?_take, if_pos g1] at hj
              exact a2 j v hj
            · rcases Nat.lt_or_ge j (a.off + vs.length) with g2 | g2
              · rw [if_pos ⟨g1, by omega⟩]
                rw [List.append_assoc, List.getElem?_append_right (by simp; omega), List.getElem?_append_left (by simp; omega)] at hj
                simp only [List.length_take] at hj
                rw [show j - min a.off x.cells.length = j - a.off by omega] at hj
                exact hv.get hj
              · rw [if_neg (by omega)]
                rw [List.getElem?_append_right (by simp; omega), List.getElem?_drop] at hj
                simp only [List.length_append, List.length_take] at hj
                rw [show a.off + vs.length + (j - (min a.off x.cells.length + vs.length)) = j by omega] at hj
                exact a2 j v hj
        · refine ⟨fun _ _ h => h, fun _ _ _ h => .inl h, fun b' hb' hn => setCells_other b _ _ _ _ (fun e => ?_), fun h => (by cases h), by rw [s4]; exact Nat.le_refl _, s1, s2, s3⟩
          subst e
          exact hn a.block N hm hff
        · refine ⟨by simp, fun l y hy => ?_⟩
          rw [List.getElem?_set]
          split
          · rename_i e
            first | rw [if_pos (by omega)] | skip
            subst e
            rw [hb] at hy; cases hy
            exact ⟨_, rfl, fun _ => hp, fun h => (by rw [hp] at h; cases h), fun h => (by rw [hp] at h; cases h)⟩
          · exact ⟨y, hy, fun _ => rfl, fun _ => rfl, id⟩
        · simp only [World.cell?, e]
          simp
          omega
        · simp only [World.frozen?, e]
          unfold frOk at hfr
          simp
          omega
      · cases h
end
end Go.Proofs.Ytibejcomfjddfaa.AM
end
section
set_option maxHeartbeats 8000000
set_option linter.unusedVariables false
set_option linter.unusedSimpArgs false

/- Operations of the abstract machine, and of the model: moves, fields, elements, blocks, loads, stores. -/
namespace Go.Proofs.Ytibejcomfjddfaa.AM
open Go
section
variable {P : Program} {q : Bool} {o : Oper} {ρ ρ' : Operand → Value} {μ : Mu} {σ σ' : Heap} {w w' : World} {v v' : Value}

theorem Val.bool {t : Bool} (h : Val μ (.bool t) v') : v' = .bool t := scalar_val rfl h
theorem Val.int {k : IntKind} {n : Int} (h : Val μ (.int k n) v') : v' = .int k n := scalar_val rfl h
theorem Val.str {s : ByteArray} (h : Val μ (.string s) v') : v' = .string s := scalar_val rfl h
theorem Val.ptr_inv {a : Addr} (h : Val μ (.pointer (some a)) v') : ∃ b N, a.spot = none ∧ μ a.block = some (b, N) ∧ v' = .pointer (some ⟨b, a.off, none⟩) := by
  cases h with
  | scal h => simp [scalarB] at h
  | ptr h => exact ⟨_, _, rfl, h, rfl⟩
theorem Val.tup_inv {a : Array Value} (h : Val μ (.tuple a) v') : ∃ a', v' = .tuple a' ∧ a'.size = a.size ∧ ∀ (i : Nat) (v v' : Value), a[i]? = some v → a'[i]? = some v' → Val μ v v' := by
  cases h with
  | scal h => simp [scalarB] at h
  | tup h1 h2 => exact ⟨_, rfl, h1, h2⟩
theorem Val.agg_inv {a : Array Value} (h : Val μ (.agg a) v') : ∃ a', v' = .agg a' ∧ a'.size = a.size ∧ ∀ (i : Nat) (v v' : Value), a[i]? = some v → a'[i]? = some v' → Val μ v v' := by
  cases h with
  | scal h => simp [scalarB] at h
  | agg h1 h2 => exact ⟨_, rfl, h1, h2⟩
theorem Val.func_inv {f : FuncId} {a b : Array Value} (h : Val μ (.func (.func f) a b) v') : ∃ a' b', v' = .func (.func f) a' b' ∧ ValL μ a.toList a'.toList ∧ ValL μ b.toList b'.toList := by
  cases h with
  | scal h => simp [scalarB] at h
  | func h1 h2 h3 h4 => exact ⟨_, _, rfl, .ofA h1 h3, .ofA h2 h4⟩
theorem get_val {a a' : Array Value} (hs : a'.size = a.size) (h : ∀ (i : Nat) (v v' : Value), a[i]? = some v → a'[i]? = some v' → Val μ v v') {i : Nat} {v : Value} (hi : a[i]? = some v) : ∃ v', a'[i]? = some v' ∧ Val μ v v' := by
  obtain ⟨h1, _⟩ := Array.getElem?_eq_some_iff.1 hi
  have : i < a'.size := by omega
  exact ⟨_, Array.getElem?_eq_getElem this, h i _ _ hi (Array.getElem?_eq_getElem this)⟩
theorem Val.oneCell (hv : Val μ v v') (hc : cellB v = true) : v'.oneCell' = true := by
  cases hv <;> first | rfl | (simp [cellB, junkB, Value.oneCell'] at hc; done) | skip
  rename_i h; simp [cellB] at hc; exact hc.1
theorem Val.cells (hv : Val μ v v') (hc : v.cells.toList.all cellB = true) : ValL μ v.cells.toList v'.cells.toList := by
  cases hv with
  | agg h1 h2 => exact .ofA h1 h2
  | scal h => cases v <;> first | exact ValL.one (.scal h) | (simp [scalarB] at h; done)
  | junk r v => simp [Value.cells, cellB, junkB] at hc
  | tup h1 h2 => simp [Value.cells, cellB, Value.oneCell'] at hc
  | ptr h => exact .one (.ptr h)
  | sl h1 h2 => exact .one (.sl h1 h2)
  | slu h1 h2 h3 h4 h5 h6 h7 => exact .one (.slu h1 h2 h3 h4 h5 h6 h7)
  | sld h => exact .one (.sld h)
  | func h1 h2 h3 h4 => exact .one (.func h1 h2 h3 h4)
  | iface h => exact .one (.iface h)
theorem ValL.oneCell {vs vs' : List Value} (h : ValL μ vs vs') (hc : vs.all cellB = true) : ∀ u ∈ vs', u.oneCell' = true := by
  intro u hu
  obtain ⟨i, hi, rfl⟩ := List.getElem_of_mem hu
  obtain ⟨x, hx, hv⟩ := h.get' (List.getElem?_eq_getElem hi)
  refine hv.oneCell ?_
  rw [List.all_eq_true] at hc
  exact hc x (List.mem_of_getElem? hx)
theorem flat_cells {z : Value} (h : flatB z = true) {j : Nat} {v : Value} (hj : z.cells[j]? = some v) : Val μ v v := by
  cases z with
  | agg a =>
    obtain ⟨hi, rfl⟩ := Array.getElem?_eq_some_iff.1 hj
    have h : a.all scalarB = true := h
    rw [Array.all_eq_true] at h
    exact .scal (h j hi)
  | _ =>
    simp only [Value.cells] at hj
    cases j with
    | zero => simp at hj; subst hj; exact val_flat h
    | succ j => simp at hj
theorem zerosOf_val {t : TypeId} {n : Nat} {zs : List Value} (h : zerosOf P t n = some zs) : ∃ i z, P.info? t = some i ∧ i.zero = some z ∧ flatB z = true ∧ z.cells.size = i.size ∧ zs = (List.replicate n z.cells.toList).flatten := by
  unfold zerosOf zeroOf szOf at h
  cases hi : P.info? t with
  | none => simp [hi] at h
  | some i =>
    cases hz : i.zero with
    | none => simp [hi, hz] at h
    | some z =>
      simp [hi, hz] at h
      exact ⟨i, z, rfl, hz, h.1.1, h.1.2, h.2.symm⟩
theorem newBlk_spec {cs : List Value} {a : Addr} (h : newBlk σ cs = some (a, σ')) : a = ⟨σ.length, 0, none⟩ ∧ σ' = σ ++ [⟨cs, .full⟩] ∧ cs.all cellB = true := by
  unfold newBlk at h
  split at h
  · rename_i hc; cases h; exact ⟨rfl, rfl, hc⟩
  · cases h
theorem newBlkP_spec {cs : List Value} {a : Addr} {p : Perm} (h : newBlkP σ cs p = some (a, σ')) : a = ⟨σ.length, 0, none⟩ ∧ σ' = σ ++ [⟨cs, p⟩] ∧ cs.all cellB = true := by
  unfold newBlkP at h
  split at h
  · rename_i hc; cases h; exact ⟨rfl, rfl, hc⟩
  · cases h
theorem frOk0 : frOk (0, 0) := rfl

theorem aPure_sound (hS : Sim μ σ w.heap) (hρ : ∀ x ∈ o.op.operands, Val μ (ρ x) (ρ' x)) (hsel : ∀ cs b, o.op ≠ .select cs b) (h : aPure P ρ o = some v) : Out P q o ρ' μ σ w v σ := by
  unfold aPure at h
  split at h
  · rename_i hf
    have hc : execOp ρ' o = execOp ρ o := execOp_congr o hsel (fun x hx => by
      rw [Array.all_eq_true] at hf
      obtain ⟨i, hi, rfl⟩ := Array.getElem_of_mem hx
      exact flat_val (hf i hi) (hρ _ hx))
    split at h
    · rename_i u hu
      split at h
      · rename_i hfu
        cases h
        exact .same hS (.inl (by rw [hc]; exact pureRun_run _ hu w)) (val_flat hfu)
      · cases h
    · cases h
  · cases h
theorem aPure_map (hS : Sim μ σ w.heap) (hρ : ∀ x ∈ o.op.operands, Val μ (ρ x) (ρ' x)) (hsel : ∀ cs b, o.op ≠ .select cs b) (h : (aPure P ρ o).map (·, σ) = some (v, σ')) : Out P q o ρ' μ σ w v σ' := by
  cases ha : aPure P ρ o with
  | none => rw [ha] at h; cases h
  | some u => rw [ha] at h; cases h; exact aPure_sound hS hρ hsel ha

variable {dst : Option Tmp} {type : TypeId} {pos : String} {after : Array Edge} {guard : Option (Nat × Bool)}
theorem move_sound {x : Operand} (hS : Sim μ σ w.heap) (hx : Val μ (ρ x) (ρ' x)) : Out P q ⟨dst, .move x, type, pos, after, guard⟩ ρ' μ σ w (ρ x) σ := .same hS (.inl rfl) hx
theorem assign_sound {x : Operand} (hS : Sim μ σ w.heap) (hx : Val μ (ρ x) (ρ' x)) : Out P q ⟨dst, .assign x, type, pos, after, guard⟩ ρ' μ σ w (ρ x) σ := .same hS (.inl rfl) hx
theorem pick_sound {c a b : Operand} {t : Bool} (hS : Sim μ σ w.heap) (hc : Val μ (ρ c) (ρ' c)) (ha : Val μ (ρ a) (ρ' a)) (hb : Val μ (ρ b) (ρ' b)) (ht : ρ c = .bool t) :
    Out P q ⟨dst, .pick c a b, type, pos, after, guard⟩ ρ' μ σ w (if t then ρ a else ρ b) σ := by
  rw [ht] at hc
  refine .same (v' := if t then ρ' a else ρ' b) hS (.inl ?_) ?_
  · simp [execOp, hc.bool, asBool]
  · cases t <;> simp <;> assumption
theorem extract_sound {x : Operand} {i : Nat} {vs : Array Value} (hS : Sim μ σ w.heap) (hx : Val μ (ρ x) (ρ' x)) (ht : ρ x = .tuple vs) (hi : vs[i]? = some v) :
    Out P q ⟨dst, .extract x i, type, pos, after, guard⟩ ρ' μ σ w v σ := by
  rw [ht] at hx
  obtain ⟨a', e, h1, h2⟩ := hx.tup_inv
  obtain ⟨v', h3, h4⟩ := get_val h1 h2 hi
  exact .same hS (.inl (by simp [execOp, e, Instr.extract, h3])) h4
theorem alloc_sound {t : TypeId} {zs : List Value} {a : Addr} (hS : Sim μ σ w.heap) (hU : μ σ.length = none) (hz : zerosOf P t 1 = some zs) (hb : newBlk σ zs = some (a, σ')) :
    Out P q ⟨dst, .alloc t, type, pos, after, guard⟩ ρ' μ σ w (.pointer (some a)) σ' := by
  obtain ⟨i, z, hi, hz1, hf, _, rfl⟩ := zerosOf_val hz
  obtain ⟨rfl, rfl, _⟩ := newBlk_spec hb
  refine .new (w' := w.alloc (.cells z.cells t)) (v' := .pointer (some ⟨w.heap.size, 0, none⟩)) hS hU (.inl ?_) rfl (fun _ => frOk0) (fun j u hj => ⟨u, ?_, ?_⟩) rfl rfl rfl (fun μ' h => .ptr h)
  · simp [execOp, Instr.alloc, zeroValue, typeInfo, hi, hz1, newVar, newRow]
  · simpa using hj
  · exact flat_cells hf (j := j) (by simpa using hj)
theorem box_sound {t : TypeId} {x : Operand} {a : Addr} (hS : Sim μ σ w.heap) (hU : μ σ.length = none) (hx : Val μ (ρ x) (ρ' x)) (hb : newBlk σ (ρ x).cells.toList = some (a, σ')) :
    Out P q ⟨dst, .box t x, type, pos, after, guard⟩ ρ' μ σ w (.pointer (some a)) σ' := by
  obtain ⟨rfl, rfl, hc⟩ := newBlk_spec hb
  have hl := hx.cells hc
  refine .new (w' := w.alloc (.cells (ρ' x).cells t)) (v' := .pointer (some ⟨w.heap.size, 0, none⟩)) hS hU (.inl ?_) rfl (fun _ => frOk0) (fun j u hj => ?_) rfl rfl rfl (fun μ' h => .ptr h)
  · simp [execOp, Instr.box, newVar, newRow]
  · obtain ⟨u', h1, h2⟩ := hl.get hj
    exact ⟨u', by simpa using h1, h2⟩
theorem aggOf_run {t : TypeId} {b : Bool} (h : aggOf P t = some b) (w : World) : (isAgg t).run P w = .ok b w := by
  unfold aggOf at h
  unfold isAgg
  cases hu : P.underlying t with
  | none => simp [hu] at h
  | some d => cases d <;> simp [hu] at h <;> simp [run_underlying hu, h]
theorem szOf_run {t : TypeId} {n : Nat} (h : szOf P t = some n) (w : World) : (Go.sizeOf t).run P w = .ok n w := by
  unfold szOf at h
  cases hi : P.info? t with
  | none => simp [hi] at h
  | some i => simp [hi] at h; simp [Go.sizeOf, typeInfo, hi, h]
theorem loadV_sound {t : TypeId} {a : Addr} {b N : Nat} (hS : Sim μ σ w.heap) (hm : μ a.block = some (b, N)) (hs : a.spot = none) (h : loadV P t σ a = some v) :
    ∃ v', (loadVar t ⟨b, a.off, none⟩).run P w = .ok v' w ∧ Val μ v v' := by
  unfold loadV at h
  split at h
  · rename_i n hagg hsz
    cases hr : readN σ a n with
    | none => rw [hr] at h; cases h
    | some vs =>
      rw [hr] at h; cases h
      obtain ⟨_, vs', h1, h2, h3, _⟩ := read_sim hS hm hr
      refine ⟨.agg vs'.toArray, ?_, .aggL (by simpa using h1)⟩
      have hl := run_loadCells_list (P := P) w ⟨b, a.off, none⟩ vs' (fun j u hj => by
        rw [Addr.add_lit]; exact h3 j u hj)
      have hn : vs'.length = n := h1.1.trans h2
      rw [hn] at hl
      simp [loadVar, aggOf_run hagg, szOf_run hsz, hl]
  · rename_i hagg
    cases hr : readN σ a 1 with
    | none => rw [hr] at h; cases h
    | some vs =>
      rw [hr] at h
      obtain ⟨_, vs', h1, h2, h3, _⟩ := read_sim hS hm hr
      obtain ⟨v', h4, h5⟩ := h1.get (i := 0) (by simpa using h)
      have := h3 0 v' h4
      refine ⟨v', ?_, h5⟩
      simp at this
      simp [loadVar, aggOf_run hagg, this]
  · cases h
theorem load_sound {t : TypeId} {x : Operand} {a : Addr} (hS : Sim μ σ w.heap) (hx : Val μ (ρ x) (ρ' x)) (ht : ρ x = .pointer (some a)) (h : loadV P t σ a = some v) :
    Out P q ⟨dst, .load t x, type, pos, after, guard⟩ ρ' μ σ w v σ := by
  rw [ht] at hx
  obtain ⟨b, N, hs, hm, e⟩ := hx.ptr_inv
  obtain ⟨v', h1, h2⟩ := loadV_sound hS hm hs h
  exact .same hS (.inl (by simp [execOp, e, Instr.loadAt, Instr.sureAddr, h1])) h2
theorem store_sound {t : TypeId} {x y : Operand} {a : Addr} {n : Nat} (hS : Sim μ σ w.heap) (hx : Val μ (ρ x) (ρ' x)) (hy : Val μ (ρ y) (ρ' y)) (ht : ρ x = .pointer (some a)) (hn : szOf P t = some n)
    (hsz : (ρ y).cells.size = n) (h : writeN σ a (ρ y).cells.toList = some σ') : Out P false ⟨dst, .store t x y, type, pos, after, guard⟩ ρ' μ σ w undef σ' := by
  rw [ht] at hx
  obtain ⟨b, N, hs, hm, e⟩ := hx.ptr_inv
  have hcell : (ρ y).cells.toList.all cellB = true := by
    unfold writeN at h
    split at h
    · split at h
      · rename_i hc; exact hc.2.2
      · cases h
    · cases h
  have hl := hy.cells hcell
  obtain ⟨_, h1, h2, h3, _, h5, h6, _⟩ := write_sim hS hm h hl
  have hst := run_storeCells_cells (P := P) b a.off (ρ' y).cells.toList 0 w (by simpa using h5) (by simpa using h6) (hl.oneCell hcell)
  have hsz' : (ρ' y).cells.size = n := by have := hl.1; simp at this; omega
  exact ⟨undef, _, μ, .inr ⟨by simp [execOp, e, Instr.storeAt, Instr.sureAddr, storeVar, szOf_run hn, hsz', hst], rfl⟩, .undef, h1, h2, h3⟩
theorem fieldOf_spec {t : TypeId} {f off : Nat} {ft : TypeId} (h : fieldOf P t f = some (off, ft)) : ∃ fs x, P.underlying t = some (.struct fs) ∧ fs[f]? = some x ∧ x.offset = off ∧ x.type = ft := by
  unfold fieldOf at h
  split at h
  · rename_i fs hu
    cases hx : fs[f]? with
    | none => rw [hx] at h; cases h
    | some x => rw [hx] at h; cases h; exact ⟨fs, x, hu, hx, rfl, rfl⟩
  · cases h
theorem fieldAddr_sound {t : TypeId} {x : Operand} {a : Addr} {f off k : Nat} {ft : TypeId} (hS : Sim μ σ w.heap) (hx : Val μ (ρ x) (ρ' x)) (ht : ρ x = .pointer (some a)) (hf : fieldOf P t f = some (off, ft))
    (hk : szOf P ft = some (k + 1)) : Out P q ⟨dst, .fieldAddr t x f, type, pos, after, guard⟩ ρ' μ σ w (.pointer (some (a.add off))) σ := by
  rw [ht] at hx
  obtain ⟨b, N, hs, hm, e⟩ := hx.ptr_inv
  obtain ⟨fs, fd, hu, hfd, rfl, rfl⟩ := fieldOf_spec hf
  obtain ⟨l, ao, sp⟩ := a
  simp only at hs hm; subst hs
  refine .same (v' := .pointer (some ((⟨b, ao, none⟩ : Addr).add fd.offset))) hS (.inl ?_) ?_
  · simp [execOp, e, Instr.fieldAt, run_underlying hu, hfd, Instr.sureAddr, fieldPlace, szOf_run hk]
  · rw [Addr.add_lit, Addr.add_lit]; exact .ptr hm
theorem partV_sound {t : TypeId} {cs cs' : Array Value} {off : Nat} (hc : ValL μ cs.toList cs'.toList) (h : partV P t cs off = some v) (w : World) : ∃ v', (part t cs' off).run P w = .ok v' w ∧ Val μ v v' := by
  unfold partV at h
  split at h
  · rename_i n hagg hsz
    cases h
    refine ⟨.agg (cs'.extract off (off + n)), by simp [part, aggOf_run hagg, szOf_run hsz], .aggL ?_⟩
    have := (hc.drop off).take n
    simpa [Array.toList_extract, List.extract] using this
  · rename_i hagg
    obtain ⟨v', h1, h2⟩ := hc.get (i := off) (by simpa using h)
    refine ⟨v', ?_, h2⟩
    simp at h1
    simp [part, aggOf_run hagg, h1]
  · cases h
theorem field_sound {t : TypeId} {x : Operand} {cs : Array Value} {f off : Nat} {ft : TypeId} (hS : Sim μ σ w.heap) (hx : Val μ (ρ x) (ρ' x)) (ht : ρ x = .agg cs) (hf : fieldOf P t f = some (off, ft))
    (h : partV P ft cs off = some v) : Out P q ⟨dst, .field t x f, type, pos, after, guard⟩ ρ' μ σ w v σ := by
  rw [ht] at hx
  obtain ⟨a', e, h1, h2⟩ := hx.agg_inv
  obtain ⟨fs, fd, hu, hfd, rfl, rfl⟩ := fieldOf_spec hf
  obtain ⟨v', h3, h4⟩ := partV_sound (.ofA h1 h2) h w
  exact .same hS (.inl (by simp [execOp, e, Instr.field, run_underlying hu, hfd, asAgg, h3])) h4
theorem indexAddr_slice_sound {t e : TypeId} {x i : Operand} {a : Addr} {n c s : Nat} {k : IntKind} {j : Int} (hS : Sim μ σ w.heap) (hx : Val μ (ρ x) (ρ' x)) (hi : Val μ (ρ i) (ρ' i)) (hu : P.underlying t = some (.slice e))
    (h1 : ρ x = .slice (some a) n c) (h2 : ρ i = .int k j) (hs : szOf P e = some s) (h0 : 0 ≤ j) (hn : j < n) : Out P q ⟨dst, .indexAddr t x i, type, pos, after, guard⟩ ρ' μ σ w (.pointer (some (a.add (j.toNat * s)))) σ := by
  rw [h2] at hi; rw [h1] at hx
  have hi := hi.int
  have key : ∃ b N c', a.spot = none ∧ μ a.block = some (b, N) ∧ ρ' x = .slice (some ⟨b, a.off, none⟩) n c' := by
    generalize ρ' x = y at hx
    cases hx with
    | scal h => simp [scalarB] at h
    | sl h _ => exact ⟨_, _, _, rfl, h, rfl⟩
    | slu h _ _ _ _ _ _ => exact ⟨_, _, _, rfl, h, rfl⟩
    | sld h => omega
  obtain ⟨b, N, c', e1, e2, e3⟩ := key
  obtain ⟨l, ao, sp⟩ := a
  simp only at e1 e2 e3; subst e1
  refine .same (v' := .pointer (some ((⟨b, ao, none⟩ : Addr).add (j.toNat * s)))) hS (.inl ?_) ?_
  · simp [execOp, e3, hi, Instr.indexAt, asIntOf, run_underlying hu, szOf_run hs, h0, hn]
  · rw [Addr.add_lit, Addr.add_lit]; exact .ptr e2
theorem indexAddr_array_sound {t e : TypeId} {x i : Operand} {a : Addr} {n s : Nat} {k : IntKind} {j : Int} (hS : Sim μ σ w.heap) (hx : Val μ (ρ x) (ρ' x)) (hi : Val μ (ρ i) (ρ' i)) (hu : P.underlying t = some (.array n e))
    (h1 : ρ x = .pointer (some a)) (h2 : ρ i = .int k j) (hs : szOf P e = some s) (h0 : 0 ≤ j) (hn : j < n) : Out P q ⟨dst, .indexAddr t x i, type, pos, after, guard⟩ ρ' μ σ w (.pointer (some (a.add (j.toNat * s)))) σ := by
  rw [h2] at hi; rw [h1] at hx
  have hi := hi.int
  obtain ⟨b, N, hs0, hm, e3⟩ := hx.ptr_inv
  obtain ⟨l, ao, sp⟩ := a
  simp only at hs0 hm e3; subst hs0
  refine .same (v' := .pointer (some ((⟨b, ao, none⟩ : Addr).add (j.toNat * s)))) hS (.inl ?_) ?_
  · simp [execOp, e3, hi, Instr.indexAt, asIntOf, run_underlying hu, Instr.sureAddr, szOf_run hs, h0, hn]
  · rw [Addr.add_lit, Addr.add_lit]; exact .ptr hm
theorem index_sound {t e : TypeId} {x i : Operand} {cs : Array Value} {n s : Nat} {k : IntKind} {j : Int} (hS : Sim μ σ w.heap) (hx : Val μ (ρ x) (ρ' x)) (hi : Val μ (ρ i) (ρ' i)) (hu : P.underlying t = some (.array n e))
    (h1 : ρ x = .agg cs) (h2 : ρ i = .int k j) (hs : szOf P e = some s) (h0 : 0 ≤ j) (hn : j < n) (h : partV P e cs (j.toNat * s) = some v) : Out P q ⟨dst, .index t x i, type, pos, after, guard⟩ ρ' μ σ w v σ := by
  rw [h2] at hi; rw [h1] at hx
  have hi := hi.int
  obtain ⟨a', e3, g1, g2⟩ := hx.agg_inv
  obtain ⟨v', h3, h4⟩ := partV_sound (.ofA g1 g2) h w
  exact .same hS (.inl (by simp [execOp, e3, hi, Instr.index, asIntOf, run_underlying hu, szOf_run hs, h0, hn, h3])) h4
theorem map_valL {l : Array Operand} (h : ∀ x ∈ l, Val μ (ρ x) (ρ' x)) : ValL μ (l.map ρ).toList (l.map ρ').toList := by
  refine ⟨by simp, fun i v v' h1 h2 => ?_⟩
  simp only [Array.toList_map, List.getElem?_map, Option.map_eq_some_iff] at h1 h2
  obtain ⟨x, hx, rfl⟩ := h1
  obtain ⟨y, hy, rfl⟩ := h2
  rw [hx] at hy; cases hy
  exact h x (by have := List.mem_of_getElem? hx; simpa using this)
theorem makeFunc_sound {f : FuncId} {a b : Array Operand} (hS : Sim μ σ w.heap) (ha : ∀ x ∈ a, Val μ (ρ x) (ρ' x)) (hb : ∀ x ∈ b, Val μ (ρ x) (ρ' x)) :
    Out P q ⟨dst, .makeFunc (.func f) a b, type, pos, after, guard⟩ ρ' μ σ w (.func (.func f) (a.map ρ) (b.map ρ)) σ := by
  have h1 := map_valL ha
  have h2 := map_valL hb
  refine .same (v' := .func (.func f) (a.map ρ') (b.map ρ')) hS (.inl (by simp [execOp, Instr.makeFunc])) (.func (by simp) (by simp) (fun i v v' e1 e2 => h1.2 i v v' (by simpa using e1) (by simpa using e2)) (fun i v v' e1 e2 => h2.2 i v v' (by simpa using e1) (by simpa using e2)))
theorem makeInterface_sound {t : TypeId} {x : Operand} (hS : Sim μ σ w.heap) (hx : Val μ (ρ x) (ρ' x)) (hc : P.concrete t = true) : Out P q ⟨dst, .makeInterface t x, type, pos, after, guard⟩ ρ' μ σ w (.iface t (ρ x)) σ :=
  .same hS (.inl (by simp [execOp, run_makeInterface w t (ρ' x) hc])) (.iface hx)
end
end Go.Proofs.Ytibejcomfjddfaa.AM
end
section
set_option maxHeartbeats 8000000
set_option linter.unusedVariables false
set_option linter.unusedSimpArgs false

/- Operations of the abstract machine, and of the model: slices, append, copy, make, literals. -/
namespace Go.Proofs.Ytibejcomfjddfaa.AM
open Go
section
variable {P : Program} {q : Bool} {o : Oper} {ρ ρ' : Operand → Value} {μ : Mu} {σ σ' : Heap} {w w' : World} {v v' : Value}
variable {dst : Option Tmp} {type : TypeId} {pos : String} {after : Array Edge} {guard : Option (Nat × Bool)}

theorem capOf_exact {c k : Nat} (h : capOf c = .exact k) : k = c ∧ c < top := by
  unfold capOf at h
  split at h
  · rename_i hc; cases h; exact ⟨rfl, hc⟩
  · split at h <;> cases h
theorem capOf_unk {c s lb : Nat} (h : capOf c = .unk s lb) : c = unk s lb := by
  unfold capOf at h
  split at h
  · cases h
  · rename_i h1
    split at h
    · cases h
      unfold unk
      have h2 : 1 ≤ c / top := (Nat.le_div_iff_mul_le (by simp [top])).2 (by omega)
      rw [show c / top - 1 + 1 = c / top by omega, Nat.div_add_mod]
    · cases h
theorem capOf_dng {c : Nat} (h : capOf c = .dng) : dng ≤ c := by
  unfold capOf at h
  split at h
  · cases h
  · split at h
    · cases h
    · omega
theorem unk_inj {s lb s' lb' : Nat} (h : unk s lb = unk s' lb') (h1 : lb < top) (h2 : lb' < top) : s = s' ∧ lb = lb' := by
  unfold unk top at *
  omega
theorem unk_top (s lb : Nat) : ¬ unk s lb < top := by
  unfold unk top; omega
theorem maxLen_top {n : Nat} (h : n ≤ maxLen) : n < top := by
  unfold maxLen at h; unfold top; omega
theorem capOf_unk_eq {s lb : Nat} (h1 : lb < top) (h2 : s < 4294967296) : capOf (unk s lb) = .unk s lb := by
  have h : (unk s lb) / top = s + 1 ∧ (unk s lb) % top = lb := by
    unfold unk
    constructor
    · rw [Nat.mul_add_div (by simp [top]), Nat.div_eq_of_lt h1]
    · rw [Nat.mul_add_mod, Nat.mod_eq_of_lt h1]
  unfold capOf
  rw [if_neg (unk_top s lb), if_pos (by unfold unk top dng; unfold top at h1; omega), h.1, h.2]
  simp
theorem capOf_exact_eq {c : Nat} (h1 : c < top) : capOf c = .exact c := by
  unfold capOf; rw [if_pos h1]
/-- A slice's value by what its capacity says. -/
theorem Val.sl_inv {a : Addr} {n c : Nat} (h : Val μ (.slice (some a) n c) v') :
    (dng ≤ c ∧ n = 0 ∧ ∃ a' c', v' = .slice (some a') 0 c') ∨
    (∃ b N, a.spot = none ∧ μ a.block = some (b, N) ∧ ((c < top ∧ v' = .slice (some ⟨b, a.off, none⟩) n c) ∨
      ∃ s lb c', c = unk s lb ∧ lb ≤ maxLen ∧ lb ≤ c' ∧ n ≤ c' ∧ c' ≤ maxLen ∧ a.off + c' * s ≤ N ∧ s ≤ 1048576 ∧ v' = .slice (some ⟨b, a.off, none⟩) n c')) := by
  cases h with
  | scal h => simp [scalarB] at h
  | sl h hc => exact .inr ⟨_, _, rfl, h, .inl ⟨hc, rfl⟩⟩
  | slu h h0 h1 h2 h3 h4 h5 => exact .inr ⟨_, _, rfl, h, .inr ⟨_, _, _, rfl, h0, h1, h2, h3, h4, h5, rfl⟩⟩
  | sld hc => exact .inl ⟨hc, rfl, _, _, rfl⟩
theorem dng_top : ¬ dng < top := by unfold dng top; omega
theorem unk_dng {s lb : Nat} (h : dng ≤ unk s lb) {s' lb' : Nat} (h2 : capOf (unk s lb) = .unk s' lb') : False := by
  unfold capOf at h2
  rw [if_neg (unk_top _ _), if_neg (by omega)] at h2
  cases h2

theorem intOpt_eq {lo : Option Operand} {L : Option Int} (h : intOpt (lo.map ρ) = some L) (hv : ∀ x, lo = some x → Val μ (ρ x) (ρ' x)) :
    (lo = none ∧ L = none) ∨ ∃ x k i, lo = some x ∧ L = some i ∧ ρ x = .int k i ∧ ρ' x = .int k i := by
  cases lo with
  | none => simp [intOpt] at h; exact .inl ⟨rfl, h.symm⟩
  | some x =>
    simp only [Option.map_some] at h
    unfold intOpt at h
    split at h
    · rename_i e; cases e
    · rename_i k i e
      cases h
      have e : ρ x = .int k i := by simpa using e
      have hv := hv x rfl
      rw [e] at hv
      exact .inr ⟨x, k, i, rfl, rfl, e, hv.int⟩
    · cases h
theorem bounds_run {lo hi mx : Option Operand} {L H M : Option Int} {isS : Bool} {n K c l h m : Nat} (h1 : intOpt (lo.map ρ) = some L) (h2 : intOpt (hi.map ρ) = some H) (h3 : intOpt (mx.map ρ) = some M)
    (g1 : ∀ x, lo = some x → Val μ (ρ x) (ρ' x)) (g2 : ∀ x, hi = some x → Val μ (ρ x) (ρ' x)) (g3 : ∀ x, mx = some x → Val μ (ρ x) (ρ' x))
    (hb : bounds n K L H M = some (l, h, m)) (hK : K ≤ c) (w : World) :
    ∃ m', (Instr.sliceBounds isS n c (lo.map ρ') (hi.map ρ') (mx.map ρ')).run P w = .ok (l, h, m') w ∧ l ≤ h ∧ (mx.isSome = true → m' = m ∧ h ≤ m ∧ m ≤ K) ∧ (mx.isSome = false → m = K ∧ m' = c ∧ (h ≤ K ∨ h = n)) := by
  rcases intOpt_eq h1 g1 with ⟨rfl, rfl⟩ | ⟨x1, k1, i1, rfl, rfl, _, e1⟩ <;> rcases intOpt_eq h2 g2 with ⟨rfl, rfl⟩ | ⟨x2, k2, i2, rfl, rfl, _, e2⟩ <;> rcases intOpt_eq h3 g3 with ⟨rfl, rfl⟩ | ⟨x3, k3, i3, rfl, rfl, _, e3⟩ <;>
    simp only [bounds] at hb
  · cases hb; exact ⟨c, by simp [Instr.sliceBounds], by omega, by simp, by simp⟩
  · cases hb
  · split at hb
    · rename_i hc; cases hb
      refine ⟨c, ?_, by omega, by simp, by simp; omega⟩
      simp only [Instr.sliceBounds, Option.map_some, Option.map_none, e2]
      simp [run_sliceBound w k2 i2 c (if isS = true then BoundsCode.sliceAcap else BoundsCode.sliceAlen) hc.1 (by omega)]
    · cases hb
  · split at hb
    · rename_i hc; cases hb
      refine ⟨i3.toNat, ?_, by omega, fun _ => ⟨rfl, by omega, by omega⟩, by simp⟩
      have r3 := run_sliceBound (P := P) w k3 i3 c (if isS = true then BoundsCode.slice3Acap else BoundsCode.slice3Alen) (by omega) (by omega)
      have r2 := run_sliceBound (P := P) w k2 i2 i3.toNat BoundsCode.slice3B hc.1 (by omega)
      simp only [Instr.sliceBounds, Option.map_some, Option.map_none, e2, e3]
      simp [r3, r2]
    · cases hb
  · split at hb
    · rename_i hc; cases hb
      refine ⟨c, ?_, by omega, by simp, by simp⟩
      have r1 := run_sliceBound (P := P) w k1 i1 n BoundsCode.sliceB hc.1 (by omega)
      simp only [Instr.sliceBounds, Option.map_some, Option.map_none, e1]
      simp [r1]
    · cases hb
  · cases hb
  · split at hb
    · rename_i hc; cases hb
      refine ⟨c, ?_, by omega, by simp, by simp; omega⟩
      have r2 := run_sliceBound (P := P) w k2 i2 c (if isS = true then BoundsCode.sliceAcap else BoundsCode.sliceAlen) (by omega) (by omega)
      have r1 := run_sliceBound (P := P) w k1 i1 i2.toNat BoundsCode.sliceB hc.1 (by omega)
      simp only [Instr.sliceBounds, Option.map_some, Option.map_none, e1, e2]
      simp [r1, r2]
    · cases hb
  · split at hb
    · rename_i hc; cases hb
      refine ⟨i3.toNat, ?_, by omega, fun _ => ⟨rfl, by omega, by omega⟩, by simp⟩
      have r3 := run_sliceBound (P := P) w k3 i3 c (if isS = true then BoundsCode.slice3Acap else BoundsCode.slice3Alen) (by omega) (by omega)
      have r2 := run_sliceBound (P := P) w k2 i2 i3.toNat BoundsCode.slice3B (by omega) (by omega)
      have r1 := run_sliceBound (P := P) w k1 i1 i2.toNat BoundsCode.slice3C hc.1 (by omega)
      simp only [Instr.sliceBounds, Option.map_some, Option.map_none, e1, e2, e3]
      simp [r1, r2, r3]
    · cases hb
theorem add_blk (a : Addr) (k : Nat) : (a.add k).block = a.block ∧ (a.spot = none → a.add k = ⟨a.block, a.off + k, none⟩) := by
  obtain ⟨b, o, s⟩ := a
  constructor
  · unfold Addr.add; split <;> rfl
  · intro h; simp only at h; subst h; rw [Addr.add_lit]
theorem slice_sound {t : TypeId} {x : Operand} {lo hi mx : Option Operand} (hS : Sim μ σ w.heap) (hx : Val μ (ρ x) (ρ' x))
    (g1 : ∀ x, lo = some x → Val μ (ρ x) (ρ' x)) (g2 : ∀ x, hi = some x → Val μ (ρ x) (ρ' x)) (g3 : ∀ x, mx = some x → Val μ (ρ x) (ρ' x))
    (h : aSlice P t (ρ x) (lo.map ρ) (hi.map ρ) (mx.map ρ) = some v) : Out P q ⟨dst, .slice t x lo hi mx, type, pos, after, guard⟩ ρ' μ σ w v σ := by
  unfold aSlice at h
  split at h
  · rename_i L H M hL hH hM
    split at h
    · rename_i e A n c hu hxe
      rw [hxe] at hx
      split at h
      · cases h
      · rename_i size hsz
        split at h
        · -- nil
          split at h
          · rename_i hn
            obtain ⟨rfl, rfl⟩ := hn
            have ex := scalar_val (by rfl) hx
            cases hb : bounds 0 0 L H M with
            | none => rw [hb] at h; cases h
            | some r =>
              obtain ⟨l, hh, m⟩ := r
              rw [hb] at h; cases h
              obtain ⟨m', r1, r2, r3, r4⟩ := bounds_run (P := P) (isS := true) hL hH hM g1 g2 g3 hb (Nat.le_refl _) w
              have e0 : hh = 0 ∧ m' = 0 := by
                cases hmx : mx.isSome with
                | true => have := r3 hmx; omega
                | false => have := r4 hmx; omega
              obtain ⟨rfl, rfl⟩ := e0
              have el : l = 0 := by omega
              subst el
              refine .same (v' := .slice none 0 0) hS (.inl ?_) (.scal rfl)
              simp [execOp, ex, Instr.sliceAt, run_underlying hu, Instr.slice, r1, szOf_run hsz]
          · cases h
        · rename_i a
          split at h
          · -- exact
            rename_i c1 hc1
            obtain ⟨rfl, hct⟩ := capOf_exact hc1
            rcases hx.sl_inv with ⟨hd, _⟩ | ⟨b, N, hsp, hm, ⟨_, ex⟩ | ⟨s, lb, c', ec, _⟩⟩
            · have := dng_top; omega
            · cases hb : bounds n c1 L H M with
              | none => rw [hb] at h; cases h
              | some r =>
                obtain ⟨l, hh, m⟩ := r
                rw [hb] at h; cases h
                obtain ⟨m', r1, r2, r3, r4⟩ := bounds_run (P := P) (isS := true) hL hH hM g1 g2 g3 hb (Nat.le_refl _) w
                have e0 : m' = m ∧ m ≤ c1 := by
                  cases hmx : mx.isSome with
                  | true => have := r3 hmx; omega
                  | false => have := r4 hmx; omega
                obtain ⟨rfl, hmc⟩ := e0
                refine .same (v' := .slice (some (if m' = l then ⟨b, a.off, none⟩ else (⟨b, a.off, none⟩ : Addr).add (l * size))) (hh - l) (m' - l)) hS (.inl ?_) ?_
                · simp [execOp, ex, Instr.sliceAt, run_underlying hu, Instr.slice, r1, szOf_run hsz]
                  split <;> rfl
                · obtain ⟨al, ao, asp⟩ := a
                  simp only at hsp hm; subst hsp
                  dsimp only
                  split
                  · exact .sl hm (by omega)
                  · rw [Addr.add_lit, Addr.add_lit]; exact .sl hm (by omega)
            · rw [ec] at hct; exact absurd hct (unk_top s lb)
          · -- unknown
            rename_i es lb hc1
            have ec0 := capOf_unk hc1
            rcases hx.sl_inv with ⟨hd, _⟩ | ⟨b, N, hsp, hm, ⟨hct, ex⟩ | ⟨s, lb1, c', ec, h0, h1, h2, h3, h4, h5, ex⟩⟩
            · rw [ec0] at hd hc1; exact (unk_dng hd hc1).elim
            · rw [ec0] at hct; exact absurd hct (unk_top es lb)
            · have hlt : lb < top := by
                have : lb = c % top := by
                  unfold capOf at hc1
                  split at hc1
                  · cases hc1
                  · split at hc1
                    · cases hc1; rfl
                    · cases hc1
                rw [this]; exact Nat.mod_lt _ (by simp [top])
              obtain ⟨rfl, rfl⟩ := unk_inj (ec0.symm.trans ec) hlt (maxLen_top h0)
              split at h
              · cases h
              · rename_i l hh m hb
                obtain ⟨m', r1, r2, r3, r4⟩ := bounds_run (P := P) (isS := true) hL hH hM g1 g2 g3 hb h1 w
                have hrun : (execOp ρ' ⟨dst, .slice t x lo hi mx, type, pos, after, guard⟩).run P w = .ok (.value (.slice (some (if m' = l then ⟨b, a.off, none⟩ else (⟨b, a.off, none⟩ : Addr).add (l * size))) (hh - l) (m' - l))) w := by
                  simp [execOp, ex, Instr.sliceAt, run_underlying hu, Instr.slice, r1, szOf_run hsz]
                  split <;> rfl
                obtain ⟨al, ao, asp⟩ := a
                simp only at hsp hm hrun h4; subst hsp
                split at h
                · rename_i hmx
                  have := r3 (by cases mx with | none => rcases intOpt_eq hM g3 with ⟨_, rfl⟩ | ⟨_, _, _, e, _⟩ <;> simp_all | some _ => rfl)
                  obtain ⟨rfl, ha, hbb⟩ := this
                  cases h
                  refine .same hS (.inl hrun) ?_
                  have := maxLen_top h0
                  split
                  · exact .sl hm (by omega)
                  · rw [Addr.add_lit, Addr.add_lit]; exact .sl hm (by omega)
                · rename_i hmx
                  have := r4 (by cases mx with | none => rfl | some _ => rcases intOpt_eq hM g3 with ⟨e, _⟩ | ⟨_, _, _, _, e, _⟩ <;> simp_all)
                  obtain ⟨rfl, rfl, hhk⟩ := this
                  split at h
                  · rename_i hl0
                    cases h
                    subst hl0
                    refine .same hS (.inl hrun) ?_
                    have ea : (if m' = 0 then (⟨b, ao, none⟩ : Addr) else (⟨b, ao, none⟩ : Addr).add (0 * size)) = ⟨b, ao, none⟩ := by split <;> simp [Addr.add]
                    rw [ea, ec0]
                    exact .slu hm h0 (by omega) (by omega) (by omega) h4 h5
                  · split at h
                    · rename_i hl0 hlh
                      obtain ⟨hlh, hes⟩ := hlh
                      cases h
                      refine .same hS (.inl hrun) ?_
                      rw [if_neg (by omega), Addr.add_lit, Addr.add_lit]
                      refine .slu hm (by omega) (by omega) (by omega) (by omega) ?_ h5
                      subst hes
                      have : l * es + (m' - l) * es = m' * es := by rw [← Nat.add_mul]; congr 1; omega
                      omega
                    · split at h
                      · rename_i hl0 hlh heq
                        cases h
                        subst heq
                        refine .same hS (.inl hrun) ?_
                        rw [Nat.sub_self]
                        exact .sld (Nat.le_refl _)
                      · cases h
          · -- a slice whose place is unknown
            rename_i hc1
            have hd := capOf_dng hc1
            rcases hx.sl_inv with ⟨_, rfl, a', c', ex⟩ | ⟨b, N, hsp, hm, ⟨hct, _⟩ | ⟨s, lb, c', ec, h0, _⟩⟩
            · cases hb : bounds 0 0 L H M with
              | none => rw [hb] at h; cases h
              | some r =>
                obtain ⟨l, hh, m⟩ := r
                rw [hb] at h; cases h
                obtain ⟨m', r1, r2, r3, r4⟩ := bounds_run (P := P) (isS := true) (c := c') hL hH hM g1 g2 g3 hb (Nat.zero_le _) w
                have e0 : hh = 0 := by
                  cases hmx : mx.isSome with
                  | true => have := r3 hmx; omega
                  | false => have := r4 hmx; omega
                subst e0
                have el : l = 0 := by omega
                subst el
                refine .same (v' := .slice (some (if m' = 0 then a' else a'.add (0 * size))) (0 - 0) (m' - 0)) hS (.inl ?_) (.sld (Nat.le_refl _))
                simp [execOp, ex, Instr.sliceAt, run_underlying hu, Instr.slice, r1, szOf_run hsz]
                split <;> rfl
            · have := dng_top; omega
            · obtain ⟨_, _, _, _, hs, _⟩ := ‹_ ∧ _›
              exfalso
              rw [ec] at hd
              unfold unk top dng at hd
              unfold maxLen at h0
              omega
    · -- an array
      rename_i n e a hu hxe
      rw [hxe] at hx
      split at h
      · cases h
      · rename_i size hsz
        obtain ⟨b, N, hsp, hm, ex⟩ := hx.ptr_inv
        split at h
        · rename_i hn
          cases hb : bounds n n L H M with
          | none => rw [hb] at h; cases h
          | some r =>
            obtain ⟨l, hh, m⟩ := r
            rw [hb] at h; cases h
            obtain ⟨m', r1, r2, r3, r4⟩ := bounds_run (P := P) (isS := false) hL hH hM g1 g2 g3 hb (Nat.le_refl _) w
            have e0 : m' = m ∧ m ≤ n := by
              cases hmx : mx.isSome with
              | true => have := r3 hmx; omega
              | false => have := r4 hmx; omega
            obtain ⟨rfl, hmc⟩ := e0
            refine .same (v' := .slice (some (if m' = l then ⟨b, a.off, none⟩ else (⟨b, a.off, none⟩ : Addr).add (l * size))) (hh - l) (m' - l)) hS (.inl ?_) ?_
            · simp [execOp, ex, Instr.sliceAt, run_underlying hu, Instr.sureAddr, r1, szOf_run hsz]
            · obtain ⟨al, ao, asp⟩ := a
              simp only at hsp hm; subst hsp
              dsimp only
              split
              · exact .sl hm (by omega)
              · rw [Addr.add_lit, Addr.add_lit]; exact .sl hm (by omega)
        · cases h
    · cases h
  · cases h
end
end Go.Proofs.Ytibejcomfjddfaa.AM
end
section
set_option maxHeartbeats 8000000
set_option linter.unusedVariables false
set_option linter.unusedSimpArgs false

/- Operations of the abstract machine, and of the model: append, copy, clear, len, cap. -/
namespace Go.Proofs.Ytibejcomfjddfaa.AM
open Go
section
variable {P : Program} {q : Bool} {o : Oper} {ρ ρ' : Operand → Value} {μ : Mu} {σ σ' : Heap} {w w' : World} {v v' : Value}
variable {dst : Option Tmp} {type : TypeId} {pos : String} {after : Array Edge} {guard : Option (Nat × Bool)}

theorem info_of {e : TypeId} {size bytes : Nat} {z : Value} (h1 : szOf P e = some size) (h2 : byOf P e = some bytes) (h3 : zeroOf P e = some z) : ∃ i, P.info? e = some i ∧ i.size = size ∧ i.bytes = bytes ∧ i.zero = some z := by
  unfold szOf at h1; unfold byOf at h2; unfold zeroOf at h3
  cases hi : P.info? e with
  | none => rw [hi] at h1; cases h1
  | some i =>
    rw [hi] at h1 h2 h3
    simp at h1 h2 h3
    exact ⟨i, rfl, h1, h2, h3⟩
theorem srcOf_sound {size : Nat} {tx : TypeId} {x x' : Value} {m : Nat} {xs : List Value} (hS : Sim μ σ w.heap) (hx : Val μ x x') (h : srcOf P σ size tx x = some (m, xs)) (hc : xs.all cellB = true) :
    ∃ xs', ValL μ xs xs' ∧ Src P size tx x' m xs' w := by
  unfold srcOf at h
  split at h
  · rename_i e' a n c hk
    cases hr : readN σ a (n * size) with
    | none => rw [hr] at h; cases h
    | some vs =>
      rw [hr] at h
      have h := Prod.mk.inj (Option.some.inj h)
      obtain ⟨rfl, rfl⟩ := h
      rcases hx.sl_inv with ⟨_, rfl, a', c', rfl⟩ | ⟨b, N, hsp, hm, h⟩
      · have e0 : vs = [] := by
          unfold readN at hr
          split at hr
          · split at hr
            · cases hr; simp
            · cases hr
          · cases hr
        subst e0
        exact ⟨[], .nil, .ofSlice w hk a' 0 c' [] (by simp) (fun j u hj => by simp at hj) (fun _ h => by cases h)⟩
      · obtain ⟨_, vs', h1, h2, h3, _⟩ := read_sim hS hm hr
        have e1 : ∃ c', x' = .slice (some ⟨b, a.off, none⟩) n c' := by
          rcases h with ⟨_, e⟩ | ⟨_, _, c', _, _, _, _, _, _, _, e⟩
          · exact ⟨_, e⟩
          · exact ⟨_, e⟩
        obtain ⟨c', rfl⟩ := e1
        exact ⟨vs', h1, .ofSlice w hk _ n c' vs' (h1.1.trans h2) (fun j u hj => by rw [Addr.add_lit]; exact h3 j u hj) (h1.oneCell hc)⟩
  · rename_i e' hk
    cases h
    rw [scalar_val rfl hx]
    exact ⟨[], .nil, .ofNil w hk 0⟩
  · rename_i s hk
    split at h
    · rename_i hs
      cases h
      subst hs
      rw [hx.str]
      exact ⟨byteCells s, ⟨rfl, fun i v v' h1 h2 => by
        rw [h1] at h2; cases h2
        obtain ⟨_, _, rfl⟩ := List.mem_map.1 (List.mem_of_getElem? h1)
        exact .scal rfl⟩, .ofString w hk s⟩
    · cases h
  · cases h
theorem Src.len {size : Nat} {tx : TypeId} {x : Value} {m : Nat} {xs : List Value} (h : Src P size tx x m xs w) : xs.length = m * size := h.newsLen
theorem le_grown (w : World) {need old : Nat} {e : TypeId} : need ≤ grownCap w need old e := by
  simp only [grownCap, Question.cut]; omega
/-- A block handed on: the abstract one's place is taken by a longer one in the same block of the model's. -/
theorem sim_hand {l b N : Nat} {x : Blk} {xs xs' : List Value} {k : Nat} (hS : Sim μ σ w.heap) (hU : μ σ.length = none) (hm : μ l = some (b, N)) (hx : σ[l]? = some x) (hp : x.perm = .full) (hk : k ≤ x.cells.length) (hv : ValL μ xs xs') (hN : k + xs.length ≤ N) (hc : xs.all cellB = true) :
    let μ' : Mu := fun j => if j = σ.length then some (b, N) else μ j
    let σ' := AM.kill σ l ++ [⟨x.cells.take k ++ xs, .full⟩]
    Sim μ' σ' (w.setCells b k xs').heap ∧ Fr q μ σ w μ' σ' (w.setCells b k xs') ∧ (∀ j, j < xs'.length → (w.cell? ⟨b, k + j, none⟩).isSome = true) ∧ (∀ j, j < xs'.length → w.frozen? ⟨b, k + j, none⟩ = false) := by
  intro μ' σ'
  obtain ⟨c, elem, fr, e, a0, a1, a2⟩ := hS.blk l b N x hm hx (by rw [hp]; simp)
  have hfr := a1 hp
  have hl' : xs'.length = xs.length := hv.1
  obtain ⟨c', e', hsz', hget⟩ := setCells_at b elem fr xs' k w c e (by omega)
  obtain ⟨s1, s2, s3, s4⟩ := setCells_same3 b xs' k w
  have hfull : isFull σ l := ⟨x, hx, by rw [hp]; rfl⟩
  have hll : l < σ.length := get_lt hx
  have ext : ∀ j p, μ j = some p → μ' j = some p := fun j p h => by
    show (if j = σ.length then some (b, N) else μ j) = some p
    by_cases ej : j = σ.length
    · rw [ej, hU] at h; cases h
    · rw [if_neg ej]; exact h
  have gold : ∀ (j : Nat) (y : Blk), j ≠ σ.length → σ'[j]? = some y → ∃ y0, σ[j]? = some y0 ∧ ((j = l ∧ y.perm = .dead) ∨ (j ≠ l ∧ y = y0)) := fun j y hne h => by
    rcases Nat.lt_or_ge j σ.length with hl | hl
    · rw [List.getElem?_append_left (by rw [kill_len]; exact hl), kill_get] at h
      obtain ⟨y0, hy0⟩ : ∃ y0, σ[j]? = some y0 := ⟨_, List.getElem?_eq_getElem hl⟩
      rw [hy0] at h
      by_cases ej : l = j
      · rw [if_pos ej] at h; simp at h; subst h
        exact ⟨y0, hy0, .inl ⟨ej.symm, rfl⟩⟩
      · rw [if_neg ej] at h; cases h
        exact ⟨y, hy0, .inr ⟨fun e => ej e.symm, rfl⟩⟩
    · rw [List.getElem?_append_right (by rw [kill_len]; exact hl), List.getElem?_eq_none (by simp [kill_len]; omega)] at h; cases h
  have gnew : σ'[σ.length]? = some ⟨x.cells.take k ++ xs, .full⟩ := by
    show (AM.kill σ l ++ [_])[σ.length]? = _
    rw [List.getElem?_append_right (by rw [kill_len]; exact Nat.le_refl _)]; simp [kill_len]
  have gdead : ∀ y, σ'[l]? = some y → y.perm = .dead := fun y h => by
    obtain ⟨y0, _, h | h⟩ := gold l y (by omega) h
    · exact h.2
    · exact absurd rfl h.1
  have old : ∀ j p, j ≠ σ.length → μ' j = some p → μ j = some p := fun j p hj h => by
    have : (if j = σ.length then some (b, N) else μ j) = some p := h
    rwa [if_neg hj] at this
  have fullO : ∀ j, j ≠ σ.length → isFull σ' j → isFull σ j ∧ j ≠ l := fun j hj ⟨y, hy, hyp⟩ => by
    obtain ⟨y0, h0, h | h⟩ := gold j y hj hy
    · rw [h.2] at hyp; cases hyp
    · exact ⟨⟨y0, h0, by rw [← h.2]; exact hyp⟩, h.1⟩
  have aliveO : ∀ j, j ≠ σ.length → alive σ' j → alive σ j ∧ j ≠ l := fun j hj ⟨y, hy, hyp⟩ => by
    obtain ⟨y0, h0, h | h⟩ := gold j y hj hy
    · exact absurd h.2 hyp
    · exact ⟨⟨y0, h0, by rw [← h.2]; exact hyp⟩, h.1⟩
  have lenS : σ'.length = σ.length + 1 := by simp [σ', kill_len]
  refine ⟨⟨fun j b' N' h => ?_, fun l1 l2 b' N1 N2 hne h1 h2 hf ha => ?_, fun j b' N' y h hy hd => ?_, globExt hS.glob ext⟩, ⟨ext, fun j b' N' h => ?_, fun b' hb' hn => setCells_other b _ _ _ _ (fun e => ?_), fun _ j b' N' h ha => ?_, by rw [s4]; exact Nat.le_refl _, s1, s2, s3⟩, fun j hj => ?_, fun j hj => ?_⟩
  · rw [s4]
    by_cases ej : j = σ.length
    · subst ej
      have : (if σ.length = σ.length then some (b, N) else μ σ.length) = some (b', N') := h
      rw [if_pos rfl] at this; cases this
      exact hS.lt l _ _ hm
    · exact hS.lt j b' N' (old j _ ej h)
  · by_cases e1 : l1 = σ.length
    · subst e1
      have h1' : (if σ.length = σ.length then some (b, N) else μ σ.length) = some (b', N1) := h1
      rw [if_pos rfl] at h1'; cases h1'
      have h2' := old l2 _ (Ne.symm hne) h2
      rcases ha with ha | ha
      · obtain ⟨ha1, ha2⟩ := aliveO l2 (Ne.symm hne) ha
        exact hS.inj l l2 b N N2 (Ne.symm ha2) hm h2' hfull (.inl ha1)
      · have hne' : l2 ≠ σ.length := Ne.symm hne
        exact hS.inj l l2 b N N2 (by omega) hm h2' hfull (.inr (by omega))
    · have h1' := old l1 _ e1 h1
      obtain ⟨hf1, hf2⟩ := fullO l1 e1 hf
      by_cases e2 : l2 = σ.length
      · subst e2
        have h2' : (if σ.length = σ.length then some (b, N) else μ σ.length) = some (b', N2) := h2
        rw [if_pos rfl] at h2'; cases h2'
        exact hS.inj l1 l b N1 N hf2 h1' hm hf1 (.inl hfull.alive)
      · have h2' := old l2 _ e2 h2
        refine hS.inj l1 l2 b' N1 N2 hne h1' h2' hf1 ?_
        rcases ha with ha | ha
        · exact .inl (aliveO l2 e2 ha).1
        · exact .inr (by omega)
  · by_cases ej : j = σ.length
    · subst ej
      have h' : (if σ.length = σ.length then some (b, N) else μ σ.length) = some (b', N') := h
      rw [if_pos rfl] at h'; cases h'
      rw [gnew] at hy; cases hy
      refine ⟨c', elem, fr, e', hsz'.trans a0, fun _ => hfr, fun j u hj => ?_⟩
      rw [hget j]
      rcases Nat.lt_or_ge j k with g | g
      · rw [if_neg (by omega)]
        rw [List.getElem?_append_left (by simp; omega), List.getElem?_take, if_pos g] at hj
        obtain ⟨u', b1, b2⟩ := a2 j u hj
        exact ⟨u', b1, b2.mono ext⟩
      · rw [List.getElem?_append_right (by simp; omega)] at hj
        simp only [List.length_take, show min k x.cells.length = k by omega] at hj
        obtain ⟨u', b1, b2⟩ := hv.get hj
        have := get_lt hj
        rw [if_pos ⟨g, by omega⟩]
        exact ⟨u', b1, b2.mono ext⟩
    · have h' := old j _ ej h
      obtain ⟨y0, h0, hh | hh⟩ := gold j y ej hy
      · exact absurd hh.2 hd
      · obtain ⟨hj1, rfl⟩ := hh
        have hb' : b' ≠ b := fun e => by
          subst e
          exact hS.inj l j b' N N' (Ne.symm hj1) hm h' hfull (.inl ⟨y, h0, hd⟩)
        obtain ⟨c2, elem2, fr2, k1, k0, k2, k3⟩ := hS.blk j b' N' y h' h0 hd
        refine ⟨c2, elem2, fr2, by rw [setCells_other b _ _ _ _ hb']; exact k1, k0, k2, fun i u hi => ?_⟩
        obtain ⟨u', b1, b2⟩ := k3 i u hi
        exact ⟨u', b1, b2.mono ext⟩
  · by_cases ej : j = σ.length
    · subst ej
      have h' : (if σ.length = σ.length then some (b, N) else μ σ.length) = some (b', N') := h
      rw [if_pos rfl] at h'; cases h'
      refine .inr ⟨Nat.le_refl _, by omega, .inr ⟨l, hm, hfull, fun ⟨y, hy, hyp⟩ => hyp (gdead y hy)⟩⟩
    · exact .inl (old j _ ej h)
  · subst e; exact hn l N hm hfull
  · have ej : j ≠ σ.length := fun e => by rw [e, hU] at h; cases h
    obtain ⟨ha1, ha2⟩ := aliveO j ej ha
    refine .of_eq (setCells_other b _ _ _ _ (fun e => ?_))
    subst e
    exact hS.inj l j b' N N' (Ne.symm ha2) hm h hfull (.inl ha1)
  · simp only [World.cell?, e]
    simp; omega
  · simp only [World.frozen?, e]
    unfold frOk at hfr
    simp
    omega
theorem Le.hand {l : Nat} {x y : Blk} (hx : σ[l]? = some x) (hp : x.perm = .full) : Le σ (AM.kill σ l ++ [y]) :=
  (Le.kill σ l (fun z hz => by rw [hx] at hz; cases hz; rw [hp]; simp)).trans (.snoc _ _)
theorem prefix_cells {xs xs' : List Value} {zs : Array Value} (h : ValL μ xs xs') : ∀ (j : Nat) v, xs[j]? = some v → ∃ v', (xs'.toArray ++ zs)[j]? = some v' ∧ Val μ v v' := fun j v hj => by
  obtain ⟨v', h1, h2⟩ := h.get hj
  refine ⟨v', ?_, h2⟩
  rw [Array.getElem?_append_left (by simp; exact get_lt h1)]
  simpa using h1

theorem append_sound {t tx : TypeId} {s x : Operand} (hS : Sim μ σ w.heap) (hU : ∀ l, σ.length ≤ l → l < σ'.length → μ l = none) (hs : Val μ (ρ s) (ρ' s)) (hx : Val μ (ρ x) (ρ' x))
    (h : aAppend P q t tx (ρ s) (ρ x) σ = some (v, σ')) : Out P q ⟨dst, .call { callee := .builtin .append, args := #[s, x], argTypes := #[t, tx] }, type, pos, after, guard⟩ ρ' μ σ w v σ' := by
  have hexec : ∀ {r : Value} {w1 : World}, (Builtin.append_ #[t, tx] type #[ρ' s, ρ' x]).run P w = .ok r w1 → Runs P ⟨dst, .call { callee := .builtin .append, args := #[s, x], argTypes := #[t, tx] }, type, pos, after, guard⟩ ρ' w r w1 := fun {r w1} hr => .inl (by
    simp [execOp, resolve, invoke, builtin, hr])
  unfold aAppend at h
  split at h
  · rename_i e A n c hu hse
    rw [hse] at hs h
    split at h
    · rename_i size bytes z hsz hby hzz
      obtain ⟨i, hi, rfl, rfl, hz⟩ := info_of hsz hby hzz
      split at h
      · rename_i m xs hsrc
        split at h
        · cases h
        · rename_i hcond
          have hcond : i.size ≠ 0 ∧ z.cells.size = i.size ∧ i.size ≤ 1048576 ∧ i.bytes ≤ 4096 ∧ n + m ≤ 17179869184 ∧ xs.all cellB = true := Decidable.not_not.1 hcond
          obtain ⟨q1, qz, q2, q3, q4, q5⟩ := hcond
          obtain ⟨xs', hv, hsr⟩ := srcOf_sound hS hx hsrc q5
          have hlen : xs'.length = m * i.size := hsr.newsLen
          have hlen0 : xs.length = m * i.size := by rw [← hv.1]; exact hlen
          have hbytes : (n + m) * i.bytes ≤ 140737488355328 := by
            calc (n + m) * i.bytes ≤ 17179869184 * 4096 := Nat.mul_le_mul q4 q3
              _ ≤ _ := by omega
          have nothing : m = 0 → ∀ (base : Option Addr) (cap : Nat), n ≤ cap → (Builtin.append_ #[t, tx] type #[.slice base n cap, ρ' x]).run P w = .ok (.slice base n cap) w := fun hm0 base cap hle => by
            subst hm0
            have : xs' = [] := by simpa using hlen
            subst this
            exact run_append_nothing w t tx type e i hu hi base n cap hle _ hsr
          have grows : ∀ (base : Option Addr) (cap : Nat) (olds olds' : List Value), ValL μ olds olds' → olds'.length = n * i.size → cap < n + m → (Builtin.firstCells i.size n (.slice base n cap)).run P w.drew = .ok olds'.toArray w.drew → ρ' s = .slice base n cap →
              ∀ a1 σ1, newBlk σ (olds ++ xs) = some (a1, σ1) → μ σ.length = none → Out P q ⟨dst, .call { callee := .builtin .append, args := #[s, x], argTypes := #[t, tx] }, type, pos, after, guard⟩ ρ' μ σ w (.slice (some a1) (n + m) (unk i.size (n + m))) σ1 := by
            intro base cap olds olds' ho hol hg hold es a1 σ1 hb hU1
            obtain ⟨rfl, rfl, _⟩ := newBlk_spec hb
            have hr := run_append_grow_src (P := P) w t tx type e i z hu hi hz base n cap olds' hold _ m xs' hsr hg (by omega) (growslice_fits hg hbytes)
            rw [← es] at hr
            have hcap := le_grown w (need := n + m) (old := cap) (e := e)
            have hcap2 : grownCap w (n + m) cap e ≤ maxLen := grownCap_le_maxLen w (n + m) cap e (by simp only [maxLen]; omega)
            have hcs : ((olds' ++ xs').toArray ++ Builtin.zeroCells z.cells (grownCap w (n + m) cap e - (n + m))).size = grownCap w (n + m) cap e * i.size := by
              have h1 : olds'.length = n * i.size := hol
              simp only [Array.size_append, List.size_toArray, List.length_append, h1, hlen, Builtin.zeroCells, Array.size_map, Array.size_range, qz]
              rw [← Nat.add_mul, ← Nat.add_mul]
              congr 1
              omega
            refine .new (w' := w.drew.alloc _) hS hU1 (hexec hr) rfl (fun _ => frOk0) (prefix_cells (ho.append hv)) rfl rfl rfl (fun μ' hμ => ?_)
            refine .slu hμ (by simp only [maxLen]; omega) hcap hcap hcap2 (by rw [hcs, Nat.zero_add]; exact Nat.le_refl _) q2
          split at h
          · -- nil
            split at h
            · rename_i h00
              obtain ⟨rfl, rfl⟩ := h00
              have es := scalar_val (by rfl) hs
              split at h
              · rename_i hm0
                cases h
                exact .same hS (hexec (by rw [es]; exact nothing hm0 none 0 (Nat.le_refl _))) (.scal rfl)
              · rename_i hm0
                cases hb : newBlk σ xs with
                | none => rw [hb] at h; cases h
                | some r =>
                  obtain ⟨a1, σ1⟩ := r
                  rw [hb] at h; cases h
                  have hlenσ := (newBlk_spec hb).2.1
                  have := grows none 0 [] [] .nil (by simp) (by omega) (by simpa using run_firstCells_none (P := P) w.drew i.size 0 0 0) es a1 σ' (by simpa using hb) (hU _ (Nat.le_refl _) (by rw [hlenσ]; simp))
                  simpa using this
            · cases h
          · rename_i a
            split at h
            · -- exact
              rename_i c1 hc1
              obtain ⟨rfl, hct⟩ := capOf_exact hc1
              rcases hs.sl_inv with ⟨hd, _⟩ | ⟨b, N, hsp, hm, ⟨_, es⟩ | ⟨s1, lb, c', ec, _⟩⟩
              · have := dng_top; omega
              · split at h
                · rename_i hfit
                  split at h
                  · rename_i hm0
                    cases h
                    refine .same hS (hexec (by rw [es]; exact nothing hm0 _ _ (by omega))) ?_
                    have := hs
                    rw [es] at this
                    exact this
                  · rename_i hm0
                    split at h
                    · cases h
                    · rename_i hq
                      cases hw : writeN σ (a.add (n * i.size)) xs with
                      | none => rw [hw] at h; cases h
                      | some σ1 =>
                        rw [hw] at h; cases h
                        have hadd := add_blk a (n * i.size)
                        obtain ⟨_, g1, g2, g3, _, g5, g6, _⟩ := write_sim hS (by rw [hadd.1]; exact hm) hw hv
                        rw [hadd.2 hsp] at g1 g2 g5 g6
                        simp only at g1 g2 g5 g6
                        have hr := run_append_room_src (P := P) w t tx type e i hu hi b a.off n c1 _ m xs' hsr hfit g5 g6
                        rw [← es] at hr
                        have : q = false := by simpa using hq
                        subst this
                        obtain ⟨al, ao, asp⟩ := a
                        simp only at hsp hm; subst hsp
                        exact ⟨_, _, μ, hexec hr, .sl hm hct, g1, g2, g3⟩
                · rename_i hfit
                  split at h
                  · rename_i olds hro
                    cases hb : newBlk σ (olds ++ xs) with
                    | none => rw [hb] at h; cases h
                    | some r =>
                      obtain ⟨a1, σ1⟩ := r
                      rw [hb] at h; cases h
                      have hlenσ := (newBlk_spec hb).2.1
                      obtain ⟨_, olds', g1, g2, g3, _⟩ := read_sim hS hm hro
                      exact grows _ c1 olds olds' g1 (g1.1.trans g2) (by omega) (run_firstCells_some w.drew i.size n _ n c1 olds' (g1.1.trans g2) (fun j u hj => by rw [Addr.add_lit]; exact g3 j u hj)) es a1 σ' hb (hU _ (Nat.le_refl _) (by rw [hlenσ]; simp))
                  · cases h
              · rw [ec] at hct; exact absurd hct (unk_top _ _)
            · -- unknown
              rename_i es0 lb hc1
              have ec0 := capOf_unk hc1
              rcases hs.sl_inv with ⟨hd, _⟩ | ⟨b, N, hsp, hm, ⟨hct, es⟩ | ⟨s1, lb1, c', ec, h0, h1, h2, h3, h4, h5, es⟩⟩
              · rw [ec0] at hd hc1; exact (unk_dng hd hc1).elim
              · rw [ec0] at hct; exact absurd hct (unk_top _ _)
              · have hlt : lb < top := by
                  have : lb = c % top := by
                    unfold capOf at hc1
                    split at hc1
                    · cases hc1
                    · split at hc1
                      · cases hc1; rfl
                      · cases hc1
                  rw [this]; exact Nat.mod_lt _ (by simp [top])
                obtain ⟨rfl, rfl⟩ := unk_inj (ec0.symm.trans ec) hlt (maxLen_top h0)
                split at h
                · rename_i hm0
                  cases h
                  refine .same hS (hexec (by rw [es]; exact nothing hm0 _ _ h2)) ?_
                  have := hs
                  rw [es] at this
                  exact this
                · rename_i hm0
                  split at h
                  · rename_i hfit
                    split at h
                    · cases h
                    · rename_i hq
                      cases hw : writeN σ (a.add (n * i.size)) xs with
                      | none => rw [hw] at h; cases h
                      | some σ1 =>
                        rw [hw] at h; cases h
                        have hadd := add_blk a (n * i.size)
                        obtain ⟨_, g1, g2, g3, _, g5, g6, _⟩ := write_sim hS (by rw [hadd.1]; exact hm) hw hv
                        rw [hadd.2 hsp] at g1 g2 g5 g6
                        simp only at g1 g2 g5 g6
                        have hr := run_append_room_src (P := P) w t tx type e i hu hi b a.off n c' _ m xs' hsr (by omega) g5 g6
                        rw [← es] at hr
                        have : q = false := by simpa using hq
                        subst this
                        obtain ⟨al, ao, asp⟩ := a
                        simp only at hsp hm h4; subst hsp
                        refine ⟨_, _, μ, hexec hr, ?_, g1, g2, g3⟩
                        rw [ec]
                        exact .slu hm h0 h1 (by omega) h3 h4 h5
                  · rename_i hfit
                    split at h
                    · rename_i l x hax
                      split at h
                      · rename_i hcon
                        obtain ⟨hp, hk, rfl⟩ := hcon
                        have hU0 : ∀ y : Blk, σ' = AM.kill σ l ++ [y] → μ σ.length = none := fun y hy => hU _ (Nat.le_refl _) (by rw [hy]; simp [kill_len])
                        cases hb : newBlk (AM.kill σ l) (x.cells.take (n * i.size) ++ xs) with
                        | none => rw [hb] at h; cases h
                        | some r =>
                          obtain ⟨a1, σ1⟩ := r
                          rw [hb] at h; cases h
                          obtain ⟨ea, eσ, hcell⟩ := newBlk_spec hb
                          have hU1 := hU0 _ eσ
                          rw [kill_len] at ea
                          subst ea
                          simp only at hm hsp h4
                          have hrd : readN σ ⟨l, 0, none⟩ (n * i.size) = some (x.cells.take (n * i.size)) := by
                            unfold readN
                            simp only [hax]
                            rw [if_pos ⟨by rw [hp]; simp, by omega⟩]
                            simp
                          obtain ⟨_, olds', g1, g2, g3, _⟩ := read_sim hS hm hrd
                          have hol : olds'.length = n * i.size := g1.1.trans g2
                          by_cases hroom : n + m ≤ c'
                          · -- in place
                            have hN : n * i.size + xs.length ≤ N := by
                              rw [hlen0, ← Nat.add_mul]
                              exact Nat.le_trans (Nat.mul_le_mul_right _ hroom) (by omega)
                            obtain ⟨k1, k2, k3, k4⟩ := sim_hand (q := q) hS hU1 hm hax hp hk hv hN q5
                            have hr := run_append_room_src (P := P) w t tx type e i hu hi b 0 n c' _ m xs' hsr hroom (by simpa using k3) (by simpa using k4)
                            rw [← es, Nat.zero_add] at hr
                            rw [eσ]
                            refine ⟨_, _, _, hexec hr, ?_, k1, k2, Le.hand hax hp⟩
                            exact .slu (by simp) (by simp only [maxLen]; omega) hroom hroom h3 h4 h5
                          · -- elsewhere
                            have hS2 := hS.kill l
                            have hr := run_append_grow_src (P := P) w t tx type e i z hu hi hz (some ⟨b, 0, none⟩) n c' olds' (run_firstCells_some w.drew i.size n _ n c' olds' hol (fun j u hj => by rw [Addr.add_lit]; exact g3 j u hj)) _ m xs' hsr (by omega) (by omega) (growslice_fits (by omega) hbytes)
                            rw [← es] at hr
                            have hcap := le_grown w (need := n + m) (old := c') (e := e)
                            have hcap2 : grownCap w (n + m) c' e ≤ maxLen := grownCap_le_maxLen w (n + m) c' e (by simp only [maxLen]; omega)
                            have hcs : ((olds' ++ xs').toArray ++ Builtin.zeroCells z.cells (grownCap w (n + m) c' e - (n + m))).size = grownCap w (n + m) c' e * i.size := by
                              simp only [Array.size_append, List.size_toArray, List.length_append, hol, hlen, Builtin.zeroCells, Array.size_map, Array.size_range, qz]
                              rw [← Nat.add_mul, ← Nat.add_mul]
                              congr 1
                              omega
                            have hS3 := sim_new (w' := w.drew.alloc (.cells ((olds' ++ xs').toArray ++ Builtin.zeroCells z.cells (grownCap w (n + m) c' e - (n + m))) e)) (p := .full) (cs := x.cells.take (n * i.size) ++ xs) hS2 (by rw [kill_len]; exact hU1) rfl (fun _ => frOk0) (prefix_cells (g1.append hv))
                            have hF := fr_new (q := q) (w := w) (w' := w.drew.alloc (.cells ((olds' ++ xs').toArray ++ Builtin.zeroCells z.cells (grownCap w (n + m) c' e - (n + m))) e)) (x := ⟨x.cells.take (n * i.size) ++ xs, .full⟩) (C := (olds' ++ xs').toArray ++ Builtin.zeroCells z.cells (grownCap w (n + m) c' e - (n + m))) hS hU1 rfl rfl rfl rfl
                            rw [eσ]
                            rw [kill_len] at hS3
                            refine ⟨_, _, _, hexec hr, ?_, hS3, ⟨hF.ext, fun j b' N' hj => ?_, hF.keep, fun hq j b' N' hj ha => ?_, hF.size, hF.os, hF.tape, hF.output⟩, Le.hand hax hp⟩
                            · exact .slu (mapOf μ σ _) (by simp only [maxLen]; omega) hcap hcap hcap2 (by rw [hcs, Nat.zero_add]; exact Nat.le_refl _) q2
                            · rcases hF.new j b' N' hj with h | ⟨r1, r2, h⟩
                              · exact .inl h
                              · refine .inr ⟨r1, by simpa [kill_len] using r2, ?_⟩
                                rcases h with h | ⟨l0, u1, ⟨y, hy, hyp⟩, u3⟩
                                · exact .inl h
                                · exact absurd ⟨y, by rw [List.getElem?_append_left (get_lt hy)]; exact hy, fun e => by rw [e] at hyp; cases hyp⟩ u3
                            · refine .of_eq ?_
                              have hlt' := hS.lt _ _ _ hj
                              show (w.heap.push _)[b']? = _
                              rw [Array.getElem?_push]
                              split
                              · omega
                              · rfl
                      · cases h
                    · cases h
            · cases h
      · cases h
    · cases h
  · cases h
end
end Go.Proofs.Ytibejcomfjddfaa.AM
end
section
set_option maxHeartbeats 8000000
set_option linter.unusedVariables false
set_option linter.unusedSimpArgs false

/- Operations of the abstract machine, and of the model: literals, make, copy, clear, comparisons, conversions; and all of them. -/
namespace Go.Proofs.Ytibejcomfjddfaa.AM
open Go
section
variable {P : Program} {q : Bool} {o : Oper} {ρ ρ' : Operand → Value} {μ : Mu} {σ σ' : Heap} {w w' : World} {v v' : Value}
variable {dst : Option Tmp} {type : TypeId} {pos : String} {after : Array Edge} {guard : Option (Nat × Bool)}

theorem made_eq (z : Array Value) : ∀ n : Nat, (madeCells z (n * z.size)).toList = (List.replicate n z.toList).flatten
  | 0 => by simp [madeCells, Array.range_zero']
  | n + 1 => by
    have ih := made_eq z n
    rw [List.replicate_succ', List.flatten_append, ← ih]
    unfold madeCells
    rw [show (n + 1) * z.size = n * z.size + z.size by rw [Nat.add_mul, Nat.one_mul]]
    simp only [Array.toList_map, Array.toList_range, List.flatten_cons, List.flatten_nil, List.append_nil]
    rw [List.range_add, List.map_append]
    congr 1
    apply List.ext_getElem
    · simp
    · intro i h1 h2
      simp at h1
      simp [Nat.mul_add_mod_of_lt h1, Nat.mul_comm n, h1, Nat.mul_add_mod, Nat.mod_eq_of_lt h1]
theorem made_all (z : Array Value) (n : Nat) (hz : ∀ (j : Nat) v, z[j]? = some v → Val μ v v) : ∀ (j : Nat) v, ((List.replicate n z.toList).flatten)[j]? = some v → Val μ v v := fun j v h => by
  have hm := List.mem_of_getElem? h
  simp only [List.mem_flatten, List.mem_replicate] at hm
  obtain ⟨l, ⟨_, rfl⟩, hv⟩ := hm
  obtain ⟨i, hi, rfl⟩ := List.getElem_of_mem hv
  exact hz i _ (by simp)
theorem makeSlice_sound {t e : TypeId} {l c : Operand} {kl kc : IntKind} {il ic : Int} {bytes : Nat} {zs : List Value} {a : Addr} (hS : Sim μ σ w.heap) (hU : μ σ.length = none) (hl : Val μ (ρ l) (ρ' l)) (hc : Val μ (ρ c) (ρ' c))
    (hu : P.underlying t = some (.slice e)) (h1 : ρ l = .int kl il) (h2 : ρ c = .int kc ic) (hb : byOf P e = some bytes) (h0 : 0 ≤ il) (hlc : il ≤ ic) (hmax : ic ≤ 17179869184) (hby : bytes ≤ 4096)
    (hz : zerosOf P e ic.toNat = some zs) (hn : newBlk σ zs = some (a, σ')) : Out P q ⟨dst, .makeSlice t l c, type, pos, after, guard⟩ ρ' μ σ w (.slice (some a) il.toNat ic.toNat) σ' := by
  rw [h1] at hl; rw [h2] at hc
  have hl := hl.int
  have hc := hc.int
  obtain ⟨i, z, hi, hz1, hf, hzs, rfl⟩ := zerosOf_val hz
  obtain ⟨rfl, rfl, _⟩ := newBlk_spec hn
  have hbb : i.bytes = bytes := by unfold byOf at hb; rw [hi] at hb; simpa using hb
  have hle : (i.bytes : Int) * ic ≤ 281474976710656 := by
    calc (i.bytes : Int) * ic ≤ 4096 * 17179869184 := Int.mul_le_mul (by omega) hmax (by omega) (by omega)
      _ ≤ _ := by omega
  have hr := run_make (P := P) w t e i z hu hi hz1 kl kc il ic h0 hlc hle (by omega)
  have hm := made_eq z.cells ic.toNat
  rw [hzs] at hm
  refine .new (w' := w.alloc _) hS hU (.inl (by simp [execOp, hl, hc, hr]; rfl)) rfl (fun _ => frOk0) (fun j u hj => ⟨u, ?_, ?_⟩) rfl rfl rfl (fun μ' h => .sl h ?_)
  · rw [← hm] at hj; simpa using hj
  · exact made_all (μ := μ) z.cells ic.toNat (fun j v h => flat_cells hf h) j u hj
  · unfold top; omega
theorem appZeros_sound {t tx : TypeId} {s x : Operand} (hS : Sim μ σ w.heap) (hU : ∀ l, σ.length ≤ l → l < σ'.length → μ l = none) (hs : Val μ (ρ s) (ρ' s)) (hx : Val μ (ρ x) (ρ' x)) {kn : IntKind} (htx : P.underlying tx = some (.int kn))
    (h : aZeros P t (ρ s) (ρ x) σ = some (v, σ')) : Out P q ⟨dst, .call { callee := .builtin .append, args := #[s, x], argTypes := #[t, tx] }, type, pos, after, guard⟩ ρ' μ σ w v σ' := by
  have hexec : ∀ {r : Value} {w1 : World}, (Builtin.append_ #[t, tx] type #[ρ' s, ρ' x]).run P w = .ok r w1 → Runs P ⟨dst, .call { callee := .builtin .append, args := #[s, x], argTypes := #[t, tx] }, type, pos, after, guard⟩ ρ' w r w1 := fun {r w1} hr => .inl (by
    simp [execOp, resolve, invoke, builtin, hr])
  unfold aZeros at h
  split at h
  · rename_i e k n hu hse hxe
    rw [hse] at hs
    rw [hxe] at hx
    have es := scalar_val (by rfl) hs
    have ex := hx.int
    split at h
    · rename_i size bytes zs hsz hby hzz
      split at h
      · rename_i hcond
        obtain ⟨h0, hn, hs0, hs1, hb4⟩ := hcond
        obtain ⟨i, z, hi, hz1, hf, hzs, rfl⟩ := zerosOf_val hzz
        have hsz' : i.size = size := by unfold szOf at hsz; rw [hi] at hsz; simpa using hsz
        have hby' : i.bytes = bytes := by unfold byOf at hby; rw [hi] at hby; simpa using hby
        subst hsz'
        subst hby'
        cases hb : newBlk σ (List.replicate n.toNat z.cells.toList).flatten with
        | none => rw [hb] at h; cases h
        | some r =>
          obtain ⟨a1, σ1⟩ := r
          rw [hb] at h; cases h
          obtain ⟨rfl, rfl, _⟩ := newBlk_spec hb
          have hnn : ((n.toNat : Nat) : Int) = n := by omega
          have hby3 : n.toNat * i.bytes ≤ 281474976710656 := by
            calc n.toNat * i.bytes ≤ 17179869184 * 4096 := Nat.mul_le_mul (by omega) hb4
              _ ≤ _ := by omega
          have hr := Lib.run_append_nil_zeros (P := P) w t tx type e i z k kn hu htx hi hz1 n.toNat (by omega) hs0 (by omega) hby3
          rw [hnn] at hr
          have hcap := le_grown w (need := n.toNat) (old := 0) (e := e)
          have hcap2 : grownCap w n.toNat 0 e ≤ maxLen := grownCap_le_maxLen w n.toNat 0 e (by simp only [maxLen]; omega)
          have hzc : (Builtin.zeroCells z.cells n.toNat).toList = (List.replicate n.toNat z.cells.toList).flatten := by
            rw [← made_eq]; rfl
          have hcs : (Builtin.zeroCells z.cells n.toNat ++ Builtin.zeroCells z.cells (grownCap w n.toNat 0 e - n.toNat)).size = grownCap w n.toNat 0 e * i.size := by
            simp only [Array.size_append, Builtin.zeroCells, Array.size_map, Array.size_range, hzs]
            rw [← Nat.add_mul]
            congr 1
            omega
          have hpre : ∀ (j : Nat) v, (List.replicate n.toNat z.cells.toList).flatten[j]? = some v → ∃ v', (Builtin.zeroCells z.cells n.toNat ++ Builtin.zeroCells z.cells (grownCap w n.toNat 0 e - n.toNat))[j]? = some v' ∧ Val μ v v' := fun j u hj => by
            refine ⟨u, ?_, ?_⟩
            · rw [← hzc] at hj
              have hjl := get_lt hj
              rw [Array.getElem?_append_left (by simpa using hjl)]
              simpa using hj
            · exact made_all (μ := μ) z.cells n.toNat (fun j v h => flat_cells hf h) j u hj
          rw [← es, ← ex] at hr
          refine .new (w' := w.drew.alloc _) hS (hU _ (Nat.le_refl _) (by simp)) (hexec hr) rfl (fun _ => frOk0) hpre rfl rfl rfl (fun μ' hμ => ?_)
          exact .slu hμ (by simp only [maxLen]; omega) hcap hcap hcap2 (by rw [hcs, Nat.zero_add]; exact Nat.le_refl _) hs1
      · cases h
    · cases h
  · rename_i e a k c kk n hu hse hxe
    rw [hse] at hs
    rw [hxe] at hx
    have ex := hx.int
    split at h
    · rename_i size bytes zs hsz hby hzz
      split at h
      · rename_i olds hro
        split at h
        · rename_i hcond
          obtain ⟨h0, hn, hs0, hs1, hb4, hck⟩ := hcond
          obtain ⟨i, z, hi, hz1, hf, hzs, rfl⟩ := zerosOf_val hzz
          have hsz' : i.size = size := by unfold szOf at hsz; rw [hi] at hsz; simpa using hsz
          have hby' : i.bytes = bytes := by unfold byOf at hby; rw [hi] at hby; simpa using hby
          subst hsz'
          subst hby'
          cases hb : newBlk σ (olds ++ (List.replicate n.toNat z.cells.toList).flatten) with
          | none => rw [hb] at h; cases h
          | some r =>
            obtain ⟨a1, σ1⟩ := r
            rw [hb] at h; cases h
            obtain ⟨rfl, rfl, _⟩ := newBlk_spec hb
            have hnn : ((n.toNat : Nat) : Int) = n := by omega
            have hct : c < top := by simp only [top]; omega
            rcases hs.sl_inv with ⟨hd, _⟩ | ⟨b, N, hsp, hm, ⟨_, es⟩ | ⟨s1, lb, c', ec, _⟩⟩
            · have := dng_top; omega
            · obtain ⟨_, olds', g1, g2, g3, _⟩ := read_sim hS hm hro
              have hol : olds'.length = k * i.size := g1.1.trans g2
              have hbytes : (k + n.toNat) * i.bytes ≤ 140737488355328 := by
                calc (k + n.toNat) * i.bytes ≤ 17179869184 * 4096 := Nat.mul_le_mul hn hb4
                  _ ≤ _ := by omega
              have hby3 : n.toNat * i.bytes ≤ 281474976710656 := by
                calc n.toNat * i.bytes ≤ 17179869184 * 4096 := Nat.mul_le_mul (by omega) hb4
                  _ ≤ _ := by omega
              have hold := run_firstCells_some (P := P) w.drew i.size k ⟨b, a.off, none⟩ k c olds' hol (fun j u hj => by rw [Addr.add_lit]; exact g3 j u hj)
              have hr := Lib.run_append_grow_zeros (P := P) w t tx type e i z kk kn hu htx hi hz1 _ k c olds' hold n.toNat (by omega) hs0 hck (by omega) hby3 (growslice_fits hck hbytes)
              rw [hnn, ← es, ← ex] at hr
              have hcap := le_grown w (need := k + n.toNat) (old := c) (e := e)
              have hcap2 : grownCap w (k + n.toNat) c e ≤ maxLen := grownCap_le_maxLen w (k + n.toNat) c e (by simp only [maxLen]; omega)
              have hzc : (Builtin.zeroCells z.cells n.toNat).toList = (List.replicate n.toNat z.cells.toList).flatten := by
                rw [← made_eq]; rfl
              have hcs : (olds'.toArray ++ Builtin.zeroCells z.cells n.toNat ++ Builtin.zeroCells z.cells (grownCap w (k + n.toNat) c e - (k + n.toNat))).size = grownCap w (k + n.toNat) c e * i.size := by
                simp only [Array.size_append, List.size_toArray, hol, Builtin.zeroCells, Array.size_map, Array.size_range, hzs]
                rw [← Nat.add_mul, ← Nat.add_mul]
                congr 1
                omega
              have hpre := prefix_cells (zs := Builtin.zeroCells z.cells (grownCap w (k + n.toNat) c e - (k + n.toNat))) (g1.append (b := (List.replicate n.toNat z.cells.toList).flatten) (b' := (Builtin.zeroCells z.cells n.toNat).toList) (by
                rw [hzc]
                exact ⟨rfl, fun j v v' e1 e2 => by rw [e1] at e2; cases e2; exact made_all (μ := μ) z.cells n.toNat (fun j v h => flat_cells hf h) j v e1⟩))
              have harr : (olds' ++ (Builtin.zeroCells z.cells n.toNat).toList).toArray = olds'.toArray ++ Builtin.zeroCells z.cells n.toNat := by
                rw [← List.append_toArray]
              rw [harr] at hpre
              refine .new (w' := w.drew.alloc _) hS (hU _ (Nat.le_refl _) (by simp)) (hexec hr) rfl (fun _ => frOk0) hpre rfl rfl rfl (fun μ' hμ => ?_)
              exact .slu hμ (by simp only [maxLen]; omega) hcap hcap hcap2 (by rw [hcs, Nat.zero_add]; exact Nat.le_refl _) hs1
            · rw [ec] at hct; exact absurd hct (unk_top _ _)
        · cases h
      · cases h
    · cases h
  · cases h
theorem app_sound {t tx : TypeId} {s x : Operand} (hS : Sim μ σ w.heap) (hU : ∀ l, σ.length ≤ l → l < σ'.length → μ l = none) (hs : Val μ (ρ s) (ρ' s)) (hx : Val μ (ρ x) (ρ' x))
    (h : aApp P q t tx (ρ s) (ρ x) σ = some (v, σ')) : Out P q ⟨dst, .call { callee := .builtin .append, args := #[s, x], argTypes := #[t, tx] }, type, pos, after, guard⟩ ρ' μ σ w v σ' := by
  unfold aApp at h
  split at h
  · rename_i kn htx; exact appZeros_sound hS hU hs hx htx h
  · exact append_sound hS hU hs hx h
theorem Val.cells' (hv : Val μ v v') (hj : junkB v = false) : ValL μ v.cells.toList v'.cells.toList := by
  cases hv with
  | agg h1 h2 => exact .ofA h1 h2
  | scal h => cases v <;> first | exact ValL.one (.scal h) | (simp [scalarB] at h; done)
  | junk r v => simp [junkB] at hj
  | tup h1 h2 => exact .one (.tup h1 h2)
  | ptr h => exact .one (.ptr h)
  | sl h1 h2 => exact .one (.sl h1 h2)
  | slu h1 h2 h3 h4 h5 h6 h7 => exact .one (.slu h1 h2 h3 h4 h5 h6 h7)
  | sld h => exact .one (.sld h)
  | func h1 h2 h3 h4 => exact .one (.func h1 h2 h3 h4)
  | iface h => exact .one (.iface h)
theorem fold_val (off : Nat) : ∀ (l l' : List Value) (k : Nat) (c c' : Array Value), ValL μ l l' → ValL μ c.toList c'.toList →
    ValL μ ((l.zipIdx k).foldl (fun cs (x : Value × Nat) => cs.setIfInBounds (off + x.2) x.1) c).toList ((l'.zipIdx k).foldl (fun cs (x : Value × Nat) => cs.setIfInBounds (off + x.2) x.1) c').toList
  | [], l', k, c, c', h, hc => by
    have : l' = [] := List.eq_nil_of_length_eq_zero (by simpa using h.1)
    subst this; exact hc
  | v :: l, l', k, c, c', h, hc => by
    cases l' with
    | nil => have := h.1; simp at this
    | cons v' l' =>
      simp only [List.zipIdx_cons, List.foldl_cons]
      have hv : Val μ v v' := h.2 0 v v' rfl rfl
      refine fold_val off l l' (k + 1) _ _ ⟨by simpa using h.1, fun i u u' h1 h2 => h.2 (i + 1) u u' (by simpa using h1) (by simpa using h2)⟩ ⟨by simpa using hc.1, fun i u u' h1 h2 => ?_⟩
      have hsz : c'.size = c.size := by simpa using hc.1
      simp only [Array.toList_setIfInBounds, List.getElem?_set, Array.length_toList, Array.getElem?_toList] at h1 h2
      split at h1
      · rename_i e
        rw [if_pos e] at h2
        split at h1
        · rename_i e2
          rw [if_pos (by omega)] at h2
          cases h1; cases h2; exact hv
        · cases h1
      · rename_i e
        rw [if_neg e] at h2
        exact hc.2 i u u' (by simpa using h1) (by simpa using h2)
theorem fill_val {place : Nat → Option (Nat × Nat)} : ∀ (ps ps' : List (Nat × Value)) (c c' : Array Value) {r : Array Value}, ps'.map (·.1) = ps.map (·.1) → (∀ (i : Nat) (p p' : Nat × Value), ps[i]? = some p → ps'[i]? = some p' → Val μ p.2 p'.2 ∧ junkB p.2 = false) →
    ValL μ c.toList c'.toList → Instr.fill place c ps = some r → ∃ r', Instr.fill place c' ps' = some r' ∧ ValL μ r.toList r'.toList
  | [], ps', c, c', r, hm, _, hc, h => by
    have : ps' = [] := by simpa using hm
    subst this
    simp only [Instr.fill] at h ⊢
    cases h
    exact ⟨_, rfl, hc⟩
  | (i, v) :: ps, ps', c, c', r, hm, hp, hc, h => by
    cases ps' with
    | nil => simp at hm
    | cons p' ps' =>
      obtain ⟨i', v'⟩ := p'
      simp only [List.map_cons, List.cons.injEq] at hm
      obtain ⟨rfl, hm⟩ := hm
      have h0 := hp 0 _ _ rfl rfl
      have hcells := h0.1.cells' h0.2
      have e1 : v'.cells.size = v.cells.size := by simpa using hcells.1
      have e2 : c'.size = c.size := by simpa using hc.1
      simp only [Instr.fill] at h ⊢
      cases hpl : place i' with
      | none => rw [hpl] at h; cases h
      | some os =>
        obtain ⟨off, size⟩ := os
        rw [hpl] at h
        simp only [e1, e2] at h ⊢
        split at h
        · cases h
        · rename_i hcond
          rw [if_neg hcond]
          refine fill_val ps ps' _ _ hm (fun j p p' h1 h2 => hp (j + 1) p p' (by simpa using h1) (by simpa using h2)) ?_ h
          have := fold_val (μ := μ) off v.cells.toList v'.cells.toList 0 c c' hcells hc
          simp only [← Array.foldl_toList, Array.toList_zipIdx]
          exact this
theorem parts_val {parts : Array (Nat × Operand)} (hp : ∀ p ∈ parts, Val μ (ρ p.2) (ρ' p.2)) (hj : (parts.all fun (_, x) => !junkB (ρ x)) = true) :
    (((parts.map fun (i, x) => (i, ρ' x)).toList.map (·.1)) = (parts.map fun (i, x) => (i, ρ x)).toList.map (·.1)) ∧
    (∀ (i : Nat) (p p' : Nat × Value), (parts.map fun (i, x) => (i, ρ x)).toList[i]? = some p → (parts.map fun (i, x) => (i, ρ' x)).toList[i]? = some p' → Val μ p.2 p'.2 ∧ junkB p.2 = false) := by
  constructor
  · simp [Function.comp_def]
  · intro i p p' h1 h2
    simp only [Array.toList_map, List.getElem?_map, Option.map_eq_some_iff] at h1 h2
    obtain ⟨x, hx, rfl⟩ := h1
    obtain ⟨y, hy, rfl⟩ := h2
    rw [hx] at hy; cases hy
    have hm : x ∈ parts := by have := List.mem_of_getElem? hx; simpa using this
    refine ⟨hp x hm, ?_⟩
    rw [Array.all_eq_true] at hj
    obtain ⟨k, hk, rfl⟩ := Array.getElem_of_mem hm
    have := hj k hk
    simpa using this
theorem zero_val {z : Value} (h : flatB z = true) : ValL μ z.cells.toList z.cells.toList := ⟨rfl, fun i v v' h1 h2 => by
  rw [h1] at h2; cases h2
  exact flat_cells h (j := i) (by simpa using h1)⟩
theorem build_sound {t : TypeId} {parts : Array (Nat × Operand)} {z : Value} {cs : Array Value} (hS : Sim μ σ w.heap) (hp : ∀ p ∈ parts, Val μ (ρ p.2) (ρ' p.2)) (hj : (parts.all fun (_, x) => !junkB (ρ x)) = true)
    (hz : zeroOf P t = some z) (hf : flatB z = true) (h : P.built t (parts.map fun (i, x) => (i, ρ x)).toList = some cs) : Out P q ⟨dst, .build t parts, type, pos, after, guard⟩ ρ' μ σ w (.agg cs) σ := by
  obtain ⟨h1, h2⟩ := parts_val hp hj
  have key : ∃ cs', P.built t (parts.map fun (i, x) => (i, ρ' x)).toList = some cs' ∧ ValL μ cs.toList cs'.toList := by
    unfold Program.built at h ⊢
    unfold zeroOf at hz
    cases hi : P.info? t with
    | none => rw [hi] at hz; cases hz
    | some it =>
      rw [hi] at hz h
      simp only [Option.bind_some] at hz
      cases hu : P.underlying t with
      | none => rw [hu] at h; cases h
      | some d =>
        rw [hu] at h
        cases d <;> try (cases h; done)
        case struct fields =>
          simp only [hz] at h
          cases hm : fields.toList.mapM (fun f => (P.info? f.type).map fun i => (f.offset, i.size)) with
          | none => rw [hm] at h; cases h
          | some places =>
            rw [hm] at h
            simp only [hz, hm]
            exact fill_val _ _ _ _ h1 h2 (zero_val hf) h
        case array n e =>
          simp only [hz] at h
          cases hm : P.info? e with
          | none => rw [hm] at h; cases h
          | some ie =>
            rw [hm] at h
            simp only [hz, hm]
            exact fill_val _ _ _ _ h1 h2 (zero_val hf) h
  obtain ⟨cs', h3, h4⟩ := key
  exact .same hS (.inl (by
    have := run_build (P := P) w t (parts.map fun (i, x) => (i, ρ' x)) cs' h3
    simp [execOp, this])) (.aggL h4)
theorem buildSlice_sound {t e : TypeId} {len s : Nat} {p : Perm} {parts : Array (Nat × Operand)} {zs : List Value} {cs : Array Value} {a : Addr} (hS : Sim μ σ w.heap) (hU : μ σ.length = none) (hp : ∀ p ∈ parts, Val μ (ρ p.2) (ρ' p.2)) (hj : (parts.all fun (_, x) => !junkB (ρ x)) = true)
    (hu : P.underlying t = some (.slice e)) (hs : szOf P e = some s) (hz : zerosOf P e len = some zs) (hlim : len * s ≤ 16777216) (hlim2 : len < top)
    (h : Instr.fill (fun i => some (i * s, s)) zs.toArray (parts.map fun (i, x) => (i, ρ x)).toList = some cs) (hn : newBlkP σ cs.toList p = some (a, σ')) :
    Out P q ⟨dst, .buildSlice t len parts, type, pos, after, guard⟩ ρ' μ σ w (.slice (some a) len len) σ' := by
  obtain ⟨h1, h2⟩ := parts_val hp hj
  obtain ⟨i, z, hi, hz1, hf, hzs, rfl⟩ := zerosOf_val hz
  obtain ⟨rfl, rfl, _⟩ := newBlkP_spec hn
  have hsi : i.size = s := by unfold szOf at hs; rw [hi] at hs; simpa using hs
  subst hsi
  have hm := made_eq z.cells len
  rw [hzs] at hm
  have hv : ValL μ (List.replicate len z.cells.toList).flatten (madeCells z.cells (len * i.size)).toList := by
    rw [hm]
    exact ⟨rfl, fun j v v' e1 e2 => by
      rw [e1] at e2; cases e2
      exact made_all (μ := μ) z.cells len (fun j v h => flat_cells hf h) j v e1⟩
  obtain ⟨cs', h3, h4⟩ := fill_val _ _ _ (madeCells z.cells (len * i.size)) h1 h2 (by simpa using hv) h
  have hlim' : ¬ (2 ^ 24 < len * i.size) := by omega
  refine .new (w' := w.alloc (.cells cs' e)) (v' := .slice (some ⟨w.heap.size, 0, none⟩) len len) hS hU (.inl ?_) rfl (fun _ => frOk0) (fun j u hj => ?_) rfl rfl rfl (fun μ' h => .sl h hlim2)
  · unfold madeCells at h3
    by_cases h0 : len * i.size = 0
    · rw [h0] at h3
      have e0 : Array.map (fun x => (#[] : Array Value)[x % (#[] : Array Value).size]!) (Array.range 0) = Array.map (fun x => z.cells[x % z.cells.size]!) (Array.range 0) := by simp [Array.range_zero']
      simp [execOp, Instr.buildSlice, run_underlying hu, szOf_run hs, h0, Array.range_zero'] at h3 ⊢
      simp [h3, newRow]
    · simp [execOp, Instr.buildSlice, run_underlying hu, szOf_run hs, h0, zeroValue, typeInfo, hi, hz1, hlim'] at h3 ⊢
      simp [h3, newRow]
  · obtain ⟨u', g1, g2⟩ := h4.get hj
    exact ⟨u', by simpa using g1, g2⟩
theorem strEq_sound {op : BinOp} {t ty : TypeId} {x y : Operand} {b : Bool} (hS : Sim μ σ w.heap) (hx : Val μ (ρ x) (ρ' x)) (hy : Val μ (ρ y) (ρ' y)) (h : strEq op (ρ x) (ρ y) = some b) :
    Out P q ⟨dst, .binOp op t x y ty, type, pos, after, guard⟩ ρ' μ σ w (.bool b) σ := by
  unfold strEq at h
  split at h
  · rename_i a c e1 e2
    cases h
    rw [e1] at hx; rw [e2] at hy
    refine .same hS (.inl ?_) (.scal rfl)
    simp [execOp, hx.str, hy.str, eqGuard_at_string, binOp, Op.stringOp, ByteArray.toList_eq]
  · rename_i a c e1 e2
    cases h
    rw [e1] at hx; rw [e2] at hy
    refine .same hS (.inl ?_) (.scal rfl)
    simp [execOp, hx.str, hy.str, eqGuard_at_string, binOp, Op.stringOp, ByteArray.toList_eq]
  · cases h
theorem Val.slice_inv {a : Addr} {n c : Nat} (h : Val μ (.slice (some a) n c) v') : ∃ a' c', v' = .slice (some a') n c' := by
  rcases h.sl_inv with ⟨_, rfl, a', c', e⟩ | ⟨_, _, _, _, ⟨_, e⟩ | ⟨_, _, c', _, _, _, _, _, _, _, e⟩⟩
  · exact ⟨_, _, e⟩
  · exact ⟨_, _, e⟩
  · exact ⟨_, _, e⟩
theorem eq_key {t : TypeId} {x' y' : Value} {b : Bool} {w : World} (h : ∀ d, (Op.equalIn (d + 1) t x' y').run P w = .ok b w) : (Op.equal t x' y').run P w = .ok b w := h 9999
theorem aEq_run {t : TypeId} {x y x' y' : Value} {b : Bool} (hx : Val μ x x') (hy : Val μ y y') (h : aEq P t x y = some b) (w : World) :
    (Op.equal t x' y').run P w = .ok b w ∧ (∀ op u1 u2, eqGuard op t u1 u2 x' y' = pure ()) ∧ binOp .eql t x' y' = (do pure (.bool (← Op.equal t x' y'))) ∧ binOp .neq t x' y' = (do pure (.bool (!(← Op.equal t x' y')))) := by
  unfold aEq at h
  split at h <;> (try (cases h; done)) <;> rename_i hu <;> cases h
  · obtain ⟨_, _, _, _, rfl⟩ := hx.ptr_inv
    rw [scalar_val rfl hy]
    exact ⟨eq_key fun d => by simp [Op.equalIn, run_underlying hu], fun op _ _ => eqGuard_at_pointer .., rfl, rfl⟩
  · obtain ⟨_, _, _, _, rfl⟩ := hy.ptr_inv
    rw [scalar_val rfl hx]
    exact ⟨eq_key fun d => by simp [Op.equalIn, run_underlying hu], fun op _ _ => eqGuard_at_pointer .., rfl, rfl⟩
  · obtain ⟨_, _, rfl⟩ := hx.slice_inv
    generalize y' = z at hy
    cases hy with
    | scal h => exact ⟨eq_key fun d => by simp [Op.equalIn, run_underlying hu], fun op _ _ => eqGuard_at_slice .., rfl, rfl⟩
  · obtain ⟨_, _, rfl⟩ := hy.slice_inv
    generalize x' = z at hx
    cases hx with
    | scal h => exact ⟨eq_key fun d => by simp [Op.equalIn, run_underlying hu], fun op _ _ => eqGuard_at_slice .., rfl, rfl⟩
  · exfalso
    cases hx with
    | scal h => simp [scalarB] at h
  · exfalso
    cases hy with
    | scal h => simp [scalarB] at h
  · rw [scalar_val rfl hy]
    cases hx with
    | scal h => simp [scalarB] at h
    | func _ _ _ _ => exact ⟨eq_key fun d => by simp [Op.equalIn, run_underlying hu], fun op _ _ => eqGuard_at_func .., rfl, rfl⟩
  · rw [scalar_val rfl hx]
    cases hy with
    | scal h => simp [scalarB] at h
    | func _ _ _ _ => exact ⟨eq_key fun d => by simp [Op.equalIn, run_underlying hu], fun op _ _ => eqGuard_at_nilFunc .., rfl, rfl⟩
  · rw [scalar_val rfl hy]
    cases hx with
    | scal h => simp [scalarB] at h
    | iface _ => exact ⟨eq_key fun d => by simp [Op.equalIn, run_underlying hu], fun op _ _ => eqGuard_at_iface .., rfl, rfl⟩
  · rw [scalar_val rfl hx]
    cases hy with
    | scal h => simp [scalarB] at h
    | iface _ => exact ⟨eq_key fun d => by simp [Op.equalIn, run_underlying hu], fun op _ _ => eqGuard_nil_iface .., rfl, rfl⟩
theorem eql_sound {t ty : TypeId} {x y : Operand} {b : Bool} (hS : Sim μ σ w.heap) (hx : Val μ (ρ x) (ρ' x)) (hy : Val μ (ρ y) (ρ' y)) (h : aEq P t (ρ x) (ρ y) = some b) :
    Out P q ⟨dst, .binOp .eql t x y ty, type, pos, after, guard⟩ ρ' μ σ w (.bool b) σ := by
  obtain ⟨h1, h2, h3, _⟩ := aEq_run hx hy h w
  exact .same hS (.inl (by simp [execOp, h2, h3, h1])) (.scal rfl)
theorem neq_sound {t ty : TypeId} {x y : Operand} {b : Bool} (hS : Sim μ σ w.heap) (hx : Val μ (ρ x) (ρ' x)) (hy : Val μ (ρ y) (ρ' y)) (h : aEq P t (ρ x) (ρ y) = some b) :
    Out P q ⟨dst, .binOp .neq t x y ty, type, pos, after, guard⟩ ρ' μ σ w (.bool (!b)) σ := by
  obtain ⟨h1, h2, _, h3⟩ := aEq_run hx hy h w
  exact .same hS (.inl (by simp [execOp, h2, h3, h1])) (.scal rfl)
end
end Go.Proofs.Ytibejcomfjddfaa.AM
end
section
set_option maxHeartbeats 8000000
set_option linter.unusedVariables false
set_option linter.unusedSimpArgs false

/- Operations of the abstract machine, and of the model: conversions, builtins; all of them together. -/
namespace Go.Proofs.Ytibejcomfjddfaa.AM
open Go
section
variable {P : Program} {q : Bool} {o : Oper} {ρ ρ' : Operand → Value} {μ : Mu} {σ σ' : Heap} {w w' : World} {v v' : Value}
variable {dst : Option Tmp} {type : TypeId} {pos : String} {after : Array Edge} {guard : Option (Nat × Bool)}

theorem bytes_of : ∀ (cs cs' : List Value) (bs : List UInt8), cs.mapM byteOfV = some bs → ValL μ cs cs' → ∃ ns : List Int, cs' = ns.map (Value.int .u8) ∧ bs = ns.map (fun n => UInt8.ofNat n.toNat)
  | [], cs', bs, h, hv => by
    have : cs' = [] := List.eq_nil_of_length_eq_zero (by simpa using hv.1)
    simp at h
    exact ⟨[], by simp [this], by simp [← h]⟩
  | c :: cs, cs', bs, h, hv => by
    cases cs' with
    | nil => have := hv.1; simp at this
    | cons c' cs' =>
      have h0 : Val μ c c' := hv.2 0 _ _ rfl rfl
      rw [List.mapM_cons] at h
      cases hb : byteOfV c with
      | none => simp [hb] at h
      | some b =>
        cases hm : cs.mapM byteOfV with
        | none => simp [hb, hm] at h
        | some bs' =>
          simp [hb, hm] at h
          subst h
          obtain ⟨ns, e1, e2⟩ := bytes_of cs cs' bs' hm ⟨by simpa using hv.1, fun i u u' a1 a2 => hv.2 (i + 1) u u' (by simpa using a1) (by simpa using a2)⟩
          unfold byteOfV at hb
          split at hb
          · rename_i n
            cases hb
            exact ⟨n :: ns, by rw [h0.int, e1]; rfl, by rw [e2]; rfl⟩
          · cases hb
theorem fold_push : ∀ (ns : List Int) (b : ByteArray), (ns.foldl (fun r n => r.push (UInt8.ofNat n.toNat)) b) = ⟨b.data ++ (ns.map fun n => UInt8.ofNat n.toNat).toArray⟩
  | [], b => by simp
  | n :: ns, b => by
    rw [List.foldl_cons, fold_push ns]
    congr 1
    apply Array.ext'
    simp [ByteArray.push]
theorem toString_sound {src dt e : TypeId} {x : Operand} {a : Addr} {n c : Nat} {cs : List Value} {bs : List UInt8} (hS : Sim μ σ w.heap) (hx : Val μ (ρ x) (ρ' x)) (h1 : P.underlying src = some (.slice e)) (h2 : P.underlying dt = some .string)
    (h3 : P.underlying e = some (.int .u8)) (hxe : ρ x = .slice (some a) n c) (hr : readN σ a n = some cs) (hb : cs.mapM byteOfV = some bs) :
    Out P q ⟨dst, .convert src dt x, type, pos, after, guard⟩ ρ' μ σ w (.string ⟨bs.toArray⟩) σ := by
  rw [hxe] at hx
  have key : ∃ ns : List Int, bs = ns.map (fun n => UInt8.ofNat n.toNat) ∧ ∃ a' c', ρ' x = .slice (some a') n c' ∧ (loadCells a' n).run P w = .ok (ns.map (Value.int .u8)).toArray w := by
    rcases hx.sl_inv with ⟨_, rfl, a', c', ex⟩ | ⟨b, N, hsp, hm, h⟩
    · have e0 : cs = [] := by
        unfold readN at hr
        split at hr
        · split at hr
          · cases hr; simp
          · cases hr
        · cases hr
      subst e0
      simp at hb
      exact ⟨[], by simp [← hb], a', c', ex, by simpa using run_loadCells_list (P := P) w a' [] (fun j u hj => by simp at hj)⟩
    · obtain ⟨_, vs', g1, g2, g3, _⟩ := read_sim hS hm hr
      obtain ⟨ns, e1, e2⟩ := bytes_of cs vs' bs hb g1
      have hl := run_loadCells_list (P := P) w ⟨b, a.off, none⟩ vs' (fun j u hj => by rw [Addr.add_lit]; exact g3 j u hj)
      rw [g1.1.trans g2, e1] at hl
      rcases h with ⟨_, ex⟩ | ⟨_, _, c', _, _, _, _, _, _, _, ex⟩
      · exact ⟨ns, e2, _, _, ex, hl⟩
      · exact ⟨ns, e2, _, _, ex, hl⟩
  obtain ⟨ns, e2, a', c', ex, hl⟩ := key
  have hrun := run_bytesToString (P := P) w a' n c' ns hl
  refine .same (v' := .string ⟨bs.toArray⟩) hS (.inl ?_) (.scal rfl)
  simp [execOp, ex, convert, run_underlying h1, run_underlying h2, run_underlying h3, hrun, fold_push, e2]
theorem nilString_sound {src dt e : TypeId} {x : Operand} (hS : Sim μ σ w.heap) (hx : Val μ (ρ x) (ρ' x)) (h1 : P.underlying src = some (.slice e)) (h2 : P.underlying dt = some .string)
    (h3 : P.underlying e = some (.int .u8)) (hxe : ρ x = .slice none 0 0) :
    Out P q ⟨dst, .convert src dt x, type, pos, after, guard⟩ ρ' μ σ w (.string ⟨#[]⟩) σ := by
  rw [hxe] at hx
  have ex := scalar_val (v := .slice none 0 0) rfl hx
  have hrun : (Conv.bytesToString (.slice none 0 0)).run P w = .ok (.string ⟨#[]⟩) w := rfl
  refine .same (v' := .string ⟨#[]⟩) hS (.inl ?_) (.scal rfl)
  simp [execOp, ex, convert, run_underlying h1, run_underlying h2, run_underlying h3, hrun]
theorem toBytes_sound {src dt e : TypeId} {x : Operand} {s : ByteArray} {a : Addr} (hS : Sim μ σ w.heap) (hU : μ σ.length = none) (hx : Val μ (ρ x) (ρ' x)) (h1 : P.underlying src = some .string) (h2 : P.underlying dt = some (.slice e))
    (h3 : P.underlying e = some (.int .u8)) (hxe : ρ x = .string s) (hl : s.size ≤ 17179869184) (hn : newBlkP σ (byteCells s) .byt = some (a, σ')) :
    Out P q ⟨dst, .convert src dt x, type, pos, after, guard⟩ ρ' μ σ w (.slice (some a) s.size (unk 1 s.size)) σ' := by
  rw [hxe] at hx
  have ex := hx.str
  obtain ⟨rfl, rfl, _⟩ := newBlkP_spec hn
  have hcap := le_grown w (need := s.size) (old := 0) (e := e)
  have hcap2 : grownCap w s.size 0 e ≤ maxLen := grownCap_le_maxLen w s.size 0 e (by simp only [maxLen]; omega)
  have hsz : (Lib.bytesCells w e s).size = grownCap w s.size 0 e := by
    unfold Lib.bytesCells
    simp only [Array.size_append, Array.size_map, Array.size_replicate]
    show s.size + _ = _
    omega
  have hheap : (Lib.bytesWorld w e s).heap = w.heap.push (.cells (Lib.bytesCells w e s) e ((Lib.bytesCells w e s).size, (Lib.bytesCells w e s).size + 1)) := by
    apply Array.ext_getElem?
    intro i
    rw [Array.getElem?_push]
    split
    · rename_i e; subst e; exact Lib.bytesWorld_at_new w _ s
    · rename_i ne
      rcases Nat.lt_or_ge i w.heap.size with h | h
      · exact Lib.bytesWorld_at_old w _ s i h
      · rw [Array.getElem?_eq_none (by rw [Lib.bytesWorld_size]; omega), Array.getElem?_eq_none (by omega)]
  refine .new (w' := Lib.bytesWorld w e s) (v' := .slice (some ⟨w.heap.size, 0, none⟩) s.size (grownCap w s.size 0 e)) hS hU (.inl ?_) hheap (fun h => by cases h) (fun j u hj => ⟨u, ?_, ?_⟩) rfl rfl rfl (fun μ' h => ?_)
  · have := Lib.run_convert_string_bytes (P := P) w src dt e s h1 h2 h3
    simp [execOp, ex, this]
  · have hj' : (s.data.map fun b => Value.int .u8 b.toNat)[j]? = some u := by
      unfold byteCells at hj
      rw [← Array.getElem?_toList, Array.toList_map]; exact hj
    unfold Lib.bytesCells
    rw [Array.getElem?_append_left (Array.getElem?_eq_some_iff.1 hj').1]
    exact hj'
  · obtain ⟨_, _, rfl⟩ := List.mem_map.1 (List.mem_of_getElem? hj)
    exact .scal rfl
  · exact .slu h (by simp only [maxLen]; omega) hcap hcap hcap2 (by rw [hsz]; omega) (by omega)
theorem sameBytes_sound {src dt e e0 : TypeId} {x : Operand} {a : Addr} {n c : Nat} {bk : Blk} (hS : Sim μ σ w.heap) (hx : Val μ (ρ x) (ρ' x)) (h1 : P.underlying src = some (.slice e0)) (h2 : P.underlying dt = some (.slice e))
    (h3 : P.underlying e = some (.int .u8)) (hsd : src = dt) (hxe : ρ x = .slice (some a) n c) (hb : σ[a.block]? = some bk) (hp : bk.perm = .byt) (hc : c < dng) :
    Out P q ⟨dst, .convert src dt x, type, pos, after, guard⟩ ρ' μ σ w (ρ x) σ := by
  have hx0 := hx
  rw [hxe] at hx
  subst hsd
  rcases hx.sl_inv with ⟨hd, _⟩ | ⟨b, N, hsp, hm, h⟩
  · omega
  · obtain ⟨C, elem, fr, he, g0, g1, g2⟩ := hS.blk _ b N bk hm hb (by rw [hp]; simp)
    have ex : ∃ c', ρ' x = .slice (some ⟨b, a.off, none⟩) n c' := by
      rcases h with ⟨_, ex⟩ | ⟨_, _, c', _, _, _, _, _, _, _, ex⟩
      · exact ⟨_, ex⟩
      · exact ⟨_, ex⟩
    obtain ⟨c', ex⟩ := ex
    have hlt := hS.lt _ _ _ hm
    let fr' : Nat × Nat := if fr.1 = fr.2 then (C.size, C.size + 1) else (min fr.1 C.size, max fr.2 (C.size + 1))
    have hw : (w.freeze ⟨b, C.size, none⟩ 1).heap[b]? = some (.cells C elem fr') := by
      simp only [World.freeze, if_neg (show ¬ (1 = 0) by omega), Array.getElem?_modify, he, if_true, Option.map_some]
      simp only [fr', beq_iff_eq]
    have hwo : ∀ k, k ≠ b → (w.freeze ⟨b, C.size, none⟩ 1).heap[k]? = w.heap[k]? := fun k hk => by
      simp [World.freeze, Array.getElem?_modify, Ne.symm hk]
    have hws : (w.freeze ⟨b, C.size, none⟩ 1).heap.size = w.heap.size := by simp [World.freeze]
    have hff : isFull σ a.block := ⟨bk, hb, by rw [hp]; rfl⟩
    have hrun : (execOp ρ' ⟨dst, .convert src src x, type, pos, after, guard⟩).run P w = .ok (.value (ρ' x)) (w.freeze ⟨b, C.size, none⟩ 1) := by
      have hsh : w.shape? b = some (elem, C.size) := by simp [World.shape?, he]
      simp [execOp, ex, convert, run_underlying h2, run_underlying h3, markStringish, hsh]
    refine ⟨_, _, μ, .inl hrun, hx0, ⟨fun l b' N' h => by rw [hws]; exact hS.lt l b' N' h, hS.inj, fun l b' N' y hl hy hd => ?_, hS.glob⟩, ⟨fun _ _ h => h, fun _ _ _ h => .inl h, fun b' hb' hn => hwo b' (fun e => ?_), fun _ l b' N' hl ha => ?_, by rw [hws]; exact Nat.le_refl _, rfl, rfl, rfl⟩, .refl _⟩
    · obtain ⟨c2, elem2, fr2, k1, k0, k2, k3⟩ := hS.blk l b' N' y hl hy hd
      by_cases e1 : b' = b
      · subst e1
        rw [he] at k1; cases k1
        refine ⟨C, elem, fr', hw, k0, fun hf => ?_, k3⟩
        exfalso
        by_cases el : l = a.block
        · rw [el, hb] at hy; cases hy; rw [hp] at hf; cases hf
        · exact hS.inj a.block l b' N N' (Ne.symm el) hm hl hff (.inl ⟨y, hy, hd⟩)
      · exact ⟨c2, elem2, fr2, by rw [hwo b' e1]; exact k1, k0, k2, k3⟩
    · subst e; exact hn a.block N hm hff
    · by_cases e1 : b' = b
      · subst e1
        intro c2 e2 fr2 h2
        rw [he] at h2; cases h2
        refine ⟨fr', hw, fun hn => ?_⟩
        exfalso
        by_cases el : l = a.block
        · exact hn bk (by rw [el]; exact hb) hp
        · exact hS.inj a.block l b' N N' (Ne.symm el) hm hl hff (.inl ha)
      · exact .of_eq (hwo b' e1)
theorem len_slice_sound {t e : TypeId} {x : Operand} {A : Option Addr} {n c : Nat} (hS : Sim μ σ w.heap) (hx : Val μ (ρ x) (ρ' x)) (hu : P.underlying t = some (.slice e)) (hxe : ρ x = .slice A n c) :
    Out P q ⟨dst, .call { callee := .builtin .len, args := #[x], argTypes := #[t] }, type, pos, after, guard⟩ ρ' μ σ w (.int .i64 n) σ := by
  rw [hxe] at hx
  have key : ∃ A' c', ρ' x = .slice A' n c' := by
    cases A with
    | some a => obtain ⟨a', c', e⟩ := hx.slice_inv; exact ⟨_, _, e⟩
    | none =>
      generalize ρ' x = z at hx
      cases hx with
      | scal h => exact ⟨_, _, rfl⟩
  obtain ⟨A', c', ex⟩ := key
  exact .same hS (.inl (by simp [execOp, resolve, invoke, builtin, ex, Builtin.len_, run_underlying hu, goInt])) (.scal rfl)
theorem len_array_sound {t e : TypeId} {x : Operand} {n : Nat} (hS : Sim μ σ w.heap) (hu : P.underlying t = some (.array n e)) :
    Out P q ⟨dst, .call { callee := .builtin .len, args := #[x], argTypes := #[t] }, type, pos, after, guard⟩ ρ' μ σ w (.int .i64 n) σ :=
  .same hS (.inl (by simp [execOp, resolve, invoke, builtin, Builtin.len_, run_underlying hu, goInt])) (.scal rfl)
theorem cap_sound {t e : TypeId} {x : Operand} {A : Option Addr} {n c : Nat} (hS : Sim μ σ w.heap) (hx : Val μ (ρ x) (ρ' x)) (hu : P.underlying t = some (.slice e)) (hxe : ρ x = .slice A n c) (hc : c < top) :
    Out P q ⟨dst, .call { callee := .builtin .cap, args := #[x], argTypes := #[t] }, type, pos, after, guard⟩ ρ' μ σ w (.int .i64 c) σ := by
  rw [hxe] at hx
  have key : ∃ A', ρ' x = .slice A' n c := by
    cases A with
    | some a =>
      rcases hx.sl_inv with ⟨hd, _⟩ | ⟨_, _, _, _, ⟨_, e⟩ | ⟨_, _, c', ec, _⟩⟩
      · have := dng_top; omega
      · exact ⟨_, e⟩
      · rw [ec] at hc; exact absurd hc (unk_top _ _)
    | none =>
      generalize ρ' x = z at hx
      cases hx with
      | scal h => exact ⟨_, rfl⟩
  obtain ⟨A', ex⟩ := key
  exact .same hS (.inl (by simp [execOp, resolve, invoke, builtin, ex, Builtin.cap_, run_underlying hu, goInt])) (.scal rfl)
theorem copy_sound {t tx e : TypeId} {d s : Operand} {A : Option Addr} {n c size m : Nat} {xs : List Value} (hS : Sim μ σ w.heap) (hd : Val μ (ρ d) (ρ' d)) (hs : Val μ (ρ s) (ρ' s)) (hu : P.underlying t = some (.slice e)) (hde : ρ d = .slice A n c)
    (hsz : szOf P e = some size) (hsrc : (match ρ s with | .slice _ _ _ => srcOf P σ size tx (ρ s) | _ => none) = some (m, xs)) :
    (Nat.min m n = 0 → Out P q ⟨dst, .call { callee := .builtin .copy, args := #[d, s], argTypes := #[t, tx] }, type, pos, after, guard⟩ ρ' μ σ w (.int .i64 0) σ) ∧
    (∀ a σ', A = some a → writeN σ a (xs.take (Nat.min m n * size)) = some σ' → Out P false ⟨dst, .call { callee := .builtin .copy, args := #[d, s], argTypes := #[t, tx] }, type, pos, after, guard⟩ ρ' μ σ w (.int .i64 (Nat.min m n : Nat)) σ') := by
  have hd' : ∃ A' c', ρ' d = .slice A' n c' ∧ (A = none → A' = none) ∧ (∀ a, A = some a → Nat.min m n ≠ 0 → ∃ b N, a.spot = none ∧ μ a.block = some (b, N) ∧ A' = some ⟨b, a.off, none⟩) := by
    rw [hde] at hd
    cases A with
    | some a =>
      rcases hd.sl_inv with ⟨_, rfl, a', c', ex⟩ | ⟨b, N, h1, h2, h⟩
      · exact ⟨_, _, ex, by simp, fun _ _ h => by simp at h⟩
      · rcases h with ⟨_, ex⟩ | ⟨_, _, c', _, _, _, _, _, _, _, ex⟩
        · exact ⟨_, _, ex, by simp, fun a' ha _ => by cases ha; exact ⟨b, N, h1, h2, rfl⟩⟩
        · exact ⟨_, _, ex, by simp, fun a' ha _ => by cases ha; exact ⟨b, N, h1, h2, rfl⟩⟩
    | none =>
      generalize ρ' d = z at hd
      cases hd with
      | scal h => exact ⟨_, _, rfl, by simp, fun _ h => by cases h⟩
  -- the source
  have hs' : ∃ B c', ρ' s = .slice B m c' ∧ ∃ e', P.underlying tx = some (.slice e') ∧ ∃ xs', ValL μ xs xs' ∧ xs.length = m * size ∧ (∀ k, k ≤ m → (Builtin.firstCells size k (ρ' s)).run P w = .ok (xs'.take (k * size)).toArray w) := by
    cases hse : ρ s with
    | slice B m0 c0 =>
      rw [hse] at hsrc hs
      dsimp only at hsrc
      unfold srcOf at hsrc
      split at hsrc
      · rename_i e' a n1 c1 hk hes
        cases hes
        cases hr : readN σ a (m0 * size) with
        | none => rw [hr] at hsrc; cases hsrc
        | some vs =>
          rw [hr] at hsrc
          obtain ⟨rfl, rfl⟩ := Prod.mk.inj (Option.some.inj hsrc)
          rcases hs.sl_inv with ⟨_, rfl, a', c', ex⟩ | ⟨b, N, h1, h2, h⟩
          · have e0 : vs = [] := by
              unfold readN at hr
              split at hr
              · split at hr
                · cases hr; simp
                · cases hr
              · cases hr
            subst e0
            refine ⟨_, _, ex, e', hk, [], .nil, by simp, fun k hk => ?_⟩
            have : k = 0 := by omega
            subst this
            rw [ex]
            have := run_loadCells_list (P := P) w a' [] (fun j u hj => by simp at hj)
            simpa [Builtin.firstCells] using this
          · obtain ⟨_, vs', g1, g2, g3, _⟩ := read_sim hS h2 hr
            have ex : ∃ c', ρ' s = .slice (some ⟨b, a.off, none⟩) m0 c' := by
              rcases h with ⟨_, ex⟩ | ⟨_, _, c', _, _, _, _, _, _, _, ex⟩
              · exact ⟨_, ex⟩
              · exact ⟨_, ex⟩
            obtain ⟨c', ex⟩ := ex
            refine ⟨_, _, ex, e', hk, vs', g1, g2, fun k hk => ?_⟩
            rw [ex]
            have hkl : k * size ≤ m0 * size := Nat.mul_le_mul_right _ hk
            have hvl : vs'.length = m0 * size := g1.1.trans g2
            exact run_firstCells_some w size k _ m0 c' (vs'.take (k * size)) (by rw [List.length_take]; omega) (fun j u hj => by
              rw [Addr.add_lit]
              rw [List.getElem?_take] at hj
              split at hj
              · exact g3 j u hj
              · cases hj)
      · rename_i e' hk hes
        cases hes
        cases hsrc
        have ex := scalar_val (by rfl) hs
        refine ⟨_, _, ex, e', hk, [], .nil, by simp, fun k hk => ?_⟩
        have : k = 0 := by omega
        subst this
        rw [ex]
        simp [Builtin.firstCells]
      · rename_i hes; cases hes
      · cases hsrc
    | _ => rw [hse] at hsrc; cases hsrc
  obtain ⟨A', c', ed, hn, ha⟩ := hd'
  obtain ⟨B, c2, es, e', hk, xs', hv, hxl, hfirst⟩ := hs'
  have hmin : Nat.min m n ≤ m := Nat.min_le_left _ _
  have hf := hfirst (Nat.min m n) hmin
  rw [es] at hf
  constructor
  · intro h0
    rw [h0] at hf
    refine .same hS (.inl ?_) (.scal rfl)
    cases A' <;> simp [execOp, resolve, invoke, builtin, Builtin.copy_, ed, es, run_underlying hu, Builtin.lenOf, szOf_run hsz, h0, hf, goInt, storeCells]
  · intro a σ' eA hw
    by_cases h0 : Nat.min m n = 0
    · -- nothing goes over
      rw [h0] at hf hw ⊢
      have eσ : σ' = σ := by
        unfold writeN at hw
        split at hw
        · rename_i b hb
          split at hw
          · rename_i hc
            cases hw
            simp [splice, List.take_append_drop]
            apply List.ext_getElem?
            intro i
            rw [List.getElem?_set]
            split
            · rename_i ei
              subst ei
              split
              · rw [hb, ← hc.1]
              · rw [List.getElem?_eq_none (by omega)]
            · rfl
          · cases hw
        · cases hw
      rw [eσ]
      refine .same hS (.inl ?_) (.scal rfl)
      cases A' <;> simp [execOp, resolve, invoke, builtin, Builtin.copy_, ed, es, run_underlying hu, Builtin.lenOf, szOf_run hsz, h0, hf, goInt, storeCells]
    · obtain ⟨b, N, h1, h2, rfl⟩ := ha a eA h0
      obtain ⟨_, g1, g2, g3, _, g5, g6, g7⟩ := write_sim hS h2 hw (hv.take _)
      have hst := run_storeCells_cells (P := P) b a.off (xs'.take (Nat.min m n * size)) 0 w (by simpa using g5) (by simpa using g6) ((hv.take _).oneCell g7)
      refine ⟨_, _, μ, .inl ?_, .scal rfl, g1, g2, g3⟩
      simp [execOp, resolve, invoke, builtin, Builtin.copy_, ed, es, run_underlying hu, Builtin.lenOf, szOf_run hsz, hf, goInt]
      simp at hst
      simp [hst]
theorem clear_sound {t e : TypeId} {x : Operand} {A : Option Addr} {n c : Nat} (hS : Sim μ σ w.heap) (hx : Val μ (ρ x) (ρ' x)) (hu : P.underlying t = some (.slice e)) (hxe : ρ x = .slice A n c) :
    (n = 0 → Out P q ⟨dst, .call { callee := .builtin .clear, args := #[x], argTypes := #[t] }, type, pos, after, guard⟩ ρ' μ σ w undef σ) ∧
    (∀ a zs σ', n ≠ 0 → A = some a → zerosOf P e n = some zs → writeN σ a zs = some σ' → Out P false ⟨dst, .call { callee := .builtin .clear, args := #[x], argTypes := #[t] }, type, pos, after, guard⟩ ρ' μ σ w undef σ') := by
  rw [hxe] at hx
  constructor
  · intro h0
    subst h0
    have key : ∃ A' c', ρ' x = .slice A' 0 c' := by
      cases A with
      | some a => obtain ⟨a', c', e⟩ := hx.slice_inv; exact ⟨_, _, e⟩
      | none =>
        generalize ρ' x = z at hx
        cases hx with
        | scal h => exact ⟨_, _, rfl⟩
    obtain ⟨A', c', ex⟩ := key
    refine .same hS (.inl ?_) .undef
    cases A' <;> simp [execOp, resolve, invoke, builtin, ex, Builtin.clear_, run_underlying hu, undef]
  · intro a zs σ' h0 eA hz hw
    subst eA
    obtain ⟨i, z, hi, hz1, hf, hzs, rfl⟩ := zerosOf_val hz
    rcases hx.sl_inv with ⟨_, rfl, _⟩ | ⟨b, N, h1, h2, h⟩
    · exact absurd rfl h0
    · have ex : ∃ c', ρ' x = .slice (some ⟨b, a.off, none⟩) n c' := by
        rcases h with ⟨_, ex⟩ | ⟨_, _, c', _, _, _, _, _, _, _, ex⟩
        · exact ⟨_, ex⟩
        · exact ⟨_, ex⟩
      obtain ⟨c', ex⟩ := ex
      have hvv : ValL μ (List.replicate n z.cells.toList).flatten (List.replicate n z.cells.toList).flatten := ⟨rfl, fun j v v' e1 e2 => by
        rw [e1] at e2; cases e2
        exact made_all (μ := μ) z.cells n (fun j v h => flat_cells hf h) j v e1⟩
      obtain ⟨_, g1, g2, g3, _, g5, g6, g7⟩ := write_sim hS h2 hw hvv
      have hst := run_storeCells_cells (P := P) b a.off _ 0 w (by simpa using g5) (by simpa using g6) (hvv.oneCell g7)
      have hzc : (Builtin.zeroCells z.cells n).toList = (List.replicate n z.cells.toList).flatten := by
        rw [← made_eq]; rfl
      refine ⟨_, _, μ, .inl ?_, .undef, g1, g2, g3⟩
      simp only [Nat.add_zero] at hst
      cases n with
      | zero => exact absurd rfl h0
      | succ n => simp [execOp, resolve, invoke, builtin, ex, Builtin.clear_, run_underlying hu, undef, zeroValue, typeInfo, hi, hz1, hzc, hst]
end
end Go.Proofs.Ytibejcomfjddfaa.AM
end
section
set_option maxHeartbeats 8000000
set_option linter.unusedVariables false
set_option linter.unusedSimpArgs false

/- An operation of the abstract machine promises the same operation of the model. -/
namespace Go.Proofs.Ytibejcomfjddfaa.AM
open Go
section
variable {P : Program} {q : Bool} {o : Oper} {ρ ρ' : Operand → Value} {μ : Mu} {σ σ' : Heap} {w w' : World} {v v' : Value}
theorem newBlkP_U {τ : Heap} {cs : List Value} {a : Addr} {p : Perm} (hb : newBlkP σ cs p = some (a, τ)) (hU : ∀ l, σ.length ≤ l → l < τ.length → μ l = none) : μ σ.length = none :=
  hU _ (Nat.le_refl _) (by rw [(newBlkP_spec hb).2.1]; simp)
theorem newBlk_U {τ : Heap} {cs : List Value} {a : Addr} (hb : newBlk σ cs = some (a, τ)) (hU : ∀ l, σ.length ≤ l → l < τ.length → μ l = none) : μ σ.length = none :=
  hU _ (Nat.le_refl _) (by rw [(newBlk_spec hb).2.1]; simp)
set_option maxHeartbeats 1000000 in
theorem aop_sound (hS : Sim μ σ w.heap) (hU : ∀ l, σ.length ≤ l → l < σ'.length → μ l = none) (hρ : ∀ x ∈ o.op.operands, Val μ (ρ x) (ρ' x)) (h : aop P q ρ o σ = some (v, σ')) : Out P q o ρ' μ σ w v σ' := by
  have hsel : ∀ cs b, o.op ≠ .select cs b := fun cs b e => by unfold aop at h; rw [e] at h; cases h
  have hp : ∀ {r : Option (Value × Heap)}, r = (aPure P ρ o).map (·, σ) → r = some (v, σ') → Out P q o ρ' μ σ w v σ' := fun e h => aPure_map hS hρ hsel (e ▸ h)
  obtain ⟨dst, op, type, pos, after, guard⟩ := o
  cases op with
  | move x => simp only [aop] at h; cases h; exact move_sound hS (hρ x (by simp [Op.operands]))
  | assign x => simp only [aop] at h; cases h; exact assign_sound hS (hρ x (by simp [Op.operands]))
  | pick c a b =>
    simp only [aop] at h
    split at h
    · rename_i t ht
      cases h
      exact pick_sound hS (hρ c (by simp [Op.operands])) (hρ a (by simp [Op.operands])) (hρ b (by simp [Op.operands])) ht
    · cases h
  | extract x i =>
    simp only [aop] at h
    split at h
    · rename_i vs ht
      cases hi : vs[i]? with
      | none => rw [hi] at h; cases h
      | some u => rw [hi] at h; cases h; exact extract_sound hS (hρ x (by simp [Op.operands])) ht hi
    · cases h
  | nilCheck x =>
    have hx := hρ x (by simp [Op.operands])
    simp only [aop] at h
    split at h
    · rename_i a ht
      cases h
      rw [ht] at hx
      have hx0 := hx
      obtain ⟨b, N, h1, h2, e⟩ := hx.ptr_inv
      rw [e] at hx0
      exact .same hS (.inl (by simp [execOp, e])) hx0
    · rename_i f a b ht
      cases h
      rw [ht] at hx
      have hx0 := hx
      obtain ⟨a', b', e, _, _⟩ := hx.func_inv
      rw [e] at hx0
      exact .same hS (.inl (by simp [execOp, e])) hx0
    · cases h
  | alloc t =>
    simp only [aop] at h
    cases hz : zerosOf P t 1 with
    | none => rw [hz] at h; cases h
    | some zs =>
      rw [hz] at h
      cases hb : newBlk σ zs with
      | none => simp [hb] at h
      | some r =>
        obtain ⟨a, τ⟩ := r
        simp [hb] at h
        obtain ⟨rfl, rfl⟩ := h
        exact alloc_sound hS (newBlk_U hb hU) hz hb
  | box t x =>
    simp only [aop] at h
    cases hb : newBlk σ (ρ x).cells.toList with
    | none => rw [hb] at h; cases h
    | some r =>
      obtain ⟨a, τ⟩ := r
      rw [hb] at h
      cases h
      exact box_sound hS (newBlk_U hb hU) (hρ x (by simp [Op.operands])) hb
  | load t x =>
    simp only [aop] at h
    split at h
    · rename_i a ht
      cases hl : loadV P t σ a with
      | none => rw [hl] at h; cases h
      | some u => rw [hl] at h; cases h; exact load_sound hS (hρ x (by simp [Op.operands])) ht hl
    · cases h
  | store t x y =>
    simp only [aop] at h
    split at h
    · rename_i a n ht hn
      split at h
      · rename_i hc
        obtain ⟨rfl, hc⟩ := hc
        cases hw : writeN σ a (ρ y).cells.toList with
        | none => rw [hw] at h; cases h
        | some τ => rw [hw] at h; cases h; exact store_sound hS (hρ x (by simp [Op.operands])) (hρ y (by simp [Op.operands])) ht hn hc hw
      · cases h
    · cases h
  | fieldAddr t x f =>
    simp only [aop] at h
    split at h
    · rename_i a off ft ht hf
      split at h
      · rename_i k hk
        cases h
        exact fieldAddr_sound hS (hρ x (by simp [Op.operands])) ht hf hk
      · cases h
    · cases h
  | field t x f =>
    simp only [aop] at h
    split at h
    · rename_i cs off ft ht hf
      cases hl : partV P ft cs off with
      | none => rw [hl] at h; cases h
      | some u => rw [hl] at h; cases h; exact field_sound hS (hρ x (by simp [Op.operands])) ht hf hl
    · cases h
  | indexAddr t x i =>
    simp only [aop] at h
    split at h
    · rename_i e a n c k j hu h1 h2
      split at h
      · rename_i s hs
        split at h
        · rename_i hc
          cases h
          exact indexAddr_slice_sound hS (hρ x (by simp [Op.operands])) (hρ i (by simp [Op.operands])) hu h1 h2 hs hc.1 hc.2
        · cases h
      · cases h
    · rename_i n e a k j hu h1 h2
      split at h
      · rename_i s hs
        split at h
        · rename_i hc
          cases h
          exact indexAddr_array_sound hS (hρ x (by simp [Op.operands])) (hρ i (by simp [Op.operands])) hu h1 h2 hs hc.1 hc.2
        · cases h
      · cases h
    · cases h
  | index t x i =>
    simp only [aop] at h
    split at h
    · rename_i n e cs k j hu h1 h2
      split at h
      · rename_i s hs
        split at h
        · rename_i hc
          cases hl : partV P e cs (j.toNat * s) with
          | none => rw [hl] at h; cases h
          | some u => rw [hl] at h; cases h; exact index_sound hS (hρ x (by simp [Op.operands])) (hρ i (by simp [Op.operands])) hu h1 h2 hs hc.1 hc.2 hl
        · cases h
      · cases h
    · exact hp rfl h
  | slice t x lo hi mx =>
    simp only [aop] at h
    split at h
    · exact hp rfl h
    · cases hl : aSlice P t (ρ x) (lo.map ρ) (hi.map ρ) (mx.map ρ) with
      | none => rw [hl] at h; cases h
      | some u =>
        rw [hl] at h; cases h
        exact slice_sound hS (hρ x (by simp [Op.operands])) (fun y e => hρ y (by subst e; simp [Op.operands])) (fun y e => hρ y (by subst e; simp [Op.operands])) (fun y e => hρ y (by subst e; simp [Op.operands])) hl
  | makeFunc fn a b =>
    simp only [aop] at h
    split at h
    · cases h
      exact makeFunc_sound hS (fun x hx => hρ x (by simp [Op.operands, hx])) (fun x hx => hρ x (by simp [Op.operands, hx]))
    · cases h
  | makeInterface t x =>
    simp only [aop] at h
    split at h
    · rename_i hc
      cases h
      exact makeInterface_sound hS (hρ x (by simp [Op.operands])) hc
    · cases h
  | makeSlice t l c =>
    simp only [aop] at h
    split at h
    · rename_i e kl il kc ic hu h1 h2
      split at h
      · rename_i bytes hb
        split at h
        · rename_i hc
          cases hz : zerosOf P e ic.toNat with
          | none => rw [hz] at h; cases h
          | some zs =>
            rw [hz] at h
            cases hn : newBlk σ zs with
            | none => simp [hn] at h
            | some r =>
              obtain ⟨a, τ⟩ := r
              simp [hn] at h
              obtain ⟨rfl, rfl⟩ := h
              exact makeSlice_sound hS (newBlk_U hn hU) (hρ l (by simp [Op.operands])) (hρ c (by simp [Op.operands])) hu h1 h2 hb hc.1 hc.2.1 hc.2.2.1 hc.2.2.2 hz hn
        · cases h
      · cases h
    · cases h
  | build t parts =>
    have hparts : ∀ p ∈ parts, Val μ (ρ p.2) (ρ' p.2) := fun p hm => hρ p.2 (by
      simp only [Op.operands, List.mem_toArray, List.mem_map]
      exact ⟨p, by simpa using hm, rfl⟩)
    simp only [aop] at h
    split at h
    · rename_i z hz
      split at h
      · rename_i hc
        cases hb : P.built t (parts.map fun (i, x) => (i, ρ x)).toList with
        | none => rw [hb] at h; cases h
        | some cs => rw [hb] at h; cases h; exact build_sound hS hparts hc.2 hz hc.1 hb
      · cases h
    · cases h
  | buildSlice t len parts =>
    have hparts : ∀ p ∈ parts, Val μ (ρ p.2) (ρ' p.2) := fun p hm => hρ p.2 (by
      simp only [Op.operands, List.mem_toArray, List.mem_map]
      exact ⟨p, by simpa using hm, rfl⟩)
    simp only [aop] at h
    split at h
    · rename_i e hu
      split at h
      · rename_i s zs hs hz
        split at h
        · rename_i hc
          cases hf : Instr.fill (fun i => some (i * s, s)) zs.toArray (parts.map fun (i, x) => (i, ρ x)).toList with
          | none => rw [hf] at h; cases h
          | some cs =>
            rw [hf] at h
            cases hn : newBlkP σ cs.toList (slPerm P t parts) with
            | none => simp [hn] at h
            | some r =>
              obtain ⟨a, τ⟩ := r
              simp [hn] at h
              obtain ⟨rfl, rfl⟩ := h
              exact buildSlice_sound hS (newBlkP_U hn hU) hparts hc.2.2 hu hs hz hc.1 hc.2.1 hf hn
        · cases h
      · cases h
    · cases h
  | binOp op t x y ty =>
    have hx := hρ x (by simp [Op.operands])
    have hy := hρ y (by simp [Op.operands])
    simp only [aop] at h
    split at h
    · rename_i b hb
      cases h
      exact strEq_sound hS hx hy hb
    · split at h
      · exact hp rfl h
      · split at h
        · cases he : aEq P t (ρ x) (ρ y) with
          | none => rw [he] at h; cases h
          | some b => rw [he] at h; cases h; exact eql_sound hS hx hy he
        · cases he : aEq P t (ρ x) (ρ y) with
          | none => rw [he] at h; cases h
          | some b => rw [he] at h; cases h; exact neq_sound hS hx hy he
        · cases h
  | unOp op t x => simp only [aop] at h; exact hp rfl h
  | convert src dt x =>
    have hx := hρ x (by simp [Op.operands])
    simp only [aop] at h
    split at h
    · rename_i e A n c h1 h2 hxe
      split at h
      · rename_i h3
        split at h
        · rename_i a
          split at h
          · rename_i cs hr
            split at h
            · rename_i bs hb
              cases h
              exact toString_sound hS hx h1 h2 h3 hxe hr hb
            · cases h
          · cases h
        · split at h
          · rename_i hc
            cases h
            obtain ⟨rfl, rfl⟩ := hc
            exact nilString_sound hS hx h1 h2 h3 hxe
          · cases h
      · cases h
    · rename_i e0 e a n c h1 h2 hxe
      split at h
      · rename_i b h3 hb
        split at h
        · rename_i hc
          cases h
          have := sameBytes_sound (q := q) (dst := dst) (type := type) (pos := pos) (after := after) (guard := guard) hS hx h1 h2 h3 hc.1 hxe hb hc.2.1 hc.2.2
          rw [hxe] at this
          exact this
        · cases h
      · cases h
    · rename_i e s h1 h2 hxe
      split at h
      · rename_i h3
        split at h
        · rename_i hc
          cases hn : newBlkP σ (byteCells s) .byt with
          | none => rw [hn] at h; cases h
          | some r =>
            obtain ⟨a, τ⟩ := r
            rw [hn] at h; cases h
            exact toBytes_sound hS (newBlkP_U hn hU) hx h1 h2 h3 hxe hc hn
        · cases h
      · cases h
    · exact hp rfl h
  | call c =>
    obtain ⟨callee, args, argTypes⟩ := c
    cases callee with
    | builtin b =>
      have ha : ∀ {l : List Operand}, args.toList = l → args = l.toArray := fun e => by rw [← e]
      have ht : ∀ {l : List TypeId}, argTypes.toList = l → argTypes = l.toArray := fun e => by rw [← e]
      simp only [aop] at h
      split at h
      · rename_i s x t tx e1 e2
        obtain rfl := ha e1
        obtain rfl := ht e2
        exact app_sound hS hU (hρ s (by simp [Op.operands, Call.operands])) (hρ x (by simp [Op.operands, Call.operands])) h
      · rename_i x t e1 e2
        obtain rfl := ha e1
        obtain rfl := ht e2
        split at h
        · rename_i e A n c hu hxe
          cases h
          exact len_slice_sound hS (hρ x (by simp [Op.operands, Call.operands])) hu hxe
        · rename_i n e hu
          cases h
          exact len_array_sound hS hu
        · exact hp rfl h
      · rename_i x t e1 e2
        obtain rfl := ha e1
        obtain rfl := ht e2
        split at h
        · rename_i e A n c hu hxe
          split at h
          · rename_i hc
            cases h
            exact cap_sound hS (hρ x (by simp [Op.operands, Call.operands])) hu hxe hc
          · cases h
        · cases h
      · rename_i d s t tx e1 e2
        obtain rfl := ha e1
        obtain rfl := ht e2
        split at h
        · cases h
        · rename_i hq
          have hq : q = false := by simpa using hq
          subst hq
          split at h
          · rename_i e A n c hu hde
            split at h
            · rename_i size hsz
              split at h
              · rename_i m xs hsrc
                obtain ⟨k1, k2⟩ := copy_sound (q := false) (dst := dst) (type := type) (pos := pos) (after := after) (guard := guard) hS (hρ d (by simp [Op.operands, Call.operands])) (hρ s (by simp [Op.operands, Call.operands])) hu hde hsz hsrc
                split at h
                · rename_i h0
                  cases h
                  exact k1 h0
                · split at h
                  · rename_i a
                    cases hw : writeN σ a (xs.take (Nat.min m n * size)) with
                    | none => rw [hw] at h; cases h
                    | some τ => rw [hw] at h; cases h; exact k2 _ _ rfl hw
                  · cases h
              · cases h
            · cases h
          · cases h
      · rename_i x t e1 e2
        obtain rfl := ha e1
        obtain rfl := ht e2
        split at h
        · cases h
        · rename_i hq
          have hq : q = false := by simpa using hq
          subst hq
          split at h
          · rename_i e A n c hu hxe
            obtain ⟨k1, k2⟩ := clear_sound (q := false) (dst := dst) (type := type) (pos := pos) (after := after) (guard := guard) hS (hρ x (by simp [Op.operands, Call.operands])) hu hxe
            split at h
            · rename_i h0
              cases h
              exact k1 h0
            · rename_i h0
              split at h
              · rename_i a
                cases hz : zerosOf P e n with
                | none => rw [hz] at h; cases h
                | some zs =>
                  rw [hz] at h
                  cases hw : writeN σ a zs with
                  | none => simp [hw] at h
                  | some τ =>
                    simp [hw] at h
                    obtain ⟨rfl, rfl⟩ := h
                    exact k2 _ _ _ h0 rfl hz hw
              · cases h
          · cases h
      · exact hp rfl h
    | value x => simp only [aop] at h; cases h
    | invoke r m => simp only [aop] at h; cases h
  | _ => simp only [aop] at h; cases h
end
end Go.Proofs.Ytibejcomfjddfaa.AM
end
section
set_option maxHeartbeats 8000000
set_option linter.unusedVariables false
set_option linter.unusedSimpArgs false

/- Code of the abstract machine promises code of the model: guards, operations in order, calls, loops. -/
namespace Go.Proofs.Ytibejcomfjddfaa.AM
open Go
section
variable {P : Program} {q : Bool} {o : Oper} {μ : Mu} {σ σ' : Heap} {w w' : World} {v v' : Value} {e e' : Env} {a : Act}

def EnvR (μ : Mu) (e : Env) (a : Act) : Prop := ∀ i, Val μ (e i) (a.tmps.getD i undef)
theorem EnvR.mono {μ μ' : Mu} (h : ∀ l b, μ l = some b → μ' l = some b) (he : EnvR μ e a) : EnvR μ' e a := fun i => (he i).mono h
theorem ev_val' {x : Operand} (hg : ∀ p ∈ gcells, ∃ N, μ p.1 = some (p.1, N)) (hk : okOperand x = true) (he : ∀ t, x = .tmp t → Val μ (e t) (a.tmps.getD t undef)) : Val μ (ev e x) (a.eval x) := by
  cases x with
  | tmp t => exact he t rfl
  | const v => exact val_flat hk
  | global g =>
    simp only [okOperand, List.any_eq_true, beq_iff_eq] at hk
    obtain ⟨p, hp, rfl⟩ := hk
    obtain ⟨N, hN⟩ := hg p hp
    exact .ptr hN
  | func f => exact .func rfl rfl (fun i v v' h => by simp at h) (fun i v v' h => by simp at h)
theorem ev_val {x : Operand} (hg : ∀ p ∈ gcells, ∃ N, μ p.1 = some (p.1, N)) (hk : okOperand x = true) (he : EnvR μ e a) : Val μ (ev e x) (a.eval x) := ev_val' hg hk fun t _ => he t
theorem put_size (a : Act) (d : Option Tmp) (v : Value) : (a.put d v).tmps.size = a.tmps.size := by cases d <;> simp [Act.put]
theorem put_defers (a : Act) (d : Option Tmp) (v : Value) : (a.put d v).defers = a.defers := by cases d <;> rfl
theorem upd_env {d : Option Tmp} (he : EnvR μ e a) (hv : Val μ v v') (hd : ∀ i, d = some i → i < a.tmps.size) : EnvR μ (upd e d v) (a.put d v') := by
  cases d with
  | none => exact he
  | some i =>
    intro j
    have := hd i rfl
    simp only [upd, Act.put]
    by_cases ej : j = i
    · subst ej; simp [this]; exact hv
    · rw [if_neg ej]
      have h := he j
      simpa [Array.getElem?_setIfInBounds, Ne.symm ej] using h

/-- What a call of the abstract machine's promises. -/
def HasBody (P : Program) (f : FuncId) : Prop := ∃ fn c, P.funcs[f]? = some fn ∧ fn.body = some c ∧ fn.name ≠ "runtime.NumGoroutine"
/-- A function of the model's own, that answers at once. -/
def ExtOk (P : Program) (f : FuncId) (args : Array Value) (σ : Heap) (v : Value) (σ' : Heap) : Prop :=
  σ' = σ ∧ ∀ args' μ w, ValL μ args.toList args'.toList → Sim μ σ w.heap → ∃ v', (callFunc f args').run P w = .ok (.value v') w ∧ Val μ v v'
def CallOk (P : Program) (call : CallF) : Prop := ∀ f args σ v σ', call f args σ = some (v, σ') →
  (HasBody P f ∨ ExtOk P f args σ v σ') ∧ Le σ σ' ∧
  (HasBody P f → ∀ args' μ w, ValL μ args.toList args'.toList → Sim μ σ w.heap → (∀ l, σ.length ≤ l → l < σ'.length → μ l = none) →
    Calls P f args' w fun e w' => ∃ v' μ', e = .returned v' ∧ Val μ' v v' ∧ Sim μ' σ' w'.heap ∧ Fr false μ σ w μ' σ' w')

theorem lock_get (σ : Heap) (l : Nat) : (lock σ)[l]? = (σ[l]?).map fun b => { b with perm := if b.perm.own = true then .ro else b.perm } := by simp [lock]
theorem lock_len (σ : Heap) : (lock σ).length = σ.length := by simp [lock]
theorem lock_full {l : Nat} : ¬ isFull (lock σ) l := by
  rintro ⟨x, h, hp⟩
  rw [lock_get] at h
  cases hx : σ[l]? with
  | none => rw [hx] at h; cases h
  | some y =>
    rw [hx] at h; cases h
    simp only at hp
    split at hp
    · cases hp
    · exact absurd hp ‹_›
theorem lock_sim {h : Array Obj} (hS : Sim μ σ h) : Sim μ (lock σ) h := by
  refine ⟨hS.lt, fun l1 l2 b N1 N2 _ _ _ hf _ => lock_full hf, fun l b N x hm hx hd => ?_, hS.glob⟩
  rw [lock_get] at hx
  cases hy : σ[l]? with
  | none => rw [hy] at hx; cases hx
  | some y =>
    rw [hy] at hx; cases hx
    have hd' : y.perm ≠ .dead := fun e => hd (by simp [e, Perm.own])
    obtain ⟨c, elem, fr, k1, k0, k2, k3⟩ := hS.blk l b N y hm hy hd'
    refine ⟨c, elem, fr, k1, k0, fun hp => ?_, k3⟩
    simp only at hp
    split at hp
    · cases hp
    · exact k2 hp
/-- Behind a call that might change nothing that stands. -/
theorem quiet_back {τ : Heap} {μ' : Mu} (hS : Sim μ σ w.heap) (hle : Le (lock σ) τ) (hT : Sim μ' τ w'.heap) (hF : Fr false μ (lock σ) w μ' τ w') (hU : ∀ l, σ.length ≤ l → l < τ.length → μ l = none) :
    Sim μ' (σ ++ τ.drop σ.length) w'.heap ∧ Fr q μ σ w μ' (σ ++ τ.drop σ.length) w' ∧ Le σ (σ ++ τ.drop σ.length) := by
  have hlen : σ.length ≤ τ.length := by have := hle.len; rwa [lock_len] at this
  have hlt : (σ ++ τ.drop σ.length).length = τ.length := by simp; omega
  have same : ∀ b, b < w.heap.size → w'.heap[b]? = w.heap[b]? := fun b hb => hF.keep b hb (fun l N _ hf => lock_full hf)
  have gl : ∀ l, l < σ.length → (σ ++ τ.drop σ.length)[l]? = σ[l]? := fun l h => List.getElem?_append_left h
  have gr : ∀ l, σ.length ≤ l → (σ ++ τ.drop σ.length)[l]? = τ[l]? := fun l h => by
    rw [List.getElem?_append_right h, List.getElem?_drop]; congr 1; omega
  have newf : ∀ l b N, σ.length ≤ l → l < τ.length → μ' l = some (b, N) → w.heap.size ≤ b := fun l b N h1 h2 h => by
    rcases hF.new l b N h with h | ⟨_, _, h | ⟨l0, _, h0, _⟩⟩
    · rw [hU l h1 h2] at h; cases h
    · exact h
    · exact absurd h0 lock_full
  have oldm : ∀ l b N, (l < σ.length ∨ τ.length ≤ l) → μ' l = some (b, N) → μ l = some (b, N) := fun l b N h1 h => by
    rcases hF.new l b N h with h | ⟨h2, h3, _⟩
    · exact h
    · rw [lock_len] at h2; omega
  refine ⟨⟨hT.lt, fun l1 l2 b N1 N2 hne h1 h2 hf ha => ?_, fun l b N x hm hx hd => ?_, hT.glob⟩, ⟨hF.ext, fun l b N h => ?_, fun b hb _ => same b hb, fun _ l b N hm _ => .of_eq (same b (hS.lt l b N hm)), hF.size, hF.os, hF.tape, hF.output⟩, ⟨by simp, fun l x h => ⟨x, by rw [gl l (get_lt h)]; exact h, fun _ => rfl, fun _ => rfl, id⟩⟩⟩
  · rcases Nat.lt_or_ge l1 σ.length with c1 | c1
    · have m1 := oldm l1 b N1 (.inl c1) h1
      have f1 : isFull σ l1 := by obtain ⟨x, hx, hp⟩ := hf; rw [gl l1 c1] at hx; exact ⟨x, hx, hp⟩
      rcases Nat.lt_or_ge l2 σ.length with c2 | c2
      · have m2 := oldm l2 b N2 (.inl c2) h2
        refine hS.inj l1 l2 b N1 N2 hne m1 m2 f1 ?_
        rcases ha with ⟨x, hx, hp⟩ | ha
        · rw [gl l2 c2] at hx; exact .inl ⟨x, hx, hp⟩
        · rw [hlt] at ha; omega
      · rcases Nat.lt_or_ge l2 τ.length with c3 | c3
        · have := newf l2 b N2 c2 c3 h2
          have := hS.lt _ _ _ m1
          omega
        · exact hS.inj l1 l2 b N1 N2 hne m1 (oldm l2 b N2 (.inr c3) h2) f1 (.inr c2)
    · have f1 : isFull τ l1 := by obtain ⟨x, hx, hp⟩ := hf; rw [gr l1 c1] at hx; exact ⟨x, hx, hp⟩
      have c1' : l1 < τ.length := by obtain ⟨x, hx, _⟩ := f1; exact get_lt hx
      have n1 := newf l1 b N1 c1 c1' h1
      rcases Nat.lt_or_ge l2 σ.length with c2 | c2
      · have := hS.lt _ _ _ (oldm l2 b N2 (.inl c2) h2)
        omega
      · refine hT.inj l1 l2 b N1 N2 hne h1 h2 f1 ?_
        rcases ha with ⟨x, hx, hp⟩ | ha
        · rw [gr l2 c2] at hx; exact .inl ⟨x, hx, hp⟩
        · rw [hlt] at ha; exact .inr ha
  · rcases Nat.lt_or_ge l σ.length with c1 | c1
    · rw [gl l c1] at hx
      have m1 := oldm l b N (.inl c1) hm
      obtain ⟨c, elem, fr, k1, k0, k2, k3⟩ := hS.blk l b N x m1 hx hd
      refine ⟨c, elem, fr, by rw [same b (hS.lt _ _ _ m1)]; exact k1, k0, k2, fun j u hj => ?_⟩
      obtain ⟨u', g1, g2⟩ := k3 j u hj
      exact ⟨u', g1, g2.mono hF.ext⟩
    · rw [gr l c1] at hx
      exact hT.blk l b N x hm hx hd
  · rcases hF.new l b N h with h | ⟨h2, h3, h⟩
    · exact .inl h
    · rcases h with h | ⟨l0, _, h0, _⟩
      · exact .inr ⟨by rwa [lock_len] at h2, by rw [hlt]; exact h3, .inl h⟩
      · exact absurd h0 lock_full

theorem goCall_spec {ρ : Operand → Value} {op : Op} {f : FuncId} {args : Array Value} (h : goCall ρ op = some (f, args)) :
    ∃ x as ts fi cp, op = .call { callee := .value x, args := as, argTypes := ts } ∧ ρ x = .func (.func f) fi cp ∧ args = fi ++ as.map ρ ++ cp := by
  unfold goCall at h
  split at h
  · rename_i x as ts
    split at h
    · rename_i f' fi cp hx
      cases h
      exact ⟨x, as, ts, fi, cp, rfl, hx, rfl⟩
    · cases h
  · cases h
theorem yielded_spec {ops : Array Oper} {j : Nat} {want : Bool} {g : Option (Nat × Bool)} (he : ∀ t ∈ Oper.looksAt ops o, Val μ (e t) (a.tmps.getD t undef)) (hg : o.guard = some (j, want)) {b : Bool} (h : wantedA ops o e = some b) :
    Region.wanted o (yielded ops a.tmps) = b := by
  unfold wantedA at h
  rw [hg] at h
  simp only [Region.wanted, hg, yielded]
  dsimp only at h
  cases hd : (ops[j]?).bind (·.dst) with
  | none => rw [hd] at h; simp at h; subst h; simp
  | some d =>
    rw [hd] at h
    dsimp only at h
    have hv := he d (by simp [Oper.looksAt, hg, hd])
    simp only [Option.bind_some]
    cases hed : e d with
    | bool t =>
      rw [hed] at h hv
      simp at h
      have := hv.bool
      have hget : a.tmps[d]? = some (.bool t) := by
        rw [Array.getD_eq_getD_getElem?] at this
        cases hx : a.tmps[d]? with
        | none => rw [hx] at this; cases this
        | some y => rw [hx] at this; simp at this; rw [this]
      rw [hget]
      subst h
      simp
    | chan r =>
      cases r with
      | some r => rw [hed] at h; simp at h
      | none =>
        rw [hed] at h hv
        simp at h
        have := scalar_val (by rfl) hv
        rw [Array.getD_eq_getD_getElem?] at this
        cases hx : a.tmps[d]? with
        | none => rw [hx] at this; cases this
        | some y => rw [hx] at this; simp at this; rw [this]; subst h; simp
    | _ =>
      rw [hed] at h hv
      simp at h
      subst h
      have key : ∀ t, a.tmps[d]? ≠ some (.bool t) := fun t hx => by
        rw [Array.getD_eq_getD_getElem?, hx] at hv
        cases hv <;> first | (rename_i hs; simp [scalarB] at hs; done) | skip
      split
      · rename_i t hx; exact absurd hx (key t)
      · rfl
theorem wanted_spec {ops : Array Oper} (he : ∀ t ∈ Oper.looksAt ops o, Val μ (e t) (a.tmps.getD t undef)) {b : Bool} (h : wantedA ops o e = some b) : Region.wanted o (yielded ops a.tmps) = b := by
  cases hg : o.guard with
  | none => unfold wantedA at h; rw [hg] at h; simp at h; subst h; simp [Region.wanted, hg]
  | some jw => obtain ⟨j, want⟩ := jw; exact yielded_spec (g := none) he hg h

/-- What an answer of the abstract machine leaves of memory. -/
def LeO (σ : Heap) (r : Option (Value × Heap)) : Prop := ∀ v σ', r = some (v, σ') → Le σ σ'
theorem LeO.none : LeO σ none := fun v σ' h => by cases h
theorem LeO.same {u : Value} : LeO σ (some (u, σ)) := fun v σ' h => by cases h; exact .refl _
theorem LeO.mapS {r : Option Value} : LeO σ (r.map (·, σ)) := fun v σ' h => by cases r <;> cases h; exact .refl _
theorem LeO.mapG {α : Type} {r : Option α} {f : α → Value} : LeO σ (r.map fun x => (f x, σ)) := fun v σ' h => by cases r <;> cases h; exact .refl _
theorem LeO.newP {cs : List Value} {p : Perm} {f : Addr × Heap → Value × Heap} (hf : ∀ p, (f p).2 = p.2) : LeO σ ((newBlkP σ cs p).map f) := fun v σ' h => by
  cases hb : newBlkP σ cs p with
  | none => rw [hb] at h; cases h
  | some r =>
    obtain ⟨a, τ⟩ := r
    rw [hb] at h
    have h := Option.some.inj h
    have := hf (a, τ)
    rw [h] at this
    simp only at this
    rw [this, (newBlkP_spec hb).2.1]; exact .snoc _ _
theorem LeO.newPB {α : Type} {r : Option α} {p : Perm} {g : α → List Value} {f : Addr × Heap → Value × Heap} (hf : ∀ p, (f p).2 = p.2) : LeO σ (r.bind fun x => (newBlkP σ (g x) p).map f) := fun v σ' h => by
  cases r with
  | none => cases h
  | some x => exact LeO.newP hf v σ' h
theorem LeO.new {cs : List Value} {f : Addr × Heap → Value × Heap} (hf : ∀ p, (f p).2 = p.2) : LeO σ ((newBlk σ cs).map f) := fun v σ' h => by
  cases hb : newBlk σ cs with
  | none => rw [hb] at h; cases h
  | some r =>
    obtain ⟨a, τ⟩ := r
    rw [hb] at h
    have h := Option.some.inj h
    have := hf (a, τ)
    rw [h] at this
    simp only at this
    rw [this, (newBlk_spec hb).2.1]; exact .snoc _ _
theorem LeO.newB {α : Type} {r : Option α} {g : α → List Value} {f : Addr × Heap → Value × Heap} (hf : ∀ p, (f p).2 = p.2) : LeO σ (r.bind fun x => (newBlk σ (g x)).map f) := fun v σ' h => by
  cases r with
  | none => cases h
  | some x => exact LeO.new hf v σ' h
theorem LeO.hand {l : Nat} {b : Blk} {cs : List Value} {f : Addr × Heap → Value × Heap} (hf : ∀ p, (f p).2 = p.2) (hb : σ[l]? = some b) (hp : b.perm = .full) : LeO σ ((newBlk (AM.kill σ l) cs).map f) := fun v σ' h => by
  have h1 := LeO.new (σ := AM.kill σ l) hf v σ' h
  exact (Le.kill σ l (fun z hz => by rw [hb] at hz; cases hz; rw [hp]; simp)).trans h1
theorem writeN_le {ad : Addr} {vs : List Value} {τ : Heap} (h : writeN σ ad vs = some τ) : Le σ τ := by
  unfold writeN at h
  split at h
  · rename_i b hb
    split at h
    · rename_i hc
      cases h
      refine ⟨by simp, fun l y hy => ?_⟩
      rw [List.getElem?_set]
      split
      · rename_i e2
        first | rw [if_pos (by rw [e2]; exact get_lt hy)] | skip
        subst e2
        rw [hb] at hy; cases hy
        exact ⟨_, rfl, fun _ => hc.1, fun h => (by rw [hc.1] at h; cases h), fun h => (by rw [hc.1] at h; cases h)⟩
      · exact ⟨y, hy, fun _ => rfl, fun _ => rfl, id⟩
    · cases h
  · cases h
theorem LeO.write {ad : Addr} {vs : List Value} {u : Value} : LeO σ ((writeN σ ad vs).map fun τ => (u, τ)) := fun v σ' h => by
  cases hb : writeN σ ad vs with
  | none => rw [hb] at h; cases h
  | some τ => rw [hb] at h; cases h; exact writeN_le hb
theorem LeO.writeB {α : Type} {r : Option α} {ad : Addr} {g : α → List Value} {u : Value} : LeO σ (r.bind fun x => (writeN σ ad (g x)).map fun τ => (u, τ)) := fun v σ' h => by
  cases r with
  | none => cases h
  | some x => exact LeO.write v σ' h
theorem append_le {t tx : TypeId} {s x : Value} : LeO σ (aAppend P q t tx s x σ) := by
  unfold aAppend
  repeat' split
  all_goals first
    | exact LeO.none
    | exact LeO.same
    | exact LeO.new (fun _ => rfl)
    | exact LeO.write
    | exact LeO.hand (fun _ => rfl) (by assumption) (by simp_all)
theorem zeros_le {t : TypeId} {s x : Value} : LeO σ (aZeros P t s x σ) := by
  unfold aZeros
  repeat' split
  all_goals first
    | exact LeO.none
    | exact LeO.new (fun _ => rfl)
theorem app_le {t tx : TypeId} {s x : Value} : LeO σ (aApp P q t tx s x σ) := by
  unfold aApp
  split
  · exact zeros_le
  · exact append_le
theorem aop_le {ρ : Operand → Value} : LeO σ (aop P q ρ o σ) := by
  unfold aop
  repeat' split
  all_goals first
    | exact LeO.none
    | exact LeO.same
    | exact LeO.mapS
    | exact LeO.mapG
    | exact LeO.new (fun _ => rfl)
    | exact LeO.newB (fun _ => rfl)
    | exact LeO.newP (fun _ => rfl)
    | exact LeO.newPB (fun _ => rfl)
    | exact LeO.write
    | exact LeO.writeB
    | exact app_le
end
end Go.Proofs.Ytibejcomfjddfaa.AM
end
