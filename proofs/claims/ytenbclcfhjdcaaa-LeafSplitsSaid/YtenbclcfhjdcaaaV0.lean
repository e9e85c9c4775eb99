/- Words of the walks over the machine of values. -/
import Derived.Test.YtenbclcfhjdcaaaL0
import Derived.Test.YtenbclcfhjdcaaaVMn
namespace Go.Proofs.Ytenbclcfhjdcaaa.VM
open Go Go.Proofs AM
theorem hC (n : Nat) : CallOk Try.prog (acall Try.prog prims n) := acall_sound mixed prims_ok n
theorem kn_none {f : FuncId} {l : List (FuncId × Value)} {xs : Array Value} {σ : Heap} (h : l.find? (·.1 == f) = none) : knownPrim l f xs σ = none := by
  unfold knownPrim
  rw [h]
  split <;> rfl
theorem w64 {n : Int} (h : -9223372036854775808 ≤ n ∧ n ≤ 9223372036854775807) : IntKind.i64.wrap n = n := IntWalk.i64_in n h
abbrev A (f : FuncId) (args : List V) (v : V) : Prop := Ans Try.prog prims f args v
abbrev AO (f : FuncId) (args : List V) (s : Nat) (rows : List (List V)) : Prop := AnsO Try.prog prims f args s rows
abbrev AK (f : FuncId) (args : List V) (v : Nat → V) (y : Ob) : Prop := AnsK Try.prog prims f args v y
def bo (b : Bool) : V := .lit (.bool b)
def i6 (n : Int) : V := .lit (.int .i64 n)
@[simp] theorem take_map_len {α β : Type} {f : α → β} {l : List α} : (l.map f).take l.length = l.map f := List.take_of_length_le (by simp)
attribute [simp] bo i6
end Go.Proofs.Ytenbclcfhjdcaaa.VM
