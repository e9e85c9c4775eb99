/- Words of the walks over the abstract machine: this seat's calls whose answer is known. -/
import Derived.Test.YtenbclcfhjdcaaaAMt
namespace Go.Proofs.Ytenbclcfhjdcaaa.AM
open Go Go.Proofs
def prims : CallF := knownPrim [(25, .bool true)]
theorem mixed : Try.prog.follows .mixedOrders = true := by kernel_rfl
def isTrue : Option (Value × Heap) → Bool
  | some (.bool true, _) => true
  | _ => false
theorem of_isTrue {r : Option (Value × Heap)} (h : isTrue r = true) : ∃ τ, r = some (.bool true, τ) := by
  unfold isTrue at h
  split at h
  · exact ⟨_, rfl⟩
  · cases h
set_option maxRecDepth 1000000 in
theorem prims_ok : CallOk Try.prog prims := by
  refine knownPrim_ok mixed noPrim_ok _ fun p hp => ?_
  simp at hp
  subst hp
  obtain ⟨τ, h⟩ := of_isTrue (r := acall Try.prog noPrim 200 25 #[] []) (by decide +kernel)
  exact ⟨rfl, 200, τ, h⟩
/-- A call that leaves what stands, and answers v. -/
def Ans (f : FuncId) (args : Array Value) (σ : Heap) (v : Value) : Prop := AC Try.prog prims f args σ fun u σ' => u = v ∧ ∃ τ, σ' = σ ++ τ
theorem Ans.mk {f : FuncId} {args : Array Value} {σ : Heap} {v : Value} (h : AC Try.prog prims f args σ fun u σ' => u = v ∧ ∃ τ, σ' = σ ++ τ) : Ans f args σ v := h
/-- At a call. -/
theorem Ans.call {f : FuncId} {args : Array Value} {σ : Heap} {v : Value} {R : Value → Heap → Prop} (h : Ans f args σ v) (hr : ∀ τ, R v (σ ++ τ)) : @CALL Try.prog prims f args σ ⟨R⟩ :=
  CALL.of h fun _ _ ⟨e, τ, e2⟩ => by subst e; subst e2; exact hr τ
theorem ex_app (σ : Heap) (τ : Heap) : ∃ ρ, σ ++ τ = σ ++ ρ := ⟨τ, rfl⟩
theorem ex_nil (σ : Heap) : ∃ ρ : Heap, σ = σ ++ ρ := ⟨[], by simp⟩
@[simp] theorem ex_self (σ : Heap) : (∃ ρ : Heap, σ = σ ++ ρ) ↔ True := ⟨fun _ => trivial, fun _ => ex_nil σ⟩
@[simp] theorem ex_same (σ τ : Heap) : (∃ ρ : Heap, τ = ρ) ↔ True := ⟨fun _ => trivial, fun _ => ⟨τ, rfl⟩⟩
end Go.Proofs.Ytenbclcfhjdcaaa.AM
