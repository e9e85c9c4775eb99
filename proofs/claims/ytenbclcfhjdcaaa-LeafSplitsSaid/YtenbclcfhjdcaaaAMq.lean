/- Quiet operations: what they leave, and that their order doesn't matter. -/
import Derived.Test.YtenbclcfhjdcaaaAMl
namespace Go.Proofs.Ytenbclcfhjdcaaa.AM
open Go
section
variable {P : Program} {o : Oper} {μ μ' : Mu} {σ σ' τ : Heap} {w w' : World} {v v' : Value} {e e' : Env} {a : Act} {call : CallF} {ops : Array Oper}

/-- Contents stay. -/
def Same (σ σ' : Heap) : Prop := ∀ (l : Nat) (x x' : Blk), σ[l]? = some x → σ'[l]? = some x' → x'.cells = x.cells
theorem Same.refl (σ : Heap) : Same σ σ := fun l x x' h1 h2 => by rw [h1] at h2; cases h2; rfl
theorem Same.trans {a b c : Heap} (hl : Le a b) (h1 : Same a b) (h2 : Same b c) : Same a c := fun l x x' g1 g2 => by
  obtain ⟨y, hy, _⟩ := hl.blk l x g1
  rw [h2 l y x' hy g2, h1 l x y g1 hy]
theorem Same.snoc (σ : Heap) (y : Blk) : Same σ (σ ++ [y]) := fun l x x' h1 h2 => by
  rw [List.getElem?_append_left (get_lt h1), h1] at h2; cases h2; rfl
theorem Same.kill (σ : Heap) (l : Nat) : Same σ (kill σ l) := fun k x x' h1 h2 => by
  rw [kill_get, h1] at h2
  split at h2 <;> (cases h2; rfl)
def SaO (σ : Heap) (r : Option (Value × Heap)) : Prop := ∀ v σ', r = some (v, σ') → Same σ σ'
theorem SaO.none : SaO σ none := fun v σ' h => by cases h
theorem SaO.same {u : Value} : SaO σ (some (u, σ)) := fun v σ' h => by cases h; exact .refl _
theorem SaO.mapS {r : Option Value} : SaO σ (r.map (·, σ)) := fun v σ' h => by cases r <;> cases h; exact .refl _
theorem SaO.mapG {α : Type} {r : Option α} {f : α → Value} : SaO σ (r.map fun x => (f x, σ)) := fun v σ' h => by cases r <;> cases h; exact .refl _
theorem newBlk_map {cs : List Value} {f : Addr × Heap → Value × Heap} (hf : ∀ p, (f p).2 = p.2) (h : (newBlk σ cs).map f = some (v, σ')) : σ' = σ ++ [⟨cs, .full⟩] := by
  cases hb : newBlk σ cs with
  | none => rw [hb] at h; cases h
  | some r =>
    obtain ⟨a, τ⟩ := r
    rw [hb] at h
    have h := Option.some.inj h
    have := hf (a, τ)
    rw [h] at this
    simp only at this
    rw [this, (newBlk_spec hb).2.1]
theorem SaO.new {cs : List Value} {f : Addr × Heap → Value × Heap} (hf : ∀ p, (f p).2 = p.2) : SaO σ ((newBlk σ cs).map f) := fun v σ' h => by rw [newBlk_map hf h]; exact .snoc _ _
theorem SaO.newB {α : Type} {r : Option α} {g : α → List Value} {f : Addr × Heap → Value × Heap} (hf : ∀ p, (f p).2 = p.2) : SaO σ (r.bind fun x => (newBlk σ (g x)).map f) := fun v σ' h => by
  cases r with
  | none => cases h
  | some x => exact SaO.new hf v σ' h
theorem SaO.hand {l : Nat} {cs : List Value} {f : Addr × Heap → Value × Heap} (hf : ∀ p, (f p).2 = p.2) : SaO σ ((newBlk (AM.kill σ l) cs).map f) := fun v σ' h => by
  rw [newBlk_map hf h]
  intro k x x' h1 h2
  rw [List.getElem?_append_left (by rw [kill_len]; exact get_lt h1)] at h2
  exact Same.kill σ l k x x' h1 h2
theorem append_same {t tx : TypeId} {s x : Value} : SaO σ (aAppend P true t tx s x σ) := by
  unfold aAppend
  repeat' split
  all_goals first
    | exact SaO.none
    | exact SaO.same
    | exact SaO.new (fun _ => rfl)
    | exact SaO.hand (fun _ => rfl)
    | (simp_all; done)
theorem zeros_same {t : TypeId} {s x : Value} : SaO σ (aZeros P t s x σ) := by
  unfold aZeros
  repeat' split
  all_goals first
    | exact SaO.none
    | exact SaO.new (fun _ => rfl)
theorem app_same {t tx : TypeId} {s x : Value} : SaO σ (aApp P true t tx s x σ) := by
  unfold aApp
  split
  · exact zeros_same
  · exact append_same
theorem aop_same {ρ : Operand → Value} : SaO σ (aop P true ρ o σ) := by
  unfold aop
  repeat' split
  all_goals first
    | exact SaO.none
    | exact SaO.same
    | exact SaO.mapS
    | exact SaO.mapG
    | exact SaO.new (fun _ => rfl)
    | exact SaO.newB (fun _ => rfl)
    | exact app_same
    | (simp_all; done)
theorem guarded_same (h : guarded P call true ops o e σ = some (v, σ')) : Same σ σ' := by
  unfold guarded at h
  split at h
  · unfold stepOp at h
    split at h
    · rename_i f args _
      simp only [if_true, quietCall] at h
      cases hc : call f args (lock σ) with
      | none => rw [hc] at h; cases h
      | some r =>
        rw [hc] at h; cases h
        intro l x x' h1 h2
        rw [List.getElem?_append_left (get_lt h1), h1] at h2; cases h2; rfl
    · exact aop_same v σ' h
  · cases h; exact .refl _
  · cases h
/-- Nothing is handed on but by an append. -/
def NoKill (σ σ' : Heap) : Prop := ∀ l, alive σ l → alive σ' l
def NkO (σ : Heap) (r : Option (Value × Heap)) : Prop := ∀ v σ', r = some (v, σ') → NoKill σ σ'
theorem NkO.none : NkO σ none := fun v σ' h => by cases h
theorem NkO.same {u : Value} : NkO σ (some (u, σ)) := fun v σ' h => by cases h; exact fun _ h => h
theorem NkO.mapS {r : Option Value} : NkO σ (r.map (·, σ)) := fun v σ' h => by cases r <;> cases h; exact fun _ h => h
theorem NkO.mapG {α : Type} {r : Option α} {f : α → Value} : NkO σ (r.map fun x => (f x, σ)) := fun v σ' h => by cases r <;> cases h; exact fun _ h => h
theorem NoKill.app (σ τ : Heap) : NoKill σ (σ ++ τ) := fun l ⟨x, h, hp⟩ => ⟨x, by rw [List.getElem?_append_left (get_lt h)]; exact h, hp⟩
theorem NkO.new {cs : List Value} {f : Addr × Heap → Value × Heap} (hf : ∀ p, (f p).2 = p.2) : NkO σ ((newBlk σ cs).map f) := fun v σ' h => by rw [newBlk_map hf h]; exact .app _ _
theorem NkO.newB {α : Type} {r : Option α} {g : α → List Value} {f : Addr × Heap → Value × Heap} (hf : ∀ p, (f p).2 = p.2) : NkO σ (r.bind fun x => (newBlk σ (g x)).map f) := fun v σ' h => by
  cases r with
  | none => cases h
  | some x => exact NkO.new hf v σ' h
theorem aop_nokill {ρ : Operand → Value} (hna : appendOp o.op = false) : NkO σ (aop P true ρ o σ) := by
  unfold aop
  repeat' split
  all_goals first
    | exact NkO.none
    | exact NkO.same
    | exact NkO.mapS
    | exact NkO.mapG
    | exact NkO.new (fun _ => rfl)
    | exact NkO.newB (fun _ => rfl)
    | (simp_all [appendOp]; done)
theorem guarded_nokill (hna : appendOp o.op = false) (h : guarded P call true ops o e σ = some (v, σ')) : NoKill σ σ' := by
  unfold guarded at h
  split at h
  · unfold stepOp at h
    split at h
    · rename_i f args _
      simp only [if_true, quietCall] at h
      cases hc : call f args (lock σ) with
      | none => rw [hc] at h; cases h
      | some r => rw [hc] at h; cases h; exact .app _ _
    · exact aop_nokill hna v σ' h
  · cases h; exact fun _ h => h
  · cases h
/-- What only computes does not look at memory. -/
theorem pure_any {q q' : Bool} (hp : pureOp o.op = true) (h : guarded P call q ops o e σ = some (v, σ')) : σ' = σ ∧ ∀ τ, guarded P call q' ops o e τ = some (v, τ) := by
  unfold guarded at h ⊢
  split at h
  · rename_i hw
    unfold stepOp at h ⊢
    have hg : goCall (ev e) o.op = none := by
      unfold goCall
      split
      · rename_i x as ts hop; rw [hop] at hp; simp [pureOp] at hp
      · rfl
    rw [hg] at h ⊢
    simp only at h ⊢
    have key : ∃ r : Option Value, ∀ q τ, aop P q (ev e) o τ = r.map (·, τ) := by
      obtain ⟨dst, op, type, pos, after, guard⟩ := o
      cases op <;> (try (simp [pureOp] at hp; done)) <;> simp only [aop]
      case move x => exact ⟨some _, fun _ _ => rfl⟩
      case assign x => exact ⟨some _, fun _ _ => rfl⟩
      case pick c a b => split <;> first | exact ⟨some _, fun _ _ => rfl⟩ | exact ⟨none, fun _ _ => rfl⟩
      case extract x i => split <;> first | exact ⟨_, fun _ _ => rfl⟩ | exact ⟨none, fun _ _ => rfl⟩
      case nilCheck x => split <;> first | exact ⟨some _, fun _ _ => rfl⟩ | exact ⟨none, fun _ _ => rfl⟩
      case fieldAddr t x f => repeat' split
                              all_goals first | exact ⟨some _, fun _ _ => rfl⟩ | exact ⟨none, fun _ _ => rfl⟩
      case field t x f => split <;> first | exact ⟨_, fun _ _ => rfl⟩ | exact ⟨none, fun _ _ => rfl⟩
      case indexAddr t x i => repeat' split
                              all_goals first | exact ⟨some _, fun _ _ => rfl⟩ | exact ⟨none, fun _ _ => rfl⟩
      case index t x i => repeat' split
                          all_goals first | exact ⟨none, fun _ _ => rfl⟩ | exact ⟨_, fun _ _ => rfl⟩
      case slice t x lo hi mx => split <;> exact ⟨_, fun _ _ => rfl⟩
      case makeFunc fn x y => split <;> first | exact ⟨some _, fun _ _ => rfl⟩ | exact ⟨none, fun _ _ => rfl⟩
      case makeInterface t x => split <;> first | exact ⟨some _, fun _ _ => rfl⟩ | exact ⟨none, fun _ _ => rfl⟩
      case build t parts =>
        repeat' split
        · exact ⟨(P.built t (parts.map fun (i, x) => (i, ev e x)).toList).map fun cs => .agg cs, fun _ _ => by rw [Option.map_map]; rfl⟩
        all_goals exact ⟨none, fun _ _ => rfl⟩
      case binOp op t x y ty =>
        repeat' split
        · exact ⟨some _, fun _ _ => rfl⟩
        · exact ⟨_, fun _ _ => rfl⟩
        · exact ⟨(aEq P t (ev e x) (ev e y)).map fun b => .bool b, fun _ _ => by rw [Option.map_map]; rfl⟩
        · exact ⟨(aEq P t (ev e x) (ev e y)).map fun b => .bool (!b), fun _ _ => by rw [Option.map_map]; rfl⟩
        · exact ⟨none, fun _ _ => rfl⟩
      case unOp op t x => exact ⟨_, fun _ _ => rfl⟩
      case call c =>
        obtain ⟨callee, args, ts⟩ := c
        cases callee with
        | builtin b =>
          cases b <;> (try (simp [pureOp] at hp; done)) <;> simp only <;> (repeat' split) <;>
            first | exact ⟨some _, fun _ _ => rfl⟩ | exact ⟨none, fun _ _ => rfl⟩ | exact ⟨_, fun _ _ => rfl⟩ | (simp_all; done)
        | value x => simp [pureOp] at hp
        | invoke r m => simp [pureOp] at hp
    obtain ⟨r, hr⟩ := key
    rw [hr] at h
    cases r with
    | none => cases h
    | some u => cases h; exact ⟨rfl, fun τ => by rw [hr]; rfl⟩
  · cases h; exact ⟨rfl, fun τ => rfl⟩
  · cases h
end
end Go.Proofs.Ytenbclcfhjdcaaa.AM
