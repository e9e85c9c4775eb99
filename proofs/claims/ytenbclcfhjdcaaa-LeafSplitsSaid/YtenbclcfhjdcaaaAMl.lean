/- Operations in the text's order; results. -/
import Derived.Test.YtenbclcfhjdcaaaAMk
namespace Go.Proofs.Ytenbclcfhjdcaaa.AM
open Go
section
variable {P : Program} {q : Bool} {o : Oper} {μ : Mu} {σ σ' : Heap} {w w' : World} {v v' : Value} {e e' : Env} {a : Act} {call : CallF} {ops : Array Oper}

theorem runOps_sound {nt : Nat} {Q : Exit → Act → World → Prop} (hcall : CallOk P call) : ∀ (l : List Oper) {e : Env} {σ : Heap} {μ : Mu} {a : Act} {w : World}, runOps P call q ops l e σ = some (e', σ') → (∀ o ∈ l, okOper nt o = true) → Sim μ σ w.heap →
    (∀ l, σ.length ≤ l → l < σ'.length → μ l = none) → EnvR μ e a → a.tmps.size = nt → a.defers = [] → (∀ a' w', Post nt μ σ w e' σ' a' w' → Q .normal a' w') → wpList P ops Q l a w
  | [], e, σ, μ, a, w, h, _, hS, _, he, hn, hd, hQ => by
    simp only [runOps] at h; cases h
    exact hQ a w ⟨μ, hS, .refl _ _ _ _, he, hn, hd⟩
  | o :: l, e, σ, μ, a, w, h, hok, hS, hU, he, hn, hd, hQ => by
    simp only [runOps] at h
    split at h
    · rename_i v σ1 hg
      have le1 := guarded_le hcall hg
      have le2 := runOps_le hcall l h
      have hoko : okOper a.tmps.size o = true := by rw [hn]; exact hok o (by simp)
      have key := guarded_sound (K := wpList P ops Q l) (Q := Q) hcall hg hoko hS (U_left hU le2) (fun t _ => he t) (fun v' w' μ' k1 k2 k3 => by
        have k3 := Fr.weak' k3
        refine runOps_sound hcall l h (fun o' ho => hok o' (by simp [ho])) k2 (U_right hU le1 k3) (upd_env (he.mono k3.ext) k1 (fun i hi => ?_)) (by rw [put_size]; exact hn) (by rw [put_defers]; exact hd) (fun a' w2 hp => hQ a' w2 (hp.trans (U_left hU le2) le1 le2 k3))
        unfold okOper at hoko
        rw [hi] at hoko
        simp at hoko
        exact hoko.1.1)
      unfold wpList
      split
      · rename_i hw; rw [if_pos hw] at key; exact .inl key
      · rename_i hw; rw [if_neg hw] at key; exact key
    · cases h

def resSem (tmps : Array Value) : ResultVar → Sem Value
  | .tmp t => pure (tmps.getD t undef)
  | .cell a t => do loadVar t (← asAddr (tmps.getD a undef))
theorem result_sound {r : ResultVar} (hS : Sim μ σ w.heap) (he : EnvR μ e a) (h : resultOf P e σ r = some v) :
    ∃ v', (resSem a.tmps r).run P w = .ok v' w ∧ Val μ v v' := by
  cases r with
  | tmp t => simp only [resultOf] at h; cases h; exact ⟨_, rfl, he t⟩
  | cell ad t =>
    simp only [resultOf] at h
    split at h
    · rename_i p hp
      have hv := he ad
      rw [hp] at hv
      obtain ⟨b, N, h1, h2, ex⟩ := hv.ptr_inv
      obtain ⟨v', k1, k2⟩ := loadV_sound hS h2 h1 h
      exact ⟨v', by simp only [resSem]; rw [ex]; simp [asAddr, k1], k2⟩
    · cases h
theorem results_list (hS : Sim μ σ w.heap) (he : EnvR μ e a) : ∀ (rs : List ResultVar) {vs : List Value}, rs.mapM (resultOf P e σ) = some vs →
    ∃ vs', (rs.mapM (resSem a.tmps)).run P w = .ok vs' w ∧ ValL μ vs vs'
  | [], vs, h => by simp at h; subst h; exact ⟨[], by simp, .nil⟩
  | r :: rs, vs, h => by
    rw [List.mapM_cons] at h
    cases h1 : resultOf P e σ r with
    | none => simp [h1] at h
    | some u =>
      cases h2 : rs.mapM (resultOf P e σ) with
      | none => simp [h1, h2] at h
      | some us =>
        simp [h1, h2] at h
        subst h
        obtain ⟨u', g1, g2⟩ := result_sound hS he h1
        obtain ⟨us', g3, g4⟩ := results_list hS he rs h2
        refine ⟨u' :: us', ?_, ?_⟩
        · rw [List.mapM_cons]
          simp only [Sem.run_bind, g1, g3, Result.andThen_ok, Sem.run_pure]
        · have := (ValL.one g2).append g4
          simpa using this
theorem results_sound {fn : Func} (hS : Sim μ σ w.heap) (he : EnvR μ e a) (h : resultsOf P fn.results.toList e σ = some v) : ∃ v', (results fn a.tmps).run P w = .ok v' w ∧ Val μ v v' := by
  have hrun : ∀ {vs' : List Value}, (fn.results.toList.mapM (resSem a.tmps)).run P w = .ok vs' w →
      (results fn a.tmps).run P w = .ok (if h : vs'.toArray.size = 1 then vs'.toArray[0] else .tuple vs'.toArray) w := fun {vs'} hr => by
    have e0 : results fn a.tmps = (do
        let vs ← fn.results.mapM (resSem a.tmps)
        pure (if h : vs.size = 1 then vs[0] else .tuple vs)) := by
      unfold results
      congr 2
    rw [e0, Array.mapM_eq_mapM_toList]
    simp only [Sem.run_bind, Sem.run_map, hr, Result.andThen_ok, Sem.run_pure]
  unfold resultsOf at h
  split at h
  · rename_i r hrs
    obtain ⟨v', g1, g2⟩ := result_sound hS he h
    obtain ⟨vs', g3, g4⟩ := results_list (P := P) hS he fn.results.toList (vs := [v]) (by rw [hrs]; simp [h])
    have := hrun g3
    have hl : vs'.length = 1 := g4.1
    rw [dif_pos (by simpa using hl)] at this
    refine ⟨_, this, g4.2 0 v _ rfl (by simp)⟩
  · rename_i rs hne
    cases hm : fn.results.toList.mapM (resultOf P e σ) with
    | none => rw [hm] at h; cases h
    | some vs =>
      rw [hm] at h; cases h
      obtain ⟨vs', g3, g4⟩ := results_list (P := P) hS he fn.results.toList hm
      have := hrun g3
      have hlv : vs.length = fn.results.toList.length := by
        have key : ∀ (rs : List ResultVar) {vs : List Value}, rs.mapM (resultOf P e σ) = some vs → vs.length = rs.length := by
          intro rs
          induction rs with
          | nil => intro vs h; simp at h; subst h; rfl
          | cons r rs ih =>
            intro vs h
            rw [List.mapM_cons] at h
            cases h1 : resultOf P e σ r with
            | none => simp [h1] at h
            | some u =>
              cases h2 : rs.mapM (resultOf P e σ) with
              | none => simp [h1, h2] at h
              | some us => simp [h1, h2] at h; subst h; simp [ih h2]
        exact key _ hm
      have hl : vs'.length ≠ 1 := fun e1 => by
        rw [g4.1, hlv] at e1
        obtain ⟨r, hr⟩ := List.length_eq_one_iff.1 e1
        exact hne r hr
      rw [dif_neg (by simpa using hl)] at this
      exact ⟨_, this, .tup (by simpa using g4.1) (fun i u u' h1 h2 => g4.2 i u u' (by simpa using h1) (by simpa using h2))⟩
end
end Go.Proofs.Ytenbclcfhjdcaaa.AM
