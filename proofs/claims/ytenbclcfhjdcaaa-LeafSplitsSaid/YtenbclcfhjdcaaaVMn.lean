/- The machine of values: calls with slices that are frozen ahead. -/
import Derived.Test.YtenbclcfhjdcaaaVMm
namespace Go.Proofs.Ytenbclcfhjdcaaa.VM
open Go AM
section
variable {P : Program} {prim : CallF} {K K' : Kn} {φ φ' : List Rz} {H H' H0 : Hp} {σ σ' : Heap} {v x : V} {a : Value} {q : Bool}
theorem Frz.trans {H1 H2 : Hp} (h1 : Frz H H1) (h2 : Frz H1 H2) : Frz H H2 := fun K φ σ hR => by
  obtain ⟨K1, φ1, p1, r1⟩ := h1 K φ σ hR
  obtain ⟨K2, φ2, p2, r2⟩ := h2 K1 φ1 σ r1
  exact ⟨K2, φ2, p1.trans p2 (p1.le_len (Nat.le_refl _)), r2⟩
/-- One's own rows are frozen. -/
theorem Frz.vec {g w s : Nat} {rows : List (List V)} {rw t : Bool} (hg : H[g]? = some (.vec w rows s rw t)) (hpu : PureR rows) : Frz H (H.set g (.fro w rows s)) := by
  intro K φ σ hR
  obtain ⟨r, hr⟩ : ∃ r, φ[g]? = some r := ⟨_, List.getElem?_eq_getElem (by rw [hR.len]; exact get_lt hg)⟩
  have hlt := get_lt hr
  have hob := hR.ob g _ r hg hr
  cases r with
  | mem _ => exact hob.elim
  | fro _ _ _ => exact hob.elim
  | vec val w' s' =>
    obtain ⟨rfl, rfl, h0, h1, hok, h2⟩ := hob
    have main : ∀ K' : Kn, (∀ b c, K b = some c → K' b = some c) → (∀ b c, K' b = some c → K b = some c ∨ ((Rz.vec val w s).blk = some b ∧ ∃ p, σ[b]? = some ⟨c, p⟩ ∧ p ≠ .dead)) → VR K' (.fsl true s rows) [] val → ∃ K' φ', Post φ.length K φ K' φ' ∧ Rel K' φ' (H.set g (.fro w rows s)) σ := fun K' k1 k2 k3 => by
      have hp : Post φ.length K φ K' (φ.set g (.fro val w s)) := ⟨k1, fun k q hk hq => by
        by_cases e : k = g
        · subst e; rw [hr] at hq; cases hq
          exact ⟨.fro val w s, by rw [List.getElem?_set_self hk], rfl, Nat.le_refl _, fun _ => rfl⟩
        · exact ⟨q, by rw [List.getElem?_set_ne (Ne.symm e)]; exact hq, .refl _⟩⟩
      have get : ∀ {k : Nat} {q : Rz}, (φ.set g (.fro val w s))[k]? = some q → (k = g ∧ q = .fro val w s) ∨ (k ≠ g ∧ φ[k]? = some q) := fun {k q} hq => by
        by_cases e : k = g
        · subst e; rw [List.getElem?_set_self hlt] at hq; cases hq; exact .inl ⟨rfl, rfl⟩
        · rw [List.getElem?_set_ne (Ne.symm e)] at hq; exact .inr ⟨e, hq⟩
      refine ⟨K', φ.set g (.fro val w s), hp, by simp [hR.len], fun b c hc => ?_, fun k y q hy hq => ?_, fun k k' q q' b hq hq' hb hb' => ?_, fun k q b hq hb => ?_⟩
      · rcases k2 b c hc with h | ⟨_, h⟩
        · exact hR.kn b c h
        · exact h
      · rcases get hq with ⟨e1, e2⟩ | ⟨hk, hq1⟩
        · subst e2
          rw [e1, List.getElem?_set_self (get_lt hg)] at hy; cases hy
          exact ⟨rfl, rfl, k3⟩
        · rw [List.getElem?_set_ne (Ne.symm hk)] at hy
          exact (hR.ob k y q hy hq1).keep (fun _ _ => rfl) hp
      · rcases get hq with ⟨e1, e2⟩ | ⟨hk, hq1⟩
        · subst e2; cases hb
        · rcases get hq' with ⟨e3, e4⟩ | ⟨hk', hq1'⟩
          · subst e4; cases hb'
          · exact hR.inj k k' q q' b hq1 hq1' hb hb'
      · rcases get hq with ⟨e1, e2⟩ | ⟨hk, hq1⟩
        · subst e2; cases hb
        · cases hK : K' b with
          | none => rfl
          | some c =>
            rcases k2 b c hK with h | ⟨h, _⟩
            · rw [hR.apart k q b hq1 hb] at h; cases h
            · exact absurd (hR.inj k g q _ b hq1 hr hb h) hk
    rcases h2 with ⟨h2, h3⟩ | ⟨b, c, vals, rest, p, h3, h4, h5, h6, h7⟩
    · have hr0 : rows = [] := List.eq_nil_of_length_eq_zero h2
      subst hr0
      refine main K (fun _ _ h => h) (fun _ _ h => .inl h) ?_
      have hcap : capOK 0 s 0 := by unfold capOK; rw [capOf_exact_eq (by decide)]; exact Nat.le_refl _
      rcases h3 with h3 | ⟨b, o, cells, h3, h4, h5⟩
      · subst h3; exact ⟨none, 0, rfl, fun _ => rfl, (fun _ => by simp [AM.dng]), hcap, by omega, .inl ⟨rfl, rfl⟩⟩
      · subst h3; exact ⟨_, 0, rfl, (fun e => by cases e), (fun _ => by simp [AM.dng]), hcap, by omega, .inr ⟨b, o, cells, rfl, h4, by simpa using h5, by simp [RowsR]⟩⟩
    · have hblk : (Rz.vec val w s).blk = some b := vec_blk h3 h4
      have hkn : ∀ b' c', K b' = some c' → (K.add b (vals ++ rest)) b' = some c' := fun b' c' h => by
        unfold Kn.add
        split
        · rename_i e; subst e; rw [hR.apart g _ b' hr hblk] at h; cases h
        · exact h
      refine main (K.add b (vals ++ rest)) hkn (fun b' c' h => ?_) ?_
      · unfold Kn.add at h
        split at h
        · rename_i e; subst e; cases h; exact .inr ⟨hblk, p, h5, permOk_alive h6⟩
        · exact .inl h
      · subst h3
        have hl := h7.len
        refine ⟨_, c, rfl, (fun e => by cases e), (fun _ => h4.dng), h4.ok, by omega, .inr ⟨b, 0, vals ++ rest, rfl, by simp [Kn.add], by simp; omega, ?_⟩⟩
        rw [List.drop_zero, ← hl, List.take_left]
        exact (h7.pure hpu).monoN (n := 0) ⟨hkn, fun g r hg => by omega⟩
mutual
theorem Up.lock : ∀ {v u : V}, Up H.length [] [] H v u → Up H.length [] [] (lockV H) v u
  | .lit _, _, h => by simp only [Up] at h ⊢; exact h
  | .junk, _, _ => by simp only [Up]
  | .fsl k s rows, u, h => by
    simp only [Up] at h ⊢
    rcases h with h | h | ⟨hp, g, w, rows0, h, ⟨rw, t, h1, h2, _⟩ | ⟨h1, h2⟩⟩
    · exact .inl h
    · exact .inr (.inl h)
    · have := get_lt h1; omega
    · exact .inr (.inr ⟨hp, g, w, rows0, h, .inr ⟨by simp [lockV, h1, Ob.lock], h2⟩⟩)
  | .fptr cs, u, h => by
    simp only [Up] at h ⊢
    rcases h with h | ⟨hp, g, o, cells, rw, h, h1, h2, _⟩
    · exact .inl h
    · have := get_lt h1; omega
  | .own g w, u, h => by simp only [Up] at h ⊢; exact h
  | .ptr g w, u, h => by simp only [Up] at h ⊢; exact h
  | .elt g w k o, u, h => by simp only [Up] at h ⊢; exact h
  | .fn f fi cp, u, h => by
    simp only [Up] at h ⊢
    obtain ⟨fi0, cp0, rfl, h1, h2⟩ := h
    exact ⟨fi0, cp0, rfl, h1.lock, h2.lock⟩
  | .ifc t v, u, h => by
    simp only [Up] at h ⊢
    obtain ⟨v0, rfl, h1⟩ := h
    exact ⟨v0, rfl, h1.lock⟩
  | .agg cs, u, h => by
    simp only [Up] at h ⊢
    obtain ⟨v0, rfl, h1⟩ := h
    exact ⟨v0, rfl, h1.lock⟩
  | .tup cs, u, h => by
    simp only [Up] at h ⊢
    obtain ⟨v0, rfl, h1⟩ := h
    exact ⟨v0, rfl, h1.lock⟩
theorem Ups.lock : ∀ {v u : List V}, Ups H.length [] [] H v u → Ups H.length [] [] (lockV H) v u
  | [], _, h => by simp only [Ups] at h ⊢; exact h
  | v :: vs, u, h => by
    simp only [Ups] at h ⊢
    obtain ⟨u0, us, rfl, h1, h2⟩ := h
    exact ⟨u0, us, rfl, h1.lock, h2.lock⟩
end
theorem Ans.callF {f : FuncId} {args : List V} (args' : List V) (h : Ans P prim f args' v) (hfz : Frz H H0) (ha : Ups H0.length [] [] H0 args' args) {k : KVV} (hk : k.run v H0) : @CALLv P prim q f args H k := by
  refine ⟨H0, hfz, ?_⟩
  cases q with
  | false => exact VC.up ha ((h H0).mono fun u T ⟨e1, e2⟩ => by subst e2; subst e1; exact hk)
  | true =>
    have hl : (lockV H0).length = H0.length := by simp [lockV]
    refine VC.up (args' := args') (by rw [hl]; exact ha.lock) ((h (lockV H0)).mono fun u T ⟨e1, e2⟩ => ?_)
    subst e2; subst e1
    exact ⟨[], by simp, by simp, by simpa using hk⟩
/-- A call with other words for its arguments. -/
theorem Ans.callU {f : FuncId} {args : List V} (args' : List V) (h : Ans P prim f args' v) (ha : Ups H.length [] [] H args' args) {k : KVV} (hk : k.run v H) : @CALLv P prim q f args H k := h.callF args' .refl ha hk
theorem AnsO.callU {f : FuncId} {args : List V} (args' : List V) {s : Nat} {rows : List (List V)} (h : AnsO P prim f args' s rows) (ha : Ups H.length [] [] H args' args) {k : KVV} (hk : ∀ w t, k.run (.own H.length w) (H ++ [.vec w rows s true t])) : @CALLv P prim q f args H k := by
  refine ⟨H, .refl, ?_⟩
  cases q with
  | false => exact VC.up ha ((h H).mono fun u T ⟨w, t, e1, e2⟩ => by subst e2; subst e1; exact hk w t)
  | true =>
    have hl : (lockV H).length = H.length := by simp [lockV]
    refine VC.up (args' := args') (by rw [hl]; exact ha.lock) ((h (lockV H)).mono fun u T ⟨w, t, e1, e2⟩ => ?_)
    subst e2; subst e1
    exact ⟨[_], rfl, by simp [Ob.rwOk], by simpa [lockV] using hk w t⟩
/-- Rows of one's own, frozen by who asked for them. -/
theorem AnsO.fro {f : FuncId} {args : List V} {s : Nat} {rows : List (List V)} (h : AnsO P prim f args s rows) (hp : PureR rows) (k : Bool) : Ans P prim f args (.fsl k s rows) := fun H K φ σ as hR ha =>
  (h H K φ σ as hR ha).mono fun a σ' ⟨K', φ', v, H', h1, h2, h3, w, t, e1, e2⟩ => by
    subst e1; subst e2
    obtain ⟨K2, φ2, v2, H2, g1, g2, g3, g4⟩ := GV.ret (R := fun u T => u = .fsl k s rows ∧ T = H) (X := [.vec w rows s true t]) (.fsl k s rows) hR.cl (by simp [hp]) ⟨rfl, rfl⟩ K' φ' σ' a h2 h3
    rw [← hR.len] at g1
    exact ⟨K2, φ2, v2, H2, h1.trans g1 (Nat.le_refl _), g2, g3, g4⟩
end
end Go.Proofs.Ytenbclcfhjdcaaa.VM
