/- Operations of the abstract machine, and of the model: slices, append, copy, make, literals. -/
import Derived.Test.YtenbclcfhjdcaaaAMd
namespace Go.Proofs.Ytenbclcfhjdcaaa.AM
open Go
section
variable {P : Program} {q : Bool} {o : Oper} {ρ ρ' : Operand → Value} {μ : Mu} {σ σ' : Heap} {w w' : World} {v v' : Value}
variable {dst : Option Tmp} {type : TypeId} {pos : String} {after : Array Edge} {guard : Option (Nat × Bool)}

theorem capOf_exact {c k : Nat} (h : capOf c = .exact k) : k = c ∧ c < top := by
  unfold capOf at h
  split at h
  · rename_i hc; cases h; exact ⟨rfl, hc⟩
  · split at h <;> cases h
theorem capOf_unk {c s lb : Nat} (h : capOf c = .unk s lb) : c = unk s lb := by
  unfold capOf at h
  split at h
  · cases h
  · rename_i h1
    split at h
    · cases h
      unfold unk
      have h2 : 1 ≤ c / top := (Nat.le_div_iff_mul_le (by simp [top])).2 (by omega)
      rw [show c / top - 1 + 1 = c / top by omega, Nat.div_add_mod]
    · cases h
theorem capOf_dng {c : Nat} (h : capOf c = .dng) : dng ≤ c := by
  unfold capOf at h
  split at h
  · cases h
  · split at h
    · cases h
    · omega
theorem unk_inj {s lb s' lb' : Nat} (h : unk s lb = unk s' lb') (h1 : lb < top) (h2 : lb' < top) : s = s' ∧ lb = lb' := by
  unfold unk top at *
  omega
theorem unk_top (s lb : Nat) : ¬ unk s lb < top := by
  unfold unk top; omega
theorem maxLen_top {n : Nat} (h : n ≤ maxLen) : n < top := by
  unfold maxLen at h; unfold top; omega
theorem capOf_unk_eq {s lb : Nat} (h1 : lb < top) (h2 : s < 4294967296) : capOf (unk s lb) = .unk s lb := by
  have h : (unk s lb) / top = s + 1 ∧ (unk s lb) % top = lb := by
    unfold unk
    constructor
    · rw [Nat.mul_add_div (by simp [top]), Nat.div_eq_of_lt h1]
    · rw [Nat.mul_add_mod, Nat.mod_eq_of_lt h1]
  unfold capOf
  rw [if_neg (unk_top s lb), if_pos (by unfold unk top dng; unfold top at h1; omega), h.1, h.2]
  simp
theorem capOf_exact_eq {c : Nat} (h1 : c < top) : capOf c = .exact c := by
  unfold capOf; rw [if_pos h1]
/-- A slice's value by what its capacity says. -/
theorem Val.sl_inv {a : Addr} {n c : Nat} (h : Val μ (.slice (some a) n c) v') :
    (dng ≤ c ∧ n = 0 ∧ ∃ a' c', v' = .slice (some a') 0 c') ∨
    (∃ b N, a.spot = none ∧ μ a.block = some (b, N) ∧ ((c < top ∧ v' = .slice (some ⟨b, a.off, none⟩) n c) ∨
      ∃ s lb c', c = unk s lb ∧ lb ≤ maxLen ∧ lb ≤ c' ∧ n ≤ c' ∧ c' ≤ maxLen ∧ a.off + c' * s ≤ N ∧ s ≤ 1048576 ∧ v' = .slice (some ⟨b, a.off, none⟩) n c')) := by
  cases h with
  | scal h => simp [scalarB] at h
  | sl h hc => exact .inr ⟨_, _, rfl, h, .inl ⟨hc, rfl⟩⟩
  | slu h h0 h1 h2 h3 h4 h5 => exact .inr ⟨_, _, rfl, h, .inr ⟨_, _, _, rfl, h0, h1, h2, h3, h4, h5, rfl⟩⟩
  | sld hc => exact .inl ⟨hc, rfl, _, _, rfl⟩
theorem dng_top : ¬ dng < top := by unfold dng top; omega
theorem unk_dng {s lb : Nat} (h : dng ≤ unk s lb) {s' lb' : Nat} (h2 : capOf (unk s lb) = .unk s' lb') : False := by
  unfold capOf at h2
  rw [if_neg (unk_top _ _), if_neg (by omega)] at h2
  cases h2

theorem intOpt_eq {lo : Option Operand} {L : Option Int} (h : intOpt (lo.map ρ) = some L) (hv : ∀ x, lo = some x → Val μ (ρ x) (ρ' x)) :
    (lo = none ∧ L = none) ∨ ∃ x k i, lo = some x ∧ L = some i ∧ ρ x = .int k i ∧ ρ' x = .int k i := by
  cases lo with
  | none => simp [intOpt] at h; exact .inl ⟨rfl, h.symm⟩
  | some x =>
    simp only [Option.map_some] at h
    unfold intOpt at h
    split at h
    · rename_i e; cases e
    · rename_i k i e
      cases h
      have e : ρ x = .int k i := by simpa using e
      have hv := hv x rfl
      rw [e] at hv
      exact .inr ⟨x, k, i, rfl, rfl, e, hv.int⟩
    · cases h
theorem bounds_run {lo hi mx : Option Operand} {L H M : Option Int} {isS : Bool} {n K c l h m : Nat} (h1 : intOpt (lo.map ρ) = some L) (h2 : intOpt (hi.map ρ) = some H) (h3 : intOpt (mx.map ρ) = some M)
    (g1 : ∀ x, lo = some x → Val μ (ρ x) (ρ' x)) (g2 : ∀ x, hi = some x → Val μ (ρ x) (ρ' x)) (g3 : ∀ x, mx = some x → Val μ (ρ x) (ρ' x))
    (hb : bounds n K L H M = some (l, h, m)) (hK : K ≤ c) (w : World) :
    ∃ m', (Instr.sliceBounds isS n c (lo.map ρ') (hi.map ρ') (mx.map ρ')).run P w = .ok (l, h, m') w ∧ l ≤ h ∧ (mx.isSome = true → m' = m ∧ h ≤ m ∧ m ≤ K) ∧ (mx.isSome = false → m = K ∧ m' = c ∧ (h ≤ K ∨ h = n)) := by
  rcases intOpt_eq h1 g1 with ⟨rfl, rfl⟩ | ⟨x1, k1, i1, rfl, rfl, _, e1⟩ <;> rcases intOpt_eq h2 g2 with ⟨rfl, rfl⟩ | ⟨x2, k2, i2, rfl, rfl, _, e2⟩ <;> rcases intOpt_eq h3 g3 with ⟨rfl, rfl⟩ | ⟨x3, k3, i3, rfl, rfl, _, e3⟩ <;>
    simp only [bounds] at hb
  · cases hb; exact ⟨c, by simp [Instr.sliceBounds], by omega, by simp, by simp⟩
  · cases hb
  · split at hb
    · rename_i hc; cases hb
      refine ⟨c, ?_, by omega, by simp, by simp; omega⟩
      simp only [Instr.sliceBounds, Option.map_some, Option.map_none, e2]
      simp [run_sliceBound w k2 i2 c (if isS = true then BoundsCode.sliceAcap else BoundsCode.sliceAlen) hc.1 (by omega)]
    · cases hb
  · split at hb
    · rename_i hc; cases hb
      refine ⟨i3.toNat, ?_, by omega, fun _ => ⟨rfl, by omega, by omega⟩, by simp⟩
      have r3 := run_sliceBound (P := P) w k3 i3 c (if isS = true then BoundsCode.slice3Acap else BoundsCode.slice3Alen) (by omega) (by omega)
      have r2 := run_sliceBound (P := P) w k2 i2 i3.toNat BoundsCode.slice3B hc.1 (by omega)
      simp only [Instr.sliceBounds, Option.map_some, Option.map_none, e2, e3]
      simp [r3, r2]
    · cases hb
  · split at hb
    · rename_i hc; cases hb
      refine ⟨c, ?_, by omega, by simp, by simp⟩
      have r1 := run_sliceBound (P := P) w k1 i1 n BoundsCode.sliceB hc.1 (by omega)
      simp only [Instr.sliceBounds, Option.map_some, Option.map_none, e1]
      simp [r1]
    · cases hb
  · cases hb
  · split at hb
    · rename_i hc; cases hb
      refine ⟨c, ?_, by omega, by simp, by simp; omega⟩
      have r2 := run_sliceBound (P := P) w k2 i2 c (if isS = true then BoundsCode.sliceAcap else BoundsCode.sliceAlen) (by omega) (by omega)
      have r1 := run_sliceBound (P := P) w k1 i1 i2.toNat BoundsCode.sliceB hc.1 (by omega)
      simp only [Instr.sliceBounds, Option.map_some, Option.map_none, e1, e2]
      simp [r1, r2]
    · cases hb
  · split at hb
    · rename_i hc; cases hb
      refine ⟨i3.toNat, ?_, by omega, fun _ => ⟨rfl, by omega, by omega⟩, by simp⟩
      have r3 := run_sliceBound (P := P) w k3 i3 c (if isS = true then BoundsCode.slice3Acap else BoundsCode.slice3Alen) (by omega) (by omega)
      have r2 := run_sliceBound (P := P) w k2 i2 i3.toNat BoundsCode.slice3B (by omega) (by omega)
      have r1 := run_sliceBound (P := P) w k1 i1 i2.toNat BoundsCode.slice3C hc.1 (by omega)
      simp only [Instr.sliceBounds, Option.map_some, Option.map_none, e1, e2, e3]
      simp [r1, r2, r3]
    · cases hb
theorem add_blk (a : Addr) (k : Nat) : (a.add k).block = a.block ∧ (a.spot = none → a.add k = ⟨a.block, a.off + k, none⟩) := by
  obtain ⟨b, o, s⟩ := a
  constructor
  · unfold Addr.add; split <;> rfl
  · intro h; simp only at h; subst h; rw [Addr.add_lit]
theorem slice_sound {t : TypeId} {x : Operand} {lo hi mx : Option Operand} (hS : Sim μ σ w.heap) (hx : Val μ (ρ x) (ρ' x))
    (g1 : ∀ x, lo = some x → Val μ (ρ x) (ρ' x)) (g2 : ∀ x, hi = some x → Val μ (ρ x) (ρ' x)) (g3 : ∀ x, mx = some x → Val μ (ρ x) (ρ' x))
    (h : aSlice P t (ρ x) (lo.map ρ) (hi.map ρ) (mx.map ρ) = some v) : Out P q ⟨dst, .slice t x lo hi mx, type, pos, after, guard⟩ ρ' μ σ w v σ := by
  unfold aSlice at h
  split at h
  · rename_i L H M hL hH hM
    split at h
    · rename_i e A n c hu hxe
      rw [hxe] at hx
      split at h
      · cases h
      · rename_i size hsz
        split at h
        · -- nil
          split at h
          · rename_i hn
            obtain ⟨rfl, rfl⟩ := hn
            have ex := scalar_val (by rfl) hx
            cases hb : bounds 0 0 L H M with
            | none => rw [hb] at h; cases h
            | some r =>
              obtain ⟨l, hh, m⟩ := r
              rw [hb] at h; cases h
              obtain ⟨m', r1, r2, r3, r4⟩ := bounds_run (P := P) (isS := true) hL hH hM g1 g2 g3 hb (Nat.le_refl _) w
              have e0 : hh = 0 ∧ m' = 0 := by
                cases hmx : mx.isSome with
                | true => have := r3 hmx; omega
                | false => have := r4 hmx; omega
              obtain ⟨rfl, rfl⟩ := e0
              have el : l = 0 := by omega
              subst el
              refine .same (v' := .slice none 0 0) hS (.inl ?_) (.scal rfl)
              simp [execOp, ex, Instr.sliceAt, run_underlying hu, Instr.slice, r1, szOf_run hsz]
          · cases h
        · rename_i a
          split at h
          · -- exact
            rename_i c1 hc1
            obtain ⟨rfl, hct⟩ := capOf_exact hc1
            rcases hx.sl_inv with ⟨hd, _⟩ | ⟨b, N, hsp, hm, ⟨_, ex⟩ | ⟨s, lb, c', ec, _⟩⟩
            · have := dng_top; omega
            · cases hb : bounds n c1 L H M with
              | none => rw [hb] at h; cases h
              | some r =>
                obtain ⟨l, hh, m⟩ := r
                rw [hb] at h; cases h
                obtain ⟨m', r1, r2, r3, r4⟩ := bounds_run (P := P) (isS := true) hL hH hM g1 g2 g3 hb (Nat.le_refl _) w
                have e0 : m' = m ∧ m ≤ c1 := by
                  cases hmx : mx.isSome with
                  | true => have := r3 hmx; omega
                  | false => have := r4 hmx; omega
                obtain ⟨rfl, hmc⟩ := e0
                refine .same (v' := .slice (some (if m' = l then ⟨b, a.off, none⟩ else (⟨b, a.off, none⟩ : Addr).add (l * size))) (hh - l) (m' - l)) hS (.inl ?_) ?_
                · simp [execOp, ex, Instr.sliceAt, run_underlying hu, Instr.slice, r1, szOf_run hsz]
                  split <;> rfl
                · obtain ⟨al, ao, asp⟩ := a
                  simp only at hsp hm; subst hsp
                  dsimp only
                  split
                  · exact .sl hm (by omega)
                  · rw [Addr.add_lit, Addr.add_lit]; exact .sl hm (by omega)
            · rw [ec] at hct; exact absurd hct (unk_top s lb)
          · -- unknown
            rename_i es lb hc1
            have ec0 := capOf_unk hc1
            rcases hx.sl_inv with ⟨hd, _⟩ | ⟨b, N, hsp, hm, ⟨hct, ex⟩ | ⟨s, lb1, c', ec, h0, h1, h2, h3, h4, h5, ex⟩⟩
            · rw [ec0] at hd hc1; exact (unk_dng hd hc1).elim
            · rw [ec0] at hct; exact absurd hct (unk_top es lb)
            · have hlt : lb < top := by
                have : lb = c % top := by
                  unfold capOf at hc1
                  split at hc1
                  · cases hc1
                  · split at hc1
                    · cases hc1; rfl
                    · cases hc1
                rw [this]; exact Nat.mod_lt _ (by simp [top])
              obtain ⟨rfl, rfl⟩ := unk_inj (ec0.symm.trans ec) hlt (maxLen_top h0)
              split at h
              · cases h
              · rename_i l hh m hb
                obtain ⟨m', r1, r2, r3, r4⟩ := bounds_run (P := P) (isS := true) hL hH hM g1 g2 g3 hb h1 w
                have hrun : (execOp ρ' ⟨dst, .slice t x lo hi mx, type, pos, after, guard⟩).run P w = .ok (.value (.slice (some (if m' = l then ⟨b, a.off, none⟩ else (⟨b, a.off, none⟩ : Addr).add (l * size))) (hh - l) (m' - l))) w := by
                  simp [execOp, ex, Instr.sliceAt, run_underlying hu, Instr.slice, r1, szOf_run hsz]
                  split <;> rfl
                obtain ⟨al, ao, asp⟩ := a
                simp only at hsp hm hrun h4; subst hsp
                split at h
                · rename_i hmx
                  have := r3 (by cases mx with | none => rcases intOpt_eq hM g3 with ⟨_, rfl⟩ | ⟨_, _, _, e, _⟩ <;> simp_all | some _ => rfl)
                  obtain ⟨rfl, ha, hbb⟩ := this
                  cases h
                  refine .same hS (.inl hrun) ?_
                  have := maxLen_top h0
                  split
                  · exact .sl hm (by omega)
                  · rw [Addr.add_lit, Addr.add_lit]; exact .sl hm (by omega)
                · rename_i hmx
                  have := r4 (by cases mx with | none => rfl | some _ => rcases intOpt_eq hM g3 with ⟨e, _⟩ | ⟨_, _, _, _, e, _⟩ <;> simp_all)
                  obtain ⟨rfl, rfl, hhk⟩ := this
                  split at h
                  · rename_i hl0
                    cases h
                    subst hl0
                    refine .same hS (.inl hrun) ?_
                    have ea : (if m' = 0 then (⟨b, ao, none⟩ : Addr) else (⟨b, ao, none⟩ : Addr).add (0 * size)) = ⟨b, ao, none⟩ := by split <;> simp [Addr.add]
                    rw [ea, ec0]
                    exact .slu hm h0 (by omega) (by omega) (by omega) h4 h5
                  · split at h
                    · rename_i hl0 hlh
                      obtain ⟨hlh, hes⟩ := hlh
                      cases h
                      refine .same hS (.inl hrun) ?_
                      rw [if_neg (by omega), Addr.add_lit, Addr.add_lit]
                      refine .slu hm (by omega) (by omega) (by omega) (by omega) ?_ h5
                      subst hes
                      have : l * es + (m' - l) * es = m' * es := by rw [← Nat.add_mul]; congr 1; omega
                      omega
                    · split at h
                      · rename_i hl0 hlh heq
                        cases h
                        subst heq
                        refine .same hS (.inl hrun) ?_
                        rw [Nat.sub_self]
                        exact .sld (Nat.le_refl _)
                      · cases h
          · -- a slice whose place is unknown
            rename_i hc1
            have hd := capOf_dng hc1
            rcases hx.sl_inv with ⟨_, rfl, a', c', ex⟩ | ⟨b, N, hsp, hm, ⟨hct, _⟩ | ⟨s, lb, c', ec, h0, _⟩⟩
            · cases hb : bounds 0 0 L H M with
              | none => rw [hb] at h; cases h
              | some r =>
                obtain ⟨l, hh, m⟩ := r
                rw [hb] at h; cases h
                obtain ⟨m', r1, r2, r3, r4⟩ := bounds_run (P := P) (isS := true) (c := c') hL hH hM g1 g2 g3 hb (Nat.zero_le _) w
                have e0 : hh = 0 := by
                  cases hmx : mx.isSome with
                  | true => have := r3 hmx; omega
                  | false => have := r4 hmx; omega
                subst e0
                have el : l = 0 := by omega
                subst el
                refine .same (v' := .slice (some (if m' = 0 then a' else a'.add (0 * size))) (0 - 0) (m' - 0)) hS (.inl ?_) (.sld (Nat.le_refl _))
                simp [execOp, ex, Instr.sliceAt, run_underlying hu, Instr.slice, r1, szOf_run hsz]
                split <;> rfl
            · have := dng_top; omega
            · obtain ⟨_, _, _, _, hs, _⟩ := ‹_ ∧ _›
              exfalso
              rw [ec] at hd
              unfold unk top dng at hd
              unfold maxLen at h0
              omega
    · -- an array
      rename_i n e a hu hxe
      rw [hxe] at hx
      split at h
      · cases h
      · rename_i size hsz
        obtain ⟨b, N, hsp, hm, ex⟩ := hx.ptr_inv
        split at h
        · rename_i hn
          cases hb : bounds n n L H M with
          | none => rw [hb] at h; cases h
          | some r =>
            obtain ⟨l, hh, m⟩ := r
            rw [hb] at h; cases h
            obtain ⟨m', r1, r2, r3, r4⟩ := bounds_run (P := P) (isS := false) hL hH hM g1 g2 g3 hb (Nat.le_refl _) w
            have e0 : m' = m ∧ m ≤ n := by
              cases hmx : mx.isSome with
              | true => have := r3 hmx; omega
              | false => have := r4 hmx; omega
            obtain ⟨rfl, hmc⟩ := e0
            refine .same (v' := .slice (some (if m' = l then ⟨b, a.off, none⟩ else (⟨b, a.off, none⟩ : Addr).add (l * size))) (hh - l) (m' - l)) hS (.inl ?_) ?_
            · simp [execOp, ex, Instr.sliceAt, run_underlying hu, Instr.sureAddr, r1, szOf_run hsz]
            · obtain ⟨al, ao, asp⟩ := a
              simp only at hsp hm; subst hsp
              dsimp only
              split
              · exact .sl hm (by omega)
              · rw [Addr.add_lit, Addr.add_lit]; exact .sl hm (by omega)
        · cases h
    · cases h
  · cases h
end
end Go.Proofs.Ytenbclcfhjdcaaa.AM
