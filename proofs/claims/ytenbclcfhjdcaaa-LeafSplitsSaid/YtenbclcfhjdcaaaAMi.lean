/- An operation of the abstract machine promises the same operation of the model. -/
import Derived.Test.YtenbclcfhjdcaaaAMh
namespace Go.Proofs.Ytenbclcfhjdcaaa.AM
open Go
section
variable {P : Program} {q : Bool} {o : Oper} {ρ ρ' : Operand → Value} {μ : Mu} {σ σ' : Heap} {w w' : World} {v v' : Value}
theorem newBlk_U {τ : Heap} {cs : List Value} {a : Addr} (hb : newBlk σ cs = some (a, τ)) (hU : ∀ l, σ.length ≤ l → l < τ.length → μ l = none) : μ σ.length = none :=
  hU _ (Nat.le_refl _) (by rw [(newBlk_spec hb).2.1]; simp)
set_option maxHeartbeats 1000000 in
theorem aop_sound (hS : Sim μ σ w.heap) (hU : ∀ l, σ.length ≤ l → l < σ'.length → μ l = none) (hρ : ∀ x ∈ o.op.operands, Val μ (ρ x) (ρ' x)) (h : aop P q ρ o σ = some (v, σ')) : Out P q o ρ' μ σ w v σ' := by
  have hsel : ∀ cs b, o.op ≠ .select cs b := fun cs b e => by unfold aop at h; rw [e] at h; cases h
  have hp : ∀ {r : Option (Value × Heap)}, r = (aPure P ρ o).map (·, σ) → r = some (v, σ') → Out P q o ρ' μ σ w v σ' := fun e h => aPure_map hS hρ hsel (e ▸ h)
  obtain ⟨dst, op, type, pos, after, guard⟩ := o
  cases op with
  | move x => simp only [aop] at h; cases h; exact move_sound hS (hρ x (by simp [Op.operands]))
  | assign x => simp only [aop] at h; cases h; exact assign_sound hS (hρ x (by simp [Op.operands]))
  | pick c a b =>
    simp only [aop] at h
    split at h
    · rename_i t ht
      cases h
      exact pick_sound hS (hρ c (by simp [Op.operands])) (hρ a (by simp [Op.operands])) (hρ b (by simp [Op.operands])) ht
    · cases h
  | extract x i =>
    simp only [aop] at h
    split at h
    · rename_i vs ht
      cases hi : vs[i]? with
      | none => rw [hi] at h; cases h
      | some u => rw [hi] at h; cases h; exact extract_sound hS (hρ x (by simp [Op.operands])) ht hi
    · cases h
  | nilCheck x =>
    have hx := hρ x (by simp [Op.operands])
    simp only [aop] at h
    split at h
    · rename_i a ht
      cases h
      rw [ht] at hx
      have hx0 := hx
      obtain ⟨b, N, h1, h2, e⟩ := hx.ptr_inv
      rw [e] at hx0
      exact .same hS (.inl (by simp [execOp, e])) hx0
    · rename_i f a b ht
      cases h
      rw [ht] at hx
      have hx0 := hx
      obtain ⟨a', b', e, _, _⟩ := hx.func_inv
      rw [e] at hx0
      exact .same hS (.inl (by simp [execOp, e])) hx0
    · cases h
  | alloc t =>
    simp only [aop] at h
    cases hz : zerosOf P t 1 with
    | none => rw [hz] at h; cases h
    | some zs =>
      rw [hz] at h
      cases hb : newBlk σ zs with
      | none => simp [hb] at h
      | some r =>
        obtain ⟨a, τ⟩ := r
        simp [hb] at h
        obtain ⟨rfl, rfl⟩ := h
        exact alloc_sound hS (newBlk_U hb hU) hz hb
  | box t x =>
    simp only [aop] at h
    cases hb : newBlk σ (ρ x).cells.toList with
    | none => rw [hb] at h; cases h
    | some r =>
      obtain ⟨a, τ⟩ := r
      rw [hb] at h
      cases h
      exact box_sound hS (newBlk_U hb hU) (hρ x (by simp [Op.operands])) hb
  | load t x =>
    simp only [aop] at h
    split at h
    · rename_i a ht
      cases hl : loadV P t σ a with
      | none => rw [hl] at h; cases h
      | some u => rw [hl] at h; cases h; exact load_sound hS (hρ x (by simp [Op.operands])) ht hl
    · cases h
  | store t x y =>
    simp only [aop] at h
    split at h
    · rename_i a n ht hn
      split at h
      · rename_i hc
        obtain ⟨rfl, hc⟩ := hc
        cases hw : writeN σ a (ρ y).cells.toList with
        | none => rw [hw] at h; cases h
        | some τ => rw [hw] at h; cases h; exact store_sound hS (hρ x (by simp [Op.operands])) (hρ y (by simp [Op.operands])) ht hn hc hw
      · cases h
    · cases h
  | fieldAddr t x f =>
    simp only [aop] at h
    split at h
    · rename_i a off ft ht hf
      split at h
      · rename_i k hk
        cases h
        exact fieldAddr_sound hS (hρ x (by simp [Op.operands])) ht hf hk
      · cases h
    · cases h
  | field t x f =>
    simp only [aop] at h
    split at h
    · rename_i cs off ft ht hf
      cases hl : partV P ft cs off with
      | none => rw [hl] at h; cases h
      | some u => rw [hl] at h; cases h; exact field_sound hS (hρ x (by simp [Op.operands])) ht hf hl
    · cases h
  | indexAddr t x i =>
    simp only [aop] at h
    split at h
    · rename_i e a n c k j hu h1 h2
      split at h
      · rename_i s hs
        split at h
        · rename_i hc
          cases h
          exact indexAddr_slice_sound hS (hρ x (by simp [Op.operands])) (hρ i (by simp [Op.operands])) hu h1 h2 hs hc.1 hc.2
        · cases h
      · cases h
    · rename_i n e a k j hu h1 h2
      split at h
      · rename_i s hs
        split at h
        · rename_i hc
          cases h
          exact indexAddr_array_sound hS (hρ x (by simp [Op.operands])) (hρ i (by simp [Op.operands])) hu h1 h2 hs hc.1 hc.2
        · cases h
      · cases h
    · cases h
  | index t x i =>
    simp only [aop] at h
    split at h
    · rename_i n e cs k j hu h1 h2
      split at h
      · rename_i s hs
        split at h
        · rename_i hc
          cases hl : partV P e cs (j.toNat * s) with
          | none => rw [hl] at h; cases h
          | some u => rw [hl] at h; cases h; exact index_sound hS (hρ x (by simp [Op.operands])) (hρ i (by simp [Op.operands])) hu h1 h2 hs hc.1 hc.2 hl
        · cases h
      · cases h
    · exact hp rfl h
  | slice t x lo hi mx =>
    simp only [aop] at h
    split at h
    · exact hp rfl h
    · cases hl : aSlice P t (ρ x) (lo.map ρ) (hi.map ρ) (mx.map ρ) with
      | none => rw [hl] at h; cases h
      | some u =>
        rw [hl] at h; cases h
        exact slice_sound hS (hρ x (by simp [Op.operands])) (fun y e => hρ y (by subst e; simp [Op.operands])) (fun y e => hρ y (by subst e; simp [Op.operands])) (fun y e => hρ y (by subst e; simp [Op.operands])) hl
  | makeFunc fn a b =>
    simp only [aop] at h
    split at h
    · cases h
      exact makeFunc_sound hS (fun x hx => hρ x (by simp [Op.operands, hx])) (fun x hx => hρ x (by simp [Op.operands, hx]))
    · cases h
  | makeInterface t x =>
    simp only [aop] at h
    split at h
    · rename_i hc
      cases h
      exact makeInterface_sound hS (hρ x (by simp [Op.operands])) hc
    · cases h
  | makeSlice t l c =>
    simp only [aop] at h
    split at h
    · rename_i e kl il kc ic hu h1 h2
      split at h
      · rename_i bytes hb
        split at h
        · rename_i hc
          cases hz : zerosOf P e ic.toNat with
          | none => rw [hz] at h; cases h
          | some zs =>
            rw [hz] at h
            cases hn : newBlk σ zs with
            | none => simp [hn] at h
            | some r =>
              obtain ⟨a, τ⟩ := r
              simp [hn] at h
              obtain ⟨rfl, rfl⟩ := h
              exact makeSlice_sound hS (newBlk_U hn hU) (hρ l (by simp [Op.operands])) (hρ c (by simp [Op.operands])) hu h1 h2 hb hc.1 hc.2.1 hc.2.2.1 hc.2.2.2 hz hn
        · cases h
      · cases h
    · cases h
  | build t parts =>
    have hparts : ∀ p ∈ parts, Val μ (ρ p.2) (ρ' p.2) := fun p hm => hρ p.2 (by
      simp only [Op.operands, List.mem_toArray, List.mem_map]
      exact ⟨p, by simpa using hm, rfl⟩)
    simp only [aop] at h
    split at h
    · rename_i z hz
      split at h
      · rename_i hc
        cases hb : P.built t (parts.map fun (i, x) => (i, ρ x)).toList with
        | none => rw [hb] at h; cases h
        | some cs => rw [hb] at h; cases h; exact build_sound hS hparts hc.2 hz hc.1 hb
      · cases h
    · cases h
  | buildSlice t len parts =>
    have hparts : ∀ p ∈ parts, Val μ (ρ p.2) (ρ' p.2) := fun p hm => hρ p.2 (by
      simp only [Op.operands, List.mem_toArray, List.mem_map]
      exact ⟨p, by simpa using hm, rfl⟩)
    simp only [aop] at h
    split at h
    · rename_i e hu
      split at h
      · rename_i s zs hs hz
        split at h
        · rename_i hc
          cases hf : Instr.fill (fun i => some (i * s, s)) zs.toArray (parts.map fun (i, x) => (i, ρ x)).toList with
          | none => rw [hf] at h; cases h
          | some cs =>
            rw [hf] at h
            cases hn : newBlk σ cs.toList with
            | none => simp [hn] at h
            | some r =>
              obtain ⟨a, τ⟩ := r
              simp [hn] at h
              obtain ⟨rfl, rfl⟩ := h
              exact buildSlice_sound hS (newBlk_U hn hU) hparts hc.2.2 hu hs hz hc.1 hc.2.1 hf hn
        · cases h
      · cases h
    · cases h
  | binOp op t x y ty =>
    have hx := hρ x (by simp [Op.operands])
    have hy := hρ y (by simp [Op.operands])
    simp only [aop] at h
    split at h
    · rename_i b hb
      cases h
      exact strEq_sound hS hx hy hb
    · split at h
      · exact hp rfl h
      · split at h
        · cases he : aEq P t (ρ x) (ρ y) with
          | none => rw [he] at h; cases h
          | some b => rw [he] at h; cases h; exact eql_sound hS hx hy he
        · cases he : aEq P t (ρ x) (ρ y) with
          | none => rw [he] at h; cases h
          | some b => rw [he] at h; cases h; exact neq_sound hS hx hy he
        · cases h
  | unOp op t x => simp only [aop] at h; exact hp rfl h
  | convert src dt x =>
    have hx := hρ x (by simp [Op.operands])
    simp only [aop] at h
    split at h
    · rename_i e A n c h1 h2 hxe
      split at h
      · rename_i h3
        split at h
        · rename_i a
          split at h
          · rename_i cs hr
            split at h
            · rename_i bs hb
              cases h
              exact toString_sound hS hx h1 h2 h3 hxe hr hb
            · cases h
          · cases h
        · cases h
      · cases h
    · rename_i e0 e a n c h1 h2 hxe
      split at h
      · rename_i b h3 hb
        split at h
        · rename_i hc
          cases h
          have := sameBytes_sound (q := q) (dst := dst) (type := type) (pos := pos) (after := after) (guard := guard) hS hx h1 h2 h3 hc.1 hxe hb hc.2.1 hc.2.2
          rw [hxe] at this
          exact this
        · cases h
      · cases h
    · rename_i e s h1 h2 hxe
      split at h
      · rename_i h3
        split at h
        · rename_i hc
          cases hn : newBlk σ (byteCells s) with
          | none => rw [hn] at h; cases h
          | some r =>
            obtain ⟨a, τ⟩ := r
            rw [hn] at h; cases h
            exact toBytes_sound hS (newBlk_U hn hU) hx h1 h2 h3 hxe hc hn
        · cases h
      · cases h
    · exact hp rfl h
  | call c =>
    obtain ⟨callee, args, argTypes⟩ := c
    cases callee with
    | builtin b =>
      have ha : ∀ {l : List Operand}, args.toList = l → args = l.toArray := fun e => by rw [← e]
      have ht : ∀ {l : List TypeId}, argTypes.toList = l → argTypes = l.toArray := fun e => by rw [← e]
      simp only [aop] at h
      split at h
      · rename_i s x t tx e1 e2
        obtain rfl := ha e1
        obtain rfl := ht e2
        exact app_sound hS hU (hρ s (by simp [Op.operands, Call.operands])) (hρ x (by simp [Op.operands, Call.operands])) h
      · rename_i x t e1 e2
        obtain rfl := ha e1
        obtain rfl := ht e2
        split at h
        · rename_i e A n c hu hxe
          cases h
          exact len_slice_sound hS (hρ x (by simp [Op.operands, Call.operands])) hu hxe
        · rename_i n e hu
          cases h
          exact len_array_sound hS hu
        · exact hp rfl h
      · rename_i x t e1 e2
        obtain rfl := ha e1
        obtain rfl := ht e2
        split at h
        · rename_i e A n c hu hxe
          split at h
          · rename_i hc
            cases h
            exact cap_sound hS (hρ x (by simp [Op.operands, Call.operands])) hu hxe hc
          · cases h
        · cases h
      · rename_i d s t tx e1 e2
        obtain rfl := ha e1
        obtain rfl := ht e2
        split at h
        · cases h
        · rename_i hq
          have hq : q = false := by simpa using hq
          subst hq
          split at h
          · rename_i e A n c hu hde
            split at h
            · rename_i size hsz
              split at h
              · rename_i m xs hsrc
                obtain ⟨k1, k2⟩ := copy_sound (q := false) (dst := dst) (type := type) (pos := pos) (after := after) (guard := guard) hS (hρ d (by simp [Op.operands, Call.operands])) (hρ s (by simp [Op.operands, Call.operands])) hu hde hsz hsrc
                split at h
                · rename_i h0
                  cases h
                  exact k1 h0
                · split at h
                  · rename_i a
                    cases hw : writeN σ a (xs.take (Nat.min m n * size)) with
                    | none => rw [hw] at h; cases h
                    | some τ => rw [hw] at h; cases h; exact k2 _ _ rfl hw
                  · cases h
              · cases h
            · cases h
          · cases h
      · rename_i x t e1 e2
        obtain rfl := ha e1
        obtain rfl := ht e2
        split at h
        · cases h
        · rename_i hq
          have hq : q = false := by simpa using hq
          subst hq
          split at h
          · rename_i e A n c hu hxe
            obtain ⟨k1, k2⟩ := clear_sound (q := false) (dst := dst) (type := type) (pos := pos) (after := after) (guard := guard) hS (hρ x (by simp [Op.operands, Call.operands])) hu hxe
            split at h
            · rename_i h0
              cases h
              exact k1 h0
            · rename_i h0
              split at h
              · rename_i a
                cases hz : zerosOf P e n with
                | none => rw [hz] at h; cases h
                | some zs =>
                  rw [hz] at h
                  cases hw : writeN σ a zs with
                  | none => simp [hw] at h
                  | some τ =>
                    simp [hw] at h
                    obtain ⟨rfl, rfl⟩ := h
                    exact k2 _ _ _ h0 rfl hz hw
              · cases h
          · cases h
      · exact hp rfl h
    | value x => simp only [aop] at h; cases h
    | invoke r m => simp only [aop] at h; cases h
  | _ => simp only [aop] at h; cases h
end
end Go.Proofs.Ytenbclcfhjdcaaa.AM
