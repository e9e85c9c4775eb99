/- What an operation may do to memory: nothing, a new block, cells written, a block handed on. -/
import Derived.Test.YtenbclcfhjdcaaaAMb
namespace Go.Proofs.Ytenbclcfhjdcaaa.AM
open Go

theorem pureRun_run {α : Type} {P : Program} : ∀ (s : Sem α) {a : α}, pureRun P s = some a → ∀ w : World, s.run P w = .ok a w
  | .pure a, b, h, w => by simp only [pureRun] at h; cases h; rfl
  | .program k, b, h, w => by simp only [pureRun] at h; exact pureRun_run (k P) h w
  | .mark m k, b, h, w => by simp only [pureRun] at h; exact pureRun_run k h w
  | .load .., _, h, _ => by simp [pureRun] at h
  | .store .., _, h, _ => by simp [pureRun] at h
  | .new .., _, h, _ => by simp [pureRun] at h
  | .shape .., _, h, _ => by simp [pureRun] at h
  | .freeze .., _, h, _ => by simp [pureRun] at h
  | .frozen .., _, h, _ => by simp [pureRun] at h
  | .getObj .., _, h, _ => by simp [pureRun] at h
  | .setObj .., _, h, _ => by simp [pureRun] at h
  | .choose .., _, h, _ => by simp [pureRun] at h
  | .sys .., _, h, _ => by simp [pureRun] at h
  | .halt _, _, h, _ => by simp [pureRun] at h

/-- The operation's run in the model: a value, and the world behind it. -/
def Runs (P : Program) (o : Oper) (ρ : Operand → Value) (w : World) (v : Value) (w' : World) : Prop :=
  (execOp ρ o).run P w = .ok (.value v) w' ∨ ((execOp ρ o).run P w = .ok .skip w' ∧ v = undef)
/-- What the abstract operation promises of the model's. -/
def Out (P : Program) (q : Bool) (o : Oper) (ρ' : Operand → Value) (μ : Mu) (σ : Heap) (w : World) (v : Value) (σ' : Heap) : Prop :=
  ∃ v' w' μ', Runs P o ρ' w v' w' ∧ Val μ' v v' ∧ Sim μ' σ' w'.heap ∧ Fr q μ σ w μ' σ' w' ∧ Le σ σ'
section
variable {P : Program} {q : Bool} {o : Oper} {ρ' : Operand → Value} {μ : Mu} {σ σ' : Heap} {w w' : World} {v v' : Value}
theorem Out.same (hS : Sim μ σ w.heap) (hr : Runs P o ρ' w v' w) (hv : Val μ v v') : Out P q o ρ' μ σ w v σ :=
  ⟨v', w, μ, hr, hv, hS, .refl _ _ _ _, .refl _⟩

theorem mapOf (μ : Mu) (σ : Heap) (b : Nat × Nat) : (fun l => if l = σ.length then some b else μ l) σ.length = some b := by simp

theorem Sim.kill (hS : Sim μ σ w.heap) (l : Nat) : Sim μ (kill σ l) w.heap := by
  have hg : ∀ k x, (AM.kill σ l)[k]? = some x → ∃ y, σ[k]? = some y ∧ x.cells = y.cells ∧ (x.perm = y.perm ∨ x.perm = .dead) ∧ (k = l → x.perm = .dead) := by
    intro k x h
    unfold AM.kill at h
    rw [List.getElem?_modify] at h
    cases hk : σ[k]? with
    | none => rw [hk] at h; simp at h
    | some y =>
      rw [hk] at h
      by_cases e : l = k
      · simp [e] at h; subst h; exact ⟨y, rfl, rfl, .inr rfl, fun _ => rfl⟩
      · simp [e] at h; subst h; exact ⟨y, rfl, rfl, .inl rfl, fun e' => absurd e'.symm e⟩
  refine ⟨hS.lt, fun l1 l2 b N1 N2 hne h1 h2 hf ha => ?_, fun k b N x hk hx hd => ?_⟩
  · obtain ⟨x, hx, hp⟩ := hf
    obtain ⟨y, hy, _, hyp, _⟩ := hg _ _ hx
    refine hS.inj l1 l2 b N1 N2 hne h1 h2 ⟨y, hy, ?_⟩ ?_
    · rcases hyp with e | e
      · rw [← e]; exact hp
      · rw [e] at hp; cases hp
    · rcases ha with ⟨z, hz, hzp⟩ | ha
      · obtain ⟨u, hu, _, hup, _⟩ := hg _ _ hz
        refine .inl ⟨u, hu, ?_⟩
        rcases hup with e | e
        · rw [← e]; exact hzp
        · exact absurd e hzp
      · exact .inr (by simpa [AM.kill] using ha)
  · obtain ⟨y, hy, hc, hyp, _⟩ := hg _ _ hx
    have hyp' : x.perm = y.perm := hyp.resolve_right hd
    obtain ⟨c, elem, fr, e, h0, h1, h2⟩ := hS.blk k b N y hk hy (by rw [← hyp']; exact hd)
    exact ⟨c, elem, fr, e, h0, fun h => h1 (by rw [← hyp']; exact h), fun j v h => h2 j v (by rw [← hc]; exact h)⟩
theorem kill_get (σ : Heap) (l k : Nat) : (kill σ l)[k]? = if l = k then (σ[k]?).map (fun b => ⟨b.cells, .dead⟩) else σ[k]? := by
  unfold kill
  rw [List.getElem?_modify]
  cases σ[k]? <;> (split <;> rfl)
theorem kill_len (σ : Heap) (l : Nat) : (kill σ l).length = σ.length := by simp [kill]
theorem Le.kill (σ : Heap) (l : Nat) (hl : ∀ x, σ[l]? = some x → x.perm ≠ .ro) : Le σ (kill σ l) := by
  refine ⟨by simp [kill_len], fun k x h => ?_⟩
  rw [kill_get]
  by_cases e : l = k
  · rw [if_pos e, h]
    refine ⟨_, rfl, fun h => (by cases h), fun hr => ?_, fun _ => rfl⟩
    subst e; exact absurd hr (hl x h)
  · rw [if_neg e, h]; exact ⟨x, rfl, id, fun _ => rfl, id⟩
theorem Le.snoc (σ : Heap) (x : Blk) : Le σ (σ ++ [x]) :=
  ⟨by simp, fun l y h => ⟨y, by rw [List.getElem?_append_left (get_lt h)]; exact h, id, fun _ => rfl, id⟩⟩

/-- A new block in both. -/
theorem sim_new {C : Array Value} {e : TypeId} {fr : Nat × Nat} {cs : List Value} (hS : Sim μ σ w.heap) (hU : μ σ.length = none)
    (hh : w'.heap = w.heap.push (.cells C e fr)) (hfr : frOk C fr) (hc : ∀ (j : Nat) v, cs[j]? = some v → ∃ v', C[j]? = some v' ∧ Val μ v v') :
    Sim (fun l => if l = σ.length then some (w.heap.size, C.size) else μ l) (σ ++ [⟨cs, .full⟩]) w'.heap := by
  have ext : ∀ l b, μ l = some b → (if l = σ.length then some (w.heap.size, C.size) else μ l) = some b := fun l b h => by
    by_cases e : l = σ.length
    · rw [e, hU] at h; cases h
    · rw [if_neg e]; exact h
  have old : ∀ b, b < w.heap.size → w'.heap[b]? = w.heap[b]? := fun b hb => by
    rw [hh, Array.getElem?_push]; split
    · omega
    · rfl
  have gold : ∀ l x, l ≠ σ.length → (σ ++ [⟨cs, .full⟩])[l]? = some x → σ[l]? = some x := fun l x hne h => by
    rcases Nat.lt_or_ge l σ.length with hl | hl
    · rwa [List.getElem?_append_left hl] at h
    · rw [List.getElem?_append_right hl, List.getElem?_eq_none (by simp; omega)] at h; cases h
  refine ⟨fun l b N h => ?_, fun l1 l2 b N1 N2 hne h1 h2 hf ha => ?_, fun l b N x h hx hd => ?_⟩
  · rw [hh, Array.size_push]
    by_cases e : l = σ.length
    · rw [if_pos e] at h; cases h; omega
    · rw [if_neg e] at h; have := hS.lt l b N h; omega
  · by_cases e1 : l1 = σ.length
    · rw [if_pos e1] at h1; cases h1
      by_cases e2 : l2 = σ.length
      · exact hne (e1.trans e2.symm)
      · rw [if_neg e2] at h2; have := hS.lt _ _ _ h2; omega
    · rw [if_neg e1] at h1
      by_cases e2 : l2 = σ.length
      · rw [if_pos e2] at h2; cases h2; have := hS.lt _ _ _ h1; omega
      · rw [if_neg e2] at h2
        obtain ⟨x, hx, hp⟩ := hf
        refine hS.inj l1 l2 b N1 N2 hne h1 h2 ⟨x, gold l1 x e1 hx, hp⟩ ?_
        rcases ha with ⟨y, hy, hyp⟩ | ha
        · exact .inl ⟨y, gold l2 y e2 hy, hyp⟩
        · exact .inr (by simp at ha; omega)
  · by_cases e1 : l = σ.length
    · subst e1
      rw [if_pos rfl] at h; cases h
      rw [List.getElem?_append_right (Nat.le_refl _)] at hx
      simp at hx; subst hx
      exact ⟨C, e, fr, by rw [hh]; simp, rfl, fun _ => hfr, fun j v hv => by
        obtain ⟨v', h1, h2⟩ := hc j v hv
        exact ⟨v', h1, h2.mono ext⟩⟩
    · rw [if_neg e1] at h
      obtain ⟨c, elem, fr, e, a0, a1, a2⟩ := hS.blk l b N x h (gold l x e1 hx) hd
      refine ⟨c, elem, fr, by rw [old b (hS.lt l b N h)]; exact e, a0, a1, fun j v hv => ?_⟩
      obtain ⟨v', b1, b2⟩ := a2 j v hv
      exact ⟨v', b1, b2.mono ext⟩
theorem fr_new {o2 : Obj} {x : Blk} {C : Array Value} (hS : Sim μ σ w.heap) (hU : μ σ.length = none) (hh : w'.heap = w.heap.push o2) (h1 : w'.os = w.os) (h2 : w'.tape = w.tape) (h3 : w'.output = w.output) :
    Fr q μ σ w (fun l => if l = σ.length then some (w.heap.size, C.size) else μ l) (σ ++ [x]) w' := by
  have old : ∀ b, b < w.heap.size → w'.heap[b]? = w.heap[b]? := fun b hb => by
    rw [hh, Array.getElem?_push]; split
    · omega
    · rfl
  refine ⟨fun l b h => ?_, fun l b N h => ?_, fun b hb _ => old b hb, fun _ l b N h _ => .of_eq (old b (hS.lt l b N h)), by rw [hh]; simp, h1, h2, h3⟩
  · by_cases e : l = σ.length
    · rw [e, hU] at h; cases h
    · rw [if_neg e]; exact h
  · by_cases e : l = σ.length
    · rw [if_pos e] at h; cases h
      exact .inr ⟨by omega, by simp; omega, .inl (Nat.le_refl _)⟩
    · rw [if_neg e] at h; exact .inl h
/-- An operation that lays a new block. -/
theorem Out.new {C : Array Value} {e : TypeId} {fr : Nat × Nat} {cs : List Value} (hS : Sim μ σ w.heap) (hU : μ σ.length = none) (hr : Runs P o ρ' w v' w')
    (hh : w'.heap = w.heap.push (.cells C e fr)) (hfr : frOk C fr) (hc : ∀ (j : Nat) v, cs[j]? = some v → ∃ v', C[j]? = some v' ∧ Val μ v v')
    (h1 : w'.os = w.os) (h2 : w'.tape = w.tape) (h3 : w'.output = w.output) (hv : ∀ μ' : Mu, μ' σ.length = some (w.heap.size, C.size) → Val μ' v v') :
    Out P q o ρ' μ σ w v (σ ++ [⟨cs, .full⟩]) :=
  ⟨v', w', _, hr, hv _ (mapOf μ σ _), sim_new hS hU hh hfr hc, fr_new hS hU hh h1 h2 h3, .snoc _ _⟩

/-- What is read. -/
theorem read_sim {a : Addr} {n : Nat} {vs : List Value} {b N : Nat} (hS : Sim μ σ w.heap) (hm : μ a.block = some (b, N)) (h : readN σ a n = some vs) :
    a.spot = none ∧ ∃ vs', ValL μ vs vs' ∧ vs.length = n ∧ (∀ (j : Nat) v', vs'[j]? = some v' → w.cell? ⟨b, a.off + j, none⟩ = some v') ∧
      ∃ c elem fr, w.heap[b]? = some (.cells c elem fr) ∧ c.size = N ∧ a.off + n ≤ c.size := by
  unfold readN at h
  cases hs : a.spot with
  | some _ => rw [hs] at h; simp at h
  | none =>
    cases hb : σ[a.block]? with
    | none => rw [hs, hb] at h; simp at h
    | some x =>
      rw [hs, hb] at h
      dsimp only at h
      split at h
      · rename_i hc
        obtain ⟨hd, hl⟩ := hc
        cases h
        obtain ⟨c, elem, fr, e, a0, _, a2⟩ := hS.blk _ b N x hm hb hd
        have hsz : x.cells.length ≤ c.size := by
          rcases Nat.eq_zero_or_pos x.cells.length with h0 | h0
          · omega
          · obtain ⟨v', h1, _⟩ := a2 (x.cells.length - 1) _ (List.getElem?_eq_getElem (by omega))
            have := (Array.getElem?_eq_some_iff.1 h1).1
            omega
        refine ⟨rfl, ((c.toList.drop a.off).take n), ⟨by simp; omega, fun i v v' h1 h2 => ?_⟩, by simp; omega, fun j v' h1 => ?_, c, elem, fr, e, a0, by omega⟩
        · rw [List.getElem?_take] at h1 h2
          split at h1
          · rename_i hi
            rw [if_pos hi] at h2
            rw [List.getElem?_drop] at h1 h2
            obtain ⟨u, b1, b2⟩ := a2 _ _ h1
            rw [Array.getElem?_toList, b1] at h2
            cases h2; exact b2
          · cases h1
        · rw [List.getElem?_take] at h1
          split at h1
          · rw [List.getElem?_drop, Array.getElem?_toList] at h1
            simp only [World.cell?, e]
            simpa using h1
          · cases h1
      · cases h

theorem setCells_same3 (b : Nat) : ∀ (vs : List Value) (o : Nat) (w : World), (w.setCells b o vs).os = w.os ∧ (w.setCells b o vs).tape = w.tape ∧ (w.setCells b o vs).output = w.output ∧ (w.setCells b o vs).heap.size = w.heap.size
  | [], _, _ => ⟨rfl, rfl, rfl, rfl⟩
  | v :: r, o, w => by
    obtain ⟨h1, h2, h3, h4⟩ := setCells_same3 b r (o + 1) (w.setCell ⟨b, o, none⟩ v)
    exact ⟨h1, h2, h3, h4.trans (by simp)⟩
theorem setCells_other (b : Nat) : ∀ (vs : List Value) (o : Nat) (w : World) (k : Nat), k ≠ b → (w.setCells b o vs).heap[k]? = w.heap[k]?
  | [], _, _, _, _ => rfl
  | v :: r, o, w, k, h => by
    rw [World.setCells, setCells_other b r (o + 1) _ k h]
    simp [World.setCell, Array.getElem?_modify, Ne.symm h]
theorem setCells_at (b : Nat) (e : TypeId) (fr : Nat × Nat) : ∀ (vs : List Value) (o : Nat) (w : World) (c : Array Value), w.heap[b]? = some (.cells c e fr) → o + vs.length ≤ c.size →
    ∃ c', (w.setCells b o vs).heap[b]? = some (.cells c' e fr) ∧ c'.size = c.size ∧ ∀ j : Nat, c'[j]? = if o ≤ j ∧ j < o + vs.length then vs[j - o]? else c[j]?
  | [], o, w, c, h, _ => ⟨c, h, rfl, fun j => by simp; intro h1 h2; omega⟩
  | v :: r, o, w, c, h, hl => by
    simp only [List.length_cons] at hl
    have h' : (w.setCell ⟨b, o, none⟩ v).heap[b]? = some (.cells (c.setIfInBounds o v) e fr) := by simp [World.setCell, Array.getElem?_modify, h]
    obtain ⟨c', h1, h2, h3⟩ := setCells_at b e fr r (o + 1) (w.setCell ⟨b, o, none⟩ v) _ h' (by simp; omega)
    refine ⟨c', h1, by simpa using h2, fun j => ?_⟩
    rw [h3 j]
    by_cases e1 : o + 1 ≤ j ∧ j < o + 1 + r.length
    · rw [if_pos e1, if_pos ⟨by omega, by simp; omega⟩]
      rw [show j - o = (j - (o + 1)) + 1 by omega, List.getElem?_cons_succ]
    · rw [if_neg e1]
      by_cases e2 : j = o
      · subst e2
        rw [if_pos ⟨Nat.le_refl _, by simp⟩]
        rw [Array.getElem?_setIfInBounds]
        simp
        omega
      · rw [if_neg (by simp; omega)]
        rw [Array.getElem?_setIfInBounds_ne (Ne.symm e2)]

/-- What is written. -/
theorem write_sim {a : Addr} {vs vs' : List Value} {b N : Nat} (hS : Sim μ σ w.heap) (hm : μ a.block = some (b, N)) (h : writeN σ a vs = some σ') (hv : ValL μ vs vs') :
    a.spot = none ∧ Sim μ σ' (w.setCells b a.off vs').heap ∧ Fr false μ σ w μ σ' (w.setCells b a.off vs') ∧ Le σ σ' ∧ σ'.length = σ.length ∧
      (∀ j, j < vs'.length → (w.cell? ⟨b, a.off + j, none⟩).isSome = true) ∧ (∀ j, j < vs'.length → w.frozen? ⟨b, a.off + j, none⟩ = false) ∧ (vs.all cellB = true) := by
  unfold writeN at h
  cases hs : a.spot with
  | some _ => rw [hs] at h; simp at h
  | none =>
    cases hb : σ[a.block]? with
    | none => rw [hs, hb] at h; simp at h
    | some x =>
      rw [hs, hb] at h
      dsimp only at h
      split at h
      · rename_i hc
        obtain ⟨hp, hl, hcell⟩ := hc
        cases h
        obtain ⟨c, elem, fr, e, a0, a1, a2⟩ := hS.blk _ b N x hm hb (by rw [hp]; simp)
        have hfr := a1 hp
        have hsz : x.cells.length ≤ c.size := by
          rcases Nat.eq_zero_or_pos x.cells.length with h0 | h0
          · omega
          · obtain ⟨v', h1, _⟩ := a2 (x.cells.length - 1) _ (List.getElem?_eq_getElem (by omega))
            have := (Array.getElem?_eq_some_iff.1 h1).1
            omega
        have hl' : vs'.length = vs.length := hv.1
        obtain ⟨c', e', hsz', hget⟩ := setCells_at b elem fr vs' a.off w c e (by omega)
        obtain ⟨s1, s2, s3, s4⟩ := setCells_same3 b vs' a.off w
        have hff : isFull σ a.block := ⟨x, hb, hp⟩
        have hlt : a.block < σ.length := get_lt hb
        have gset : ∀ k y, (σ.set a.block ⟨splice x.cells a.off vs, .full⟩)[k]? = some y → (k ≠ a.block ∧ σ[k]? = some y) ∨ (k = a.block ∧ y = ⟨splice x.cells a.off vs, .full⟩) := fun k y hk => by
          rw [List.getElem?_set] at hk
          split at hk
          · rename_i e
            first | rw [if_pos (by omega)] at hk | skip
            cases hk; exact .inr ⟨e.symm, rfl⟩
          · rename_i e; exact .inl ⟨fun e' => e e'.symm, hk⟩
        have full' : ∀ k, isFull (σ.set a.block ⟨splice x.cells a.off vs, .full⟩) k → isFull σ k := fun k ⟨y, hy, hyp⟩ => by
          rcases gset k y hy with ⟨_, h⟩ | ⟨e, _⟩
          · exact ⟨y, h, hyp⟩
          · rw [e]; exact hff
        have alive' : ∀ k, alive (σ.set a.block ⟨splice x.cells a.off vs, .full⟩) k → alive σ k := fun k ⟨y, hy, hyp⟩ => by
          rcases gset k y hy with ⟨_, h⟩ | ⟨e, _⟩
          · exact ⟨y, h, hyp⟩
          · rw [e]; exact hff.alive
        refine ⟨rfl, ⟨fun l b N h => by rw [s4]; exact hS.lt l b N h, fun l1 l2 b N1 N2 hne h1 h2 hf ha => hS.inj l1 l2 b N1 N2 hne h1 h2 (full' _ hf) (ha.imp (alive' _) (by simp)), fun l b' N' y hl1 hy hd => ?_⟩, ?_, ?_, by simp, fun j hj => ?_, fun j hj => ?_, hcell⟩
        · rcases gset l y hy with ⟨hne, h⟩ | ⟨el, ey⟩
          · have hb' : b' ≠ b := fun e => by
              subst e
              exact hS.inj a.block l b' N N' (Ne.symm hne) hm hl1 hff (.inl ⟨y, h, hd⟩)
            obtain ⟨c2, elem2, fr2, k1, k0, k2, k3⟩ := hS.blk l b' N' y hl1 h hd
            exact ⟨c2, elem2, fr2, by rw [setCells_other b _ _ _ _ hb']; exact k1, k0, k2, k3⟩
          · subst el; subst ey
            rw [hm] at hl1; cases hl1
            refine ⟨c', elem, fr, e', hsz'.trans a0, fun _ => (by unfold frOk at *; omega), fun j v hj => ?_⟩
            rw [hget j]
            unfold splice at hj
            rcases Nat.lt_or_ge j a.off with g1 | g1
            · rw [if_neg (by omega)]
              rw [List.append_assoc, List.getElem?_append_left (by simp; omega), List.getElem?_take, if_pos g1] at hj
              exact a2 j v hj
            · rcases Nat.lt_or_ge j (a.off + vs.length) with g2 | g2
              · rw [if_pos ⟨g1, by omega⟩]
                rw [List.append_assoc, List.getElem?_append_right (by simp; omega), List.getElem?_append_left (by simp; omega)] at hj
                simp only [List.length_take] at hj
                rw [show j - min a.off x.cells.length = j - a.off by omega] at hj
                exact hv.get hj
              · rw [if_neg (by omega)]
                rw [List.getElem?_append_right (by simp; omega), List.getElem?_drop] at hj
                simp only [List.length_append, List.length_take] at hj
                rw [show a.off + vs.length + (j - (min a.off x.cells.length + vs.length)) = j by omega] at hj
                exact a2 j v hj
        · refine ⟨fun _ _ h => h, fun _ _ _ h => .inl h, fun b' hb' hn => setCells_other b _ _ _ _ (fun e => ?_), fun h => (by cases h), by rw [s4]; exact Nat.le_refl _, s1, s2, s3⟩
          subst e
          exact hn a.block N hm hff
        · refine ⟨by simp, fun l y hy => ?_⟩
          rw [List.getElem?_set]
          split
          · rename_i e
            first | rw [if_pos (by omega)] | skip
            subst e
            rw [hb] at hy; cases hy
            exact ⟨_, rfl, fun _ => hp, fun h => (by rw [hp] at h; cases h), fun h => (by rw [hp] at h; cases h)⟩
          · exact ⟨y, hy, id, fun _ => rfl, id⟩
        · simp only [World.cell?, e]
          simp
          omega
        · simp only [World.frozen?, e]
          unfold frOk at hfr
          simp
          omega
      · cases h
end
end Go.Proofs.Ytenbclcfhjdcaaa.AM
