/- Operations of the abstract machine, and of the model: append, copy, clear, len, cap. -/
import Derived.Test.YtenbclcfhjdcaaaAMe
namespace Go.Proofs.Ytenbclcfhjdcaaa.AM
open Go
section
variable {P : Program} {q : Bool} {o : Oper} {ρ ρ' : Operand → Value} {μ : Mu} {σ σ' : Heap} {w w' : World} {v v' : Value}
variable {dst : Option Tmp} {type : TypeId} {pos : String} {after : Array Edge} {guard : Option (Nat × Bool)}

theorem info_of {e : TypeId} {size bytes : Nat} {z : Value} (h1 : szOf P e = some size) (h2 : byOf P e = some bytes) (h3 : zeroOf P e = some z) : ∃ i, P.info? e = some i ∧ i.size = size ∧ i.bytes = bytes ∧ i.zero = some z := by
  unfold szOf at h1; unfold byOf at h2; unfold zeroOf at h3
  cases hi : P.info? e with
  | none => rw [hi] at h1; cases h1
  | some i =>
    rw [hi] at h1 h2 h3
    simp at h1 h2 h3
    exact ⟨i, rfl, h1, h2, h3⟩
theorem srcOf_sound {size : Nat} {tx : TypeId} {x x' : Value} {m : Nat} {xs : List Value} (hS : Sim μ σ w.heap) (hx : Val μ x x') (h : srcOf P σ size tx x = some (m, xs)) (hc : xs.all cellB = true) :
    ∃ xs', ValL μ xs xs' ∧ Src P size tx x' m xs' w := by
  unfold srcOf at h
  split at h
  · rename_i e' a n c hk
    cases hr : readN σ a (n * size) with
    | none => rw [hr] at h; cases h
    | some vs =>
      rw [hr] at h
      have h := Prod.mk.inj (Option.some.inj h)
      obtain ⟨rfl, rfl⟩ := h
      rcases hx.sl_inv with ⟨_, rfl, a', c', rfl⟩ | ⟨b, N, hsp, hm, h⟩
      · have e0 : vs = [] := by
          unfold readN at hr
          split at hr
          · split at hr
            · cases hr; simp
            · cases hr
          · cases hr
        subst e0
        exact ⟨[], .nil, .ofSlice w hk a' 0 c' [] (by simp) (fun j u hj => by simp at hj) (fun _ h => by cases h)⟩
      · obtain ⟨_, vs', h1, h2, h3, _⟩ := read_sim hS hm hr
        have e1 : ∃ c', x' = .slice (some ⟨b, a.off, none⟩) n c' := by
          rcases h with ⟨_, e⟩ | ⟨_, _, c', _, _, _, _, _, _, _, e⟩
          · exact ⟨_, e⟩
          · exact ⟨_, e⟩
        obtain ⟨c', rfl⟩ := e1
        exact ⟨vs', h1, .ofSlice w hk _ n c' vs' (h1.1.trans h2) (fun j u hj => by rw [Addr.add_lit]; exact h3 j u hj) (h1.oneCell hc)⟩
  · rename_i e' hk
    cases h
    rw [scalar_val rfl hx]
    exact ⟨[], .nil, .ofNil w hk 0⟩
  · rename_i s hk
    split at h
    · rename_i hs
      cases h
      subst hs
      rw [hx.str]
      exact ⟨byteCells s, ⟨rfl, fun i v v' h1 h2 => by
        rw [h1] at h2; cases h2
        obtain ⟨_, _, rfl⟩ := List.mem_map.1 (List.mem_of_getElem? h1)
        exact .scal rfl⟩, .ofString w hk s⟩
    · cases h
  · cases h
theorem Src.len {size : Nat} {tx : TypeId} {x : Value} {m : Nat} {xs : List Value} (h : Src P size tx x m xs w) : xs.length = m * size := h.newsLen
theorem le_grown (w : World) {need old : Nat} {e : TypeId} : need ≤ grownCap w need old e := by
  simp only [grownCap, Question.cut]; omega
/-- A block handed on: the abstract one's place is taken by a longer one in the same block of the model's. -/
theorem sim_hand {l b N : Nat} {x : Blk} {xs xs' : List Value} {k : Nat} (hS : Sim μ σ w.heap) (hU : μ σ.length = none) (hm : μ l = some (b, N)) (hx : σ[l]? = some x) (hp : x.perm = .full) (hk : k ≤ x.cells.length) (hv : ValL μ xs xs') (hN : k + xs.length ≤ N) (hc : xs.all cellB = true) :
    let μ' : Mu := fun j => if j = σ.length then some (b, N) else μ j
    let σ' := AM.kill σ l ++ [⟨x.cells.take k ++ xs, .full⟩]
    Sim μ' σ' (w.setCells b k xs').heap ∧ Fr q μ σ w μ' σ' (w.setCells b k xs') ∧ (∀ j, j < xs'.length → (w.cell? ⟨b, k + j, none⟩).isSome = true) ∧ (∀ j, j < xs'.length → w.frozen? ⟨b, k + j, none⟩ = false) := by
  intro μ' σ'
  obtain ⟨c, elem, fr, e, a0, a1, a2⟩ := hS.blk l b N x hm hx (by rw [hp]; simp)
  have hfr := a1 hp
  have hl' : xs'.length = xs.length := hv.1
  obtain ⟨c', e', hsz', hget⟩ := setCells_at b elem fr xs' k w c e (by omega)
  obtain ⟨s1, s2, s3, s4⟩ := setCells_same3 b xs' k w
  have hfull : isFull σ l := ⟨x, hx, hp⟩
  have hll : l < σ.length := get_lt hx
  have ext : ∀ j p, μ j = some p → μ' j = some p := fun j p h => by
    show (if j = σ.length then some (b, N) else μ j) = some p
    by_cases ej : j = σ.length
    · rw [ej, hU] at h; cases h
    · rw [if_neg ej]; exact h
  have gold : ∀ (j : Nat) (y : Blk), j ≠ σ.length → σ'[j]? = some y → ∃ y0, σ[j]? = some y0 ∧ ((j = l ∧ y.perm = .dead) ∨ (j ≠ l ∧ y = y0)) := fun j y hne h => by
    rcases Nat.lt_or_ge j σ.length with hl | hl
    · rw [List.getElem?_append_left (by rw [kill_len]; exact hl), kill_get] at h
      obtain ⟨y0, hy0⟩ : ∃ y0, σ[j]? = some y0 := ⟨_, List.getElem?_eq_getElem hl⟩
      rw [hy0] at h
      by_cases ej : l = j
      · rw [if_pos ej] at h; simp at h; subst h
        exact ⟨y0, hy0, .inl ⟨ej.symm, rfl⟩⟩
      · rw [if_neg ej] at h; cases h
        exact ⟨y, hy0, .inr ⟨fun e => ej e.symm, rfl⟩⟩
    · rw [List.getElem?_append_right (by rw [kill_len]; exact hl), List.getElem?_eq_none (by simp [kill_len]; omega)] at h; cases h
  have gnew : σ'[σ.length]? = some ⟨x.cells.take k ++ xs, .full⟩ := by
    show (AM.kill σ l ++ [_])[σ.length]? = _
    rw [List.getElem?_append_right (by rw [kill_len]; exact Nat.le_refl _)]; simp [kill_len]
  have gdead : ∀ y, σ'[l]? = some y → y.perm = .dead := fun y h => by
    obtain ⟨y0, _, h | h⟩ := gold l y (by omega) h
    · exact h.2
    · exact absurd rfl h.1
  have old : ∀ j p, j ≠ σ.length → μ' j = some p → μ j = some p := fun j p hj h => by
    have : (if j = σ.length then some (b, N) else μ j) = some p := h
    rwa [if_neg hj] at this
  have fullO : ∀ j, j ≠ σ.length → isFull σ' j → isFull σ j ∧ j ≠ l := fun j hj ⟨y, hy, hyp⟩ => by
    obtain ⟨y0, h0, h | h⟩ := gold j y hj hy
    · rw [h.2] at hyp; cases hyp
    · exact ⟨⟨y0, h0, by rw [← h.2]; exact hyp⟩, h.1⟩
  have aliveO : ∀ j, j ≠ σ.length → alive σ' j → alive σ j ∧ j ≠ l := fun j hj ⟨y, hy, hyp⟩ => by
    obtain ⟨y0, h0, h | h⟩ := gold j y hj hy
    · exact absurd h.2 hyp
    · exact ⟨⟨y0, h0, by rw [← h.2]; exact hyp⟩, h.1⟩
  have lenS : σ'.length = σ.length + 1 := by simp [σ', kill_len]
  refine ⟨⟨fun j b' N' h => ?_, fun l1 l2 b' N1 N2 hne h1 h2 hf ha => ?_, fun j b' N' y h hy hd => ?_⟩, ⟨ext, fun j b' N' h => ?_, fun b' hb' hn => setCells_other b _ _ _ _ (fun e => ?_), fun _ j b' N' h ha => ?_, by rw [s4]; exact Nat.le_refl _, s1, s2, s3⟩, fun j hj => ?_, fun j hj => ?_⟩
  · rw [s4]
    by_cases ej : j = σ.length
    · subst ej
      have : (if σ.length = σ.length then some (b, N) else μ σ.length) = some (b', N') := h
      rw [if_pos rfl] at this; cases this
      exact hS.lt l _ _ hm
    · exact hS.lt j b' N' (old j _ ej h)
  · by_cases e1 : l1 = σ.length
    · subst e1
      have h1' : (if σ.length = σ.length then some (b, N) else μ σ.length) = some (b', N1) := h1
      rw [if_pos rfl] at h1'; cases h1'
      have h2' := old l2 _ (Ne.symm hne) h2
      rcases ha with ha | ha
      · obtain ⟨ha1, ha2⟩ := aliveO l2 (Ne.symm hne) ha
        exact hS.inj l l2 b N N2 (Ne.symm ha2) hm h2' hfull (.inl ha1)
      · have hne' : l2 ≠ σ.length := Ne.symm hne
        exact hS.inj l l2 b N N2 (by omega) hm h2' hfull (.inr (by omega))
    · have h1' := old l1 _ e1 h1
      obtain ⟨hf1, hf2⟩ := fullO l1 e1 hf
      by_cases e2 : l2 = σ.length
      · subst e2
        have h2' : (if σ.length = σ.length then some (b, N) else μ σ.length) = some (b', N2) := h2
        rw [if_pos rfl] at h2'; cases h2'
        exact hS.inj l1 l b N1 N hf2 h1' hm hf1 (.inl hfull.alive)
      · have h2' := old l2 _ e2 h2
        refine hS.inj l1 l2 b' N1 N2 hne h1' h2' hf1 ?_
        rcases ha with ha | ha
        · exact .inl (aliveO l2 e2 ha).1
        · exact .inr (by omega)
  · by_cases ej : j = σ.length
    · subst ej
      have h' : (if σ.length = σ.length then some (b, N) else μ σ.length) = some (b', N') := h
      rw [if_pos rfl] at h'; cases h'
      rw [gnew] at hy; cases hy
      refine ⟨c', elem, fr, e', hsz'.trans a0, fun _ => (by unfold frOk at *; omega), fun j u hj => ?_⟩
      rw [hget j]
      rcases Nat.lt_or_ge j k with g | g
      · rw [if_neg (by omega)]
        rw [List.getElem?_append_left (by simp; omega), List.getElem?_take, if_pos g] at hj
        obtain ⟨u', b1, b2⟩ := a2 j u hj
        exact ⟨u', b1, b2.mono ext⟩
      · rw [List.getElem?_append_right (by simp; omega)] at hj
        simp only [List.length_take, show min k x.cells.length = k by omega] at hj
        obtain ⟨u', b1, b2⟩ := hv.get hj
        have := get_lt hj
        rw [if_pos ⟨g, by omega⟩]
        exact ⟨u', b1, b2.mono ext⟩
    · have h' := old j _ ej h
      obtain ⟨y0, h0, hh | hh⟩ := gold j y ej hy
      · exact absurd hh.2 hd
      · obtain ⟨hj1, rfl⟩ := hh
        have hb' : b' ≠ b := fun e => by
          subst e
          exact hS.inj l j b' N N' (Ne.symm hj1) hm h' hfull (.inl ⟨y, h0, hd⟩)
        obtain ⟨c2, elem2, fr2, k1, k0, k2, k3⟩ := hS.blk j b' N' y h' h0 hd
        refine ⟨c2, elem2, fr2, by rw [setCells_other b _ _ _ _ hb']; exact k1, k0, k2, fun i u hi => ?_⟩
        obtain ⟨u', b1, b2⟩ := k3 i u hi
        exact ⟨u', b1, b2.mono ext⟩
  · by_cases ej : j = σ.length
    · subst ej
      have h' : (if σ.length = σ.length then some (b, N) else μ σ.length) = some (b', N') := h
      rw [if_pos rfl] at h'; cases h'
      refine .inr ⟨Nat.le_refl _, by omega, .inr ⟨l, hm, hfull, fun ⟨y, hy, hyp⟩ => hyp (gdead y hy)⟩⟩
    · exact .inl (old j _ ej h)
  · subst e; exact hn l N hm hfull
  · have ej : j ≠ σ.length := fun e => by rw [e, hU] at h; cases h
    obtain ⟨ha1, ha2⟩ := aliveO j ej ha
    refine .of_eq (setCells_other b _ _ _ _ (fun e => ?_))
    subst e
    exact hS.inj l j b' N N' (Ne.symm ha2) hm h hfull (.inl ha1)
  · simp only [World.cell?, e]
    simp; omega
  · simp only [World.frozen?, e]
    unfold frOk at hfr
    simp
    omega
theorem Le.hand {l : Nat} {x y : Blk} (hx : σ[l]? = some x) (hp : x.perm = .full) : Le σ (AM.kill σ l ++ [y]) :=
  (Le.kill σ l (fun z hz => by rw [hx] at hz; cases hz; rw [hp]; simp)).trans (.snoc _ _)
theorem prefix_cells {xs xs' : List Value} {zs : Array Value} (h : ValL μ xs xs') : ∀ (j : Nat) v, xs[j]? = some v → ∃ v', (xs'.toArray ++ zs)[j]? = some v' ∧ Val μ v v' := fun j v hj => by
  obtain ⟨v', h1, h2⟩ := h.get hj
  refine ⟨v', ?_, h2⟩
  rw [Array.getElem?_append_left (by simp; exact get_lt h1)]
  simpa using h1

theorem append_sound {t tx : TypeId} {s x : Operand} (hS : Sim μ σ w.heap) (hU : ∀ l, σ.length ≤ l → l < σ'.length → μ l = none) (hs : Val μ (ρ s) (ρ' s)) (hx : Val μ (ρ x) (ρ' x))
    (h : aAppend P q t tx (ρ s) (ρ x) σ = some (v, σ')) : Out P q ⟨dst, .call { callee := .builtin .append, args := #[s, x], argTypes := #[t, tx] }, type, pos, after, guard⟩ ρ' μ σ w v σ' := by
  have hexec : ∀ {r : Value} {w1 : World}, (Builtin.append_ #[t, tx] type #[ρ' s, ρ' x]).run P w = .ok r w1 → Runs P ⟨dst, .call { callee := .builtin .append, args := #[s, x], argTypes := #[t, tx] }, type, pos, after, guard⟩ ρ' w r w1 := fun {r w1} hr => .inl (by
    simp [execOp, resolve, invoke, builtin, hr])
  unfold aAppend at h
  split at h
  · rename_i e A n c hu hse
    rw [hse] at hs h
    split at h
    · rename_i size bytes z hsz hby hzz
      obtain ⟨i, hi, rfl, rfl, hz⟩ := info_of hsz hby hzz
      split at h
      · rename_i m xs hsrc
        split at h
        · cases h
        · rename_i hcond
          have hcond : i.size ≠ 0 ∧ z.cells.size = i.size ∧ i.size ≤ 1048576 ∧ i.bytes ≤ 4096 ∧ n + m ≤ 17179869184 ∧ xs.all cellB = true := Decidable.not_not.1 hcond
          obtain ⟨q1, qz, q2, q3, q4, q5⟩ := hcond
          obtain ⟨xs', hv, hsr⟩ := srcOf_sound hS hx hsrc q5
          have hlen : xs'.length = m * i.size := hsr.newsLen
          have hlen0 : xs.length = m * i.size := by rw [← hv.1]; exact hlen
          have hbytes : (n + m) * i.bytes ≤ 140737488355328 := by
            calc (n + m) * i.bytes ≤ 17179869184 * 4096 := Nat.mul_le_mul q4 q3
              _ ≤ _ := by omega
          have nothing : m = 0 → ∀ (base : Option Addr) (cap : Nat), n ≤ cap → (Builtin.append_ #[t, tx] type #[.slice base n cap, ρ' x]).run P w = .ok (.slice base n cap) w := fun hm0 base cap hle => by
            subst hm0
            have : xs' = [] := by simpa using hlen
            subst this
            exact run_append_nothing w t tx type e i hu hi base n cap hle _ hsr
          have grows : ∀ (base : Option Addr) (cap : Nat) (olds olds' : List Value), ValL μ olds olds' → olds'.length = n * i.size → cap < n + m → (Builtin.firstCells i.size n (.slice base n cap)).run P w.drew = .ok olds'.toArray w.drew → ρ' s = .slice base n cap →
              ∀ a1 σ1, newBlk σ (olds ++ xs) = some (a1, σ1) → μ σ.length = none → Out P q ⟨dst, .call { callee := .builtin .append, args := #[s, x], argTypes := #[t, tx] }, type, pos, after, guard⟩ ρ' μ σ w (.slice (some a1) (n + m) (unk i.size (n + m))) σ1 := by
            intro base cap olds olds' ho hol hg hold es a1 σ1 hb hU1
            obtain ⟨rfl, rfl, _⟩ := newBlk_spec hb
            have hr := run_append_grow_src (P := P) w t tx type e i z hu hi hz base n cap olds' hold _ m xs' hsr hg (by omega) (growslice_fits hg hbytes)
            rw [← es] at hr
            have hcap := le_grown w (need := n + m) (old := cap) (e := e)
            have hcap2 : grownCap w (n + m) cap e ≤ maxLen := grownCap_le_maxLen w (n + m) cap e (by simp only [maxLen]; omega)
            have hcs : ((olds' ++ xs').toArray ++ Builtin.zeroCells z.cells (grownCap w (n + m) cap e - (n + m))).size = grownCap w (n + m) cap e * i.size := by
              have h1 : olds'.length = n * i.size := hol
              simp only [Array.size_append, List.size_toArray, List.length_append, h1, hlen, Builtin.zeroCells, Array.size_map, Array.size_range, qz]
              rw [← Nat.add_mul, ← Nat.add_mul]
              congr 1
              omega
            refine .new (w' := w.drew.alloc _) hS hU1 (hexec hr) rfl (frOk0 _) (prefix_cells (ho.append hv)) rfl rfl rfl (fun μ' hμ => ?_)
            refine .slu hμ (by simp only [maxLen]; omega) hcap hcap hcap2 (by rw [hcs, Nat.zero_add]; exact Nat.le_refl _) q2
          split at h
          · -- nil
            split at h
            · rename_i h00
              obtain ⟨rfl, rfl⟩ := h00
              have es := scalar_val (by rfl) hs
              split at h
              · rename_i hm0
                cases h
                exact .same hS (hexec (by rw [es]; exact nothing hm0 none 0 (Nat.le_refl _))) (.scal rfl)
              · rename_i hm0
                cases hb : newBlk σ xs with
                | none => rw [hb] at h; cases h
                | some r =>
                  obtain ⟨a1, σ1⟩ := r
                  rw [hb] at h; cases h
                  have hlenσ := (newBlk_spec hb).2.1
                  have := grows none 0 [] [] .nil (by simp) (by omega) (by simpa using run_firstCells_none (P := P) w.drew i.size 0 0 0) es a1 σ' (by simpa using hb) (hU _ (Nat.le_refl _) (by rw [hlenσ]; simp))
                  simpa using this
            · cases h
          · rename_i a
            split at h
            · -- exact
              rename_i c1 hc1
              obtain ⟨rfl, hct⟩ := capOf_exact hc1
              rcases hs.sl_inv with ⟨hd, _⟩ | ⟨b, N, hsp, hm, ⟨_, es⟩ | ⟨s1, lb, c', ec, _⟩⟩
              · have := dng_top; omega
              · split at h
                · rename_i hfit
                  split at h
                  · rename_i hm0
                    cases h
                    refine .same hS (hexec (by rw [es]; exact nothing hm0 _ _ (by omega))) ?_
                    have := hs
                    rw [es] at this
                    exact this
                  · rename_i hm0
                    split at h
                    · cases h
                    · rename_i hq
                      cases hw : writeN σ (a.add (n * i.size)) xs with
                      | none => rw [hw] at h; cases h
                      | some σ1 =>
                        rw [hw] at h; cases h
                        have hadd := add_blk a (n * i.size)
                        obtain ⟨_, g1, g2, g3, _, g5, g6, _⟩ := write_sim hS (by rw [hadd.1]; exact hm) hw hv
                        rw [hadd.2 hsp] at g1 g2 g5 g6
                        simp only at g1 g2 g5 g6
                        have hr := run_append_room_src (P := P) w t tx type e i hu hi b a.off n c1 _ m xs' hsr hfit g5 g6
                        rw [← es] at hr
                        have : q = false := by simpa using hq
                        subst this
                        obtain ⟨al, ao, asp⟩ := a
                        simp only at hsp hm; subst hsp
                        exact ⟨_, _, μ, hexec hr, .sl hm hct, g1, g2, g3⟩
                · rename_i hfit
                  split at h
                  · rename_i olds hro
                    cases hb : newBlk σ (olds ++ xs) with
                    | none => rw [hb] at h; cases h
                    | some r =>
                      obtain ⟨a1, σ1⟩ := r
                      rw [hb] at h; cases h
                      have hlenσ := (newBlk_spec hb).2.1
                      obtain ⟨_, olds', g1, g2, g3, _⟩ := read_sim hS hm hro
                      exact grows _ c1 olds olds' g1 (g1.1.trans g2) (by omega) (run_firstCells_some w.drew i.size n _ n c1 olds' (g1.1.trans g2) (fun j u hj => by rw [Addr.add_lit]; exact g3 j u hj)) es a1 σ' hb (hU _ (Nat.le_refl _) (by rw [hlenσ]; simp))
                  · cases h
              · rw [ec] at hct; exact absurd hct (unk_top _ _)
            · -- unknown
              rename_i es0 lb hc1
              have ec0 := capOf_unk hc1
              rcases hs.sl_inv with ⟨hd, _⟩ | ⟨b, N, hsp, hm, ⟨hct, es⟩ | ⟨s1, lb1, c', ec, h0, h1, h2, h3, h4, h5, es⟩⟩
              · rw [ec0] at hd hc1; exact (unk_dng hd hc1).elim
              · rw [ec0] at hct; exact absurd hct (unk_top _ _)
              · have hlt : lb < top := by
                  have : lb = c % top := by
                    unfold capOf at hc1
                    split at hc1
                    · cases hc1
                    · split at hc1
                      · cases hc1; rfl
                      · cases hc1
                  rw [this]; exact Nat.mod_lt _ (by simp [top])
                obtain ⟨rfl, rfl⟩ := unk_inj (ec0.symm.trans ec) hlt (maxLen_top h0)
                split at h
                · rename_i hm0
                  cases h
                  refine .same hS (hexec (by rw [es]; exact nothing hm0 _ _ h2)) ?_
                  have := hs
                  rw [es] at this
                  exact this
                · rename_i hm0
                  split at h
                  · rename_i hfit
                    split at h
                    · cases h
                    · rename_i hq
                      cases hw : writeN σ (a.add (n * i.size)) xs with
                      | none => rw [hw] at h; cases h
                      | some σ1 =>
                        rw [hw] at h; cases h
                        have hadd := add_blk a (n * i.size)
                        obtain ⟨_, g1, g2, g3, _, g5, g6, _⟩ := write_sim hS (by rw [hadd.1]; exact hm) hw hv
                        rw [hadd.2 hsp] at g1 g2 g5 g6
                        simp only at g1 g2 g5 g6
                        have hr := run_append_room_src (P := P) w t tx type e i hu hi b a.off n c' _ m xs' hsr (by omega) g5 g6
                        rw [← es] at hr
                        have : q = false := by simpa using hq
                        subst this
                        obtain ⟨al, ao, asp⟩ := a
                        simp only at hsp hm h4; subst hsp
                        refine ⟨_, _, μ, hexec hr, ?_, g1, g2, g3⟩
                        rw [ec]
                        exact .slu hm h0 h1 (by omega) h3 h4 h5
                  · rename_i hfit
                    split at h
                    · rename_i l x hax
                      split at h
                      · rename_i hcon
                        obtain ⟨hp, hk, rfl⟩ := hcon
                        have hU0 : ∀ y : Blk, σ' = AM.kill σ l ++ [y] → μ σ.length = none := fun y hy => hU _ (Nat.le_refl _) (by rw [hy]; simp [kill_len])
                        cases hb : newBlk (AM.kill σ l) (x.cells.take (n * i.size) ++ xs) with
                        | none => rw [hb] at h; cases h
                        | some r =>
                          obtain ⟨a1, σ1⟩ := r
                          rw [hb] at h; cases h
                          obtain ⟨ea, eσ, hcell⟩ := newBlk_spec hb
                          have hU1 := hU0 _ eσ
                          rw [kill_len] at ea
                          subst ea
                          simp only at hm hsp h4
                          have hrd : readN σ ⟨l, 0, none⟩ (n * i.size) = some (x.cells.take (n * i.size)) := by
                            unfold readN
                            simp only [hax]
                            rw [if_pos ⟨by rw [hp]; simp, by omega⟩]
                            simp
                          obtain ⟨_, olds', g1, g2, g3, _⟩ := read_sim hS hm hrd
                          have hol : olds'.length = n * i.size := g1.1.trans g2
                          by_cases hroom : n + m ≤ c'
                          · -- in place
                            have hN : n * i.size + xs.length ≤ N := by
                              rw [hlen0, ← Nat.add_mul]
                              exact Nat.le_trans (Nat.mul_le_mul_right _ hroom) (by omega)
                            obtain ⟨k1, k2, k3, k4⟩ := sim_hand (q := q) hS hU1 hm hax hp hk hv hN q5
                            have hr := run_append_room_src (P := P) w t tx type e i hu hi b 0 n c' _ m xs' hsr hroom (by simpa using k3) (by simpa using k4)
                            rw [← es, Nat.zero_add] at hr
                            rw [eσ]
                            refine ⟨_, _, _, hexec hr, ?_, k1, k2, Le.hand hax hp⟩
                            exact .slu (by simp) (by simp only [maxLen]; omega) hroom hroom h3 h4 h5
                          · -- elsewhere
                            have hS2 := hS.kill l
                            have hr := run_append_grow_src (P := P) w t tx type e i z hu hi hz (some ⟨b, 0, none⟩) n c' olds' (run_firstCells_some w.drew i.size n _ n c' olds' hol (fun j u hj => by rw [Addr.add_lit]; exact g3 j u hj)) _ m xs' hsr (by omega) (by omega) (growslice_fits (by omega) hbytes)
                            rw [← es] at hr
                            have hcap := le_grown w (need := n + m) (old := c') (e := e)
                            have hcap2 : grownCap w (n + m) c' e ≤ maxLen := grownCap_le_maxLen w (n + m) c' e (by simp only [maxLen]; omega)
                            have hcs : ((olds' ++ xs').toArray ++ Builtin.zeroCells z.cells (grownCap w (n + m) c' e - (n + m))).size = grownCap w (n + m) c' e * i.size := by
                              simp only [Array.size_append, List.size_toArray, List.length_append, hol, hlen, Builtin.zeroCells, Array.size_map, Array.size_range, qz]
                              rw [← Nat.add_mul, ← Nat.add_mul]
                              congr 1
                              omega
                            have hS3 := sim_new (w' := w.drew.alloc (.cells ((olds' ++ xs').toArray ++ Builtin.zeroCells z.cells (grownCap w (n + m) c' e - (n + m))) e)) (cs := x.cells.take (n * i.size) ++ xs) hS2 (by rw [kill_len]; exact hU1) rfl (frOk0 _) (prefix_cells (g1.append hv))
                            have hF := fr_new (q := q) (w := w) (w' := w.drew.alloc (.cells ((olds' ++ xs').toArray ++ Builtin.zeroCells z.cells (grownCap w (n + m) c' e - (n + m))) e)) (x := ⟨x.cells.take (n * i.size) ++ xs, .full⟩) (C := (olds' ++ xs').toArray ++ Builtin.zeroCells z.cells (grownCap w (n + m) c' e - (n + m))) hS hU1 rfl rfl rfl rfl
                            rw [eσ]
                            rw [kill_len] at hS3
                            refine ⟨_, _, _, hexec hr, ?_, hS3, ⟨hF.ext, fun j b' N' hj => ?_, hF.keep, fun hq j b' N' hj ha => ?_, hF.size, hF.os, hF.tape, hF.output⟩, Le.hand hax hp⟩
                            · exact .slu (mapOf μ σ _) (by simp only [maxLen]; omega) hcap hcap hcap2 (by rw [hcs, Nat.zero_add]; exact Nat.le_refl _) q2
                            · rcases hF.new j b' N' hj with h | ⟨r1, r2, h⟩
                              · exact .inl h
                              · refine .inr ⟨r1, by simpa [kill_len] using r2, ?_⟩
                                rcases h with h | ⟨l0, u1, ⟨y, hy, hyp⟩, u3⟩
                                · exact .inl h
                                · exact absurd ⟨y, by rw [List.getElem?_append_left (get_lt hy)]; exact hy, by rw [hyp]; simp⟩ u3
                            · refine .of_eq ?_
                              have hlt' := hS.lt _ _ _ hj
                              show (w.heap.push _)[b']? = _
                              rw [Array.getElem?_push]
                              split
                              · omega
                              · rfl
                      · cases h
                    · cases h
            · cases h
      · cases h
    · cases h
  · cases h
end
end Go.Proofs.Ytenbclcfhjdcaaa.AM
