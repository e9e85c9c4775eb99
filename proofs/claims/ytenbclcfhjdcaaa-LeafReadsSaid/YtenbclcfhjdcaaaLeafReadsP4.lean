/- What the proof of LeafReads rests on, part 4 of 6. -/
import Derived.Test.YtenbclcfhjdcaaaLeafReadsP3
section
set_option maxHeartbeats 8000000
set_option linter.unusedVariables false
set_option linter.unusedSimpArgs false
/- The machine of values: the end of functions and of rounds. -/
namespace Go.Proofs.Ytenbclcfhjdcaaa.VM
open Go AM
section
variable {P : Program} {prim : CallF} {K K' : Kn} {φ φ' : List Rz} {H H' H1 : Hp} {σ σ' : Heap} {v x y : V} {a b : Value} {n : Nat} {L E : List Nat} {e e' : Ev} {ea : Env}

theorem UpO.sound (hR : Rel K φ H1 σ) (hn : n ≤ φ.length) (hL : ∀ g ∈ L, n ≤ g ∧ g < φ.length) (hE : ∀ s ∈ E, 0 < s ∧ s ≤ 1048576) {y x : Ob} {r : Rz} (h : UpO n L E H1 y x) (hob : ObR K φ σ x r) : ObR (kn2 n L K φ σ) (phi2 n L E φ) σ y r := by
  cases y with
  | mem cells rw =>
    cases x with
    | mem cells0 rw0 =>
      obtain ⟨rfl, h2⟩ := h
      cases r with
      | mem b =>
        obtain ⟨vals, p, h3, h4, h5⟩ := hob
        exact ⟨vals, p, h3, h4, Ups.sound hR hn hL hE h2 h5⟩
      | vec _ _ _ => exact hob.elim
      | fro _ _ _ => exact hob.elim
    | vec _ _ _ _ _ => exact h.elim
    | fro _ _ _ => exact h.elim
  | vec w rows s rw t =>
    cases x with
    | mem _ _ => exact h.elim
    | fro _ _ _ => exact h.elim
    | vec w0 rows0 s0 rw0 t0 =>
      obtain ⟨rfl, rfl, rfl, rfl, h1, h2⟩ := h
      cases r with
      | mem b => exact hob.elim
      | fro _ _ _ => exact hob.elim
      | vec val w' s' =>
        obtain ⟨f1, f2, f3, f4, f5, f6⟩ := hob
        refine ⟨f1, f2, f3, f4, h1, ?_⟩
        rcases f6 with ⟨f6, f7⟩ | ⟨b, c, vals, rest, p, f6, f7, f8, f9, f10⟩
        · refine .inl ⟨?_, f7.mono fun b c h => kn2_le hR h⟩
          have : rows0 = [] := List.eq_nil_of_length_eq_zero f6
          subst this
          cases rows with
          | nil => rfl
          | cons r rs => simp only [UpR] at h2; obtain ⟨_, _, e, _⟩ := h2; cases e
        · obtain ⟨g1, g2⟩ := UpR.sound hR hn hL hE h2 f10
          exact .inr ⟨b, c, vals, rest, p, by rw [g2]; exact f6, by rw [g2]; exact f7, f8, f9, g1⟩
  | fro w rows s =>
    cases x with
    | mem _ _ => exact h.elim
    | vec _ _ _ _ _ => exact h.elim
    | fro w0 rows0 s0 =>
      obtain ⟨rfl, rfl, rfl⟩ := h
      cases r with
      | mem b => exact hob.elim
      | vec _ _ _ => exact hob.elim
      | fro val w' s' =>
        obtain ⟨f1, f2, f3⟩ := hob
        exact ⟨f1, f2, f3.monoN (n := 0) ⟨fun b c h => kn2_le hR h, fun g r hg => by omega⟩⟩
theorem ghost (hR : Rel K φ H1 σ) (hn : n ≤ H1.length) (hL : ∀ g ∈ L, n ≤ g ∧ g < H1.length) (hE : ∀ s ∈ E, 0 < s ∧ s ≤ 1048576) (hnd : L.Nodup) (hlen : H'.length = n + L.length + E.length)
    (h1 : ∀ (i : Nat) x y, i < n → H1[i]? = some x → H'[i]? = some y → UpO n L E H1 y x) (h2 : ∀ (j g : Nat) x y, L[j]? = some g → H1[g]? = some x → H'[n + j]? = some y → UpO n L E H1 y x) (h3 : ∀ (j s : Nat), E[j]? = some s → H'[n + L.length + j]? = some (.vec 0 [] s true true)) :
    ∃ K' φ', Post n K φ K' φ' ∧ Rel K' φ' H' σ ∧ ∀ {v u : V} {a : Value}, Up n L E H1 v u → VR K u φ a → VR K' v φ' a := by
  have hlenR := hR.len
  rw [← hlenR] at hn hL
  refine ⟨kn2 n L K φ σ, phi2 n L E φ, ⟨fun b c h => kn2_le hR h, fun g r hg hr => ⟨r, by rw [phi2_lt hn hg]; exact hr, .refl r⟩⟩, ?_, fun {v u a} h hv => Up.sound hR hn hL hE h hv⟩
  have blkE : ∀ s : Nat, (Rz.vec (.slice none 0 0) 0 s).blk = none := fun _ => rfl
  -- which object stands behind
  have src : ∀ {g : Nat} {r : Rz} {b : Nat}, (phi2 n L E φ)[g]? = some r → r.blk = some b → ∃ g0, φ[g0]? = some r ∧ ((g < n ∧ g0 = g) ∨ (n ≤ g ∧ L[g - n]? = some g0)) := fun {g r b} hg hb => by
    rcases phi2_get hn hL hg with ⟨e1, e2⟩ | ⟨e1, g0, e2, e3⟩ | ⟨_, s, _, e3⟩
    · exact ⟨g, e2, .inl ⟨e1, rfl⟩⟩
    · exact ⟨g0, e3, .inr ⟨e1, e2⟩⟩
    · subst e3; cases hb
  refine ⟨by rw [phi2_len hn, hlen], fun b c hc => ?_, fun g y r hy hr => ?_, fun g g' r r' b hg hg' hb hb' => ?_, fun g r b hg hb => ?_⟩
  · unfold kn2 at hc
    split at hc
    · split at hc
      · rename_i x hx
        split at hc
        · cases hc
        · rename_i hp
          cases hc
          exact ⟨x.perm, hx, hp⟩
      · cases hc
    · exact hR.kn b c hc
  · rcases phi2_get hn hL hr with ⟨e1, e2⟩ | ⟨e1, g0, e2, e3⟩ | ⟨e1, s, e2, e3⟩
    · obtain ⟨x, hx⟩ : ∃ x, H1[g]? = some x := ⟨_, List.getElem?_eq_getElem (by rw [← hlenR]; exact get_lt e2)⟩
      exact UpO.sound hR hn hL hE (h1 g x y e1 hx hy) (hR.ob g x r hx e2)
    · obtain ⟨x, hx⟩ : ∃ x, H1[g0]? = some x := ⟨_, List.getElem?_eq_getElem (by rw [← hlenR]; exact get_lt e3)⟩
      exact UpO.sound hR hn hL hE (h2 (g - n) g0 x y e2 hx (by rw [Nat.add_sub_cancel' e1]; exact hy)) (hR.ob g0 x r hx e3)
    · have := h3 (g - (n + L.length)) s e2
      rw [Nat.add_sub_cancel' e1, hy] at this
      cases this
      subst e3
      obtain ⟨s1, s2⟩ := hE s (List.mem_of_getElem? e2)
      exact ⟨rfl, rfl, s1, s2, (fun r hr => by simp at hr), .inl ⟨rfl, .inl rfl⟩⟩
  · obtain ⟨g0, e1, e2⟩ := src hg hb
    obtain ⟨g0', e1', e2'⟩ := src hg' hb'
    have := hR.inj g0 g0' r r' b e1 e1' hb hb'
    subst this
    rcases e2 with ⟨a1, a2⟩ | ⟨a1, a2⟩ <;> rcases e2' with ⟨b1, b2⟩ | ⟨b1, b2⟩
    · omega
    · have := (hL g0 (List.mem_of_getElem? b2)).1; omega
    · have := (hL g0 (List.mem_of_getElem? a2)).1; omega
    · have nd : ∀ (i j : Nat), i < j → L[i]? = some g0 → L[j]? = some g0 → False := fun i j hij hi hj => by
        have := List.pairwise_iff_getElem.1 hnd i j (get_lt hi) (get_lt hj) hij
        rw [List.getElem?_eq_getElem (get_lt hi)] at hi
        rw [List.getElem?_eq_getElem (get_lt hj)] at hj
        exact this ((Option.some.inj hi).trans (Option.some.inj hj).symm)
      rcases Nat.lt_trichotomy (g - n) (g' - n) with h | h | h
      · exact (nd _ _ h a2 b2).elim
      · omega
      · exact (nd _ _ h b2 a2).elim
  · obtain ⟨g0, e1, e2⟩ := src hg hb
    unfold kn2
    split
    · rename_i hx
      obtain ⟨g1, r1, f1, f2, f3, f4⟩ := hx
      have := hR.inj g0 g1 r r1 b e1 f1 hb f4
      subst this
      rcases e2 with ⟨a1, a2⟩ | ⟨a1, a2⟩
      · omega
      · exact absurd (List.mem_of_getElem? a2) f3
    · exact hR.apart g0 r b e1 hb
/-- Objects, one by one. -/
def UpOs (n : Nat) (L E : List Nat) (H1 : Hp) : List Ob → List Ob → Prop
  | [], us => us = []
  | y :: ys, us => ∃ x xs, us = x :: xs ∧ UpO n L E H1 y x ∧ UpOs n L E H1 ys xs
theorem UpOs.len : ∀ {ys xs : List Ob}, UpOs n L E H1 ys xs → ys.length = xs.length
  | [], _, h => by simp only [UpOs] at h; subst h; rfl
  | y :: ys, _, ⟨x, xs, h1, h2, h3⟩ => by subst h1; simp [h3.len]
theorem UpOs.get : ∀ {ys xs : List Ob}, UpOs n L E H1 ys xs → ∀ {i : Nat} {y x : Ob}, ys[i]? = some y → xs[i]? = some x → UpO n L E H1 y x
  | [], _, h, i, y, x, hy, _ => by simp at hy
  | y :: ys, _, ⟨x, xs, h1, h2, h3⟩, 0, y', x', hy, hx => by subst h1; simp at hy hx; subst hy; subst hx; exact h2
  | y :: ys, _, ⟨x, xs, h1, h2, h3⟩, i + 1, y', x', hy, hx => by subst h1; exact h3.get (i := i) (by simpa using hy) (by simpa using hx)
theorem UpO.self {o : Ob} (h : o.bel n) : UpO n L E H1 o o := by
  cases o with
  | mem cells rw => exact ⟨rfl, Ups.self h⟩
  | vec w rows s rw t => exact ⟨rfl, rfl, rfl, rfl, h.2, UpR.selfB h.1⟩
  | fro w rows s => exact ⟨rfl, rfl, rfl⟩
mutual
def belB (n : Nat) : V → Bool
  | .lit _ | .fsl _ _ _ | .fptr _ | .junk => true
  | .ptr g _ | .own g _ | .elt g _ _ _ => decide (g < n)
  | .fn _ fi cp => belBs n fi && belBs n cp
  | .ifc _ v => belB n v
  | .agg cs | .tup cs => belBs n cs
def belBs (n : Nat) : List V → Bool
  | [] => true
  | v :: vs => belB n v && belBs n vs
end
mutual
theorem belB_sound : ∀ {v : V}, belB n v = true → Bel n v
  | .lit _, _ => trivial
  | .fsl _ _ _, _ => trivial
  | .fptr _, _ => trivial
  | .junk, _ => trivial
  | .ptr _ _, h => by simpa [belB, Bel] using h
  | .own _ _, h => by simpa [belB, Bel] using h
  | .elt _ _ _ _, h => by simpa [belB, Bel] using h
  | .fn f fi cp, h => by
    simp only [belB, Bool.and_eq_true] at h
    exact ⟨belBs_sound h.1, belBs_sound h.2⟩
  | .ifc t v, h => belB_sound (v := v) h
  | .agg cs, h => belBs_sound (v := cs) h
  | .tup cs, h => belBs_sound (v := cs) h
theorem belBs_sound : ∀ {v : List V}, belBs n v = true → Bels n v
  | [], _ => trivial
  | v :: vs, h => by
    simp only [belBs, Bool.and_eq_true] at h
    exact ⟨belB_sound h.1, belBs_sound h.2⟩
end
mutual
theorem Bel.mono {m : Nat} (hm : m ≤ n) : ∀ {v : V}, Bel m v → Bel n v
  | .lit _, _ => trivial
  | .fsl _ _ _, _ => trivial
  | .fptr _, _ => trivial
  | .junk, _ => trivial
  | .ptr _ _, h => Nat.lt_of_lt_of_le h hm
  | .own _ _, h => Nat.lt_of_lt_of_le h hm
  | .elt _ _ _ _, h => Nat.lt_of_lt_of_le h hm
  | .fn f fi cp, h => ⟨Bels.mono hm h.1, Bels.mono hm h.2⟩
  | .ifc t v, h => Bel.mono hm (v := v) h
  | .agg cs, h => Bels.mono hm (v := cs) h
  | .tup cs, h => Bels.mono hm (v := cs) h
theorem Bels.mono {m : Nat} (hm : m ≤ n) : ∀ {v : List V}, Bels m v → Bels n v
  | [], _ => trivial
  | v :: vs, h => ⟨Bel.mono hm h.1, Bels.mono hm h.2⟩
end
theorem Ob.bel.mono {m : Nat} (hm : m ≤ n) {o : Ob} (h : o.bel m) : o.bel n := by
  cases o with
  | mem cells rw => exact Bels.mono hm h
  | vec w rows s rw t => exact ⟨fun r hr => Bels.mono hm (h.1 r hr), h.2⟩
  | fro w rows s => trivial
theorem Cl.app {Y : Hp} (h : Cl H) (hY : ∀ o ∈ Y, o.bel (H.length + Y.length)) : Cl (H ++ Y) := fun o ho => by
  rw [List.length_append]
  rcases List.mem_append.1 ho with ho | ho
  · exact (h o ho).mono (by omega)
  · exact hY o ho
theorem Cl.nil : Cl [] := fun o ho => by simp at ho
/-- The general end: objects below n are told one by one behind those that stay whole. -/
theorem ghostA (hR : Rel K φ H1 σ) {H0 Z Z' X Y : Hp} (hcl : Cl H0) (hH1 : H1 = H0 ++ (Z ++ X)) (hL : ∀ g ∈ L, H0.length + Z.length ≤ g ∧ g < H1.length) (hE : ∀ s ∈ E, 0 < s ∧ s ≤ 1048576) (hnd : L.Nodup)
    (hZ : UpOs (H0.length + Z.length) L E H1 Z' Z) (hY : Y.length = L.length) (hYo : ∀ (j g : Nat) x y, L[j]? = some g → H1[g]? = some x → Y[j]? = some y → UpO (H0.length + Z.length) L E H1 y x) :
    ∃ K' φ', Post (H0.length + Z.length) K φ K' φ' ∧ Rel K' φ' (H0 ++ (Z' ++ (Y ++ E.map fun s => .vec 0 [] s true true))) σ ∧ ∀ {v u : V} {a : Value}, Up (H0.length + Z.length) L E H1 v u → VR K u φ a → VR K' v φ' a := by
  have hzl := hZ.len
  refine ghost hR (by rw [hH1]; simp only [List.length_append]; omega) hL hE hnd (by simp only [List.length_append, List.length_map]; omega) (fun i x y hi hx hy => ?_) (fun j g x y hj hx hy => ?_) (fun j s hj => ?_)
  · rw [hH1] at hx
    by_cases h : i < H0.length
    · rw [List.getElem?_append_left h] at hx hy
      rw [hx] at hy; cases hy
      exact UpO.self ((hcl x (List.mem_of_getElem? hx)).mono (by omega))
    · rw [List.getElem?_append_right (by omega), List.getElem?_append_left (by omega)] at hx hy
      exact hZ.get hy hx
  · have hjl := get_lt hj
    rw [List.getElem?_append_right (by omega), List.getElem?_append_right (by omega), List.getElem?_append_left (by omega)] at hy
    exact hYo j g x y hj hx (by rw [← hy]; congr 1; omega)
  · have hjl := get_lt hj
    rw [List.getElem?_append_right (by omega), List.getElem?_append_right (by omega), List.getElem?_append_right (by omega), List.getElem?_map]
    rw [show H0.length + Z.length + L.length + j - H0.length - Z'.length - Y.length = j by omega, hj]; rfl
/-- A function's end: what it made is frozen. -/
theorem GV.ret {R : V → Hp → Prop} {X : Hp} (v : V) (hcl : Cl H) (hup : Up H.length [] [] (H ++ X) v x) (h : R v H) : GV H.length R x (H ++ X) := fun K φ σ a hR hv => by
  obtain ⟨K', φ', h1, h2, h3⟩ := ghostA (L := []) (E := []) (H0 := H) (Z := []) (Z' := []) (X := X) (Y := []) hR hcl (by simp) (by simp) (by simp) (by simp) rfl rfl (by simp)
  simp only [List.map_nil, List.append_nil, List.length_nil, Nat.add_zero] at h1 h2 h3
  exact ⟨K', φ', v, H, h1, h2, h3 hup hv, h⟩
theorem GV.ans {X : Hp} {v : V} (hcl : Cl H) (hup : Up H.length [] [] (H ++ X) v x) : @GVH H.length x (H ++ X) ⟨fun u T => u = v ∧ T = H⟩ := GV.ret v hcl hup ⟨rfl, rfl⟩
theorem GV.ans0 {v : V} (h : x = v) : @GVH n x H ⟨fun u T => u = v ∧ T = H⟩ := GV.refl ⟨h, rfl⟩
/-- One new object is kept. -/
theorem GV.keep {R : V → Hp → Prop} {X : Hp} (g : Nat) (y : Ob) (v : V) (hcl : Cl H) (hg : ∃ z, (H ++ X)[g]? = some z ∧ H.length ≤ g ∧ UpO H.length [g] [] (H ++ X) y z) (hup : Up H.length [g] [] (H ++ X) v x) (h : R v (H ++ [y])) : GV H.length R x (H ++ X) := fun K φ σ a hR hv => by
  obtain ⟨z, hz, hg, hyz⟩ := hg
  have hgl := get_lt hz
  obtain ⟨K', φ', h1, h2, h3⟩ := ghostA (L := [g]) (E := []) (H0 := H) (Z := []) (Z' := []) (X := X) (Y := [y]) hR hcl (by simp) (by simpa using ⟨hg, by simpa using hgl⟩) (by simp) (by simp) rfl rfl (fun j g' x' y' hj hx hy => by
    have : j = 0 := by have := get_lt hj; simp at this; omega
    subst this
    simp at hj hy
    subst hj; subst hy
    rw [hz] at hx; cases hx
    exact hyz)
  simp only [List.map_nil, List.append_nil, List.length_nil, Nat.add_zero, List.nil_append] at h1 h2 h3
  exact ⟨K', φ', v, H ++ [y], h1, h2, h3 hup hv, h⟩
/-- Rows of one's own are kept: the answer is they. -/
theorem GV.own {k : KVV} {X : Hp} {g w s : Nat} {rows : List (List V)} {rw t : Bool} (hcl : Cl H) (hg : (H ++ X)[g]? = some (.vec w rows s rw t)) (hl : H.length ≤ g) (ho : RowsOk s rows) (hp : ∀ r ∈ rows, pureVs r = true) (h : k.run (.own H.length w) (H ++ [.vec w rows s rw t])) : @GVH H.length (.own g w) (H ++ X) k :=
  GV.keep g (.vec w rows s rw t) (.own H.length w) hcl ⟨_, hg, hl, rfl, rfl, rfl, rfl, ho, UpR.self hp⟩ (by simp [Up]) h
/-- nil, as rows of one's own. -/
theorem GV.nil {k : KVV} {X : Hp} {s : Nat} (hcl : Cl H) (hs : 0 < s) (hs1 : s ≤ 1048576) (h : k.run (.own H.length 0) (H ++ [.vec 0 [] s true true])) : @GVH H.length (.lit (.slice none 0 0)) (H ++ X) k := fun K φ σ a hR hv => by
  obtain ⟨K', φ', h1, h2, h3⟩ := ghostA (L := []) (E := [s]) (H0 := H) (Z := []) (Z' := []) (X := X) (Y := []) hR hcl (by simp) (by simp) (by simpa using ⟨hs, hs1⟩) (by simp) rfl rfl (by simp)
  simp only [List.map_nil, List.append_nil, List.length_nil, Nat.add_zero, List.nil_append, List.map_cons] at h1 h2 h3
  exact ⟨K', φ', _, _, h1, h2, h3 (v := .own H.length 0) (u := .lit (.slice none 0 0)) (by simp [Up]) hv, h⟩
theorem GV.nil0 {k : KVV} {s : Nat} (hcl : Cl H) (hs : 0 < s) (hs1 : s ≤ 1048576) (h : k.run (.own H.length 0) (H ++ [.vec 0 [] s true true])) : @GVH H.length (.lit (.slice none 0 0)) H k := by
  have := GV.nil (X := []) hcl hs hs1 h
  rwa [List.append_nil] at this
def clip (n : Nat) (e : Ev) : Ev := fun t => if belB n (e t) = true then e t else .junk
theorem clip_up (t : Tmp) : Up n L E H1 (clip n e t) (e t) := by
  unfold clip
  split
  · rename_i h; exact Up.self (belB_sound h)
  · simp [Up]
/-- A round's end: what was made meanwhile is let go; new empty rows. -/
theorem G.mk {Q : Ev → Hp → Prop} {m : Nat} {H0 Z Z' X : Hp} (E : List Nat) (e' : Ev) (hcl : Cl H0) (hm : m ≤ H0.length + Z.length) (hE : ∀ s ∈ E, 0 < s ∧ s ≤ 1048576)
    (hZ : UpOs (H0.length + Z.length) [] E (H0 ++ (Z ++ X)) Z' Z) (he : ∀ t, Up (H0.length + Z.length) [] E (H0 ++ (Z ++ X)) (e' t) (e t))
    (h : Q e' (H0 ++ (Z' ++ E.map fun s => .vec 0 [] s true true))) : G m Q e (H0 ++ (Z ++ X)) := fun K φ σ ea hR hEv => by
  obtain ⟨K', φ', h1, h2, h3⟩ := ghostA (L := []) (E := E) (Y := []) hR hcl rfl (by simp) hE (by simp) hZ rfl (by simp)
  simp only [List.nil_append] at h2
  exact ⟨K', φ', e', _, h1.weaken hm, h2, fun t => h3 (he t) (hEv t), h⟩
/-- Nothing is made anew. -/
theorem G.clip {Q : Ev → Hp → Prop} {m : Nat} {H0 Z Z' X : Hp} (hcl : Cl H0) (hm : m ≤ H0.length + Z.length) (hZ : UpOs (H0.length + Z.length) [] [] (H0 ++ (Z ++ X)) Z' Z) (h : Q (clip (H0.length + Z.length) e) (H0 ++ Z')) : G m Q e (H0 ++ (Z ++ X)) :=
  .mk [] _ hcl hm (by simp) hZ clip_up (by simpa using h)
/-- New empty rows for nil. -/
theorem G.nils {Q : Ev → Hp → Prop} {m : Nat} {H0 Z Z' : Hp} (E : List Nat) (hcl : Cl H0) (hm : m ≤ H0.length + Z.length) (hE : ∀ s ∈ E, 0 < s ∧ s ≤ 1048576) (hZ : UpOs (H0.length + Z.length) [] E (H0 ++ Z) Z' Z) (h : Q (VM.clip (H0.length + Z.length) e) (H0 ++ (Z' ++ E.map fun s => .vec 0 [] s true true))) : G m Q e (H0 ++ Z) := by
  have := G.mk (Q := Q) (m := m) (e := e) (H0 := H0) (Z := Z) (Z' := Z') (X := []) E _ hcl hm hE (by simpa using hZ) clip_up h
  simpa using this
/-- The machine's answer is the program's. -/
theorem VC.start {f : FuncId} {args : List V} {as : Array Value} {R : V → Hp → Prop} {σ : Heap} (h : VC P prim f args [] R) (ha : ∀ K : Kn, (∀ b x, σ[b]? = some x → x.perm ≠ .dead → K b = some x.cells) → VRs K args [] as.toList) (hb : ∀ v H', R v H' → v = .lit (.bool true)) : ∃ n σ', acall P prim n f as σ = some (.bool true, σ') := by
  let K : Kn := fun b => match σ[b]? with
    | some x => if x.perm = .dead then none else some x.cells
    | none => none
  have hR : Rel K [] [] σ := by
    refine ⟨rfl, fun b c hc => ?_, fun g x r hx => by simp at hx, fun g g' r r' b hg => by simp at hg, fun g r b hg => by simp at hg⟩
    simp only [K] at hc
    split at hc
    · rename_i x hx
      split at hc
      · cases hc
      · rename_i hp; cases hc; exact ⟨x.perm, hx, hp⟩
    · cases hc
  obtain ⟨n, a, σ', h1, K', φ', v, H', h2, h3, h4, h5⟩ := h K [] σ as hR (ha K fun b x hx hp => by show (match σ[b]? with | some x => if x.perm = Perm.dead then none else some x.cells | none => none) = _; rw [hx]; exact if_neg hp)
  have := hb v H' h5
  subst this
  obtain ⟨rfl, _⟩ := h4
  exact ⟨n, σ', h1⟩
end
end Go.Proofs.Ytenbclcfhjdcaaa.VM
end
section
set_option maxHeartbeats 8000000
set_option linter.unusedVariables false
set_option linter.unusedSimpArgs false
/- The machine of values: the rules as equations for simp. -/
namespace Go.Proofs.Ytenbclcfhjdcaaa.VM
open Go AM
section
variable {P : Program} {prim : CallF} {own : List Tmp} {H H' : Hp} {v x : V} {e e' : Ev} {ops : Array Oper} {q : Bool} {k : V → Hp → Prop} {Q : Ex → Ev → Hp → Prop} {Q1 : Ev → Hp → Prop}
variable {dst : Option Tmp} {type : TypeId} {pos : String} {after : Array Edge} {guard : Option (Nat × Bool)}

/-- What is behind an operation's answer. -/
def VK (r : Option (V × Hp)) [k : KVV] : Prop := match r with
  | some (v, H) => k.run v H
  | none => False
@[simp] theorem VK_some {u : V} {T : Hp} [k : KVV] : VK (some (u, T)) = k.run u T := propext Iff.rfl
@[simp] theorem VK_none [k : KVV] : VK none = False := propext Iff.rfl
@[simp] theorem VK_if {c : Prop} [Decidable c] {a : V × Hp} [k : KVV] : VK (if c then some a else none) ↔ (c ∧ k.run a.1 a.2) := by
  by_cases h : c <;> simp [h, VK]
@[simp] theorem VK_ite {c : Prop} [Decidable c] {a b : V × Hp} [k : KVV] : VK (if c then some a else some b) ↔ ((c → k.run a.1 a.2) ∧ (¬ c → k.run b.1 b.2)) := by
  by_cases h : c <;> simp [h, VK]
/-- A call to be answered for. -/
def CALLv (P : Program) (prim : CallF) (q : Bool) (f : FuncId) (args : List V) (H : Hp) [k : KVV] : Prop := VCq P prim q f args H k.run
@[simp ↓] theorem vw_skip : vw P prim own .skip Q e H = Q .normal e H := propext Iff.rfl
@[simp ↓] theorem vw_label {l : Nat} : vw P prim own (.label l) Q e H = Q .normal e H := propext Iff.rfl
@[simp ↓] theorem vw_exit {l : Nat} : vw P prim own (.exit l) Q e H = Q (.exit l) e H := propext Iff.rfl
@[simp ↓] theorem vw_ret : vw P prim own .ret Q e H = Q .ret e H := propext Iff.rfl
@[simp ↓] theorem vw_seq {a b : Code} : vw P prim own (.seq a b) Q e H = vw P prim own a (ThenV (vw P prim own b Q) Q) e H := propext Iff.rfl
@[simp ↓] theorem vw_block {id : Nat} {a : Code} : vw P prim own (.block id a) Q e H = vw P prim own a (BlkV id Q) e H := propext Iff.rfl
@[simp ↓] theorem vw_scope {a : Code} : vw P prim own (.scope a) Q e H = vw P prim own a Q e H := propext Iff.rfl
@[simp ↓] theorem vw_cond {x : Operand} {a b : Code} : vw P prim own (.cond x a b) Q e H = @CondV (vev e x) ⟨vw P prim own a Q e H, vw P prim own b Q e H⟩ := propext Iff.rfl
@[simp ↓] theorem vw_region {id : Nat} {l : List Oper} : vw P prim own (.region id l.toArray false) Q e H = vwo P prim own false l.toArray l (Q .normal) e H := propext Iff.rfl
theorem v_draw {id : Nat} {ops : Array Oper} {ord : List Nat} {m : Nat} (hp : plan ops = some (ord, m)) (h : vwo P prim own true ops ((ord.take m).map (ops.getD · default)) (vwo P prim own false ops ((ord.drop m).map (ops.getD · default)) (Q .normal)) e H) :
    vw P prim own (.region id ops true) Q e H := ⟨_, hp, h⟩
@[simp ↓] theorem ThenV_normal {N : Ev → Hp → Prop} : ThenV N Q .normal e H = N e H := propext Iff.rfl
@[simp ↓] theorem ThenV_exit {N : Ev → Hp → Prop} {i : Nat} : ThenV N Q (.exit i) e H = Q (.exit i) e H := propext Iff.rfl
@[simp ↓] theorem ThenV_ret {N : Ev → Hp → Prop} : ThenV N Q .ret e H = Q .ret e H := propext Iff.rfl
@[simp ↓] theorem BlkV_normal {id : Nat} : BlkV id Q .normal e H = Q .normal e H := propext Iff.rfl
@[simp ↓] theorem BlkV_ret {id : Nat} : BlkV id Q .ret e H = Q .ret e H := propext Iff.rfl
@[simp ↓] theorem BlkV_exit {id i : Nat} : BlkV id Q (.exit i) e H = if i = id then Q .normal e H else Q (.exit i) e H := propext Iff.rfl
@[simp ↓] theorem BodyV_ret {fn : Func} {n : Nat} [k : KVV] : BodyV P fn n .ret e H = ∃ v, vresults P fn.results.toList e H = some v ∧ @GVH n v H k := propext Iff.rfl
@[simp ↓] theorem BodyV_normal {fn : Func} {n : Nat} [k : KVV] : BodyV P fn n .normal e H = ∃ v, vresults P fn.results.toList e H = some v ∧ @GVH n v H k := propext Iff.rfl
@[simp ↓] theorem vwo_nil : vwo P prim own q ops [] Q1 e H = Q1 e H := propext Iff.rfl
@[simp ↓] theorem vwo_cons {o : Oper} {l : List Oper} : vwo P prim own q ops (o :: l) Q1 e H = vstep P prim own q ops o e H fun v H' => vwo P prim own q ops l Q1 (vupd e o.dst v) H' := propext Iff.rfl
@[simp] theorem CondV_true [c : PP] : CondV (.lit (.bool true)) ↔ c.a := by simp [CondV]
@[simp] theorem CondV_false [c : PP] : CondV (.lit (.bool false)) ↔ c.b := by simp [CondV]
theorem CondV.on {t : Bool} {c : PP} (h1 : t = true → c.a) (h2 : t = false → c.b) : @CondV (.lit (.bool t)) c := ⟨h1, h2⟩
theorem CondV.dec {p : Prop} [Decidable p] {c : PP} (h1 : p → c.a) (h2 : ¬ p → c.b) : @CondV (.lit (.bool (decide p))) c := ⟨fun h => h1 (of_decide_eq_true h), fun h => h2 (of_decide_eq_false h)⟩
@[simp ↓] theorem vstep_guard {op : Op} {jw : Nat × Bool} : vstep P prim own q ops ⟨dst, op, type, pos, after, some jw⟩ e H k = @GuardR (wantedV ops ⟨dst, op, type, pos, after, some jw⟩ e) ⟨vstep P prim own q ops ⟨dst, op, type, pos, after, none⟩ e H k, k (.tup []) H⟩ := by
  show (match wantedV ops ⟨dst, op, type, pos, after, some jw⟩ e with | some true => _ | some false => _ | none => _) = _
  unfold GuardR
  cases wantedV ops ⟨dst, op, type, pos, after, some jw⟩ e with
  | none => rfl
  | some b => cases b <;> rfl
/-- A call of a function value. -/
def CallVv (P : Program) (prim : CallF) (q : Bool) (v : V) (as : List V) (H : Hp) [k : KVV] : Prop := match v with
  | .fn f fi cp => CALLv P prim q f (fi ++ as ++ cp) H
  | _ => False
@[simp] theorem CallVv_fn {f : FuncId} {fi cp as : List V} [k : KVV] : CallVv P prim q (.fn f fi cp) as H = CALLv P prim q f (fi ++ as ++ cp) H := propext Iff.rfl
@[simp ↓] theorem vstep_callT {t : Tmp} {as : List Operand} {ts : Array TypeId} :
    vstep P prim own q ops ⟨dst, .call { callee := .value (.tmp t), args := as.toArray, argTypes := ts }, type, pos, after, none⟩ e H k = @CallVv P prim q (e t) (as.map (vev e)) H ⟨k⟩ := by
  show (match goCallV (vev e) (.call { callee := .value (.tmp t), args := as.toArray, argTypes := ts }) with | some (f, args) => VCq P prim q f args H k | none => False) = _
  unfold goCallV CallVv CALLv
  dsimp only [vev]
  cases e t <;> exact propext Iff.rfl
@[simp ↓] theorem vstep_callF {f : FuncId} {as : List Operand} {ts : Array TypeId} :
    vstep P prim own q ops ⟨dst, .call { callee := .value (.func f), args := as.toArray, argTypes := ts }, type, pos, after, none⟩ e H k = @CALLv P prim q f (as.map (vev e)) H ⟨k⟩ := by
  show VCq P prim q f ([] ++ as.map (vev e) ++ []) H k = _
  rw [List.nil_append, List.append_nil]; rfl
@[simp ↓] theorem vstep_len {x : Operand} {t : TypeId} : vstep P prim own q ops ⟨dst, .call { callee := .builtin .len, args := #[x], argTypes := #[t] }, type, pos, after, none⟩ e H k = @VK (match P.underlying t, vev e x with
      | some .string, .lit (.string s) => some (.lit (.int .i64 s.size), H)
      | _, _ => (vLen P t H (vev e x)).map (·, H)) ⟨k⟩ := propext Iff.rfl
@[simp ↓] theorem vstep_append {s x : Operand} {t tx : TypeId} : vstep P prim own q ops ⟨dst, .call { callee := .builtin .append, args := #[s, x], argTypes := #[t, tx] }, type, pos, after, none⟩ e H k = @VK (match P.underlying tx with
      | some (.int _) => vZeros P t H (vev e s) (vev e x)
      | _ => vAppend P q t tx H (vev e s) (vev e x)) ⟨k⟩ := propext Iff.rfl
@[simp ↓] theorem vstep_cap {x : Operand} {t : TypeId} : vstep P prim own q ops ⟨dst, .call { callee := .builtin .cap, args := #[x], argTypes := #[t] }, type, pos, after, none⟩ e H k = @VK (match P.underlying t, vev e x with
      | some (.slice _), .lit (.slice none 0 0) => some (.lit (.int .i64 0), H)
      | _, _ => none) ⟨k⟩ := propext Iff.rfl
@[simp ↓] theorem vstep_min {x y : Operand} {ts : Array TypeId} : vstep P prim own q ops ⟨dst, .call { callee := .builtin .min, args := #[x, y], argTypes := ts }, type, pos, after, none⟩ e H k = @VK (match toVal (vev e x), toVal (vev e y) with
      | some (.int k m), some (.int _ n) => some (.lit (.int k (if n < m then n else m)), H)
      | _, _ => none) ⟨k⟩ := propext Iff.rfl
@[simp ↓] theorem vstep_max {x y : Operand} {ts : Array TypeId} : vstep P prim own q ops ⟨dst, .call { callee := .builtin .max, args := #[x, y], argTypes := ts }, type, pos, after, none⟩ e H k = @VK (match toVal (vev e x), toVal (vev e y) with
      | some (.int k m), some (.int _ n) => some (.lit (.int k (if n > m then n else m)), H)
      | _, _ => none) ⟨k⟩ := propext Iff.rfl
@[simp ↓] theorem vstep_copy {d x : Operand} {t tx : TypeId} : vstep P prim own q ops ⟨dst, .call { callee := .builtin .copy, args := #[d, x], argTypes := #[t, tx] }, type, pos, after, none⟩ e H k = @VK (if q then none else vCopy P t tx (vev e d) (vev e x) H) ⟨k⟩ := propext Iff.rfl
@[simp ↓] theorem vstep_move {x : Operand} : vstep P prim own q ops ⟨dst, .move x, type, pos, after, none⟩ e H k = @VK (some (vev e x, H)) ⟨k⟩ := propext Iff.rfl
@[simp ↓] theorem vstep_assign {x : Operand} : vstep P prim own q ops ⟨dst, .assign x, type, pos, after, none⟩ e H k = @VK (some (vev e x, H)) ⟨k⟩ := propext Iff.rfl
@[simp ↓] theorem vstep_pick {c a b : Operand} : vstep P prim own q ops ⟨dst, .pick c a b, type, pos, after, none⟩ e H k = @VK (match vev e c with | .lit (.bool t) => some (if t then vev e a else vev e b, H) | _ => none) ⟨k⟩ := propext Iff.rfl
@[simp ↓] theorem vstep_extract {x : Operand} {i : Nat} : vstep P prim own q ops ⟨dst, .extract x i, type, pos, after, none⟩ e H k = @VK (match vev e x with | .tup vs => (vs[i]?).map (·, H) | _ => none) ⟨k⟩ := propext Iff.rfl
@[simp ↓] theorem vstep_nilCheck {x : Operand} : vstep P prim own q ops ⟨dst, .nilCheck x, type, pos, after, none⟩ e H k = @VK (if nonNil (vev e x) = true then some (vev e x, H) else none) ⟨k⟩ := propext Iff.rfl
@[simp ↓] theorem vstep_alloc {t : TypeId} : vstep P prim own q ops ⟨dst, .alloc t, type, pos, after, none⟩ e H k = @VK ((zerosOf P t 1).bind fun zs => (litCells zs).map fun cs => (.ptr H.length 0, H ++ [.mem cs true])) ⟨k⟩ := propext Iff.rfl
@[simp ↓] theorem vstep_box {t : TypeId} {x : Operand} : vstep P prim own q ops ⟨dst, .box t x, type, pos, after, none⟩ e H k = @VK (if (vev e x).cells.all V.isCell = true then some (.ptr H.length 0, H ++ [.mem (vev e x).cells true]) else none) ⟨k⟩ := propext Iff.rfl
@[simp ↓] theorem vstep_load {t : TypeId} {x : Operand} : vstep P prim own q ops ⟨dst, .load t x, type, pos, after, none⟩ e H k = @VK ((vLoad P t H (vev e x)).map (·, H)) ⟨k⟩ := propext Iff.rfl
@[simp ↓] theorem vstep_store {t : TypeId} {x v : Operand} : vstep P prim own q ops ⟨dst, .store t x v, type, pos, after, none⟩ e H k = @VK (if q then none else (vStore P t H (vev e x) (vev e v)).map fun H' => (.tup [], H')) ⟨k⟩ := propext Iff.rfl
@[simp ↓] theorem vstep_fieldAddr {t : TypeId} {x : Operand} {f : Nat} : vstep P prim own q ops ⟨dst, .fieldAddr t x f, type, pos, after, none⟩ e H k = @VK ((vFieldAddr P t (vev e x) f).map (·, H)) ⟨k⟩ := propext Iff.rfl
@[simp ↓] theorem vstep_field {t : TypeId} {x : Operand} {f : Nat} : vstep P prim own q ops ⟨dst, .field t x f, type, pos, after, none⟩ e H k = @VK (match vev e x, fieldOf P t f with
    | .agg cs, some (off, ft) => (partVV P ft cs off).map (·, H)
    | _, _ => none) ⟨k⟩ := propext Iff.rfl
@[simp ↓] theorem vstep_indexAddr {t : TypeId} {x i : Operand} : vstep P prim own q ops ⟨dst, .indexAddr t x i, type, pos, after, none⟩ e H k = @VK ((vIdx P t H (vev e x) (vev e i)).map (·, H)) ⟨k⟩ := propext Iff.rfl
@[simp ↓] theorem vstep_index {t : TypeId} {x i : Operand} : vstep P prim own q ops ⟨dst, .index t x i, type, pos, after, none⟩ e H k = @VK (match P.underlying t, vev e x, isInt (vev e i) with
    | some (.array n e), .agg cs, some j => match szOf P e with
      | some s => if 0 ≤ j ∧ j < n then (partVV P e cs (j.toNat * s)).map (·, H) else none
      | none => none
    | _, _, _ => none) ⟨k⟩ := propext Iff.rfl
@[simp ↓] theorem vstep_slice {t : TypeId} {x : Operand} {lo hi mx : Option Operand} : vstep P prim own q ops ⟨dst, .slice t x lo hi mx, type, pos, after, none⟩ e H k = @VK (match vNone P t H (vev e x) (lo.map (vev e)) (hi.map (vev e)) (mx.map (vev e)) with
    | some r => some r
    | none => match vTrunc P t H (vev e x) (lo.map (vev e)) (hi.map (vev e)) (mx.map (vev e)) with
      | some r => some r
      | none => (vSlice P t H (vev e x) (lo.map (vev e)) (hi.map (vev e)) (mx.map (vev e))).map (·, H)) ⟨k⟩ := propext Iff.rfl
@[simp ↓] theorem vstep_makeFunc {f : FuncId} {a b : List Operand} : vstep P prim own q ops ⟨dst, .makeFunc (.func f) a.toArray b.toArray, type, pos, after, none⟩ e H k = @VK (some (.fn f (a.map (vev e)) (b.map (vev e)), H)) ⟨k⟩ := propext Iff.rfl
@[simp ↓] theorem vstep_makeInterface {t : TypeId} {x : Operand} : vstep P prim own q ops ⟨dst, .makeInterface t x, type, pos, after, none⟩ e H k = @VK (if P.concrete t = true then some (.ifc t (vev e x), H) else none) ⟨k⟩ := propext Iff.rfl
@[simp ↓] theorem vstep_makeSlice {t : TypeId} {l c : Operand} : vstep P prim own q ops ⟨dst, .makeSlice t l c, type, pos, after, none⟩ e H k = @VK (vMake P t (vev e l) (vev e c) H) ⟨k⟩ := propext Iff.rfl
@[simp ↓] theorem vstep_build {t : TypeId} {ps : List (Nat × Operand)} : vstep P prim own q ops ⟨dst, .build t ps.toArray, type, pos, after, none⟩ e H k = @VK ((vBuild P t (ps.map fun p => (p.1, vev e p.2))).map (·, H)) ⟨k⟩ := propext Iff.rfl
@[simp ↓] theorem vstep_buildSlice {d : Tmp} {t : TypeId} {len : Nat} {ps : List (Nat × Operand)} : vstep P prim own q ops ⟨some d, .buildSlice t len ps.toArray, type, pos, after, none⟩ e H k = @VK (vLit P (own.contains d) t len (ps.map fun p => (p.1, vev e p.2)) H) ⟨k⟩ := propext Iff.rfl
/-- A comparison, or arithmetic. -/
def VB (P : Program) (op : BinOp) (t : TypeId) (x y : V) (H : Hp) [k : KVV] : Prop := match op with
  | .eql => match nilCmp P H t x y with
    | some n => ∀ b : Bool, (0 < n → b = false) → k.run (.lit (.bool b)) H
    | none => VK ((vBin P .eql t x y).map (·, H))
  | .neq => match nilCmp P H t x y with
    | some n => ∀ b : Bool, (0 < n → b = true) → k.run (.lit (.bool b)) H
    | none => VK ((vBin P .neq t x y).map (·, H))
  | op => VK ((vBin P op t x y).map (·, H))
@[simp ↓] theorem vstep_binOp {op : BinOp} {t : TypeId} {x y : Operand} {ty : TypeId} : vstep P prim own q ops ⟨dst, .binOp op t x y ty, type, pos, after, none⟩ e H k = @VB P op t (vev e x) (vev e y) H ⟨k⟩ := by
  show (match nilOp P (vev e) (.binOp op t x y ty) H with
      | some (neq, n) => ∀ b : Bool, (0 < n → b = neq) → k (.lit (.bool b)) H
      | none => (match (vBin P op t (vev e x) (vev e y)).map (·, H) with
        | some (v, H') => k v H'
        | none => False)) = _
  unfold nilOp VB VK
  cases op <;> first | exact propext Iff.rfl | (dsimp only; cases nilCmp P H t (vev e x) (vev e y) <;> exact propext Iff.rfl)
@[simp ↓] theorem vstep_unOp {op : UnOp} {t : TypeId} {x : Operand} : vstep P prim own q ops ⟨dst, .unOp op t x, type, pos, after, none⟩ e H k = @VK (match toVal (vev e x) with
    | some a => ((unI op a).bind mkLit).map (·, H)
    | none => none) ⟨k⟩ := propext Iff.rfl
@[simp ↓] theorem vstep_convert {d : Tmp} {src dt : TypeId} {x : Operand} : vstep P prim own q ops ⟨some d, .convert src dt x, type, pos, after, none⟩ e H k = @VK (vConv P (own.contains d) src dt (vev e x) H) ⟨k⟩ := propext Iff.rfl
@[simp] theorem isCell_lit {v : Value} : (V.lit v).isCell = cellB v := rfl
@[simp] theorem isCell_fsl {k : Bool} {s : Nat} {r : List (List V)} : (V.fsl k s r).isCell = true := rfl
@[simp] theorem isCell_fptr {r : List V} : (V.fptr r).isCell = true := rfl
@[simp] theorem isCell_ptr {g o : Nat} : (V.ptr g o).isCell = true := rfl
@[simp] theorem isCell_own {g o : Nat} : (V.own g o).isCell = true := rfl
@[simp] theorem isCell_elt {g o k w : Nat} : (V.elt g o k w).isCell = true := rfl
@[simp] theorem isCell_fn {f : FuncId} {a b : List V} : (V.fn f a b).isCell = true := rfl
@[simp] theorem isCell_ifc {t : TypeId} {v : V} : (V.ifc t v).isCell = true := rfl
@[simp] theorem isCell_agg {a : List V} : (V.agg a).isCell = false := rfl
@[simp] theorem cells_agg {a : List V} : (V.agg a).cells = a := rfl
@[simp] theorem cells_lit {v : Value} : (V.lit v).cells = [V.lit v] := rfl
@[simp] theorem cells_fsl {k : Bool} {s : Nat} {r : List (List V)} : (V.fsl k s r).cells = [V.fsl k s r] := rfl
@[simp] theorem cells_fptr {r : List V} : (V.fptr r).cells = [V.fptr r] := rfl
@[simp] theorem cells_ptr {g o : Nat} : (V.ptr g o).cells = [V.ptr g o] := rfl
@[simp] theorem cells_own {g o : Nat} : (V.own g o).cells = [V.own g o] := rfl
@[simp] theorem cells_elt {g o k w : Nat} : (V.elt g o k w).cells = [V.elt g o k w] := rfl
@[simp] theorem cells_fn {f : FuncId} {a b : List V} : (V.fn f a b).cells = [V.fn f a b] := rfl
@[simp] theorem cells_ifc {t : TypeId} {v : V} : (V.ifc t v).cells = [V.ifc t v] := rfl
theorem cells_cell {v : V} (h : v.isCell = true) : v.cells = [v] := by cases v <;> first | rfl | cases h
/-- Literals of structs. -/
@[simp] theorem fillV_nil {place : Nat → Option (Nat × Nat)} {cells : List V} : fillV place cells [] = some cells := rfl
theorem RowsOk_nil {s : Nat} : RowsOk s [] := fun r hr => by simp at hr
@[simp] theorem RowsOk_nil_iff {s : Nat} : RowsOk s [] ↔ True := ⟨fun _ => trivial, fun _ => RowsOk_nil⟩
@[simp] theorem RowsOk_cons_iff {s : Nat} {r : List V} {rs : List (List V)} : RowsOk s (r :: rs) ↔ (r.length = s ∧ r.all V.isCell = true) ∧ RowsOk s rs := by
  unfold RowsOk; simp
@[simp] theorem RowsOk_app_iff {s : Nat} {r rs : List (List V)} : RowsOk s (r ++ rs) ↔ RowsOk s r ∧ RowsOk s rs := by
  exact ⟨fun h => ⟨fun x hx => h x (List.mem_append_left _ hx), fun x hx => h x (List.mem_append_right _ hx)⟩, fun h => RowsOk.append h.1 h.2⟩
@[simp] theorem RowsOk_map_iff {α : Type} {s : Nat} {f : α → List V} {l : List α} : RowsOk s (l.map f) ↔ ∀ a ∈ l, (f a).length = s ∧ (f a).all V.isCell = true := by
  unfold RowsOk; simp
@[simp] theorem clip_apply {n : Nat} {t : Tmp} : clip n e t = if belB n (e t) = true then e t else .junk := rfl
@[simp] theorem range1 : List.range 1 = [0] := rfl
@[simp] theorem range2 : List.range 2 = [0, 1] := rfl
@[simp] theorem range3 : List.range 3 = [0, 1, 2] := rfl
@[simp] theorem range4 : List.range 4 = [0, 1, 2, 3] := rfl
@[simp] theorem range5 : List.range 5 = [0, 1, 2, 3, 4] := rfl
@[simp] theorem range6 : List.range 6 = [0, 1, 2, 3, 4, 5] := rfl
@[simp] theorem range7 : List.range 7 = [0, 1, 2, 3, 4, 5, 6] := rfl
@[simp] theorem range8 : List.range 8 = [0, 1, 2, 3, 4, 5, 6, 7] := rfl
@[simp] theorem range9 : List.range 9 = [0, 1, 2, 3, 4, 5, 6, 7, 8] := rfl
@[simp] theorem range10 : List.range 10 = [0, 1, 2, 3, 4, 5, 6, 7, 8, 9] := rfl
@[simp] theorem range11 : List.range 11 = [0, 1, 2, 3, 4, 5, 6, 7, 8, 9, 10] := rfl
@[simp] theorem range12 : List.range 12 = [0, 1, 2, 3, 4, 5, 6, 7, 8, 9, 10, 11] := rfl
@[simp] theorem range13 : List.range 13 = [0, 1, 2, 3, 4, 5, 6, 7, 8, 9, 10, 11, 12] := rfl
/-- Contracts. -/
theorem CALLv.ofH {f : FuncId} {args : List V} {R : V → Prop} (h : ∀ H, VC P prim f args H fun u T => R u ∧ T = H) {k : KVV} (hk : ∀ u, R u → k.run u H) : @CALLv P prim q f args H k := by
  refine ⟨H, .refl, ?_⟩
  cases q with
  | false => exact (h H).mono fun u T ⟨e1, e2⟩ => by subst e2; exact hk u e1
  | true => exact (h (lockV H)).mono fun u T ⟨e1, e2⟩ => by subst e2; exact ⟨[], by simp, by simp, by simpa using hk u e1⟩
/-- A call whose answer is a value. -/
def Ans (P : Program) (prim : CallF) (f : FuncId) (args : List V) (v : V) : Prop := ∀ H, VC P prim f args H fun u T => u = v ∧ T = H
theorem Ans.call {f : FuncId} {args : List V} (h : Ans P prim f args v) {k : KVV} (hk : k.run v H) : @CALLv P prim q f args H k := .ofH (R := (· = v)) h fun u e => by subst e; exact hk
/-- A call that makes one object. -/
def AnsK (P : Program) (prim : CallF) (f : FuncId) (args : List V) (v : Nat → V) (y : Ob) : Prop := y.rwOk ∧ ∀ H, VC P prim f args H fun u T => u = v H.length ∧ T = H ++ [y]
theorem AnsK.call {f : FuncId} {args : List V} {y : Ob} {v : Nat → V} (h : AnsK P prim f args v y) {k : KVV} (hk : k.run (v H.length) (H ++ [y])) : @CALLv P prim q f args H k := by
  refine ⟨H, .refl, ?_⟩
  cases q with
  | false => exact (h.2 H).mono fun u T ⟨e1, e2⟩ => by subst e2; subst e1; exact hk
  | true => exact (h.2 (lockV H)).mono fun u T ⟨e1, e2⟩ => by subst e2; subst e1; exact ⟨[y], rfl, by simpa using h.1, by simpa [lockV] using hk⟩
/-- A call that answers rows of one's own. -/
def AnsO (P : Program) (prim : CallF) (f : FuncId) (args : List V) (s : Nat) (rows : List (List V)) : Prop := ∀ H, VC P prim f args H fun u T => ∃ w t, u = .own H.length w ∧ T = H ++ [.vec w rows s true t]
theorem AnsO.call {f : FuncId} {args : List V} {s : Nat} {rows : List (List V)} (h : AnsO P prim f args s rows) {k : KVV} (hk : ∀ w t, k.run (.own H.length w) (H ++ [.vec w rows s true t])) : @CALLv P prim q f args H k := by
  refine ⟨H, .refl, ?_⟩
  cases q with
  | false => exact (h H).mono fun u T ⟨w, t, e1, e2⟩ => by subst e2; subst e1; exact hk w t
  | true => exact (h (lockV H)).mono fun u T ⟨w, t, e1, e2⟩ => by subst e2; subst e1; exact ⟨[_], rfl, by simp [Ob.rwOk], by simpa [lockV] using hk w t⟩
/-- A call that may change what stands. -/
theorem CALLv.at {f : FuncId} {args : List V} {R : V → Hp → Prop} {k : KVV} (h : VC P prim f args H R) (hk : ∀ v T, R v T → k.run v T) : @CALLv P prim false f args H k := ⟨H, .refl, h.mono hk⟩
theorem VC.up {f : FuncId} {args args' : List V} {R : V → Hp → Prop} (ha : Ups H.length [] [] H args' args) (h : VC P prim f args' H R) : VC P prim f args H R := by
  intro K φ σ as hR hs
  obtain ⟨K', φ', h1, h2, h3⟩ := ghostA (L := []) (E := []) (H0 := H) (Z := []) (Z' := []) (X := []) (Y := []) hR hR.cl (by simp) (by simp) (by simp) (by simp) rfl rfl (by simp)
  simp only [List.map_nil, List.append_nil, List.length_nil, Nat.add_zero] at h1 h2 h3
  have conv : ∀ {us vs : List V} {l : List Value}, Ups H.length [] [] H us vs → VRs K vs φ l → VRs K' us φ' l := fun {us} => by
    induction us with
    | nil => intro vs l hu hv; simp only [Ups] at hu; subst hu; exact hv
    | cons u us ih =>
      intro vs l hu hv
      simp only [Ups] at hu
      obtain ⟨w, ws, rfl, e1, e2⟩ := hu
      obtain ⟨a, as', f1, f2, f3⟩ := hv
      exact ⟨a, as', f1, h3 e1 f2, ih e2 f3⟩
  rw [← hR.len] at h1
  exact (h K' φ' σ as h2 (conv ha hs)).mono fun a σ' ⟨K2, φ2, v, H2, g1, g2, g3, g4⟩ => ⟨K2, φ2, v, H2, h1.trans g1 (h1.le_len (Nat.le_refl _)), g2, g3, g4⟩
section
variable {n : Nat} {L E : List Nat} {H1 : Hp}
@[simp] theorem Ups_nil : Ups n L E H1 [] [] ↔ True := by simp [Ups]
@[simp] theorem Ups_cons {v u : V} {vs us : List V} : Ups n L E H1 (v :: vs) (u :: us) ↔ Up n L E H1 v u ∧ Ups n L E H1 vs us := by
  simp only [Ups]
  exact ⟨fun ⟨_, _, h, h1, h2⟩ => by cases h; exact ⟨h1, h2⟩, fun ⟨h1, h2⟩ => ⟨_, _, rfl, h1, h2⟩⟩
@[simp] theorem UpR_nil : UpR n L E H1 [] [] ↔ True := by simp [UpR]
@[simp] theorem UpR_cons {v u : List V} {vs us : List (List V)} : UpR n L E H1 (v :: vs) (u :: us) ↔ Ups n L E H1 v u ∧ UpR n L E H1 vs us := by
  simp only [UpR]
  exact ⟨fun ⟨_, _, h, h1, h2⟩ => by cases h; exact ⟨h1, h2⟩, fun ⟨h1, h2⟩ => ⟨_, _, rfl, h1, h2⟩⟩
@[simp] theorem UpOs_nil : UpOs n L E H1 [] [] ↔ True := by simp [UpOs]
@[simp] theorem UpOs_cons {v u : Ob} {vs us : List Ob} : UpOs n L E H1 (v :: vs) (u :: us) ↔ UpO n L E H1 v u ∧ UpOs n L E H1 vs us := by
  simp only [UpOs]
  exact ⟨fun ⟨_, _, h, h1, h2⟩ => by cases h; exact ⟨h1, h2⟩, fun ⟨h1, h2⟩ => ⟨_, _, rfl, h1, h2⟩⟩
@[simp] theorem UpO_mem {c c0 : List V} {r r0 : Bool} : UpO n L E H1 (.mem c r) (.mem c0 r0) ↔ r = r0 ∧ Ups n L E H1 c c0 := Iff.rfl
@[simp] theorem UpO_vec {w w0 s s0 : Nat} {c c0 : List (List V)} {r r0 t t0 : Bool} : UpO n L E H1 (.vec w c s r t) (.vec w0 c0 s0 r0 t0) ↔ w = w0 ∧ s = s0 ∧ r = r0 ∧ t = t0 ∧ RowsOk s c ∧ UpR n L E H1 c c0 := Iff.rfl
@[simp] theorem UpO_fro {w w0 s s0 : Nat} {c c0 : List (List V)} : UpO n L E H1 (.fro w c s) (.fro w0 c0 s0) ↔ w = w0 ∧ s = s0 ∧ c = c0 := Iff.rfl
/-- Rows without objects stay. -/
theorem UpR_pure {v : List (List V)} (h : ∀ r ∈ v, pureVs r = true) : UpR n L E H1 v v ↔ True := ⟨fun _ => trivial, fun _ => UpR.self h⟩
@[simp] theorem UpR_map {α : Type} {f : α → List V} {l : List α} (h : ∀ a, pureVs (f a) = true) : UpR n L E H1 (l.map f) (l.map f) ↔ True := UpR_pure fun r hr => by obtain ⟨a, _, rfl⟩ := List.mem_map.1 hr; exact h a
/-- Rows that name no object. -/
def PureR (rows : List (List V)) : Prop := ∀ r ∈ rows, pureVs r = true
@[simp] theorem PureR_nil : PureR [] ↔ True := by simp [PureR]
@[simp] theorem PureR_cons {r : List V} {rs : List (List V)} : PureR (r :: rs) ↔ pureVs r = true ∧ PureR rs := by simp [PureR]
@[simp] theorem PureR_app {r rs : List (List V)} : PureR (r ++ rs) ↔ PureR r ∧ PureR rs := by
  unfold PureR
  exact ⟨fun h => ⟨fun x hx => h x (List.mem_append_left _ hx), fun x hx => h x (List.mem_append_right _ hx)⟩, fun h x hx => (List.mem_append.1 hx).elim (h.1 x) (h.2 x)⟩
@[simp] theorem PureR_map {α : Type} {f : α → List V} {l : List α} : PureR (l.map f) ↔ ∀ a ∈ l, pureVs (f a) = true := by simp [PureR]
theorem PureR.take {l : List (List V)} (h : PureR l) (n : Nat) : PureR (l.take n) := fun r hr => h r (List.mem_of_mem_take hr)
theorem PureR.drop {l : List (List V)} (h : PureR l) (n : Nat) : PureR (l.drop n) := fun r hr => h r (List.mem_of_mem_drop hr)
@[simp] theorem PureR_take {α : Type} {f : α → List V} {l : List α} {n : Nat} (h : ∀ a, pureVs (f a) = true) : PureR ((l.map f).take n) ↔ True := ⟨fun _ => trivial, fun _ => .take (PureR_map.2 fun a _ => h a) n⟩
@[simp] theorem PureR_drop {α : Type} {f : α → List V} {l : List α} {n : Nat} (h : ∀ a, pureVs (f a) = true) : PureR ((l.map f).drop n) ↔ True := ⟨fun _ => trivial, fun _ => .drop (PureR_map.2 fun a _ => h a) n⟩
@[simp] theorem PureR_rep {r : List V} {n : Nat} (h : pureVs r = true) : PureR (List.replicate n r) ↔ True := ⟨fun _ => trivial, fun _ x hx => by rw [(List.mem_replicate.1 hx).2]; exact h⟩
/-- One's own rows, frozen. -/
def UpFz (n : Nat) (L E : List Nat) (H1 : Hp) (s : Nat) (rows : List (List V)) (g w : Nat) : Prop := match H1[g]? with
  | some (.vec w' rows0 s' _ _) => w = w' ∧ s = s' ∧ n ≤ g ∧ g ∉ L ∧ (rows = rows0 ∨ UpR n L E H1 rows rows0)
  | some (.fro w' rows0 s') => w = w' ∧ s = s' ∧ rows = rows0
  | _ => False
@[simp] theorem Up_fsl_own {k : Bool} {s g w : Nat} {rows : List (List V)} : Up n L E H1 (.fsl k s rows) (.own g w) ↔ PureR rows ∧ UpFz n L E H1 s rows g w := by
  simp only [Up, PureR, UpFz]
  constructor
  · rintro (⟨_, h, _⟩ | ⟨h, _⟩ | ⟨hp, g', w', rows0, h, hq⟩)
    · cases h
    · cases h
    · cases h
      refine ⟨hp, ?_⟩
      rcases hq with ⟨rw, t, h1, h2, h3, h4⟩ | ⟨h1, h2⟩
      · rw [h1]; exact ⟨rfl, rfl, h2, h3, .inr h4⟩
      · rw [h1]; exact ⟨rfl, rfl, h2⟩
  · rintro ⟨hp, h⟩
    refine .inr (.inr ⟨hp, g, w, ?_⟩)
    split at h
    · rename_i w' rows0 s' rw t hg
      obtain ⟨rfl, rfl, h1, h2, h3⟩ := h
      refine ⟨rows0, rfl, .inl ⟨rw, t, hg, h1, h2, ?_⟩⟩
      rcases h3 with h3 | h3
      · subst h3; exact UpR.self hp
      · exact h3
    · rename_i w' rows0 s' hg
      obtain ⟨rfl, rfl, rfl⟩ := h
      exact ⟨_, rfl, .inr ⟨hg, rfl⟩⟩
    · exact h.elim
@[simp] theorem Up_fsl_fsl {k k0 : Bool} {s s0 : Nat} {rows rows0 : List (List V)} : Up n L E H1 (.fsl k s rows) (.fsl k0 s0 rows0) ↔ s0 = s ∧ rows0 = rows ∧ (k = true → k0 = true) := by
  simp only [Up]
  constructor
  · rintro (⟨_, h, h1⟩ | ⟨h, _⟩ | ⟨_, _, _, _, h, _⟩)
    · cases h; exact ⟨rfl, rfl, h1⟩
    · cases h
    · cases h
  · rintro ⟨rfl, rfl, h⟩; exact .inl ⟨_, rfl, h⟩
@[simp] theorem Up_fsl_nil {k : Bool} {s : Nat} {rows : List (List V)} : Up n L E H1 (.fsl k s rows) (.lit (.slice none 0 0)) ↔ rows = [] ∧ s < 4294967296 := by
  simp only [Up]
  constructor
  · rintro (⟨_, h, _⟩ | ⟨_, h, h1⟩ | ⟨_, _, _, _, h, _⟩)
    · cases h
    · exact ⟨List.eq_nil_of_length_eq_zero h, h1⟩
    · cases h
  · rintro ⟨rfl, h⟩; exact .inr (.inl ⟨trivial, rfl, h⟩)
@[simp] theorem Up_lit {v : Value} {u : V} : Up n L E H1 (.lit v) u ↔ u = .lit v := by simp only [Up]
@[simp] theorem Up_agg {vs us : List V} : Up n L E H1 (.agg vs) (.agg us) ↔ Ups n L E H1 vs us := by
  simp only [Up]
  exact ⟨fun ⟨_, h, h1⟩ => by cases h; exact h1, fun h => ⟨_, rfl, h⟩⟩
@[simp] theorem Up_tup {vs us : List V} : Up n L E H1 (.tup vs) (.tup us) ↔ Ups n L E H1 vs us := by
  simp only [Up]
  exact ⟨fun ⟨_, h, h1⟩ => by cases h; exact h1, fun h => ⟨_, rfl, h⟩⟩
@[simp] theorem Up_junk {u : V} : Up n L E H1 .junk u ↔ True := by simp only [Up]
@[simp] theorem Up_own_nil {g w : Nat} : Up n L E H1 (.own g w) (.lit (.slice none 0 0)) ↔ n + L.length ≤ g ∧ g < n + L.length + E.length ∧ w = 0 := by
  simp only [Up]
  constructor
  · rintro (⟨_, h⟩ | ⟨_, h, _⟩ | ⟨h1, h2, h3, _⟩)
    · cases h
    · cases h
    · exact ⟨h1, h2, h3⟩
  · rintro ⟨h1, h2, h3⟩; exact .inr (.inr ⟨h1, h2, h3, trivial⟩)
@[simp] theorem Up_own_own {g w g0 w0 : Nat} : Up n L E H1 (.own g w) (.own g0 w0) ↔ w0 = w ∧ ((g < n ∧ g0 = g) ∨ (n ≤ g ∧ L[g - n]? = some g0)) := by
  simp only [Up]
  constructor
  · rintro (⟨h1, h⟩ | ⟨_, h, h1⟩ | ⟨_, _, _, h⟩)
    · cases h; exact ⟨rfl, .inl ⟨h1, rfl⟩⟩
    · cases h; exact ⟨rfl, .inr h1⟩
    · cases h
  · rintro ⟨rfl, ⟨h1, rfl⟩ | h⟩
    · exact .inl ⟨h1, rfl⟩
    · exact .inr (.inl ⟨_, rfl, h⟩)
@[simp] theorem Up_ptr_ptr {g o g0 o0 : Nat} : Up n L E H1 (.ptr g o) (.ptr g0 o0) ↔ o0 = o ∧ ((g < n ∧ g0 = g) ∨ (n ≤ g ∧ L[g - n]? = some g0)) := by
  simp only [Up]
  constructor
  · rintro (⟨h1, h⟩ | ⟨_, h, h1⟩)
    · cases h; exact ⟨rfl, .inl ⟨h1, rfl⟩⟩
    · cases h; exact ⟨rfl, .inr h1⟩
  · rintro ⟨rfl, ⟨h1, rfl⟩ | h⟩
    · exact .inl ⟨h1, rfl⟩
    · exact .inr ⟨_, rfl, h⟩
/-- An object's cells, frozen. -/
def UpFp (n : Nat) (L E : List Nat) (H1 : Hp) (cs : List V) (g o : Nat) : Prop := match H1[g]? with
  | some (.mem cells _) => n ≤ g ∧ g ∉ L ∧ o ≤ cells.length ∧ Ups n L E H1 cs (cells.drop o)
  | _ => False
@[simp] theorem Up_fptr_ptr {cs : List V} {g o : Nat} : Up n L E H1 (.fptr cs) (.ptr g o) ↔ pureVs cs = true ∧ UpFp n L E H1 cs g o := by
  simp only [Up, UpFp]
  constructor
  · rintro (h | ⟨hp, g', o', cells, rw, h, h1, h2⟩)
    · cases h
    · cases h; rw [h1]; exact ⟨hp, h2⟩
  · rintro ⟨hp, h⟩
    refine .inr ⟨hp, g, o, ?_⟩
    split at h
    · rename_i cells rw hg
      exact ⟨cells, rw, rfl, hg, h⟩
    · exact h.elim
@[simp] theorem Up_fptr_fptr {cs cs0 : List V} : Up n L E H1 (.fptr cs) (.fptr cs0) ↔ cs0 = cs := by
  simp only [Up]
  constructor
  · rintro (h | ⟨_, _, _, _, _, h, _⟩) <;> cases h; rfl
  · rintro rfl; exact .inl rfl
@[simp] theorem Up_fn {f : FuncId} {fi cp fi0 cp0 : List V} : Up n L E H1 (.fn f fi cp) (.fn f fi0 cp0) ↔ Ups n L E H1 fi fi0 ∧ Ups n L E H1 cp cp0 := by
  simp only [Up]
  exact ⟨fun ⟨_, _, h, h1⟩ => by cases h; exact h1, fun h => ⟨_, _, rfl, h⟩⟩
attribute [simp] UpFz UpFp
end
end
attribute [simp] vev vupd ofVal toVal litsOf flatB vLen lenOf rowsAt rowsOf vLoad at_ vStore putAt spl vFieldAddr vIdx isInt vSlice intOptV vSliceR vAppend srcV vBin vEq mkLit vConv bytesV vBuild vLit litRows vMake vNone vTrunc vZeros nilI VB nilCmp litCells partVV nonNil wantedV vresults vresult vresultL pureV pureVs belB belBs fillV vCopy
end Go.Proofs.Ytenbclcfhjdcaaa.VM
end
section
set_option maxHeartbeats 8000000
set_option linter.unusedVariables false
set_option linter.unusedSimpArgs false
/- The machine of values: calls with slices that are frozen ahead. -/
namespace Go.Proofs.Ytenbclcfhjdcaaa.VM
open Go AM
section
variable {P : Program} {prim : CallF} {K K' : Kn} {φ φ' : List Rz} {H H' H0 : Hp} {σ σ' : Heap} {v x : V} {a : Value} {q : Bool}
theorem Frz.trans {H1 H2 : Hp} (h1 : Frz H H1) (h2 : Frz H1 H2) : Frz H H2 := fun K φ σ hR => by
  obtain ⟨K1, φ1, p1, r1⟩ := h1 K φ σ hR
  obtain ⟨K2, φ2, p2, r2⟩ := h2 K1 φ1 σ r1
  exact ⟨K2, φ2, p1.trans p2 (p1.le_len (Nat.le_refl _)), r2⟩
/-- One's own rows are frozen. -/
theorem Frz.vec {g w s : Nat} {rows : List (List V)} {rw t : Bool} (hg : H[g]? = some (.vec w rows s rw t)) (hpu : PureR rows) : Frz H (H.set g (.fro w rows s)) := by
  intro K φ σ hR
  obtain ⟨r, hr⟩ : ∃ r, φ[g]? = some r := ⟨_, List.getElem?_eq_getElem (by rw [hR.len]; exact get_lt hg)⟩
  have hlt := get_lt hr
  have hob := hR.ob g _ r hg hr
  cases r with
  | mem _ => exact hob.elim
  | fro _ _ _ => exact hob.elim
  | vec val w' s' =>
    obtain ⟨rfl, rfl, h0, h1, hok, h2⟩ := hob
    have main : ∀ K' : Kn, (∀ b c, K b = some c → K' b = some c) → (∀ b c, K' b = some c → K b = some c ∨ ((Rz.vec val w s).blk = some b ∧ ∃ p, σ[b]? = some ⟨c, p⟩ ∧ p ≠ .dead)) → VR K' (.fsl true s rows) [] val → ∃ K' φ', Post φ.length K φ K' φ' ∧ Rel K' φ' (H.set g (.fro w rows s)) σ := fun K' k1 k2 k3 => by
      have hp : Post φ.length K φ K' (φ.set g (.fro val w s)) := ⟨k1, fun k q hk hq => by
        by_cases e : k = g
        · subst e; rw [hr] at hq; cases hq
          exact ⟨.fro val w s, by rw [List.getElem?_set_self hk], rfl, Nat.le_refl _, fun _ => rfl⟩
        · exact ⟨q, by rw [List.getElem?_set_ne (Ne.symm e)]; exact hq, .refl _⟩⟩
      have get : ∀ {k : Nat} {q : Rz}, (φ.set g (.fro val w s))[k]? = some q → (k = g ∧ q = .fro val w s) ∨ (k ≠ g ∧ φ[k]? = some q) := fun {k q} hq => by
        by_cases e : k = g
        · subst e; rw [List.getElem?_set_self hlt] at hq; cases hq; exact .inl ⟨rfl, rfl⟩
        · rw [List.getElem?_set_ne (Ne.symm e)] at hq; exact .inr ⟨e, hq⟩
      refine ⟨K', φ.set g (.fro val w s), hp, by simp [hR.len], fun b c hc => ?_, fun k y q hy hq => ?_, fun k k' q q' b hq hq' hb hb' => ?_, fun k q b hq hb => ?_⟩
      · rcases k2 b c hc with h | ⟨_, h⟩
        · exact hR.kn b c h
        · exact h
      · rcases get hq with ⟨e1, e2⟩ | ⟨hk, hq1⟩
        · subst e2
          rw [e1, List.getElem?_set_self (get_lt hg)] at hy; cases hy
          exact ⟨rfl, rfl, k3⟩
        · rw [List.getElem?_set_ne (Ne.symm hk)] at hy
          exact (hR.ob k y q hy hq1).keep (fun _ _ => rfl) hp
      · rcases get hq with ⟨e1, e2⟩ | ⟨hk, hq1⟩
        · subst e2; cases hb
        · rcases get hq' with ⟨e3, e4⟩ | ⟨hk', hq1'⟩
          · subst e4; cases hb'
          · exact hR.inj k k' q q' b hq1 hq1' hb hb'
      · rcases get hq with ⟨e1, e2⟩ | ⟨hk, hq1⟩
        · subst e2; cases hb
        · cases hK : K' b with
          | none => rfl
          | some c =>
            rcases k2 b c hK with h | ⟨h, _⟩
            · rw [hR.apart k q b hq1 hb] at h; cases h
            · exact absurd (hR.inj k g q _ b hq1 hr hb h) hk
    rcases h2 with ⟨h2, h3⟩ | ⟨b, c, vals, rest, p, h3, h4, h5, h6, h7⟩
    · have hr0 : rows = [] := List.eq_nil_of_length_eq_zero h2
      subst hr0
      refine main K (fun _ _ h => h) (fun _ _ h => .inl h) ?_
      have hcap : capOK 0 s 0 := by unfold capOK; rw [capOf_exact_eq (by decide)]; exact Nat.le_refl _
      rcases h3 with h3 | ⟨b, o, cells, h3, h4, h5⟩
      · subst h3; exact ⟨none, 0, rfl, fun _ => rfl, (fun _ => by simp [AM.dng]), hcap, by omega, .inl ⟨rfl, rfl⟩⟩
      · subst h3; exact ⟨_, 0, rfl, (fun e => by cases e), (fun _ => by simp [AM.dng]), hcap, by omega, .inr ⟨b, o, cells, rfl, h4, by simpa using h5, by simp [RowsR]⟩⟩
    · have hblk : (Rz.vec val w s).blk = some b := vec_blk h3 h4
      have hkn : ∀ b' c', K b' = some c' → (K.add b (vals ++ rest)) b' = some c' := fun b' c' h => by
        unfold Kn.add
        split
        · rename_i e; subst e; rw [hR.apart g _ b' hr hblk] at h; cases h
        · exact h
      refine main (K.add b (vals ++ rest)) hkn (fun b' c' h => ?_) ?_
      · unfold Kn.add at h
        split at h
        · rename_i e; subst e; cases h; exact .inr ⟨hblk, p, h5, permOk_alive h6⟩
        · exact .inl h
      · subst h3
        have hl := h7.len
        refine ⟨_, c, rfl, (fun e => by cases e), (fun _ => h4.dng), h4.ok, by omega, .inr ⟨b, 0, vals ++ rest, rfl, by simp [Kn.add], by simp; omega, ?_⟩⟩
        rw [List.drop_zero, ← hl, List.take_left]
        exact (h7.pure hpu).monoN (n := 0) ⟨hkn, fun g r hg => by omega⟩
mutual
theorem Up.lock : ∀ {v u : V}, Up H.length [] [] H v u → Up H.length [] [] (lockV H) v u
  | .lit _, _, h => by simp only [Up] at h ⊢; exact h
  | .junk, _, _ => by simp only [Up]
  | .fsl k s rows, u, h => by
    simp only [Up] at h ⊢
    rcases h with h | h | ⟨hp, g, w, rows0, h, ⟨rw, t, h1, h2, _⟩ | ⟨h1, h2⟩⟩
    · exact .inl h
    · exact .inr (.inl h)
    · have := get_lt h1; omega
    · exact .inr (.inr ⟨hp, g, w, rows0, h, .inr ⟨by simp [lockV, h1, Ob.lock], h2⟩⟩)
  | .fptr cs, u, h => by
    simp only [Up] at h ⊢
    rcases h with h | ⟨hp, g, o, cells, rw, h, h1, h2, _⟩
    · exact .inl h
    · have := get_lt h1; omega
  | .own g w, u, h => by simp only [Up] at h ⊢; exact h
  | .ptr g w, u, h => by simp only [Up] at h ⊢; exact h
  | .elt g w k o, u, h => by simp only [Up] at h ⊢; exact h
  | .fn f fi cp, u, h => by
    simp only [Up] at h ⊢
    obtain ⟨fi0, cp0, rfl, h1, h2⟩ := h
    exact ⟨fi0, cp0, rfl, h1.lock, h2.lock⟩
  | .ifc t v, u, h => by
    simp only [Up] at h ⊢
    obtain ⟨v0, rfl, h1⟩ := h
    exact ⟨v0, rfl, h1.lock⟩
  | .agg cs, u, h => by
    simp only [Up] at h ⊢
    obtain ⟨v0, rfl, h1⟩ := h
    exact ⟨v0, rfl, h1.lock⟩
  | .tup cs, u, h => by
    simp only [Up] at h ⊢
    obtain ⟨v0, rfl, h1⟩ := h
    exact ⟨v0, rfl, h1.lock⟩
theorem Ups.lock : ∀ {v u : List V}, Ups H.length [] [] H v u → Ups H.length [] [] (lockV H) v u
  | [], _, h => by simp only [Ups] at h ⊢; exact h
  | v :: vs, u, h => by
    simp only [Ups] at h ⊢
    obtain ⟨u0, us, rfl, h1, h2⟩ := h
    exact ⟨u0, us, rfl, h1.lock, h2.lock⟩
end
theorem Ans.callF {f : FuncId} {args : List V} (args' : List V) (h : Ans P prim f args' v) (hfz : Frz H H0) (ha : Ups H0.length [] [] H0 args' args) {k : KVV} (hk : k.run v H0) : @CALLv P prim q f args H k := by
  refine ⟨H0, hfz, ?_⟩
  cases q with
  | false => exact VC.up ha ((h H0).mono fun u T ⟨e1, e2⟩ => by subst e2; subst e1; exact hk)
  | true =>
    have hl : (lockV H0).length = H0.length := by simp [lockV]
    refine VC.up (args' := args') (by rw [hl]; exact ha.lock) ((h (lockV H0)).mono fun u T ⟨e1, e2⟩ => ?_)
    subst e2; subst e1
    exact ⟨[], by simp, by simp, by simpa using hk⟩
/-- A call with other words for its arguments. -/
theorem Ans.callU {f : FuncId} {args : List V} (args' : List V) (h : Ans P prim f args' v) (ha : Ups H.length [] [] H args' args) {k : KVV} (hk : k.run v H) : @CALLv P prim q f args H k := h.callF args' .refl ha hk
theorem AnsO.callU {f : FuncId} {args : List V} (args' : List V) {s : Nat} {rows : List (List V)} (h : AnsO P prim f args' s rows) (ha : Ups H.length [] [] H args' args) {k : KVV} (hk : ∀ w t, k.run (.own H.length w) (H ++ [.vec w rows s true t])) : @CALLv P prim q f args H k := by
  refine ⟨H, .refl, ?_⟩
  cases q with
  | false => exact VC.up ha ((h H).mono fun u T ⟨w, t, e1, e2⟩ => by subst e2; subst e1; exact hk w t)
  | true =>
    have hl : (lockV H).length = H.length := by simp [lockV]
    refine VC.up (args' := args') (by rw [hl]; exact ha.lock) ((h (lockV H)).mono fun u T ⟨w, t, e1, e2⟩ => ?_)
    subst e2; subst e1
    exact ⟨[_], rfl, by simp [Ob.rwOk], by simpa [lockV] using hk w t⟩
/-- Rows of one's own, frozen by who asked for them. -/
theorem AnsO.fro {f : FuncId} {args : List V} {s : Nat} {rows : List (List V)} (h : AnsO P prim f args s rows) (hp : PureR rows) (k : Bool) : Ans P prim f args (.fsl k s rows) := fun H K φ σ as hR ha =>
  (h H K φ σ as hR ha).mono fun a σ' ⟨K', φ', v, H', h1, h2, h3, w, t, e1, e2⟩ => by
    subst e1; subst e2
    obtain ⟨K2, φ2, v2, H2, g1, g2, g3, g4⟩ := GV.ret (R := fun u T => u = .fsl k s rows ∧ T = H) (X := [.vec w rows s true t]) (.fsl k s rows) hR.cl (by simp [hp]) ⟨rfl, rfl⟩ K' φ' σ' a h2 h3
    rw [← hR.len] at g1
    exact ⟨K2, φ2, v2, H2, h1.trans g1 (Nat.le_refl _), g2, g3, g4⟩
/-- nil in a temporary becomes empty rows of one's own. -/
theorem G.nilT {Q : Ev → Hp → Prop} {m s : Nat} {e : Ev} {Z : Hp} (t : Tmp) (hcl : Cl H) (hm : m ≤ H.length + Z.length) (hs : 0 < s ∧ s ≤ 1048576) (hZ : UpOs (H.length + Z.length) [] [s] (H ++ Z) Z Z) (ht : e t = .lit (.slice none 0 0))
    (h : Q (vupd (VM.clip (H.length + Z.length) e) (some t) (.own (H.length + Z.length) 0)) (H ++ (Z ++ [.vec 0 [] s true true]))) : G m Q e (H ++ Z) := by
  have := G.mk (Q := Q) (m := m) (e := e) (H0 := H) (Z := Z) (Z' := Z) (X := []) [s] (vupd (VM.clip (H.length + Z.length) e) (some t) (.own (H.length + Z.length) 0)) hcl hm (by simpa using hs) (by simpa using hZ) (fun j => by
    show Up _ _ _ _ (if j = t then V.own (H.length + Z.length) 0 else VM.clip _ e j) (e j)
    by_cases hj : j = t
    · subst hj; rw [if_pos rfl, ht]; simp
    · rw [if_neg hj]; exact clip_up j) (by simpa using h)
  simpa using this
theorem G.nilT0 {Q : Ev → Hp → Prop} {m s : Nat} {e : Ev} (t : Tmp) (hcl : Cl H) (hm : m ≤ H.length) (hs : 0 < s ∧ s ≤ 1048576) (ht : e t = .lit (.slice none 0 0))
    (h : Q (vupd (VM.clip H.length e) (some t) (.own H.length 0)) (H ++ [.vec 0 [] s true true])) : G m Q e H := by
  have := G.nilT (Q := Q) (m := m) (s := s) (e := e) (Z := []) t hcl (by simpa using hm) hs (by simp) ht (by simpa using h)
  simpa using this
theorem Cl.set {g : Nat} {y : Ob} (h : Cl H) (hy : y.bel H.length) : Cl (H.set g y) := fun o ho => by
  rw [List.length_set]
  rcases List.mem_or_eq_of_mem_set ho with ho | rfl
  · exact h o ho
  · exact hy
end
end Go.Proofs.Ytenbclcfhjdcaaa.VM
end
section
set_option maxHeartbeats 8000000
set_option linter.unusedVariables false
set_option linter.unusedSimpArgs false
/- The machine of values: a law's arguments as they lie in the world's memory. -/
namespace Go.Proofs.Ytenbclcfhjdcaaa.VM
open Go Go.RowKit AM
section
variable {P : Program} {prim : CallF} {w : World} {v : Value} {x : V}
open Classical in
/-- A cell as the abstract machine may read it; an empty slice of unknown place. -/
noncomputable def cl (h : Array Obj) (v : Value) : Value := match v with
  | .slice (some _) 0 _ => .slice (some ⟨h.size, 0, none⟩) 0 AM.dng
  | v => if Val (idMu h) v v then v else .chan (some 0)
theorem cl_val (h : Array Obj) (v : Value) : Val (idMu h) (cl h v) v := by
  unfold cl
  split
  · exact .sld (Nat.le_refl _)
  · split
    · assumption
    · exact .junk 0 _
theorem cl_same {h : Array Obj} {v : Value} (hv : Val (idMu h) v v) (hne : ∀ a c, v ≠ .slice (some a) 0 c) : cl h v = v := by
  unfold cl
  split
  · exact absurd rfl (hne _ _)
  · rw [if_pos hv]
/-- The memory of a world, all of it to be read alone, and an empty block behind. -/
noncomputable def heapC (h : Array Obj) : Heap := (h.toList.map fun o => match o with
  | .cells c _ _ => ⟨c.toList.map (cl h), .ro⟩
  | _ => ⟨[], .dead⟩) ++ [⟨[], .ro⟩]
theorem heapC_len (h : Array Obj) : (heapC h).length = h.size + 1 := by simp [heapC]
theorem heapC_get {h : Array Obj} {l : Nat} (hl : l < h.size) : (heapC h)[l]? = (h[l]?).map fun o => match o with
    | .cells c _ _ => ⟨c.toList.map (cl h), .ro⟩
    | _ => ⟨[], .dead⟩ := by
  unfold heapC
  rw [List.getElem?_append_left (by simpa using hl)]
  simp
theorem heapC_end (h : Array Obj) : (heapC h)[h.size]? = some ⟨[], .ro⟩ := by
  unfold heapC
  rw [List.getElem?_append_right (by simp)]
  simp
theorem heapC_full {h : Array Obj} {l : Nat} : ¬ isFull (heapC h) l := by
  rintro ⟨x, hx, hp⟩
  by_cases hl : l < h.size
  · rw [heapC_get hl] at hx
    cases ho : h[l]? with
    | none => rw [ho] at hx; cases hx
    | some o =>
      rw [ho] at hx
      cases o <;> (cases hx; cases hp)
  · have := get_lt hx
    rw [heapC_len] at this
    have e : l = h.size := by omega
    subst e
    rw [heapC_end] at hx
    cases hx; cases hp
theorem sim_startC (h : Array Obj) : Sim (idMu h) (heapC h) h := by
  refine ⟨fun l b N hm => ?_, fun l1 l2 b N1 N2 _ _ _ hf _ => heapC_full hf, fun l b N x hm hx hd => ?_⟩
  · unfold idMu at hm
    split at hm
    · rename_i c e fr ho
      cases hm
      exact (Array.getElem?_eq_some_iff.1 ho).1
    · cases hm
  · unfold idMu at hm
    split at hm
    · rename_i c e fr ho
      cases hm
      have hl : l < h.size := (Array.getElem?_eq_some_iff.1 ho).1
      rw [heapC_get hl, ho] at hx
      cases hx
      refine ⟨c, e, fr, ho, rfl, fun hp => (by cases hp), fun j v hj => ?_⟩
      simp only [List.getElem?_map, Option.map_eq_some_iff] at hj
      obtain ⟨u, hu, rfl⟩ := hj
      exact ⟨u, by simpa using hu, cl_val h u⟩
    · cases hm
theorem startC (hm : P.follows .mixedOrders = true) (hprim : CallOk P prim) {n : Nat} {f : FuncId} {args args' : Array Value} {σ' : Heap} (ha : ValL (idMu w.heap) args'.toList args.toList) (h : acall P prim n f args' (heapC w.heap) = some (v, σ')) (hv : scalarB v = true) :
    Calls P f args w fun e w' => e = .returned v ∧ Below w.heap.size w w' := by
  obtain ⟨_, hle, hc⟩ := acall_sound hm hprim n _ _ _ _ _ h
  refine Calls.mono (hc args (idMu w.heap) w ha (sim_startC _) (fun l h1 _ => ?_)) fun e w' ⟨v', μ', he, k1, k2, k3⟩ => ?_
  · rw [heapC_len] at h1
    unfold idMu
    rw [Array.getElem?_eq_none (by omega)]
  · subst he
    rw [scalar_val hv k1]
    exact ⟨rfl, k3.os, k3.tape, k3.output, k3.size, fun b hb => k3.keep b hb fun l N _ hf => heapC_full hf⟩
def KOf (w : World) (K : Kn) : Prop := ∀ b x, (heapC w.heap)[b]? = some x → x.perm ≠ .dead → K b = some x.cells
/-- A cell of the world's memory reads as a value. -/
def CellV (w : World) (x : V) (u : Value) : Prop := ∀ K, KOf w K → VR K x [] (cl w.heap u)
def CellsV (w : World) : List V → List Value → Prop
  | [], us => us = []
  | x :: xs, us => ∃ u us', us = u :: us' ∧ CellV w x u ∧ CellsV w xs us'
theorem CellsV.vrs {K : Kn} (hK : KOf w K) : ∀ {xs : List V} {us : List Value}, CellsV w xs us → VRs K xs [] (us.map (cl w.heap))
  | [], _, h => by simp only [CellsV] at h; subst h; rfl
  | x :: xs, _, ⟨u, us, h1, h2, h3⟩ => by subst h1; exact ⟨_, _, rfl, h2 K hK, h3.vrs hK⟩
theorem CellsV.len : ∀ {xs : List V} {us : List Value}, CellsV w xs us → us.length = xs.length
  | [], _, h => by simp only [CellsV] at h; subst h; rfl
  | x :: xs, _, ⟨u, us, h1, h2, h3⟩ => by subst h1; simp [h3.len]
theorem CellV.lit {u : Value} (h : scalarB u = true) : CellV w (.lit u) u := fun K _ => by rw [cl_same (.scal h) (fun a c e => by subst e; simp [scalarB] at h)]; exact ⟨rfl, h⟩
/-- Rows of cells. -/
def RowsV (w : World) (s : Nat) : List (List V) → List Value → Prop
  | [], us => us = []
  | r :: rs, us => ∃ a as, us = a ++ as ∧ r.length = s ∧ CellsV w r a ∧ RowsV w s rs as
theorem RowsV.rows {K : Kn} (hK : KOf w K) {s : Nat} : ∀ {rs : List (List V)} {us : List Value}, RowsV w s rs us → RowsR K s rs [] (us.map (cl w.heap))
  | [], _, h => by simp only [RowsV] at h; subst h; rfl
  | r :: rs, _, ⟨a, as, h1, h2, h3, h4⟩ => by subst h1; exact ⟨_, _, by rw [List.map_append], h2, h3.vrs hK, h4.rows hK⟩
theorem RowsV.len {s : Nat} : ∀ {rs : List (List V)} {us : List Value}, RowsV w s rs us → us.length = rs.length * s
  | [], _, h => by simp only [RowsV] at h; subst h; simp
  | r :: rs, _, ⟨a, as, h1, h2, h3, h4⟩ => by subst h1; rw [List.length_append, h3.len, h2, h4.len, List.length_cons, Nat.add_mul]; omega
/-- A slice. -/
theorem CellV.slice {A : Option Addr} {n c s : Nat} {rows : List (List V)} {us : List Value} (hs : 0 < s) (hs1 : s ≤ 1048576) (h0 : A = none → n = 0 ∧ c = 0) (hnc : n ≤ c) (hc : c ≤ maxLen) (hn : rows.length = n) (hr : RowsV w s rows us)
    (hm : 0 < n → ∃ g o, A = some ⟨g, o, none⟩ ∧ ∀ j u, us[j]? = some u → w.cell? ⟨g, o + j, none⟩ = some u) : ∃ k, CellV w (.fsl k s rows) (.slice A n c) := by
  have hct : c < top := by simp only [top, maxLen] at *; omega
  have hcd : c < AM.dng := by simp only [AM.dng, maxLen] at *; omega
  have hlen := hr.len
  by_cases hn0 : n = 0
  · have hr0 : rows = [] := List.eq_nil_of_length_eq_zero (by omega)
    subst hr0
    cases A with
    | none =>
      obtain ⟨e1, e2⟩ := h0 rfl
      subst e1; subst e2
      refine ⟨true, fun K hK => ?_⟩
      rw [cl_same (.scal rfl) (fun a c e => by cases e)]
      exact ⟨none, 0, rfl, fun _ => rfl, fun _ => hcd, by unfold capOK; rw [capOf_exact_eq (by decide)]; exact Nat.le_refl _, by omega, .inl ⟨rfl, rfl⟩⟩
    | some a =>
      subst hn0
      refine ⟨false, fun K hK => ?_⟩
      show VR K _ [] (.slice (some ⟨w.heap.size, 0, none⟩) 0 AM.dng)
      exact ⟨_, AM.dng, rfl, (fun e => by cases e), (fun h => by cases h), by unfold capOK; rw [capOf_dng]; rfl, by omega, .inr ⟨w.heap.size, 0, [], rfl, hK _ _ (heapC_end _) (by simp), by simp, by simp [RowsR]⟩⟩
  · obtain ⟨g, o, rfl, hcell⟩ := hm (by omega)
    have hpos : 0 < us.length := by rw [hlen, hn]; exact Nat.mul_pos (by omega) hs
    obtain ⟨C, e, fr, ho, hC⟩ : ∃ C e fr, w.heap[g]? = some (.cells C e fr) ∧ ∀ j u, us[j]? = some u → C[o + j]? = some u := by
      have h1 := hcell 0 us[0] (List.getElem?_eq_getElem hpos)
      unfold World.cell? at h1
      split at h1
      · rename_i C e fr ho
        refine ⟨C, e, fr, ho, fun j u hj => ?_⟩
        have h2 := hcell j u hj
        unfold World.cell? at h2
        simp only at ho
        rw [ho] at h2
        simpa using h2
      · cases h1
    have hl : g < w.heap.size := (Array.getElem?_eq_some_iff.1 ho).1
    have hv : Val (idMu w.heap) (.slice (some ⟨g, o, none⟩) n c) (.slice (some ⟨g, o, none⟩) n c) := .sl (N := C.size) (by unfold idMu; rw [ho]) hct
    refine ⟨true, fun K hK => ?_⟩
    rw [cl_same hv (fun a c e => by cases e; exact hn0 rfl)]
    have hk := hK g ⟨C.toList.map (cl w.heap), .ro⟩ (by rw [heapC_get hl, ho]; rfl) (by simp)
    have hfit : o + us.length ≤ C.size := by
      have := hC (us.length - 1) us[us.length - 1] (List.getElem?_eq_getElem (by omega))
      have := (Array.getElem?_eq_some_iff.1 this).1
      omega
    refine ⟨_, c, by rw [hn], (fun e => by cases e), (fun _ => hcd), by unfold capOK; rw [capOf_exact_eq hct, hn]; exact hnc, by omega, .inr ⟨g, o, _, rfl, hk, by simp only [List.length_map, Array.length_toList]; omega, ?_⟩⟩
    have heq : ((C.toList.map (cl w.heap)).drop o).take (rows.length * s) = us.map (cl w.heap) := by
      apply List.ext_getElem?
      intro j
      rw [List.getElem?_take, List.getElem?_drop, List.getElem?_map, List.getElem?_map]
      by_cases hj : j < us.length
      · rw [if_pos (by omega)]
        have := hC j us[j] (List.getElem?_eq_getElem hj)
        rw [List.getElem?_eq_getElem hj, Array.getElem?_toList, this]
      · rw [if_neg (by omega), List.getElem?_eq_none (by omega)]; rfl
    rw [heq]
    exact hr.rows hK
/-- Arguments. -/
def ArgV (w : World) (x : V) (u : Value) : Prop := ∃ a, Val (idMu w.heap) a u ∧ ∀ K, KOf w K → VR K x [] a
theorem CellV.arg {u : Value} (h : CellV w x u) : ArgV w x u := ⟨cl w.heap u, cl_val _ _, h⟩
theorem CellsV.arg {xs : List V} {us : Array Value} (h : CellsV w xs us.toList) : ArgV w (.agg xs) (.agg us) := by
  refine ⟨.agg (us.map (cl w.heap)), .agg (by simp) fun i v v' h1 h2 => ?_, fun K hK => ⟨_, rfl, by rw [Array.toList_map]; exact h.vrs hK⟩⟩
  rw [Array.getElem?_map] at h1
  rw [h2] at h1
  cases h1
  exact cl_val _ _
def ArgsV (w : World) : List V → List Value → Prop
  | [], us => us = []
  | x :: xs, us => ∃ u us', us = u :: us' ∧ ArgV w x u ∧ ArgsV w xs us'
theorem ArgsV.get : ∀ {xs : List V} {us : List Value}, ArgsV w xs us → ∃ as : List Value, ValL (idMu w.heap) as us ∧ ∀ K, KOf w K → VRs K xs [] as
  | [], _, h => by simp only [ArgsV] at h; subst h; exact ⟨[], .nil, fun K _ => rfl⟩
  | x :: xs, _, ⟨u, us, h1, ⟨a, h2, h3⟩, h4⟩ => by
    subst h1
    obtain ⟨as, h5, h6⟩ := h4.get
    refine ⟨a :: as, ⟨by simp [h5.1], fun i v v' e1 e2 => ?_⟩, fun K hK => ⟨a, as, rfl, h3 K hK, h6 K hK⟩⟩
    cases i with
    | zero => simp at e1 e2; subst e1; subst e2; exact h2
    | succ i => exact h5.2 i v v' (by simpa using e1) (by simpa using e2)
/-- A law that is walked holds. -/
theorem Ans.law (hm : P.follows .mixedOrders = true) (hprim : CallOk P prim) {f : FuncId} {xs : List V} {us : Array Value} (h : Ans P prim f xs (.lit (.bool true))) (ha : ArgsV w xs us.toList) : Calls P f us w fun e w' => e = .returned (.bool true) ∧ Below w.heap.size w w' := by
  obtain ⟨as, h1, h2⟩ := ha.get
  obtain ⟨n, σ', h3⟩ := VC.start (as := as.toArray) (σ := heapC w.heap) (h []) (fun K hK => by simpa using h2 K hK) (fun v H' ⟨e, _⟩ => e)
  exact startC hm hprim (args' := as.toArray) (by simpa using h1) h3 rfl
end
end Go.Proofs.Ytenbclcfhjdcaaa.VM
end
