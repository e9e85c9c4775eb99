/- The machine of values: the end of functions and of rounds. -/
import Derived.Test.YtenbclcfhjdcaaaVMk
namespace Go.Proofs.Ytenbclcfhjdcaaa.VM
open Go AM
section
variable {P : Program} {prim : CallF} {K K' : Kn} {φ φ' : List Rz} {H H' H1 : Hp} {σ σ' : Heap} {v x y : V} {a b : Value} {n : Nat} {L E : List Nat} {e e' : Ev} {ea : Env}

theorem UpO.sound (hR : Rel K φ H1 σ) (hn : n ≤ φ.length) (hL : ∀ g ∈ L, n ≤ g ∧ g < φ.length) (hE : ∀ s ∈ E, 0 < s ∧ s ≤ 1048576) {y x : Ob} {r : Rz} (h : UpO n L E H1 y x) (hob : ObR K φ σ x r) : ObR (kn2 n L K φ σ) (phi2 n L E φ) σ y r := by
  cases y with
  | mem cells rw =>
    cases x with
    | mem cells0 rw0 =>
      obtain ⟨rfl, h2⟩ := h
      cases r with
      | mem b =>
        obtain ⟨vals, p, h3, h4, h5⟩ := hob
        exact ⟨vals, p, h3, h4, Ups.sound hR hn hL hE h2 h5⟩
      | vec _ _ _ => exact hob.elim
      | fro _ _ _ => exact hob.elim
    | vec _ _ _ _ _ => exact h.elim
    | fro _ _ _ => exact h.elim
  | vec w rows s rw t =>
    cases x with
    | mem _ _ => exact h.elim
    | fro _ _ _ => exact h.elim
    | vec w0 rows0 s0 rw0 t0 =>
      obtain ⟨rfl, rfl, rfl, rfl, h1, h2⟩ := h
      cases r with
      | mem b => exact hob.elim
      | fro _ _ _ => exact hob.elim
      | vec val w' s' =>
        obtain ⟨f1, f2, f3, f4, f5, f6⟩ := hob
        refine ⟨f1, f2, f3, f4, h1, ?_⟩
        rcases f6 with ⟨f6, f7⟩ | ⟨b, c, vals, rest, p, f6, f7, f8, f9, f10⟩
        · refine .inl ⟨?_, f7.mono fun b c h => kn2_le hR h⟩
          have : rows0 = [] := List.eq_nil_of_length_eq_zero f6
          subst this
          cases rows with
          | nil => rfl
          | cons r rs => simp only [UpR] at h2; obtain ⟨_, _, e, _⟩ := h2; cases e
        · obtain ⟨g1, g2⟩ := UpR.sound hR hn hL hE h2 f10
          exact .inr ⟨b, c, vals, rest, p, by rw [g2]; exact f6, by rw [g2]; exact f7, f8, f9, g1⟩
  | fro w rows s =>
    cases x with
    | mem _ _ => exact h.elim
    | vec _ _ _ _ _ => exact h.elim
    | fro w0 rows0 s0 =>
      obtain ⟨rfl, rfl, rfl⟩ := h
      cases r with
      | mem b => exact hob.elim
      | vec _ _ _ => exact hob.elim
      | fro val w' s' =>
        obtain ⟨f1, f2, f3⟩ := hob
        exact ⟨f1, f2, f3.monoN (n := 0) ⟨fun b c h => kn2_le hR h, fun g r hg => by omega⟩⟩
theorem ghost (hR : Rel K φ H1 σ) (hn : n ≤ H1.length) (hL : ∀ g ∈ L, n ≤ g ∧ g < H1.length) (hE : ∀ s ∈ E, 0 < s ∧ s ≤ 1048576) (hnd : L.Nodup) (hlen : H'.length = n + L.length + E.length)
    (h1 : ∀ (i : Nat) x y, i < n → H1[i]? = some x → H'[i]? = some y → UpO n L E H1 y x) (h2 : ∀ (j g : Nat) x y, L[j]? = some g → H1[g]? = some x → H'[n + j]? = some y → UpO n L E H1 y x) (h3 : ∀ (j s : Nat), E[j]? = some s → H'[n + L.length + j]? = some (.vec 0 [] s true true)) :
    ∃ K' φ', Post n K φ K' φ' ∧ Rel K' φ' H' σ ∧ ∀ {v u : V} {a : Value}, Up n L E H1 v u → VR K u φ a → VR K' v φ' a := by
  have hlenR := hR.len
  rw [← hlenR] at hn hL
  refine ⟨kn2 n L K φ σ, phi2 n L E φ, ⟨fun b c h => kn2_le hR h, fun g r hg hr => ⟨r, by rw [phi2_lt hn hg]; exact hr, .refl r⟩⟩, ?_, fun {v u a} h hv => Up.sound hR hn hL hE h hv⟩
  have blkE : ∀ s : Nat, (Rz.vec (.slice none 0 0) 0 s).blk = none := fun _ => rfl
  -- which object stands behind
  have src : ∀ {g : Nat} {r : Rz} {b : Nat}, (phi2 n L E φ)[g]? = some r → r.blk = some b → ∃ g0, φ[g0]? = some r ∧ ((g < n ∧ g0 = g) ∨ (n ≤ g ∧ L[g - n]? = some g0)) := fun {g r b} hg hb => by
    rcases phi2_get hn hL hg with ⟨e1, e2⟩ | ⟨e1, g0, e2, e3⟩ | ⟨_, s, _, e3⟩
    · exact ⟨g, e2, .inl ⟨e1, rfl⟩⟩
    · exact ⟨g0, e3, .inr ⟨e1, e2⟩⟩
    · subst e3; cases hb
  refine ⟨by rw [phi2_len hn, hlen], fun b c hc => ?_, fun g y r hy hr => ?_, fun g g' r r' b hg hg' hb hb' => ?_, fun g r b hg hb => ?_⟩
  · unfold kn2 at hc
    split at hc
    · split at hc
      · rename_i x hx
        split at hc
        · cases hc
        · rename_i hp
          cases hc
          exact ⟨x.perm, hx, hp⟩
      · cases hc
    · exact hR.kn b c hc
  · rcases phi2_get hn hL hr with ⟨e1, e2⟩ | ⟨e1, g0, e2, e3⟩ | ⟨e1, s, e2, e3⟩
    · obtain ⟨x, hx⟩ : ∃ x, H1[g]? = some x := ⟨_, List.getElem?_eq_getElem (by rw [← hlenR]; exact get_lt e2)⟩
      exact UpO.sound hR hn hL hE (h1 g x y e1 hx hy) (hR.ob g x r hx e2)
    · obtain ⟨x, hx⟩ : ∃ x, H1[g0]? = some x := ⟨_, List.getElem?_eq_getElem (by rw [← hlenR]; exact get_lt e3)⟩
      exact UpO.sound hR hn hL hE (h2 (g - n) g0 x y e2 hx (by rw [Nat.add_sub_cancel' e1]; exact hy)) (hR.ob g0 x r hx e3)
    · have := h3 (g - (n + L.length)) s e2
      rw [Nat.add_sub_cancel' e1, hy] at this
      cases this
      subst e3
      obtain ⟨s1, s2⟩ := hE s (List.mem_of_getElem? e2)
      exact ⟨rfl, rfl, s1, s2, (fun r hr => by simp at hr), .inl ⟨rfl, .inl rfl⟩⟩
  · obtain ⟨g0, e1, e2⟩ := src hg hb
    obtain ⟨g0', e1', e2'⟩ := src hg' hb'
    have := hR.inj g0 g0' r r' b e1 e1' hb hb'
    subst this
    rcases e2 with ⟨a1, a2⟩ | ⟨a1, a2⟩ <;> rcases e2' with ⟨b1, b2⟩ | ⟨b1, b2⟩
    · omega
    · have := (hL g0 (List.mem_of_getElem? b2)).1; omega
    · have := (hL g0 (List.mem_of_getElem? a2)).1; omega
    · have nd : ∀ (i j : Nat), i < j → L[i]? = some g0 → L[j]? = some g0 → False := fun i j hij hi hj => by
        have := List.pairwise_iff_getElem.1 hnd i j (get_lt hi) (get_lt hj) hij
        rw [List.getElem?_eq_getElem (get_lt hi)] at hi
        rw [List.getElem?_eq_getElem (get_lt hj)] at hj
        exact this ((Option.some.inj hi).trans (Option.some.inj hj).symm)
      rcases Nat.lt_trichotomy (g - n) (g' - n) with h | h | h
      · exact (nd _ _ h a2 b2).elim
      · omega
      · exact (nd _ _ h b2 a2).elim
  · obtain ⟨g0, e1, e2⟩ := src hg hb
    unfold kn2
    split
    · rename_i hx
      obtain ⟨g1, r1, f1, f2, f3, f4⟩ := hx
      have := hR.inj g0 g1 r r1 b e1 f1 hb f4
      subst this
      rcases e2 with ⟨a1, a2⟩ | ⟨a1, a2⟩
      · omega
      · exact absurd (List.mem_of_getElem? a2) f3
    · exact hR.apart g0 r b e1 hb
/-- Objects, one by one. -/
def UpOs (n : Nat) (L E : List Nat) (H1 : Hp) : List Ob → List Ob → Prop
  | [], us => us = []
  | y :: ys, us => ∃ x xs, us = x :: xs ∧ UpO n L E H1 y x ∧ UpOs n L E H1 ys xs
theorem UpOs.len : ∀ {ys xs : List Ob}, UpOs n L E H1 ys xs → ys.length = xs.length
  | [], _, h => by simp only [UpOs] at h; subst h; rfl
  | y :: ys, _, ⟨x, xs, h1, h2, h3⟩ => by subst h1; simp [h3.len]
theorem UpOs.get : ∀ {ys xs : List Ob}, UpOs n L E H1 ys xs → ∀ {i : Nat} {y x : Ob}, ys[i]? = some y → xs[i]? = some x → UpO n L E H1 y x
  | [], _, h, i, y, x, hy, _ => by simp at hy
  | y :: ys, _, ⟨x, xs, h1, h2, h3⟩, 0, y', x', hy, hx => by subst h1; simp at hy hx; subst hy; subst hx; exact h2
  | y :: ys, _, ⟨x, xs, h1, h2, h3⟩, i + 1, y', x', hy, hx => by subst h1; exact h3.get (i := i) (by simpa using hy) (by simpa using hx)
theorem UpO.self {o : Ob} (h : o.bel n) : UpO n L E H1 o o := by
  cases o with
  | mem cells rw => exact ⟨rfl, Ups.self h⟩
  | vec w rows s rw t => exact ⟨rfl, rfl, rfl, rfl, h.2, UpR.selfB h.1⟩
  | fro w rows s => exact ⟨rfl, rfl, rfl⟩
mutual
def belB (n : Nat) : V → Bool
  | .lit _ | .fsl _ _ _ | .fptr _ | .junk => true
  | .ptr g _ | .own g _ | .elt g _ _ _ => decide (g < n)
  | .fn _ fi cp => belBs n fi && belBs n cp
  | .ifc _ v => belB n v
  | .agg cs | .tup cs => belBs n cs
def belBs (n : Nat) : List V → Bool
  | [] => true
  | v :: vs => belB n v && belBs n vs
end
mutual
theorem belB_sound : ∀ {v : V}, belB n v = true → Bel n v
  | .lit _, _ => trivial
  | .fsl _ _ _, _ => trivial
  | .fptr _, _ => trivial
  | .junk, _ => trivial
  | .ptr _ _, h => by simpa [belB, Bel] using h
  | .own _ _, h => by simpa [belB, Bel] using h
  | .elt _ _ _ _, h => by simpa [belB, Bel] using h
  | .fn f fi cp, h => by
    simp only [belB, Bool.and_eq_true] at h
    exact ⟨belBs_sound h.1, belBs_sound h.2⟩
  | .ifc t v, h => belB_sound (v := v) h
  | .agg cs, h => belBs_sound (v := cs) h
  | .tup cs, h => belBs_sound (v := cs) h
theorem belBs_sound : ∀ {v : List V}, belBs n v = true → Bels n v
  | [], _ => trivial
  | v :: vs, h => by
    simp only [belBs, Bool.and_eq_true] at h
    exact ⟨belB_sound h.1, belBs_sound h.2⟩
end
mutual
theorem Bel.mono {m : Nat} (hm : m ≤ n) : ∀ {v : V}, Bel m v → Bel n v
  | .lit _, _ => trivial
  | .fsl _ _ _, _ => trivial
  | .fptr _, _ => trivial
  | .junk, _ => trivial
  | .ptr _ _, h => Nat.lt_of_lt_of_le h hm
  | .own _ _, h => Nat.lt_of_lt_of_le h hm
  | .elt _ _ _ _, h => Nat.lt_of_lt_of_le h hm
  | .fn f fi cp, h => ⟨Bels.mono hm h.1, Bels.mono hm h.2⟩
  | .ifc t v, h => Bel.mono hm (v := v) h
  | .agg cs, h => Bels.mono hm (v := cs) h
  | .tup cs, h => Bels.mono hm (v := cs) h
theorem Bels.mono {m : Nat} (hm : m ≤ n) : ∀ {v : List V}, Bels m v → Bels n v
  | [], _ => trivial
  | v :: vs, h => ⟨Bel.mono hm h.1, Bels.mono hm h.2⟩
end
theorem Ob.bel.mono {m : Nat} (hm : m ≤ n) {o : Ob} (h : o.bel m) : o.bel n := by
  cases o with
  | mem cells rw => exact Bels.mono hm h
  | vec w rows s rw t => exact ⟨fun r hr => Bels.mono hm (h.1 r hr), h.2⟩
  | fro w rows s => trivial
theorem Cl.app {Y : Hp} (h : Cl H) (hY : ∀ o ∈ Y, o.bel (H.length + Y.length)) : Cl (H ++ Y) := fun o ho => by
  rw [List.length_append]
  rcases List.mem_append.1 ho with ho | ho
  · exact (h o ho).mono (by omega)
  · exact hY o ho
theorem Cl.nil : Cl [] := fun o ho => by simp at ho
/-- The general end: objects below n are told one by one behind those that stay whole. -/
theorem ghostA (hR : Rel K φ H1 σ) {H0 Z Z' X Y : Hp} (hcl : Cl H0) (hH1 : H1 = H0 ++ (Z ++ X)) (hL : ∀ g ∈ L, H0.length + Z.length ≤ g ∧ g < H1.length) (hE : ∀ s ∈ E, 0 < s ∧ s ≤ 1048576) (hnd : L.Nodup)
    (hZ : UpOs (H0.length + Z.length) L E H1 Z' Z) (hY : Y.length = L.length) (hYo : ∀ (j g : Nat) x y, L[j]? = some g → H1[g]? = some x → Y[j]? = some y → UpO (H0.length + Z.length) L E H1 y x) :
    ∃ K' φ', Post (H0.length + Z.length) K φ K' φ' ∧ Rel K' φ' (H0 ++ (Z' ++ (Y ++ E.map fun s => .vec 0 [] s true true))) σ ∧ ∀ {v u : V} {a : Value}, Up (H0.length + Z.length) L E H1 v u → VR K u φ a → VR K' v φ' a := by
  have hzl := hZ.len
  refine ghost hR (by rw [hH1]; simp only [List.length_append]; omega) hL hE hnd (by simp only [List.length_append, List.length_map]; omega) (fun i x y hi hx hy => ?_) (fun j g x y hj hx hy => ?_) (fun j s hj => ?_)
  · rw [hH1] at hx
    by_cases h : i < H0.length
    · rw [List.getElem?_append_left h] at hx hy
      rw [hx] at hy; cases hy
      exact UpO.self ((hcl x (List.mem_of_getElem? hx)).mono (by omega))
    · rw [List.getElem?_append_right (by omega), List.getElem?_append_left (by omega)] at hx hy
      exact hZ.get hy hx
  · have hjl := get_lt hj
    rw [List.getElem?_append_right (by omega), List.getElem?_append_right (by omega), List.getElem?_append_left (by omega)] at hy
    exact hYo j g x y hj hx (by rw [← hy]; congr 1; omega)
  · have hjl := get_lt hj
    rw [List.getElem?_append_right (by omega), List.getElem?_append_right (by omega), List.getElem?_append_right (by omega), List.getElem?_map]
    rw [show H0.length + Z.length + L.length + j - H0.length - Z'.length - Y.length = j by omega, hj]; rfl
/-- A function's end: what it made is frozen. -/
theorem GV.ret {R : V → Hp → Prop} {X : Hp} (v : V) (hcl : Cl H) (hup : Up H.length [] [] (H ++ X) v x) (h : R v H) : GV H.length R x (H ++ X) := fun K φ σ a hR hv => by
  obtain ⟨K', φ', h1, h2, h3⟩ := ghostA (L := []) (E := []) (H0 := H) (Z := []) (Z' := []) (X := X) (Y := []) hR hcl (by simp) (by simp) (by simp) (by simp) rfl rfl (by simp)
  simp only [List.map_nil, List.append_nil, List.length_nil, Nat.add_zero] at h1 h2 h3
  exact ⟨K', φ', v, H, h1, h2, h3 hup hv, h⟩
theorem GV.ans {X : Hp} {v : V} (hcl : Cl H) (hup : Up H.length [] [] (H ++ X) v x) : @GVH H.length x (H ++ X) ⟨fun u T => u = v ∧ T = H⟩ := GV.ret v hcl hup ⟨rfl, rfl⟩
theorem GV.ans0 {v : V} (h : x = v) : @GVH n x H ⟨fun u T => u = v ∧ T = H⟩ := GV.refl ⟨h, rfl⟩
/-- One new object is kept. -/
theorem GV.keep {R : V → Hp → Prop} {X : Hp} (g : Nat) (y : Ob) (v : V) (hcl : Cl H) (hg : ∃ z, (H ++ X)[g]? = some z ∧ H.length ≤ g ∧ UpO H.length [g] [] (H ++ X) y z) (hup : Up H.length [g] [] (H ++ X) v x) (h : R v (H ++ [y])) : GV H.length R x (H ++ X) := fun K φ σ a hR hv => by
  obtain ⟨z, hz, hg, hyz⟩ := hg
  have hgl := get_lt hz
  obtain ⟨K', φ', h1, h2, h3⟩ := ghostA (L := [g]) (E := []) (H0 := H) (Z := []) (Z' := []) (X := X) (Y := [y]) hR hcl (by simp) (by simpa using ⟨hg, by simpa using hgl⟩) (by simp) (by simp) rfl rfl (fun j g' x' y' hj hx hy => by
    have : j = 0 := by have := get_lt hj; simp at this; omega
    subst this
    simp at hj hy
    subst hj; subst hy
    rw [hz] at hx; cases hx
    exact hyz)
  simp only [List.map_nil, List.append_nil, List.length_nil, Nat.add_zero, List.nil_append] at h1 h2 h3
  exact ⟨K', φ', v, H ++ [y], h1, h2, h3 hup hv, h⟩
/-- Rows of one's own are kept: the answer is they. -/
theorem GV.own {k : KVV} {X : Hp} {g w s : Nat} {rows : List (List V)} {rw t : Bool} (hcl : Cl H) (hg : (H ++ X)[g]? = some (.vec w rows s rw t)) (hl : H.length ≤ g) (ho : RowsOk s rows) (hp : ∀ r ∈ rows, pureVs r = true) (h : k.run (.own H.length w) (H ++ [.vec w rows s rw t])) : @GVH H.length (.own g w) (H ++ X) k :=
  GV.keep g (.vec w rows s rw t) (.own H.length w) hcl ⟨_, hg, hl, rfl, rfl, rfl, rfl, ho, UpR.self hp⟩ (by simp [Up]) h
/-- nil, as rows of one's own. -/
theorem GV.nil {k : KVV} {X : Hp} {s : Nat} (hcl : Cl H) (hs : 0 < s) (hs1 : s ≤ 1048576) (h : k.run (.own H.length 0) (H ++ [.vec 0 [] s true true])) : @GVH H.length (.lit (.slice none 0 0)) (H ++ X) k := fun K φ σ a hR hv => by
  obtain ⟨K', φ', h1, h2, h3⟩ := ghostA (L := []) (E := [s]) (H0 := H) (Z := []) (Z' := []) (X := X) (Y := []) hR hcl (by simp) (by simp) (by simpa using ⟨hs, hs1⟩) (by simp) rfl rfl (by simp)
  simp only [List.map_nil, List.append_nil, List.length_nil, Nat.add_zero, List.nil_append, List.map_cons] at h1 h2 h3
  exact ⟨K', φ', _, _, h1, h2, h3 (v := .own H.length 0) (u := .lit (.slice none 0 0)) (by simp [Up]) hv, h⟩
theorem GV.nil0 {k : KVV} {s : Nat} (hcl : Cl H) (hs : 0 < s) (hs1 : s ≤ 1048576) (h : k.run (.own H.length 0) (H ++ [.vec 0 [] s true true])) : @GVH H.length (.lit (.slice none 0 0)) H k := by
  have := GV.nil (X := []) hcl hs hs1 h
  rwa [List.append_nil] at this
def clip (n : Nat) (e : Ev) : Ev := fun t => if belB n (e t) = true then e t else .junk
theorem clip_up (t : Tmp) : Up n L E H1 (clip n e t) (e t) := by
  unfold clip
  split
  · rename_i h; exact Up.self (belB_sound h)
  · simp [Up]
/-- A round's end: what was made meanwhile is let go; new empty rows. -/
theorem G.mk {Q : Ev → Hp → Prop} {m : Nat} {H0 Z Z' X : Hp} (E : List Nat) (e' : Ev) (hcl : Cl H0) (hm : m ≤ H0.length + Z.length) (hE : ∀ s ∈ E, 0 < s ∧ s ≤ 1048576)
    (hZ : UpOs (H0.length + Z.length) [] E (H0 ++ (Z ++ X)) Z' Z) (he : ∀ t, Up (H0.length + Z.length) [] E (H0 ++ (Z ++ X)) (e' t) (e t))
    (h : Q e' (H0 ++ (Z' ++ E.map fun s => .vec 0 [] s true true))) : G m Q e (H0 ++ (Z ++ X)) := fun K φ σ ea hR hEv => by
  obtain ⟨K', φ', h1, h2, h3⟩ := ghostA (L := []) (E := E) (Y := []) hR hcl rfl (by simp) hE (by simp) hZ rfl (by simp)
  simp only [List.nil_append] at h2
  exact ⟨K', φ', e', _, h1.weaken hm, h2, fun t => h3 (he t) (hEv t), h⟩
/-- Nothing is made anew. -/
theorem G.clip {Q : Ev → Hp → Prop} {m : Nat} {H0 Z Z' X : Hp} (hcl : Cl H0) (hm : m ≤ H0.length + Z.length) (hZ : UpOs (H0.length + Z.length) [] [] (H0 ++ (Z ++ X)) Z' Z) (h : Q (clip (H0.length + Z.length) e) (H0 ++ Z')) : G m Q e (H0 ++ (Z ++ X)) :=
  .mk [] _ hcl hm (by simp) hZ clip_up (by simpa using h)
/-- New empty rows for nil. -/
theorem G.nils {Q : Ev → Hp → Prop} {m : Nat} {H0 Z Z' : Hp} (E : List Nat) (hcl : Cl H0) (hm : m ≤ H0.length + Z.length) (hE : ∀ s ∈ E, 0 < s ∧ s ≤ 1048576) (hZ : UpOs (H0.length + Z.length) [] E (H0 ++ Z) Z' Z) (h : Q (VM.clip (H0.length + Z.length) e) (H0 ++ (Z' ++ E.map fun s => .vec 0 [] s true true))) : G m Q e (H0 ++ Z) := by
  have := G.mk (Q := Q) (m := m) (e := e) (H0 := H0) (Z := Z) (Z' := Z') (X := []) E _ hcl hm hE (by simpa using hZ) clip_up h
  simpa using this
/-- The machine's answer is the program's. -/
theorem VC.start {f : FuncId} {args : List V} {as : Array Value} {R : V → Hp → Prop} {σ : Heap} (h : VC P prim f args [] R) (ha : ∀ K : Kn, (∀ b x, σ[b]? = some x → x.perm ≠ .dead → K b = some x.cells) → VRs K args [] as.toList) (hb : ∀ v H', R v H' → v = .lit (.bool true)) : ∃ n σ', acall P prim n f as σ = some (.bool true, σ') := by
  let K : Kn := fun b => match σ[b]? with
    | some x => if x.perm = .dead then none else some x.cells
    | none => none
  have hR : Rel K [] [] σ := by
    refine ⟨rfl, fun b c hc => ?_, fun g x r hx => by simp at hx, fun g g' r r' b hg => by simp at hg, fun g r b hg => by simp at hg⟩
    simp only [K] at hc
    split at hc
    · rename_i x hx
      split at hc
      · cases hc
      · rename_i hp; cases hc; exact ⟨x.perm, hx, hp⟩
    · cases hc
  obtain ⟨n, a, σ', h1, K', φ', v, H', h2, h3, h4, h5⟩ := h K [] σ as hR (ha K fun b x hx hp => by show (match σ[b]? with | some x => if x.perm = Perm.dead then none else some x.cells | none => none) = _; rw [hx]; exact if_neg hp)
  have := hb v H' h5
  subst this
  obtain ⟨rfl, _⟩ := h4
  exact ⟨n, σ', h1⟩
end
end Go.Proofs.Ytenbclcfhjdcaaa.VM
