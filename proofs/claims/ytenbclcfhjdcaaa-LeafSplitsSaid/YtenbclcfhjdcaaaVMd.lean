/- The machine of values: slices. -/
import Derived.Test.YtenbclcfhjdcaaaVMc
namespace Go.Proofs.Ytenbclcfhjdcaaa.VM
open Go AM
section
variable {P : Program} {K K' : Kn} {φ φ' : List Rz} {H H' : Hp} {σ σ' : Heap} {v x : V} {a : Value} {q : Bool} {ρ : Operand → Value}

def isInt : V → Option Int
  | .lit (.int _ j) => some j
  | _ => none
theorem isInt_sound {j : Int} (h : isInt v = some j) (hr : VR K v φ a) : ∃ k, a = .int k j := by
  unfold isInt at h
  split at h
  · cases h; exact ⟨_, hr.1⟩
  · cases h
/-- Where an element is. -/
def vIdx (P : Program) (t : TypeId) (H : Hp) (x i : V) : Option V := match isInt i with
  | none => none
  | some j => if 0 ≤ j then (match P.underlying t with
    | some (.slice e) => match szOf P e, x with
      | some s, .fsl _ s' rows => if s' = s then rows[j.toNat]?.map .fptr else none
      | some s, .own g w => match H[g]? with
        | some (.vec w' rows s' _ _) => if w = w' ∧ s = s' ∧ j.toNat < rows.length then some (.elt g w j.toNat 0) else none
        | some (.fro w' rows s') => if w = w' ∧ s' = s then rows[j.toNat]?.map .fptr else none
        | _ => none
      | _, _ => none
    | some (.array n e) => match szOf P e with
      | some s => if j.toNat < n then (match x with
        | .ptr g o => some (.ptr g (o + j.toNat * s))
        | .fptr cs => if j.toNat * s ≤ cs.length then some (.fptr (cs.drop (j.toNat * s))) else none
        | .elt g w k o => some (.elt g w k (o + j.toNat * s))
        | _ => none) else none
      | none => none
    | _ => none) else none
theorem rowPtr_sound {rows : List (List V)} {s k : Nat} {kk : Bool} (h : rows[k]?.map V.fptr = some v) (hr : VR K (.fsl kk s rows) [] a) : k < rows.length ∧ ∃ A c, a = .slice (some A) rows.length c ∧ VR K v φ (.pointer (some (A.add (k * s)))) := by
  cases hk : rows[k]? with
  | none => rw [hk] at h; cases h
  | some r =>
    rw [hk] at h
    cases h
    have hkl := get_lt hk
    obtain ⟨A, c, h1, h2, _, h3, h4, ⟨h5, _⟩ | ⟨b, o, cells, h5, h6, h7, h8⟩⟩ := hr
    · omega
    subst h5
    have hs := h8.rowLen r (List.mem_of_getElem? hk)
    have hks : k * s + s ≤ rows.length * s := by rw [← Nat.succ_mul]; exact Nat.mul_le_mul_right _ hkl
    refine ⟨hkl, _, c, h1, b, o + k * s, cells, by rw [Addr.add_lit], h6, by omega, ?_⟩
    have := h8.get hk
    rw [List.drop_take, List.take_take, List.drop_drop] at this
    rw [hs]
    rwa [Nat.min_eq_left (by omega)] at this
theorem VR.up {v : V} {a : Value} (h : VR K v [] a) : VR K v φ a := h.monoN (n := 0) ⟨fun _ _ h => h, fun g r hg => by omega⟩
theorem idx_slice {t e s n c : Nat} {j : Int} {A : Addr} {k : IntKind} (hu : P.underlying t = some (.slice e)) (hs : szOf P e = some s) (h0 : 0 ≤ j) (hj : j.toNat < n) :
    idxAddr P t (.slice (some A) n c) (.int k j) σ = some (.pointer (some (A.add (j.toNat * s))), σ) := by
  unfold idxAddr
  rw [hu]; dsimp only; rw [hs]; dsimp only
  rw [if_pos ⟨h0, by omega⟩]
theorem vIdx_sound (hR : Rel K φ H σ) {t : TypeId} {i : V} {ai : Value} (h : vIdx P t H x i = some v) (hr : VR K x φ a) (hi : VR K i φ ai) : Snd K φ v H (idxAddr P t a ai σ) := by
  unfold vIdx at h
  split at h
  · cases h
  rename_i j hj
  obtain ⟨ik, rfl⟩ := isInt_sound hj hi
  split at h
  · rename_i h0
    split at h
    · rename_i e hu
      split at h
      · rename_i s k s' rows hs
        split at h
        · rename_i e
          subst e
          have hr' : VR K (.fsl k s' rows) [] a := hr
          obtain ⟨hk, A, c, h1, h2⟩ := rowPtr_sound (φ := φ) h hr'
          subst h1
          rw [idx_slice hu hs h0 hk]
          exact .same hR h2
        · cases h
      · rename_i s g w hs
        obtain ⟨r, val, w', s1, h1, h2, h3, h4, h5, h6, h7, h8⟩ := hr
        subst h8
        split at h
        · rename_i w2 rows s' rw t' hg
          split at h
          · rename_i hc
            obtain ⟨rfl, rfl, hlt⟩ := hc
            cases h
            have hob := hR.ob g _ _ hg h1
            cases r with
            | mem _ => cases h2
            | fro _ _ _ => exact hob.elim
            | vec val1 w2 s2 =>
              cases h2
              obtain ⟨e1, e2, hs0, hs1, hok, e5⟩ := hob
              subst e1; subst e2
              have e4 := h4 rfl
              rcases e5 with ⟨e5, _⟩ | ⟨b, c, vals, rest, p, e5, _⟩
              · omega
              rw [e5] at e4
              cases e4
              rw [idx_slice hu hs h0 hlt]
              exact .same hR ⟨_, _, w, s, h1, rfl, Nat.le_refl _, fun _ => ⟨b, 0, _, _, e5, by rw [Addr.add_lit, Nat.add_zero]⟩, _, rfl⟩
          · cases h
        · rename_i w2 rows s' hg
          split at h
          · rename_i hw
            obtain ⟨rfl, rfl⟩ := hw
            have hob := hR.ob g _ _ hg h1
            cases r with
            | mem _ => cases h2
            | vec _ _ _ => exact hob.elim
            | fro val1 w2 s2 =>
              cases h2
              obtain ⟨e1, e3, e2⟩ := hob
              subst e1
              rw [← h4 rfl] at e2
              obtain ⟨hk, A, c, g1, g2⟩ := rowPtr_sound (φ := φ) h e2
              rw [g1, idx_slice hu hs h0 hk]
              exact .same hR g2
          · cases h
        · cases h
      · cases h
    · rename_i n e hu
      split at h
      · rename_i s hs
        split at h
        · rename_i hn
          have key : ∀ A : Addr, idxAddr P t (.pointer (some A)) (.int ik j) σ = some (.pointer (some (A.add (j.toNat * s))), σ) := fun A => by
            unfold idxAddr
            rw [hu]; dsimp only; rw [hs]; dsimp only
            rw [if_pos ⟨h0, by omega⟩]
          split at h
          · cases h
            obtain ⟨b, h1, rfl⟩ := hr
            rw [key]
            exact .same hR ⟨b, h1, by rw [Addr.add_lit]⟩
          · rename_i cs
            split at h
            · rename_i hle
              cases h
              obtain ⟨b, o, cells, rfl, h2, h3, h4⟩ := hr
              rw [key]
              refine .same hR ⟨b, o + j.toNat * s, cells, by rw [Addr.add_lit], h2, by rw [List.length_drop]; omega, ?_⟩
              have := h4.drop (j.toNat * s)
              rw [List.drop_take, List.drop_drop] at this
              rw [List.length_drop]
              exact this
            · cases h
          · cases h
            obtain ⟨r, val, w', s1, h1, h2, h3, h4, x, h5⟩ := hr
            subst h5
            rw [key]
            exact .same hR ⟨r, val, w', s1, h1, h2, h3, fun e => by
              obtain ⟨b, oo, n, c, g1, g2⟩ := h4 e
              cases g2
              exact ⟨b, oo, n, c, g1, by rw [Addr.add_lit, Nat.add_assoc]⟩, _, rfl⟩
          · cases h
        · cases h
      · cases h
    · cases h
  · cases h
/-- What is appended. -/
def srcV (P : Program) (H : Hp) (s : Nat) (tx : TypeId) (x : V) : Option (List (List V)) := match P.underlying tx with
  | some (.slice _) => rowsOf H s x
  | some .string => match x with
    | .lit (.string b) => if s = 1 then some ((byteCells b).map fun c => [.lit c]) else none
    | _ => none
  | _ => none
theorem byteCells_len (b : ByteArray) : (byteCells b).length = b.size := by
  unfold byteCells; simp
theorem rows1 : ∀ {l : List Value}, (∀ c ∈ l, scalarB c = true) → RowsR K 1 (l.map fun c => [V.lit c]) φ l
  | [], _ => rfl
  | c :: l, h => ⟨[c], l, rfl, rfl, ⟨c, [], rfl, ⟨rfl, h c (by simp)⟩, rfl⟩, rows1 fun d hd => h d (by simp [hd])⟩
theorem byteCells_scalar {b : ByteArray} : ∀ c ∈ byteCells b, scalarB c = true := by
  intro c hc
  unfold byteCells at hc
  obtain ⟨y, _, rfl⟩ := List.mem_map.1 hc
  rfl
theorem RowsR.cells {s : Nat} : ∀ {xs : List (List V)} {vals : List Value}, RowsR K s xs φ vals → RowsOk s xs → vals.all cellB = true
  | [], _, h, _ => by simp only [RowsR] at h; subst h; rfl
  | r :: rs, _, ⟨a, as, h1, h2, h3, h4⟩, ho => by
    subst h1
    rw [List.all_append, h3.cells (ho r (by simp)).2, RowsR.cells h4 fun y hy => ho y (by simp [hy])]; rfl
theorem srcV_sound (hR : Rel K φ H σ) {s : Nat} {tx : TypeId} {xs : List (List V)} (hs : s < 4294967296) (h : srcV P H s tx x = some xs) (hr : VR K x φ a) : ∃ vals, srcOf P σ s tx a = some (xs.length, vals) ∧ RowsR K s xs φ vals := by
  unfold srcV at h
  split at h
  · rename_i e hu
    obtain ⟨A, c, h1, h2, h3, h4, h5⟩ := rowsOf_sound hR hs h hr
    subst h1
    unfold srcOf
    rw [hu]
    rcases h5 with ⟨h5, h6⟩ | ⟨b, o, vals, h5, h6, h7⟩
    · subst h6
      rw [h2 rfl, h5]
      cases xs with
      | nil => exact ⟨[], rfl, rfl⟩
      | cons _ _ => simp at h5
    · subst h5
      simp only [readN_eq, h6]
      exact ⟨vals, rfl, h7⟩
  · rename_i hu
    split at h
    · rename_i b
      split at h
      · rename_i hs
        subst hs
        cases h
        obtain ⟨rfl, _⟩ := hr
        unfold srcOf
        rw [hu]
        refine ⟨byteCells b, ?_, rows1 byteCells_scalar⟩
        simp [byteCells_len]
      · cases h
    · cases h
  · cases h
def vAppend (P : Program) (q : Bool) (t tx : TypeId) (H : Hp) (s x : V) : Option (V × Hp) := match P.underlying t with
  | some (.slice e) => match szOf P e, byOf P e, zeroOf P e with
    | some size, some bytes, some z =>
      if size ≠ 0 ∧ z.cells.size = size ∧ size ≤ 1048576 ∧ bytes ≤ 4096 then (match srcV P H size tx x with
        | some xs => match s with
          | .lit (.slice none 0 0) => if RowsOk size xs ∧ xs.length ≤ 17179869184 then (if xs.length = 0 then some (s, H) else some (.own H.length 0, H ++ [.vec 0 xs size true true])) else none
          | .own g w => match H[g]? with
            | some (.vec w' rows s' true t) => if w = w' ∧ s' = size ∧ RowsOk size xs ∧ rows.length + xs.length ≤ 17179869184 ∧ (q = false ∨ t = true) then some (.own g (w' + 1), H.set g (.vec (w' + 1) (rows ++ xs) size true t)) else none
            | _ => none
          | _ => none
        | none => none) else none
    | _, _, _ => none
  | _ => none
theorem capV_new {t : Bool} {s n total : Nat} (h1 : n ≤ 17179869184) (h2 : s ≤ 1048576) (h3 : n * s ≤ total) : CapV t (unk s n) s n total :=
  ⟨by unfold unk; have : 0 < top := by simp [top]
      have := Nat.mul_pos this (Nat.succ_pos s); simp only [Nat.succ_eq_add_one] at this; omega, n, Nat.le_refl _, h3, fun _ => rfl, .inr (capOf_unk_eq (by simp only [top]; omega) (by omega))⟩
theorem splice_end (A R vs : List Value) : AM.splice (A ++ R) A.length vs = A ++ vs ++ R.drop vs.length := by
  have := splice_left A R vs 0
  rw [Nat.add_zero] at this
  rw [this]
  unfold AM.splice
  simp
theorem capOf_unkS {s n : Nat} (h1 : n ≤ 17179869184) (h2 : s ≤ 1048576) : capOf (unk s n) = .unk s n := capOf_unk_eq (by simp only [top]; omega) (by omega)
theorem vAppend_sound (hR : Rel K φ H σ) {ty tx : TypeId} {s : V} {as ax : Value} {H' : Hp} (h : vAppend P q ty tx H s x = some (v, H')) (hs : VR K s φ as) (hx : VR K x φ ax) : Snd K φ v H' (aAppend P q ty tx as ax σ) := by
  unfold vAppend at h
  split at h
  · rename_i e hu
    split at h
    · rename_i size bytes z hsz hby hz
      split at h
      · rename_i hc
        obtain ⟨c1, c2, c3, c4⟩ := hc
        split at h
        · rename_i xs hsrc
          split at h
          · split at h
            · rename_i ho
              obtain ⟨ho, hn⟩ := ho
              obtain ⟨vals, h1, h2⟩ := srcV_sound hR (by omega) hsrc hx
              obtain ⟨rfl, _⟩ := hs
              rw [append_nil hu hsz hby hz h1 ⟨c1, c2, c3, c4, by omega, h2.cells ho⟩]
              split at h
              · rename_i h0
                cases h
                rw [if_pos h0]
                exact .same hR ⟨rfl, rfl⟩
              · rename_i h0
                cases h
                rw [if_neg h0]
                have hR' := hR.new vals .full
                have hr : RowsR K size xs (φ ++ [.vec (.slice (some ⟨σ.length, 0, none⟩) xs.length (unk size xs.length)) 0 size]) vals := h2.on ⟨fun _ _ h => h, fun k q hk hq => ⟨q, by rw [List.getElem?_append_left hk]; exact hq, .refl _⟩⟩
                have hvl := h2.len
                obtain ⟨h5, h6⟩ := hR'.snoc (r := .vec (.slice (some ⟨σ.length, 0, none⟩) xs.length (unk size xs.length)) 0 size) (y := .vec 0 xs size true true)
                  ⟨rfl, rfl, by omega, c3, ho, .inr ⟨σ.length, _, vals, [], .full, rfl, capV_new hn c3 (by simp; omega), by simp, rfl, hr⟩⟩ (fun b hb => by
                    rw [vec_blk rfl (capV_new (t := true) (total := xs.length * size) hn c3 (Nat.le_refl _))] at hb; cases hb; exact hR.not_used)
                refine ⟨_, _, K, _, rfl, h6, h5, .vec (.slice (some ⟨σ.length, 0, none⟩) xs.length (unk size xs.length)) 0 size, _, 0, size, ?_, rfl, Nat.le_refl _, fun _ => rfl, _, _, _, rfl⟩
                rw [← hR.len, List.getElem?_append_right (by omega)]
                simp
            · cases h
          · rename_i g w
            split at h
            · rename_i w' rows s' t hg
              split at h
              · rename_i hc
                obtain ⟨rfl, rfl, ho, hn, hq⟩ := hc
                cases h
                obtain ⟨vals, h1, h2⟩ := srcV_sound hR (by omega) hsrc hx
                obtain ⟨r, val, w', s1, g1, g2, g3, g4, _⟩ := hs
                have hob := hR.ob g _ _ hg g1
                cases r with
                | mem _ => cases g2
                | fro _ _ _ => exact hob.elim
                | vec val1 w2 s2 =>
                  cases g2
                  obtain ⟨e1, e2, hs0, hs1, hok, e5⟩ := hob
                  subst e1; subst e2
                  rw [g4 rfl]
                  have hcells := h2.cells ho
                  have hvl := h2.len
                  have hpostS : ∀ a' : Value, Post φ.length K φ K (φ.set g (.vec a' (w + 1) s')) := fun a' => ⟨fun _ _ h => h, fun k q hk hq => by
                    by_cases e : k = g
                    · subst e; rw [g1] at hq; cases hq
                      exact ⟨.vec a' (w + 1) s', by rw [List.getElem?_set_self hk], rfl, Nat.le_succ _, fun e => by omega⟩
                    · exact ⟨q, by rw [List.getElem?_set_ne (Ne.symm e)]; exact hq, .refl _⟩⟩
                  -- the new realization
                  have fin : ∀ (a' : Value) (σ1 : Heap) (b : Nat) (c : Nat) (V0 rest : List Value), aAppend P q ty tx val ax σ = some (a', σ1) → a' = .slice (some ⟨b, 0, none⟩) (rows.length + xs.length) c →
                      CapV t c s' (rows.length + xs.length) (V0 ++ vals ++ rest).length → σ1[b]? = some ⟨V0 ++ vals ++ rest, .full⟩ → RowsR K s' rows φ V0 →
                      (Rz.vec val w s').blk = some b ∨ ¬ Used K φ b → (∀ j, Used K φ j → (Rz.vec val w s').blk ≠ some j → σ1[j]? = σ[j]?) →
                      Snd K φ (.own g (w + 1)) (H.set g (.vec (w + 1) (rows ++ xs) s' true t)) (aAppend P q ty tx val ax σ) := fun a' σ1 b c V0 rest k1 k2 k3 k4 k5 k6 k7 => by
                    obtain ⟨u1, u2⟩ := hR.upd (r' := .vec a' (w + 1) s') (y' := .vec (w + 1) (rows ++ xs) s' true t) (σ' := σ1) g1 ⟨rfl, Nat.le_succ _, fun e => by omega⟩
                      ⟨rfl, rfl, hs0, hs1, hok.append ho, .inr ⟨b, c, V0 ++ vals, rest, .full, by rw [k2, List.length_append], by rw [List.length_append]; exact k3, k4, rfl, (k5.append h2).on (hpostS a')⟩⟩
                      (fun j hj => by rw [vec_blk k2 k3] at hj; cases hj; exact k6) k7
                    refine ⟨a', σ1, K, _, k1, u2, u1, .vec a' (w + 1) s', a', w + 1, s', List.getElem?_set_self (get_lt g1), rfl, Nat.le_refl _, fun _ => rfl, _, _, _, k2⟩
                  -- nothing is appended to an empty slice without room
                  have same : xs = [] → rows = [] → Emp K val → aAppend P q ty tx val ax σ = some (val, σ) → Snd K φ (.own g (w + 1)) (H.set g (.vec (w + 1) (rows ++ xs) s' true t)) (aAppend P q ty tx val ax σ) := fun e1 e2 k0 k1 => by
                    subst e1; subst e2
                    obtain ⟨u1, u2⟩ := hR.upd (r' := .vec val (w + 1) s') (y' := .vec (w + 1) ([] ++ []) s' true t) (σ' := σ) g1 ⟨rfl, Nat.le_succ _, fun e => by omega⟩ ⟨rfl, rfl, hs0, hs1, hok, .inl ⟨rfl, k0⟩⟩ (fun j hj => by
                      rcases k0 with k0 | ⟨_, _, _, k0, _⟩ <;> rw [k0] at hj <;> cases hj) (fun _ _ _ => rfl)
                    refine ⟨_, _, K, _, k1, u2, u1, .vec val (w + 1) s', val, w + 1, s', List.getElem?_set_self (get_lt g1), rfl, Nat.le_refl _, fun _ => rfl, ?_⟩
                    rcases k0 with k0 | ⟨_, _, _, k0, _⟩ <;> exact ⟨_, _, _, k0⟩
                  have newfin : ∀ (V0 : List Value) (σ1 : Heap), RowsR K s' rows φ V0 → (∀ j, Used K φ j → (Rz.vec val w s').blk ≠ some j → σ1[j]? = σ[j]?) → σ1.length = σ.length →
                      aAppend P q ty tx val ax σ = some (.slice (some ⟨σ1.length, 0, none⟩) (rows.length + xs.length) (unk s' (rows.length + xs.length)), σ1 ++ [⟨V0 ++ vals, .full⟩]) → Snd K φ (.own g (w + 1)) (H.set g (.vec (w + 1) (rows ++ xs) s' true t)) (aAppend P q ty tx val ax σ) := fun V0 σ1 k5 k7 kl k1 => by
                    have hV0 := k5.len
                    refine fin _ _ σ1.length _ V0 [] k1 rfl (capV_new hn c3 (by simp [hV0, hvl, Nat.add_mul])) (by simp) k5 (.inr (by rw [kl]; exact hR.not_used)) (fun j hj hne => ?_)
                    rw [List.getElem?_append_left (by rw [kl]; exact hR.used_lt hj)]
                    exact k7 j hj hne
                  rcases e5 with ⟨e5, e6 | ⟨b0, o0, cs0, e6, e7, e8⟩⟩ | ⟨b, c, old, rest, p, e5, ⟨hc0, C, hC1, hC2, hC3, hC4⟩, e7, e8, e9⟩
                  · -- nil
                    subst e6
                    have hrows : rows = [] := List.eq_nil_of_length_eq_zero e5
                    have key := append_nil (q := q) hu hsz hby hz h1 ⟨c1, c2, c3, c4, by omega, hcells⟩
                    by_cases h0 : xs.length = 0
                    · exact same (List.eq_nil_of_length_eq_zero h0) hrows (.inl rfl) (by rw [key, if_pos h0])
                    · rw [if_neg h0] at key
                      exact newfin [] σ (by rw [hrows]; rfl) (fun _ _ _ => rfl) rfl (by rw [key, hrows]; simp)
                  · -- no room
                    have hrows : rows = [] := List.eq_nil_of_length_eq_zero e5
                    obtain ⟨p0, hp1, hp2⟩ := hR.kn b0 cs0 e7
                    have hcap0 : capOf 0 = .exact 0 := capOf_exact_eq (by decide)
                    have hrd : readN σ ⟨b0, o0, none⟩ (0 * s') = some [] := by
                      rw [readN_eq, hp1]; unfold readB; simp [hp2, e8]
                    by_cases h0 : xs.length = 0
                    · refine same (List.eq_nil_of_length_eq_zero h0) hrows (.inr ⟨_, _, _, e6, e7, e8⟩) ?_
                      rw [e6]
                      unfold aAppend
                      rw [hu]; dsimp only; rw [hsz, hby, hz]; dsimp only; rw [h1]; dsimp only
                      rw [if_neg (Decidable.not_not.2 ⟨c1, c2, c3, c4, by omega, hcells⟩), hcap0]
                      simp [h0]
                    · refine newfin [] σ (by rw [hrows]; rfl) (fun _ _ _ => rfl) rfl ?_
                      rw [e6]
                      unfold aAppend
                      rw [hu]; dsimp only; rw [hsz, hby, hz]; dsimp only; rw [h1]; dsimp only
                      rw [if_neg (Decidable.not_not.2 ⟨c1, c2, c3, c4, by omega, hcells⟩), hcap0]
                      dsimp only
                      rw [if_neg (by omega), hrd, hrows]
                      simp only [newBlk, List.nil_append, hcells, if_true, Option.map_some, List.length_nil, Nat.zero_add]
                  · have hp : p = .full := e8
                    subst hp
                    have holdl := e9.len
                    have hblk : (Rz.vec val w s').blk = some b := vec_blk (t := t) (m := rows.length) (total := (old ++ rest).length) (s := s') e5 ⟨hc0, C, hC1, hC2, hC3, hC4⟩
                    have hun : ∀ r, (match capOf c with
                        | .exact c => if rows.length + xs.length ≤ c then (if xs.length = 0 then some (val, σ) else if q then none else (writeN σ (Addr.add ⟨b, 0, none⟩ (rows.length * s')) vals).map fun σ' => (.slice (some ⟨b, 0, none⟩) (rows.length + xs.length) c, σ'))
                          else match readN σ ⟨b, 0, none⟩ (rows.length * s') with
                            | some olds => (newBlk σ (olds ++ vals)).map fun (a, σ') => (.slice (some a) (rows.length + xs.length) (unk s' (rows.length + xs.length)), σ')
                            | none => none
                        | .unk es lb =>
                          if xs.length = 0 then some (val, σ)
                          else if rows.length + xs.length ≤ lb then (if q then none else (writeN σ (Addr.add ⟨b, 0, none⟩ (rows.length * s')) vals).map fun σ' => (.slice (some ⟨b, 0, none⟩) (rows.length + xs.length) c, σ'))
                          else if rows.length * s' ≤ (old ++ rest).length ∧ es = s' then (newBlk (kill σ b) ((old ++ rest).take (rows.length * s') ++ vals)).map fun (a, σ') => (.slice (some a) (rows.length + xs.length) (unk s' (rows.length + xs.length)), σ')
                              else none
                        | .dng => none) = r → aAppend P q ty tx val ax σ = r := fun r hr => by
                      rw [← hr, e5]
                      unfold aAppend
                      rw [hu]; dsimp only; rw [hsz, hby, hz]; dsimp only; rw [h1]; dsimp only
                      rw [if_neg (Decidable.not_not.2 ⟨c1, c2, c3, c4, hn, hcells⟩)]
                      cases capOf c with
                      | exact c => rfl
                      | unk es lb => dsimp only; rw [e7]; simp
                      | dng => rfl
                    have hall : (old ++ vals).all cellB = true := by rw [List.all_append, hcells, e9.cells hok]; rfl
                    have inpl : rows.length + xs.length ≤ C → xs.length ≠ 0 → aAppend P q ty tx val ax σ = (if q then none else (writeN σ (Addr.add ⟨b, 0, none⟩ (rows.length * s')) vals).map fun σ' => (.slice (some ⟨b, 0, none⟩) (rows.length + xs.length) c, σ')) → Snd K φ (.own g (w + 1)) (H.set g (.vec (w + 1) (rows ++ xs) s' true t)) (aAppend P q ty tx val ax σ) := fun hfit h0 k1 => by
                      have htf : t = false := by
                        cases t with
                        | false => rfl
                        | true => have := hC3 rfl; omega
                      have hqf : q = false := hq.elim id fun h => by rw [htf] at h; cases h
                      have hCs : (rows.length + xs.length) * s' ≤ C * s' := Nat.mul_le_mul_right _ hfit
                      rw [Nat.add_mul] at hCs
                      have hrl : vals.length ≤ rest.length := by simp at hC2; omega
                      have hsp : AM.splice (old ++ rest) (rows.length * s') vals = old ++ vals ++ rest.drop vals.length := by rw [← holdl]; exact splice_end _ _ _
                      refine fin (.slice (some ⟨b, 0, none⟩) (rows.length + xs.length) c) (σ.set b ⟨old ++ vals ++ rest.drop vals.length, .full⟩) b c old (rest.drop vals.length) ?_ rfl ⟨hc0, C, hfit, ?_, (fun ht => by rw [htf] at ht; cases ht), hC4⟩ ?_ e9 (.inl hblk) (fun j hj hne => List.getElem?_set_ne (fun e => hne (by rw [← e]; exact hblk)))
                      · rw [k1, hqf]
                        simp only [Bool.false_eq_true, if_false, Addr.add_lit, Nat.zero_add]
                        rw [writeN_eq, e7, writeB_full, if_pos ⟨by simp; omega, hcells⟩, hsp]; rfl
                      · have : (old ++ vals ++ rest.drop vals.length).length = (old ++ rest).length := by simp; omega
                        rw [this]; exact hC2
                      · rw [List.getElem?_set_self (get_lt e7)]
                    have nothing : xs.length = 0 → aAppend P q ty tx val ax σ = some (val, σ) → Snd K φ (.own g (w + 1)) (H.set g (.vec (w + 1) (rows ++ xs) s' true t)) (aAppend P q ty tx val ax σ) := fun h0 k1 => by
                      have hxs : xs = [] := List.eq_nil_of_length_eq_zero h0
                      subst hxs
                      have hv : vals = [] := h2
                      subst hv
                      exact fin val σ b c old rest k1 (by simpa using e5) ⟨hc0, C, by simpa using hC1, by simpa using hC2, by simpa using hC3, hC4⟩ (by simpa using e7) e9 (.inl hblk) (fun _ _ _ => rfl)
                    rcases hC4 with hC4' | hC4'
                    · rw [hC4'] at hun
                      dsimp only at hun
                      by_cases hfit : rows.length + xs.length ≤ C
                      · rw [if_pos hfit] at hun
                        by_cases h0 : xs.length = 0
                        · exact nothing h0 (hun _ (by rw [if_pos h0]))
                        · have hcC := (capOf_exact hC4').1
                          exact inpl hfit h0 (by rw [hun _ rfl, if_neg h0, hcC])
                      · rw [if_neg hfit] at hun
                        have hrd : readN σ ⟨b, 0, none⟩ (rows.length * s') = some old := by
                          rw [readN_eq, e7, readB_full, if_pos (by simp; omega), List.drop_zero, ← holdl, List.take_left]
                        refine newfin old σ e9 (fun _ _ _ => rfl) rfl (hun _ ?_)
                        rw [hrd]
                        simp only [newBlk, hall, if_true, Option.map_some]
                    · rw [hC4'] at hun
                      dsimp only at hun
                      by_cases h0 : xs.length = 0
                      · exact nothing h0 (hun _ (by rw [if_pos h0]))
                      · rw [if_neg h0] at hun
                        by_cases hfit : rows.length + xs.length ≤ C
                        · exact inpl hfit h0 (hun _ (by rw [if_pos hfit]))
                        · rw [if_neg hfit] at hun
                          have htk : (old ++ rest).take (rows.length * s') = old := by rw [← holdl, List.take_left]
                          refine newfin old (kill σ b) e9 (fun j hj hne => by rw [kill_get, if_neg (by intro e; subst e; exact hne hblk)]) (kill_len _ _) (hun _ ?_)
                          rw [if_pos ⟨by simp; omega, rfl⟩, htk]
                          simp only [newBlk, hall, if_true, Option.map_some]
              · cases h
            · cases h
          · cases h
        · cases h
      · cases h
    · cases h
  · cases h
end
end Go.Proofs.Ytenbclcfhjdcaaa.VM
