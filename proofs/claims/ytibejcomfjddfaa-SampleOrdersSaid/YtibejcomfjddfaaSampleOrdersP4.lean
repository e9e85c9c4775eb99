/- What the proof of SampleOrders rests on, part 4 of 7. -/
import Derived.Test.YtibejcomfjddfaaSampleOrdersP3
section
set_option maxHeartbeats 8000000
set_option linter.unusedVariables false
set_option linter.unusedSimpArgs false

/- The machine of values: all operations. -/
namespace Go.Proofs.Ytibejcomfjddfaa.VM
open Go AM
section
variable {P : Program} {K K' : Kn} {φ φ' : List Rz} {H H' : Hp} {σ σ' : Heap} {v x y : V} {a b : Value} {q : Bool} {ρ : Operand → V} {ρa : Operand → Value}
variable {dst : Option Tmp} {type : TypeId} {pos : String} {after : Array Edge} {guard : Option (Nat × Bool)}

def copyA (P : Program) (t tx : TypeId) (d x : Value) (σ : Heap) : Option (Value × Heap) := match P.underlying t, d with
      | some (.slice e), .slice A n _ => match szOf P e with
        | some size => match (match x with | .slice _ _ _ => srcOf P σ size tx x | _ => none) with
          | some (m, xs) =>
            if Nat.min m n = 0 then some (.int .i64 0, σ) else
            match A with
            | some a => (writeN σ a (xs.take (Nat.min m n * size))).map fun σ' => (.int .i64 (Nat.min m n : Nat), σ')
            | none => none
          | none => none
        | none => none
      | _, _ => none
theorem vCopy_sound (hR : Rel K φ H σ) {t tx : TypeId} {d : V} {da : Value} (h : vCopy P t tx d x H = some (v, H')) (hd : VR K d φ da) (hx : VR K x φ a) : Snd K φ v H' (copyA P t tx da a σ) := by
  unfold vCopy at h
  split at h
  · rename_i e e' hu hu'
    split at h
    · rename_i s g w hs
      split at h
      · rename_i w' rows s' t' hg
        split at h
        · rename_i hc
          obtain ⟨rfl, rfl⟩ := hc
          split at h
          · rename_i xs hxs
            split at h
            · rename_i ho
              cases h
              obtain ⟨r, val, w', s1, g1, g2, g3, g4, A0, n0, c0, g5⟩ := hd
              have hob := hR.ob g _ _ hg g1
              cases r with
              | mem _ => cases g2
              | fro _ _ _ => exact hob.elim
              | vec val1 w2 s2 =>
                cases g2
                obtain ⟨f1, f2, f3, f4, f5, f6⟩ := hob
                subst f1; subst f2
                have g4 := g4 rfl
                obtain ⟨vals, v1, v2⟩ := srcV_sound (P := P) (tx := tx) hR (s := s) (by omega) (by unfold srcV; rw [hu']; exact hxs) hx
                obtain ⟨A1, c1, a1, _⟩ := rowsOf_sound hR (by omega) hxs hx
                have hset : φ.set g (.vec val w s) = φ := set_self g1
                generalize hm : Nat.min xs.length rows.length = m
                have hm1 : m ≤ xs.length := hm ▸ Nat.min_le_left _ _
                have hm2 : m ≤ rows.length := hm ▸ Nat.min_le_right _ _
                have hrl : (xs.take m ++ rows.drop m).length = rows.length := by simp; omega
                have hok : RowsOk s (xs.take m ++ rows.drop m) := fun r hr => by
                  rcases List.mem_append.1 hr with hr | hr
                  · exact ho r (List.mem_of_mem_take hr)
                  · exact f5 r (List.mem_of_mem_drop hr)
                rcases f6 with ⟨f6, f7⟩ | ⟨b, c, old, rest, p, f6, f7, f8, f9, f10⟩
                · have hr0 : rows = [] := List.eq_nil_of_length_eq_zero f6
                  subst hr0
                  have hm0 : m = 0 := by simp at hm2; exact hm2
                  subst hm0
                  obtain ⟨A2, hv2⟩ : ∃ A2, val = .slice A2 0 0 := by
                    rcases f7 with f7 | ⟨_, _, _, f7, _⟩ <;> exact ⟨_, f7⟩
                  unfold copyA
                  rw [g4, hv2, hu]; dsimp only
                  rw [hs]; dsimp only
                  rw [a1]; dsimp only
                  rw [← a1, v1]; dsimp only
                  rw [if_pos (by simp [Nat.min_def])]
                  have e1 : H.set g (.vec w (xs.take 0 ++ [].drop 0) s true t') = H := set_self hg
                  rw [e1]
                  exact .same hR ⟨rfl, rfl⟩
                · have hp : p = .full := f9
                  subst hp
                  have hol := f10.len
                  have hvl := v2.len
                  have hms : m * s ≤ xs.length * s := Nat.mul_le_mul_right _ hm1
                  have hms2 : m * s ≤ rows.length * s := Nat.mul_le_mul_right _ hm2
                  have hnew : RowsR K s (xs.take m ++ rows.drop m) φ (vals.take (m * s) ++ old.drop (m * s)) := (v2.takeR m hm1).append (f10.dropR m hm2)
                  by_cases h0 : m = 0
                  · subst h0
                    unfold copyA
                    rw [g4, f6, hu]; dsimp only
                    rw [hs]; dsimp only
                    rw [a1]; dsimp only
                    rw [← a1, v1]; dsimp only
                    rw [if_pos hm]
                    have e1 : H.set g (.vec w (xs.take 0 ++ rows.drop 0) s true t') = H := set_self hg
                    rw [e1]
                    exact .same hR ⟨rfl, rfl⟩
                  · have hvc : (vals.take (m * s)).all cellB = true := List.all_eq_true.2 fun z hz => List.all_eq_true.1 (v2.cells ho) z (List.mem_of_mem_take hz)
                    have hu2 := hR.upd (r' := .vec val w s) (y' := .vec w (xs.take m ++ rows.drop m) s true t') (σ' := σ.set b ⟨AM.splice (old ++ rest) 0 (vals.take (m * s)), .full⟩) g1 (.refl _)
                      (by
                        rw [hset]
                        refine ⟨rfl, rfl, f3, f4, hok, .inr ⟨b, c, _, rest, .full, by rw [hrl]; exact f6, ?_, ?_, rfl, hnew⟩⟩
                        · have hl1 := hnew.len
                          rw [hrl] at hl1 ⊢
                          rw [List.length_append, hl1, ← hol, ← List.length_append]; exact f7
                        rw [List.getElem?_set_self (get_lt f8), splice_right _ _ _ _ (by simp; omega)]
                        congr 2
                        unfold AM.splice
                        have : (vals.take (m * s)).length = m * s := by rw [List.length_take]; omega
                        simp only [List.take_zero, List.nil_append, Nat.zero_add, this]) (fun j hj => .inl hj) (fun j _ hj => List.getElem?_set_ne (fun e => hj (by rw [← e]; exact vec_blk f6 f7)))
                    rw [hset] at hu2
                    unfold copyA
                    rw [g4, f6, hu]; dsimp only
                    rw [hs]; dsimp only
                    rw [a1]; dsimp only
                    rw [← a1, v1]; dsimp only
                    rw [if_neg (by rw [hm]; exact h0), hm, writeN_eq, f8, writeB_full, if_pos ⟨by simp; omega, hvc⟩]
                    exact ⟨_, _, K, φ, rfl, .refl _ _ _, hu2.1, rfl, rfl⟩
            · cases h
          · cases h
        · cases h
      · cases h
    · cases h
  · cases h
/-- No elements of a slice, and no room. -/
def vNone (P : Program) (t : TypeId) (H : Hp) (x : V) (lo hi mx : Option V) : Option (V × Hp) := match intOptV lo, intOptV hi, intOptV mx with
  | some none, some (some h), some (some m) => match P.underlying t, x with
    | some (.slice e), .fsl k s rows => if (h = 0 ∧ m = 0) ∧ szOf P e = some s ∧ 0 < s ∧ s ≤ 1048576 ∧ (k = true ∨ 0 < rows.length) then some (.own H.length 0, H ++ [.vec 0 [] s true true]) else none
    | _, _ => none
  | _, _, _ => none
theorem vNone_sound (hR : Rel K φ H σ) {t : TypeId} {lo hi mx : Option V} {loA hiA mxA : Option Value} (h : vNone P t H x lo hi mx = some (v, H')) (hx : VR K x φ a) (h1 : OptR K φ lo loA) (h2 : OptR K φ hi hiA) (h3 : OptR K φ mx mxA) :
    Snd K φ v H' ((aSlice P t a loA hiA mxA).map (·, σ)) ∧ ∀ s, a ≠ .string s := by
  unfold vNone at h
  split at h
  · rename_i ih im i1 i2 i3
    have j1 := intOptV_sound i1 h1
    have j2 := intOptV_sound i2 h2
    have j3 := intOptV_sound i3 h3
    split at h
    · rename_i e k s rows hu
      split at h
      · rename_i hc
        obtain ⟨⟨rfl, rfl⟩, hs, s0, s1, hk⟩ := hc
        cases h
        obtain ⟨A, c, e1, e2, e0, e3, e3', e4⟩ := hx
        subst e1
        refine ⟨?_, fun s h => by cases h⟩
        have key : ∃ y, aSlice P t (.slice A rows.length c) loA hiA mxA = some y ∧ Emp K y := by
          unfold aSlice
          rw [j1, j2, j3]; dsimp only
          rw [hu]; dsimp only
          rw [hs]; dsimp only
          rcases e4 with ⟨e4, e5⟩ | ⟨b, o, cells, e5, e6, e7, e8⟩
          · subst e5
            dsimp only
            rw [if_pos ⟨e4, e2 rfl⟩]
            exact ⟨_, rfl, .inl rfl⟩
          · subst e5
            dsimp only
            have emp : Emp K (.slice (some ⟨b, o, none⟩) 0 0) := .inr ⟨b, o, cells, rfl, e6, by omega⟩
            have hb : ∀ C, bounds rows.length C none (some 0) (some 0) = some (0, 0, 0) := fun C => by simp [bounds]
            unfold capOK at e3
            split at e3
            · rename_i C hC
              rw [hC]; dsimp only
              rw [hb]
              exact ⟨_, rfl, emp⟩
            · rename_i es lb hC
              rw [hC]; dsimp only
              rw [hb]
              exact ⟨_, rfl, emp⟩
            · rename_i hC
              exfalso
              have := AM.capOf_dng hC
              rcases hk with hk | hk
              · have := e0 hk; omega
              · omega
        obtain ⟨y, k1, k2⟩ := key
        rw [k1]
        have hy : ∃ A, y = .slice A 0 0 := by rcases k2 with k2 | ⟨_, _, _, k2, _⟩ <;> exact ⟨_, k2⟩
        obtain ⟨A', rfl⟩ := hy
        have hblk : (Rz.vec (.slice A' 0 0) 0 s).blk = none := by cases A' <;> rfl
        obtain ⟨h5, h6⟩ := hR.snoc (r := .vec (.slice A' 0 0) 0 s) (y := .vec 0 [] s true true) ⟨rfl, rfl, s0, s1, (fun r hr => by simp at hr), .inl ⟨rfl, k2⟩⟩ (fun b hb => by rw [hblk] at hb; cases hb)
        exact ⟨_, _, K, _, rfl, h6, h5, .vec (.slice A' 0 0) 0 s, _, 0, s, by rw [← hR.len]; simp, rfl, Nat.le_refl _, fun _ => rfl, _, _, _, rfl⟩
      · cases h
    · cases h
  · cases h
/-- One's own rows cut short. -/
def vTrunc (P : Program) (t : TypeId) (H : Hp) (x : V) (lo hi mx : Option V) : Option (V × Hp) := match intOptV lo, intOptV hi, intOptV mx with
  | some none, some (some h), some none => match P.underlying t, x with
    | some (.slice e), .own g w => match H[g]? with
      | some (.vec w' rows s rw _) => if szOf P e = some s ∧ w = w' ∧ 0 ≤ h ∧ h.toNat ≤ rows.length then some (.own g (w' + 1), H.set g (.vec (w' + 1) (rows.take h.toNat) s rw false)) else none
      | _ => none
    | _, _ => none
  | _, _, _ => none
theorem vTrunc_sound (hR : Rel K φ H σ) {t : TypeId} {lo hi mx : Option V} {loA hiA mxA : Option Value} (h : vTrunc P t H x lo hi mx = some (v, H')) (hx : VR K x φ a) (h1 : OptR K φ lo loA) (h2 : OptR K φ hi hiA) (h3 : OptR K φ mx mxA) :
    Snd K φ v H' ((aSlice P t a loA hiA mxA).map (·, σ)) ∧ ∀ s, a ≠ .string s := by
  unfold vTrunc at h
  split at h
  · rename_i hh i1 i2 i3
    have j1 := intOptV_sound i1 h1
    have j2 := intOptV_sound i2 h2
    have j3 := intOptV_sound i3 h3
    split at h
    · rename_i e g w hu
      split at h
      · rename_i w' rows s rw t' hg
        split at h
        · rename_i hc
          obtain ⟨hs, rfl, h0, hle⟩ := hc
          cases h
          obtain ⟨r, val, w', s1, g1, g2, g3, g4, A0, n0, c0, g5⟩ := hx
          refine ⟨?_, fun s e => by rw [g5] at e; cases e⟩
          have hob := hR.ob g _ _ hg g1
          cases r with
          | mem _ => cases g2
          | fro _ _ _ => exact hob.elim
          | vec val1 w2 s2 =>
            cases g2
            obtain ⟨f1, f2, f3, f4, f5, f6⟩ := hob
            subst f1; subst f2
            rw [g4 rfl]
            have hok : RowsOk s (rows.take hh.toNat) := fun r hr => f5 r (List.mem_of_mem_take hr)
            have hpostS : ∀ a' : Value, Post φ.length K φ K (φ.set g (.vec a' (w + 1) s)) := fun a' => ⟨fun _ _ h => h, fun k q hk hq => by
              by_cases e : k = g
              · subst e; rw [g1] at hq; cases hq
                exact ⟨.vec a' (w + 1) s, by rw [List.getElem?_set_self hk], rfl, Nat.le_succ _, fun e => by omega⟩
              · exact ⟨q, by rw [List.getElem?_set_ne (Ne.symm e)]; exact hq, .refl _⟩⟩
            have fin : ∀ a' : Value, (∃ A n c, a' = .slice A n c) → aSlice P t val loA hiA mxA = some a' → (∀ b, (Rz.vec a' (w + 1) s).blk = some b → (Rz.vec val w s).blk = some b) →
                ObR K (φ.set g (.vec a' (w + 1) s)) σ (.vec (w + 1) (rows.take hh.toNat) s rw false) (.vec a' (w + 1) s) →
                Snd K φ (.own g (w + 1)) (H.set g (.vec (w + 1) (rows.take hh.toNat) s rw false)) ((aSlice P t val loA hiA mxA).map (·, σ)) := fun a' k0 k1 k2 k3 => by
              obtain ⟨u1, u2⟩ := hR.upd (r' := .vec a' (w + 1) s) (y' := .vec (w + 1) (rows.take hh.toNat) s rw false) (σ' := σ) g1 ⟨rfl, Nat.le_succ _, fun e => by omega⟩ k3 (fun j hj => .inl (k2 j hj)) (fun _ _ _ => rfl)
              rw [k1]
              exact ⟨_, _, K, _, rfl, u2, u1, .vec a' (w + 1) s, a', w + 1, s, List.getElem?_set_self (get_lt g1), rfl, Nat.le_refl _, fun _ => rfl, k0⟩
            rcases f6 with ⟨f6, f7⟩ | ⟨b, c, vals, rest, p, f6, f7, f8, f9, f10⟩
            · have hr0 : rows = [] := List.eq_nil_of_length_eq_zero f6
              subst hr0
              have hz : hh = 0 := by simp at hle; omega
              subst hz
              rcases f7 with f7 | ⟨b, o, cells, f7, f8, f9⟩
              · refine fin (.slice none 0 0) ⟨_, _, _, rfl⟩ ?_ (fun b hb => by cases hb) ⟨rfl, rfl, f3, f4, hok, .inl ⟨by simp, .inl rfl⟩⟩
                unfold aSlice
                rw [j1, j2, j3, f7]; dsimp only
                rw [hu]; dsimp only
                rw [hs]; rfl
              · refine fin (.slice (some ⟨b, o, none⟩) 0 0) ⟨_, _, _, rfl⟩ ?_ (fun b hb => by cases hb) ⟨rfl, rfl, f3, f4, hok, .inl ⟨by simp, .inr ⟨b, o, cells, rfl, f8, f9⟩⟩⟩
                unfold aSlice
                rw [j1, j2, j3, f7]; dsimp only
                rw [hu]; dsimp only
                rw [hs]; dsimp only
                rw [capOf_exact_eq (by decide)]
                simp [bounds]
            · obtain ⟨q0, C, q1, q2, q3, q4⟩ := f7
              have hvl := f10.len
              have hms : hh.toNat * s ≤ rows.length * s := Nat.mul_le_mul_right _ hle
              have htl : (rows.take hh.toNat).length = hh.toNat := by simp; omega
              refine fin (.slice (some ⟨b, 0, none⟩) hh.toNat c) ⟨_, _, _, rfl⟩ ?_ (fun j hj => ?_) ⟨rfl, rfl, f3, f4, hok, .inr ⟨b, c, vals.take (hh.toNat * s), vals.drop (hh.toNat * s) ++ rest, p, by rw [htl], ⟨q0, C, by rw [htl]; omega, ?_, (fun h => by cases h), q4⟩, ?_, f9, ?_⟩⟩
              · unfold aSlice
                rw [j1, j2, j3, f6]; dsimp only
                rw [hu]; dsimp only
                rw [hs]; dsimp only
                rcases q4 with q4 | q4
                · have hcC := (capOf_exact q4).1
                  rw [q4]; dsimp only
                  rw [show bounds rows.length C none (some hh) none = some (0, hh.toNat, C) by simp only [bounds]; rw [if_pos (by omega)]]
                  subst hcC
                  simp
                · rw [q4]; dsimp only
                  rw [show bounds rows.length C none (some hh) none = some (0, hh.toNat, C) by simp only [bounds]; rw [if_pos (by omega)]]
                  simp
              · have e1 : (Rz.vec val w s).blk = some b := vec_blk (t := t') (s := s) f6 ⟨q0, C, q1, q2, q3, q4⟩
                rw [e1]
                cases c with
                | zero => cases hj
                | succ c => exact hj
              · rw [← List.append_assoc, List.take_append_drop]; exact q2
              · rw [← List.append_assoc, List.take_append_drop]; exact f8
              · exact (f10.takeR _ hle).on (hpostS _)
        · cases h
      · cases h
    · cases h
  · cases h
/-- Made zeros appended to nil. -/
def vZeros (P : Program) (t : TypeId) (H : Hp) (s x : V) : Option (V × Hp) := match P.underlying t, s, isInt x with
  | some (.slice e), .lit (.slice none 0 0), some n => match szOf P e, byOf P e, zerosOf P e 1 with
    | some size, some bytes, some z => if 0 < n ∧ n ≤ 17179869184 ∧ 0 < size ∧ size ≤ 1048576 ∧ bytes ≤ 4096 ∧ z.length = size ∧ z.all (fun x => scalarB x && cellB x) = true then some (.own H.length 0, H ++ [.vec 0 (List.replicate n.toNat (z.map .lit)) size true true]) else none
    | _, _, _ => none
  | _, _, _ => none
theorem vZeros_sound (hR : Rel K φ H σ) {t : TypeId} {s : V} {sa : Value} (h : vZeros P t H s x = some (v, H')) (hs : VR K s φ sa) (hx : VR K x φ a) : Snd K φ v H' (aZeros P t sa a σ) := by
  unfold vZeros at h
  split at h
  · rename_i e n hu hn
    obtain ⟨k, rfl⟩ := isInt_sound hn hx
    obtain ⟨rfl, _⟩ := hs
    split at h
    · rename_i size bytes z h1 h2 h3
      split at h
      · rename_i hc
        obtain ⟨c1, c2, c3, c4, c5, c6, c7⟩ := hc
        cases h
        simp only [aZeros, hu, h1, h2, zeros_one h3]
        rw [if_pos ⟨c1, c2, c3, c4, c5⟩]
        have hz : ∀ x ∈ z, scalarB x = true ∧ cellB x = true := fun x hx => by have := List.all_eq_true.1 c7 x hx; simpa using this
        have := newVec hR (c := unk size n.toNat) (rows_rep (n := n.toNat) (φ := φ) (K := K) c6 fun x hx => (hz x hx).1) (s := size)
          (fun r hr => by
            rw [(List.mem_replicate.1 hr).2]
            refine ⟨by simp [c6], ?_⟩
            rw [List.all_map, List.all_eq_true]
            exact fun x hx => (hz x hx).2) c3 c4 (.inr (by rw [List.length_replicate]; exact capV_new (by omega) c4 (Nat.le_refl _)))
        rw [List.length_replicate] at this
        exact this
      · cases h
    · cases h
  · cases h
def nonNil : V → Bool
  | .ptr _ _ | .fptr _ | .elt _ _ _ _ | .fn _ _ _ => true
  | _ => false
/-- One operation. own: literals that are to be one's own. -/
def vop (P : Program) (own : List Tmp) (q : Bool) (ρ : Operand → V) (o : Oper) (H : Hp) : Option (V × Hp) := match o.op with
  | .move x | .assign x => some (ρ x, H)
  | .pick c a b => match ρ c with
    | .lit (.bool t) => some (if t then ρ a else ρ b, H)
    | _ => none
  | .extract x i => match ρ x with
    | .tup vs => (vs[i]?).map (·, H)
    | _ => none
  | .nilCheck x => if nonNil (ρ x) = true then some (ρ x, H) else none
  | .alloc t => (zerosOf P t 1).bind fun zs => (litCells zs).map fun cs => (.ptr H.length 0, H ++ [.mem cs true])
  | .box _ x => if (ρ x).cells.all V.isCell = true then some (.ptr H.length 0, H ++ [.mem (ρ x).cells true]) else none
  | .load t x => (vLoad P t H (ρ x)).map (·, H)
  | .store t x v => if q then none else (vStore P t H (ρ x) (ρ v)).map fun H' => (.tup [], H')
  | .fieldAddr t x f => (vFieldAddr P t (ρ x) f).map (·, H)
  | .field t x f => match ρ x, fieldOf P t f with
    | .agg cs, some (off, ft) => (partVV P ft cs off).map (·, H)
    | _, _ => none
  | .indexAddr t x i => (vIdx P t H (ρ x) (ρ i)).map (·, H)
  | .index t x i => match P.underlying t, ρ x, isInt (ρ i) with
    | some (.array n e), .agg cs, some j => match szOf P e with
      | some s => if 0 ≤ j ∧ j < n then (partVV P e cs (j.toNat * s)).map (·, H) else none
      | none => none
    | some .string, .lit (.string s), some j => if 0 ≤ j then (s[j.toNat]?).map fun b => (.lit (.int .u8 b.toNat), H) else none
    | _, _, _ => none
  | .slice t x lo hi mx => match vNone P t H (ρ x) (lo.map ρ) (hi.map ρ) (mx.map ρ) with
    | some r => some r
    | none => match vTrunc P t H (ρ x) (lo.map ρ) (hi.map ρ) (mx.map ρ) with
      | some r => some r
      | none => (vSlice P t H (ρ x) (lo.map ρ) (hi.map ρ) (mx.map ρ)).map (·, H)
  | .makeFunc fn first captured => match fn with
    | .func f => some (.fn f (first.toList.map ρ) (captured.toList.map ρ), H)
    | _ => none
  | .makeInterface t x => if P.concrete t = true then some (.ifc t (ρ x), H) else none
  | .makeSlice t l c => vMake P t (ρ l) (ρ c) H
  | .build t parts => (vBuild P t (parts.toList.map fun p => (p.1, ρ p.2))).map (·, H)
  | .buildSlice t len parts => vLit P (match o.dst with | some d => own.contains d | none => false) (slPerm P t parts) t len (parts.toList.map fun p => (p.1, ρ p.2)) H
  | .binOp op t x y _ => (vBin P op t (ρ x) (ρ y)).map (·, H)
  | .unOp op _ x => match toVal (ρ x) with
    | some a => ((unI op a).bind mkLit).map (·, H)
    | none => none
  | .convert src dt x => vConv P (match o.dst with | some d => own.contains d | none => false) src dt (ρ x) H
  | .call { callee := .builtin b, args, argTypes } => match b, args.toList, argTypes.toList with
    | .append, [s, x], [t, tx] => match P.underlying tx with
      | some (.int _) => vZeros P t H (ρ s) (ρ x)
      | _ => vAppend P q t tx H (ρ s) (ρ x)
    | .cap, [x], [t] => match P.underlying t, ρ x with
      | some (.slice _), .lit (.slice none 0 0) => some (.lit (.int .i64 0), H)
      | _, _ => none
    | .min, [x, y], _ => match toVal (ρ x), toVal (ρ y) with
      | some (.int k m), some (.int _ n) => some (.lit (.int k (if n < m then n else m)), H)
      | _, _ => none
    | .max, [x, y], _ => match toVal (ρ x), toVal (ρ y) with
      | some (.int k m), some (.int _ n) => some (.lit (.int k (if n > m then n else m)), H)
      | _, _ => none
    | .len, [x], [t] => match P.underlying t, ρ x with
      | some .string, .lit (.string s) => some (.lit (.int .i64 s.size), H)
      | _, _ => (vLen P t H (ρ x)).map (·, H)
    | .copy, [d, s], [t, tx] => if q then none else vCopy P t tx (ρ d) (ρ s) H
    | _, _, _ => none
  | _ => none
theorem VRs.map_of {l : List Operand} (h : ∀ x, VR K (ρ x) φ (ρa x)) : VRs K (l.map ρ) φ (l.map ρa) := by
  induction l with
  | nil => rfl
  | cons x l ih => exact ⟨_, _, rfl, h x, ih⟩
theorem PsR.map_of {l : List (Nat × Operand)} (h : ∀ x, VR K (ρ x) φ (ρa x)) : PsR K φ (l.map fun p => (p.1, ρ p.2)) (l.map fun p => (p.1, ρa p.2)) := by
  induction l with
  | nil => rfl
  | cons x l ih => exact ⟨_, _, rfl, h x.2, ih⟩
theorem OptR.map_of {l : Option Operand} (h : ∀ x, VR K (ρ x) φ (ρa x)) : OptR K φ (l.map ρ) (l.map ρa) := by
  cases l with
  | none => trivial
  | some x => exact h x
theorem mapSnd {r : Option V} {ra : Option Value} (hR : Rel K φ H σ) (h : r.map (·, H) = some (v, H')) (hs : ∀ u, r = some u → ∃ y, ra = some y ∧ VR K u φ y) : Snd K φ v H' (ra.map (·, σ)) := by
  cases hr : r with
  | none => rw [hr] at h; cases h
  | some u =>
    rw [hr] at h; cases h
    obtain ⟨y, e1, e2⟩ := hs _ hr
    rw [e1]
    exact .same hR e2
theorem vop_sound (hR : Rel K φ H σ) {own : List Tmp} {o : Oper} (hρ : ∀ x, VR K (ρ x) φ (ρa x)) (h : vop P own q ρ o H = some (v, H')) : Snd K φ v H' (aop P q ρa o σ) := by
  obtain ⟨dst, op, type, pos, after, guard⟩ := o
  cases op with
  | move x => simp only [vop] at h; cases h; exact .same hR (hρ x)
  | assign x => simp only [vop] at h; cases h; exact .same hR (hρ x)
  | pick c a b =>
    simp only [vop] at h
    split at h
    · rename_i t hc
      cases h
      have := hρ c
      rw [hc] at this
      show Snd _ _ _ _ (match (generalizing := false) ρa c with | .bool t => some (if t then ρa a else ρa b, σ) | _ => none)
      rw [this.1]
      refine .same hR ?_
      cases t
      · exact hρ b
      · exact hρ a
    · cases h
  | extract x i =>
    simp only [vop] at h
    split at h
    · rename_i vs hx
      have := hρ x
      rw [hx] at this
      obtain ⟨xs, e1, e2⟩ := this
      show Snd _ _ _ _ (match (generalizing := false) ρa x with | .tuple vs => (vs[i]?).map (·, σ) | _ => none)
      rw [e1]
      refine mapSnd hR h fun u hu => ?_
      obtain ⟨y, f1, f2⟩ := e2.get hu
      exact ⟨y, by simpa using f1, f2⟩
    · cases h
  | nilCheck x =>
    simp only [vop] at h
    split at h
    · rename_i hn
      cases h
      have hx := hρ x
      show Snd _ _ _ _ (match (generalizing := false) ρa x with | .pointer (some a) => some (.pointer (some a), σ) | .func (.func f) a b => some (.func (.func f) a b, σ) | _ => none)
      cases hv : ρ x with
      | ptr g o => rw [hv] at hx; have hx' := hx; obtain ⟨b, _, e⟩ := hx; rw [e] at hx' ⊢; exact .same hR hx'
      | fptr cs => rw [hv] at hx; have hx' := hx; obtain ⟨b, o, c, e, _⟩ := hx; rw [e] at hx' ⊢; exact .same hR hx'
      | elt g w k o => rw [hv] at hx; have hx' := hx; obtain ⟨_, _, _, _, _, _, _, _, _, e⟩ := hx; rw [e] at hx' ⊢; exact .same hR hx'
      | fn f fi cp => rw [hv] at hx; have hx' := hx; obtain ⟨fa, ca, e, _⟩ := hx; rw [e] at hx' ⊢; exact .same hR hx'
      | _ => rw [hv] at hn; cases hn
    · cases h
  | alloc t =>
    simp only [vop] at h
    show Snd _ _ _ _ ((zerosOf P t 1).bind fun zs => (newBlk σ zs).map fun (a, σ') => (.pointer (some a), σ'))
    cases hz : zerosOf P t 1 with
    | none => rw [hz] at h; cases h
    | some zs =>
      rw [hz] at h
      simp only [Option.bind_some] at h ⊢
      cases hl : litCells zs with
      | none => rw [hl] at h; cases h
      | some cs =>
        rw [hl] at h; cases h
        obtain ⟨e1, e2⟩ := litCells_sound (K := K) (φ := φ) hl
        exact newMem hR e1 e2
  | box t x =>
    simp only [vop] at h
    split at h
    · rename_i hc
      cases h
      exact newMem hR ((hρ x).cells hc).1 hc
    · cases h
  | load t x =>
    simp only [vop] at h
    show Snd _ _ _ _ (match (generalizing := false) ρa x with | .pointer (some a) => (loadV P t σ a).map (·, σ) | _ => none)
    cases hl : vLoad P t H (ρ x) with
    | none => rw [hl] at h; cases h
    | some u =>
      rw [hl] at h; cases h
      obtain ⟨b, o, y, e1, e2, e3⟩ := vLoad_sound hR hl (hρ x)
      rw [e1]; dsimp only
      rw [e2]
      exact .same hR e3
  | store t x w =>
    simp only [vop] at h
    cases q with
    | true => cases h
    | false =>
      simp only [if_false, Bool.false_eq_true] at h
      show Snd _ _ _ _ (match (generalizing := false) ρa x, szOf P t with | .pointer (some a), some n => if false = false ∧ (ρa w).cells.size = n then (writeN σ a (ρa w).cells.toList).map fun σ' => (undef, σ') else none | _, _ => none)
      unfold vStore at h
      split at h
      · rename_i n hn
        split at h
        · rename_i hc
          obtain ⟨c1, c2⟩ := hc
          cases hp : putAt H (ρ x) (ρ w).cells with
          | none => rw [hp] at h; cases h
          | some H1 =>
            rw [hp] at h; cases h
            obtain ⟨d1, d2⟩ := (hρ w).cells c2
            obtain ⟨b, o, σ', e1, e2, e3⟩ := putAt_sound hR hp (hρ x) d1 c2
            have hl := d1.len
            simp only [Array.length_toList] at hl
            rw [e1, hn]; dsimp only
            rw [if_pos ⟨rfl, by omega⟩, e2]
            exact ⟨_, _, K, φ, rfl, .refl _ _ _, e3, #[], rfl, rfl⟩
        · cases h
      · cases h
  | fieldAddr t x f =>
    simp only [vop] at h
    show Snd _ _ _ _ (match (generalizing := false) ρa x, fieldOf P t f with | .pointer (some a), some (off, ft) => (match szOf P ft with | some (_ + 1) => some (.pointer (some (a.add off)), σ) | _ => none) | _, _ => none)
    cases hl : vFieldAddr P t (ρ x) f with
    | none => rw [hl] at h; cases h
    | some u =>
      rw [hl] at h; cases h
      obtain ⟨off, ft, n, ad, e1, e2, e3, e4⟩ := vFieldAddr_sound hl (hρ x)
      rw [e3, e1]; dsimp only
      rw [e2]
      exact .same hR e4
  | field t x f =>
    simp only [vop] at h
    show Snd _ _ _ _ (match (generalizing := false) ρa x, fieldOf P t f with | .agg cs, some (off, ft) => (partV P ft cs off).map (·, σ) | _, _ => none)
    split at h
    · rename_i cs off ft hx hf
      have := hρ x
      rw [hx] at this
      obtain ⟨xs, e1, e2⟩ := this
      rw [e1, hf]; dsimp only
      exact mapSnd hR h fun u hu => partVV_sound hu e2
    · cases h
  | indexAddr t x i =>
    simp only [vop] at h
    show Snd _ _ _ _ (idxAddr P t (ρa x) (ρa i) σ)
    cases hl : vIdx P t H (ρ x) (ρ i) with
    | none => rw [hl] at h; cases h
    | some u => rw [hl] at h; cases h; exact vIdx_sound hR hl (hρ x) (hρ i)
  | index t x i =>
    simp only [vop] at h
    show Snd _ _ _ _ (match (generalizing := false) P.underlying t, ρa x, ρa i with
      | some (.array n e), .agg cs, .int _ j => match szOf P e with
        | some s => if 0 ≤ j ∧ j < n then (partV P e cs (j.toNat * s)).map (·, σ) else none
        | none => none
      | _, _, _ => (aPure P ρa _).map (·, σ))
    split at h
    · rename_i n e cs j hu hx hj
      have := hρ x
      rw [hx] at this
      obtain ⟨xs, e1, e2⟩ := this
      obtain ⟨k, e3⟩ := isInt_sound hj (hρ i)
      rw [hu, e1, e3]; dsimp only
      split at h
      · rename_i s hs
        split at h
        · rename_i hc
          rw [if_pos hc]
          exact mapSnd hR h fun u hu => partVV_sound hu e2
        · cases h
      · cases h
    · rename_i s j hu hx hj
      have := hρ x
      rw [hx] at this
      obtain ⟨e1, _⟩ := this
      obtain ⟨k, e3⟩ := isInt_sound hj (hρ i)
      rw [hu, e1, e3]; dsimp only
      split at h
      · rename_i h0
        cases hb : s[j.toNat]? with
        | none => rw [hb] at h; cases h
        | some b =>
          rw [hb] at h; cases h
          rw [aPure_index hu e1 e3 h0 hb]
          exact .same hR ⟨rfl, rfl⟩
      · cases h
    · cases h
  | slice t x lo hi mx =>
    simp only [vop] at h
    show Snd _ _ _ _ (match (generalizing := false) ρa x with
      | .string _ => (aPure P ρa _).map (·, σ)
      | _ => (aSlice P t (ρa x) (lo.map ρa) (hi.map ρa) (mx.map ρa)).map (·, σ))
    split at h
    · rename_i r hn
      cases h
      obtain ⟨e1, e3⟩ := vNone_sound hR hn (hρ x) (OptR.map_of hρ) (OptR.map_of hρ) (OptR.map_of hρ)
      split
      · rename_i s hs; exact absurd hs (e3 s)
      · exact e1
    · split at h
      · rename_i r hn
        cases h
        obtain ⟨e1, e3⟩ := vTrunc_sound hR hn (hρ x) (OptR.map_of hρ) (OptR.map_of hρ) (OptR.map_of hρ)
        split
        · rename_i s hs; exact absurd hs (e3 s)
        · exact e1
      · cases hl : vSlice P t H (ρ x) (lo.map ρ) (hi.map ρ) (mx.map ρ) with
        | none => rw [hl] at h; cases h
        | some u =>
          rw [hl] at h; cases h
          obtain ⟨⟨y, e1, e2⟩, e3⟩ := vSlice_sound hR hl (hρ x) (OptR.map_of hρ) (OptR.map_of hρ) (OptR.map_of hρ)
          split
          · rename_i s hs; exact absurd hs (e3 s)
          · rw [e1]; exact .same hR e2
  | makeFunc fn first captured =>
    simp only [vop] at h
    show Snd _ _ _ _ (match (generalizing := false) fn with | .func f => some (.func (.func f) (first.map ρa) (captured.map ρa), σ) | _ => none)
    split at h
    · cases h
      refine .same hR ⟨_, _, rfl, ?_, ?_⟩
      · rw [Array.toList_map]; exact VRs.map_of hρ
      · rw [Array.toList_map]; exact VRs.map_of hρ
    · cases h
  | makeInterface t x =>
    simp only [vop] at h
    show Snd _ _ _ _ (if P.concrete t = true then some (.iface t (ρa x), σ) else none)
    split at h
    · rename_i hc; cases h; rw [if_pos hc]; exact .same hR ⟨_, rfl, hρ x⟩
    · cases h
  | makeSlice t l c =>
    simp only [vop] at h
    exact vMake_sound hR h (hρ l) (hρ c)
  | build t parts =>
    simp only [vop] at h
    have hstep : aop P q ρa ⟨dst, .build t parts, type, pos, after, guard⟩ σ = (buildV P t (parts.map fun (i, x) => (i, ρa x))).map (·, σ) := by
      simp only [aop, buildV]
      cases zeroOf P t with
      | none => rfl
      | some z =>
        dsimp only
        have : ((parts.map fun (i, x) => (i, ρa x)).all fun (_, x) => !junkB x) = (parts.all fun (_, x) => !junkB (ρa x)) := by
          rw [Array.all_map]; rfl
        rw [this]
        split
        · cases P.built t (parts.map fun (i, x) => (i, ρa x)).toList <;> rfl
        · rfl
    rw [hstep]
    exact mapSnd hR h fun u hu => vBuild_sound hu (by rw [Array.toList_map]; exact PsR.map_of hρ)
  | buildSlice t len parts =>
    simp only [vop] at h
    have hstep : aop P q ρa ⟨dst, .buildSlice t len parts, type, pos, after, guard⟩ σ = (buildSliceV P t len (parts.map fun (i, x) => (i, ρa x))).bind fun cs => (newBlkP σ cs (slPerm P t parts)).map fun (a, σ') => (.slice (some a) len len, σ') := by
      simp only [aop, buildSliceV]
      cases P.underlying t with
      | none => rfl
      | some d =>
        cases d <;> try rfl
        rename_i e'
        dsimp only
        cases szOf P e' with
        | none => rfl
        | some s =>
          cases zerosOf P e' len with
          | none => rfl
          | some zs =>
            dsimp only
            have : ((parts.map fun (i, x) => (i, ρa x)).all fun (_, x) => !junkB x) = (parts.all fun (_, x) => !junkB (ρa x)) := by
              rw [Array.all_map]; rfl
            rw [this]
            split
            · cases Instr.fill (fun i => some (i * s, s)) zs.toArray (parts.map fun (i, x) => (i, ρa x)).toList <;> rfl
            · rfl
    rw [hstep]
    exact vLit_sound hR (by unfold slPerm; split <;> (try split) <;> simp) h (by rw [Array.toList_map]; exact PsR.map_of hρ)
  | binOp op t x y ty =>
    simp only [vop] at h
    cases hl : vBin P op t (ρ x) (ρ y) with
    | none => rw [hl] at h; cases h
    | some u => rw [hl] at h; cases h; exact vBin_sound hR hl (hρ x) (hρ y)
  | unOp op t x =>
    simp only [vop] at h
    show Snd _ _ _ _ ((aPure P ρa ⟨dst, .unOp op t x, type, pos, after, guard⟩).map (·, σ))
    split at h
    · rename_i a ha
      have e1 := toVal_sound ha (hρ x)
      cases hu : unI op a with
      | none => rw [hu] at h; cases h
      | some y =>
        rw [hu] at h
        simp only [Option.bind_some] at h
        rw [aPure_un, e1, hu]
        exact mapSnd (ra := some y) hR h fun u hu => ⟨y, rfl, mkLit_sound hu⟩
    · cases h
  | convert src dt x =>
    simp only [vop] at h
    exact vConv_sound hR h (hρ x)
  | call c =>
    obtain ⟨callee, args, argTypes⟩ := c
    cases callee with
    | value f => simp only [vop] at h; cases h
    | invoke r m => simp only [vop] at h; cases h
    | builtin bb =>
      simp only [vop] at h
      split at h
      · rename_i s x t tx h1 h2
        have hstep : aop P q ρa ⟨dst, .call ⟨.builtin .append, args, argTypes⟩, type, pos, after, guard⟩ σ = aApp P q t tx (ρa s) (ρa x) σ := by
          simp only [aop, h1, h2]
        rw [hstep]
        unfold aApp
        split at h
        · rename_i k hk
          rw [hk]
          exact vZeros_sound hR h (hρ s) (hρ x)
        · rename_i hk
          split
          · rename_i k hk2; exact absurd hk2 (hk k)
          · exact vAppend_sound hR h (hρ s) (hρ x)
      · rename_i x t h1 h2
        split at h
        · rename_i hu hx
          cases h
          have e1 := hρ x
          rw [hx] at e1
          obtain ⟨e1, _⟩ := e1
          have hstep : aop P q ρa ⟨dst, .call ⟨.builtin .cap, args, argTypes⟩, type, pos, after, guard⟩ σ = some (.int .i64 0, σ) := by
            simp only [aop, h1, h2, hu, e1]
            rw [if_pos (by decide)]; rfl
          rw [hstep]
          exact .same hR ⟨rfl, rfl⟩
        · cases h
      · rename_i x y h1
        split at h
        · rename_i k m k' n hx hy
          cases h
          have ex := toVal_sound hx (hρ x)
          have ey := toVal_sound hy (hρ y)
          have hargs : args = #[x, y] := by rw [← Array.toArray_toList (xs := args), h1]
          subst hargs
          have hstep : aop P q ρa ⟨dst, .call ⟨.builtin .min, #[x, y], argTypes⟩, type, pos, after, guard⟩ σ = (aPure P ρa ⟨dst, .call ⟨.builtin .min, #[x, y], argTypes⟩, type, pos, after, guard⟩).map (·, σ) := by
            simp only [aop]
          rw [hstep, aPure_min ex ey]
          exact .same hR ⟨rfl, rfl⟩
        · cases h
      · rename_i x y h1
        split at h
        · rename_i k m k' n hx hy
          cases h
          have ex := toVal_sound hx (hρ x)
          have ey := toVal_sound hy (hρ y)
          have hargs : args = #[x, y] := by rw [← Array.toArray_toList (xs := args), h1]
          subst hargs
          have hstep : aop P q ρa ⟨dst, .call ⟨.builtin .max, #[x, y], argTypes⟩, type, pos, after, guard⟩ σ = (aPure P ρa ⟨dst, .call ⟨.builtin .max, #[x, y], argTypes⟩, type, pos, after, guard⟩).map (·, σ) := by
            simp only [aop]
          rw [hstep, aPure_max ex ey]
          exact .same hR ⟨rfl, rfl⟩
        · cases h
      · rename_i x t h1 h2
        split at h
        · rename_i s hu hx
          cases h
          have e1 := hρ x
          rw [hx] at e1
          obtain ⟨e1, _⟩ := e1
          have hargs : args = #[x] := by rw [← Array.toArray_toList (xs := args), h1]
          have hts : argTypes = #[t] := by rw [← Array.toArray_toList (xs := argTypes), h2]
          subst hargs; subst hts
          have hstep : aop P q ρa ⟨dst, .call ⟨.builtin .len, #[x], #[t]⟩, type, pos, after, guard⟩ σ = (aPure P ρa ⟨dst, .call ⟨.builtin .len, #[x], #[t]⟩, type, pos, after, guard⟩).map (·, σ) := by
            simp only [aop, hu]
          rw [hstep, aPure_len hu e1]
          exact .same hR ⟨rfl, rfl⟩
        cases hl : vLen P t H (ρ x) with
        | none => rw [hl] at h; cases h
        | some u =>
          rw [hl] at h; cases h
          unfold vLen at hl
          split at hl
          · rename_i e hu
            cases hn : lenOf H (ρ x) with
            | none => rw [hn] at hl; cases hl
            | some n =>
              rw [hn] at hl; cases hl
              obtain ⟨A, c, e1⟩ := lenOf_sound hR hn (hρ x)
              have hstep : aop P q ρa ⟨dst, .call ⟨.builtin .len, args, argTypes⟩, type, pos, after, guard⟩ σ = some (.int .i64 n, σ) := by
                simp only [aop, h1, h2, hu, e1]
              rw [hstep]
              exact .same hR ⟨rfl, rfl⟩
          · rename_i n e hu
            cases hl
            have hstep : aop P q ρa ⟨dst, .call ⟨.builtin .len, args, argTypes⟩, type, pos, after, guard⟩ σ = some (.int .i64 n, σ) := by
              simp only [aop, h1, h2, hu]
            rw [hstep]
            exact .same hR ⟨rfl, rfl⟩
          · cases hl
      · rename_i d s t tx h1 h2
        split at h
        · cases h
        · rename_i hq
          have hstep : aop P q ρa ⟨dst, .call ⟨.builtin .copy, args, argTypes⟩, type, pos, after, guard⟩ σ = copyA P t tx (ρa d) (ρa s) σ := by
            simp only [aop, h1, h2, copyA, if_neg hq]; rfl
          rw [hstep]
          exact vCopy_sound hR h (hρ d) (hρ s)
      · cases h
  | _ => simp only [vop] at h; cases h
end
end Go.Proofs.Ytibejcomfjddfaa.VM
end
section
set_option maxHeartbeats 8000000
set_option linter.unusedVariables false
set_option linter.unusedSimpArgs false

/- The machine of values: code. -/
namespace Go.Proofs.Ytibejcomfjddfaa.VM
open Go AM
section
variable {P : Program} {prim : CallF} {K K' : Kn} {φ φ' : List Rz} {H H' : Hp} {σ σ' : Heap} {v x y : V} {a b : Value} {q : Bool} {e e' : Ev} {ea : Env} {ops : Array Oper} {own : List Tmp}

theorem Post.le_len {n : Nat} {K K' : Kn} (h : Post n K φ K' φ') (hn : n ≤ φ.length) : n ≤ φ'.length := by
  by_cases h0 : n = 0
  · omega
  · obtain ⟨r', h1, _⟩ := h.rz (n - 1) φ[n - 1] (by omega) (List.getElem?_eq_getElem (by omega))
    have := get_lt h1
    omega
/-- A call comes to an answer. -/
def VC (P : Program) (prim : CallF) (f : FuncId) (args : List V) (H : Hp) (R : V → Hp → Prop) : Prop :=
  ∀ K φ σ (as : Array Value), Rel K φ H σ → VRs K args φ as.toList → AC P prim f as σ fun a σ' => ∃ K' φ' v H', Post φ.length K φ K' φ' ∧ Rel K' φ' H' σ' ∧ VR K' v φ' a ∧ R v H'
def Ob.lock : Ob → Ob
  | .mem cells _ => .mem cells false
  | .vec w rows s _ t => .vec w rows s false t
  | .fro w rows s => .fro w rows s
def lockV (H : Hp) : Hp := H.map Ob.lock
def Ob.rwOk : Ob → Prop
  | .mem _ rw | .vec _ _ _ rw _ => rw = true
  | .fro _ _ _ => True
/-- A step that the program does not see. -/
def Frz (H H0 : Hp) : Prop := ∀ K φ σ, Rel K φ H σ → ∃ K' φ', Post φ.length K φ K' φ' ∧ Rel K' φ' H0 σ
theorem Frz.refl : Frz H H := fun K φ σ hR => ⟨K, φ, .refl _ _ _, hR⟩
def VCq (P : Program) (prim : CallF) (q : Bool) (f : FuncId) (args : List V) (H : Hp) (R : V → Hp → Prop) : Prop :=
  ∃ H0, Frz H H0 ∧ if q then VC P prim f args (lockV H0) fun v T => ∃ X, T = lockV H0 ++ X ∧ (∀ o ∈ X, o.rwOk) ∧ R v (H0 ++ X) else VC P prim f args H0 R
theorem permOk_lock {p : Perm} {rw : Bool} (h : permOk rw p) : permOk false (if p.own = true then .ro else p) := by
  unfold permOk at *
  cases p <;> cases rw <;> simp_all [Perm.own]
theorem Rel.lock (hR : Rel K φ H σ) : Rel K φ (lockV H) (AM.lock σ) := by
  refine ⟨by simp [lockV, hR.len], fun b c hc => ?_, fun g x r hx hr => ?_, hR.inj, hR.apart, hR.gk⟩
  · obtain ⟨p, h1, h2⟩ := hR.kn b c hc
    refine ⟨_, by rw [lock_get, h1]; rfl, ?_⟩
    dsimp only
    split <;> simp_all
  · simp only [lockV, List.getElem?_map] at hx
    cases hg : H[g]? with
    | none => rw [hg] at hx; cases hx
    | some y =>
      rw [hg] at hx
      cases hx
      have hob := hR.ob g y r hg hr
      cases y with
      | mem cells rw =>
        cases r with
        | mem b =>
          obtain ⟨vals, p, h1, h2, h3⟩ := hob
          exact ⟨vals, _, by rw [lock_get, h1]; rfl, permOk_lock h2, h3⟩
        | vec _ _ _ => exact hob.elim
        | fro _ _ _ => exact hob.elim
      | vec w rows s rw t =>
        cases r with
        | mem b => exact hob.elim
        | vec val w' s' =>
          obtain ⟨h1, h2, h3, h4, h5, h6⟩ := hob
          refine ⟨h1, h2, h3, h4, h5, h6.imp id fun ⟨b, c, vals, rest, p, e1, e2, e3, e4, e5⟩ => ⟨b, c, vals, rest, _, e1, e2, by rw [lock_get, e3]; rfl, permOk_lock e4, e5⟩⟩
        | fro _ _ _ => exact hob.elim
      | fro w rows s =>
        cases r with
        | mem b => exact hob.elim
        | vec _ _ _ => exact hob.elim
        | fro _ _ _ => exact hob
theorem lock_same {y : Ob} {r r' : Rz} (h1 : ObR K φ σ y r) (h2 : ObR K' φ' σ' y.lock r') (hle : RzLe r r') : r' = r := by
  cases y with
  | mem cells rw =>
    cases r with
    | mem b => cases r' <;> simp only [RzLe] at hle; rw [hle]
    | vec _ _ _ => exact h1.elim
    | fro _ _ _ => exact h1.elim
  | vec w rows s rw t =>
    cases r with
    | mem b => exact h1.elim
    | vec val w1 s1 =>
      cases r' with
      | mem b => exact h2.elim
      | fro _ _ _ => exact h2.elim
      | vec val2 w2 s2 =>
        obtain ⟨a1, a2, a3⟩ := hle
        have e1 := h1.1
        have e2 := h2.1
        subst a1
        have : w1 = w2 := by rw [← e1]; exact e2
        subst this
        rw [a3 rfl]
    | fro _ _ _ => exact h1.elim
  | fro w rows s =>
    cases r with
    | mem b => exact h1.elim
    | vec _ _ _ => exact h1.elim
    | fro _ _ _ =>
      cases r' <;> simp only [RzLe] at hle
      obtain ⟨rfl, rfl, rfl⟩ := hle
      rfl
/-- A call that may change nothing that stands. -/
theorem quiet_sound (hR : Rel K φ H σ) {τ : Heap} (hle : Le (AM.lock σ) τ) {X : Hp} (hp : Post φ.length K φ K' φ') (hR' : Rel K' φ' (lockV H ++ X) τ) (hX : ∀ o ∈ X, o.rwOk) : Rel K' φ' (H ++ X) (σ ++ τ.drop σ.length) := by
  have hlen : σ.length ≤ τ.length := by have := hle.len; rwa [lock_len] at this
  have hlH : (lockV H).length = H.length := by simp [lockV]
  have lo : ∀ {b : Nat}, b < σ.length → (σ ++ τ.drop σ.length)[b]? = σ[b]? := fun hb => List.getElem?_append_left hb
  have hi : ∀ {b : Nat}, ¬ b < σ.length → (σ ++ τ.drop σ.length)[b]? = τ[b]? := fun {b} hb => by
    rw [List.getElem?_append_right (by omega), List.getElem?_drop]
    congr 1; omega
  have old : ∀ {b : Nat} {x : Blk}, b < σ.length → τ[b]? = some x → x.perm ≠ .full ∧ (x.perm ≠ .dead → ∃ p, σ[b]? = some ⟨x.cells, p⟩ ∧ p ≠ .dead) := fun {b x} hb hx => by
    obtain ⟨y, hy⟩ : ∃ y, σ[b]? = some y := ⟨_, List.getElem?_eq_getElem hb⟩
    obtain ⟨x', h1, h2, h3, h4⟩ := hle.blk b _ (by rw [lock_get, hy]; rfl)
    rw [hx] at h1; cases h1
    obtain ⟨yc, yp⟩ := y
    cases yp with
    | full =>
      have := h3 rfl
      rw [this]
      exact ⟨by simp [Perm.own], fun _ => ⟨_, hy, by simp⟩⟩
    | byt =>
      have := h3 rfl
      rw [this]
      exact ⟨by simp [Perm.own], fun _ => ⟨_, hy, by simp⟩⟩
    | ro =>
      have := h3 rfl
      rw [this]
      exact ⟨by simp, fun _ => ⟨_, hy, by simp⟩⟩
    | dead =>
      have := h4 rfl
      rw [this]
      exact ⟨by simp, fun h => absurd rfl h⟩
  refine ⟨by rw [hR'.len]; simp [lockV], fun b c hc => ?_, fun g x r' hx hr' => ?_, hR'.inj, hR'.apart, hR'.gk⟩
  · obtain ⟨p, h1, h2⟩ := hR'.kn b c hc
    by_cases hb : b < σ.length
    · rw [lo hb]
      exact (old hb h1).2 h2
    · rw [hi hb]
      exact ⟨p, h1, h2⟩
  · by_cases hg : g < H.length
    · rw [List.getElem?_append_left hg] at hx
      obtain ⟨r, hr⟩ : ∃ r, φ[g]? = some r := ⟨_, List.getElem?_eq_getElem (by rw [hR.len]; exact hg)⟩
      have hob := hR.ob g x r hx hr
      obtain ⟨r2, e1, e2⟩ := hp.rz g r (get_lt hr) hr
      rw [hr'] at e1; cases e1
      have hob' := hR'.ob g x.lock r' (by rw [List.getElem?_append_left (by rw [hlH]; exact hg)]; simp [lockV, hx]) hr'
      have := lock_same hob hob' e2
      subst this
      exact hob.keep (fun b hb => lo (hR.used_lt (.inr ⟨g, r', hr, hb⟩))) hp
    · have hx' : (lockV H ++ X)[g]? = some x := by
        rw [List.getElem?_append_right (by omega)] at hx
        rw [List.getElem?_append_right (by omega), hlH]; exact hx
      have hob' := hR'.ob g x r' hx' hr'
      have hrw : x.rwOk := hX x (by rw [List.getElem?_append_right (by omega)] at hx; exact List.mem_of_getElem? hx)
      refine hob'.keep (fun b hb => ?_) (.refl _ _ _)
      refine hi fun hlt => ?_
      cases x with
      | mem cells rw =>
        cases r' with
        | mem b' =>
          cases hb
          obtain ⟨vals, p, h1, h2, _⟩ := hob'
          have hrw : rw = true := hrw
          subst hrw
          have : p = .full := h2
          subst this
          exact (old hlt h1).1 rfl
        | vec _ _ _ => exact hob'.elim
        | fro _ _ _ => exact hob'.elim
      | vec w rows s rw t =>
        cases r' with
        | mem _ => exact hob'.elim
        | fro _ _ _ => exact hob'.elim
        | vec val w' s' =>
          obtain ⟨_, _, _, _, _, ⟨_, h6 | ⟨_, _, _, h6, _⟩⟩ | ⟨b', c, vals, rest, p, h6, h7, h8, h9, _⟩⟩ := hob'
          · subst h6; cases hb
          · subst h6; cases hb
          · rw [vec_blk h6 h7] at hb; cases hb
            have hrw : rw = true := hrw
            subst hrw
            have : p = .full := h9
            subst this
            exact (old hlt h8).1 rfl
      | fro w rows s =>
        cases r' with
        | mem _ => exact hob'.elim
        | vec _ _ _ => exact hob'.elim
        | fro _ _ _ => cases hb
def vupd (e : Ev) (d : Option Tmp) (v : V) : Ev := match d with
  | some i => fun j => if j = i then v else e j
  | none => e
theorem EvR.upd (h : EvR K φ e ea) (hv : VR K v φ a) (d : Option Tmp) : EvR K φ (vupd e d v) (AM.upd ea d a) := by
  cases d with
  | none => exact h
  | some i =>
    intro t
    unfold vupd AM.upd
    dsimp only
    split
    · exact hv
    · exact h t
def wantedV (ops : Array Oper) (o : Oper) (e : Ev) : Option Bool := match o.guard with
  | none => some true
  | some (j, want) => match (ops[j]?).bind (·.dst) with
    | none => some false
    | some d => match e d with
      | .lit (.bool b) => some (b == want)
      | .tup [] => some false
      | _ => none
theorem wantedV_sound {o : Oper} {t : Bool} (h : wantedV ops o e = some t) (hE : EvR K φ e ea) : wantedA ops o ea = some t := by
  unfold wantedV at h
  unfold wantedA
  split at h
  · rename_i hg; rw [hg]; exact h
  · rename_i j want hg
    rw [hg]; dsimp only
    split at h
    · rename_i hd; rw [hd]; exact h
    · rename_i d hd
      rw [hd]; dsimp only
      have he := hE d
      split at h
      · rename_i b hb
        rw [hb] at he
        rw [he.1]; exact h
      · rename_i hb
        rw [hb] at he
        obtain ⟨xs, e1, e2⟩ := he
        rw [e1]; exact h
      · cases h
def goCallV (ρ : Operand → V) (op : Op) : Option (FuncId × List V) := match op with
  | .call { callee := .value x, args, .. } => match ρ x with
    | .fn f first captured => some (f, first ++ args.toList.map ρ ++ captured)
    | _ => none
  | _ => none
def isGoCall : Op → Bool
  | .call { callee := .value _, .. } => true
  | _ => false
/-- Is it a slice held against nil? ('!=', how many elements) -/
def nilOp (P : Program) (ρ : Operand → V) (op : Op) (H : Hp) : Option (Bool × Nat) := match op with
  | .binOp .eql t x y _ => (nilCmp P H t (ρ x) (ρ y)).map (false, ·)
  | .binOp .neq t x y _ => (nilCmp P H t (ρ x) (ρ y)).map (true, ·)
  | _ => none
def vstep (P : Program) (prim : CallF) (own : List Tmp) (q : Bool) (ops : Array Oper) (o : Oper) (e : Ev) (H : Hp) (k : V → Hp → Prop) : Prop := match wantedV ops o e with
  | some true => if isGoCall o.op then (match goCallV (vev e) o.op with
    | some (f, args) => VCq P prim q f args H k
    | none => False) else (match nilOp P (vev e) o.op H with
      | some (neq, n) => ∀ b : Bool, (0 < n → b = neq) → k (.lit (.bool b)) H
      | none => (match vop P own q (vev e) o H with
        | some (v, H') => k v H'
        | none => False))
  | some false => k (.tup []) H
  | none => False
def vwo (P : Program) (prim : CallF) (own : List Tmp) (q : Bool) (ops : Array Oper) : List Oper → (Ev → Hp → Prop) → Ev → Hp → Prop
  | [], Q, e, H => Q e H
  | o :: l, Q, e, H => vstep P prim own q ops o e H fun v H' => vwo P prim own q ops l Q (vupd e o.dst v) H'
/-- A state that some state of values stands for. -/
def Sem (n : Nat) (K : Kn) (φ : List Rz) (Q : Ev → Hp → Prop) (ea : Env) (σ : Heap) : Prop := ∃ K' φ' e' H', Post n K φ K' φ' ∧ Rel K' φ' H' σ ∧ EvR K' φ' e' ea ∧ Q e' H'
theorem Sem.on {n : Nat} {K1 : Kn} {φ1 : List Rz} {Q : Ev → Hp → Prop} (hp : Post n K φ K1 φ1) (hn : n ≤ φ.length) {σ : Heap} (h : Sem φ1.length K1 φ1 Q ea σ) : Sem n K φ Q ea σ :=
  let ⟨K', φ', e', H', h1, h2, h3, h4⟩ := h; ⟨K', φ', e', H', hp.trans h1 (hp.le_len hn), h2, h3, h4⟩
theorem wo_mono {l : List Oper} {Q Q' : Env → Heap → Prop} {ea : Env} (h : WO P prim q ops l Q ea σ) (hq : ∀ e σ, Q e σ → Q' e σ) : WO P prim q ops l Q' ea σ :=
  let ⟨n, e', σ', h1, h2⟩ := h; ⟨n, e', σ', h1, hq _ _ h2⟩
theorem vwo_sound (hC : ∀ n, CallOk P (acall P prim n)) : ∀ (l : List Oper) {Q : Ev → Hp → Prop} {e : Ev} {H : Hp}, vwo P prim own q ops l Q e H → ∀ {K φ σ ea}, Rel K φ H σ → EvR K φ e ea → WO P prim q ops l (Sem φ.length K φ Q) ea σ
  | [], Q, e, H, h, K, φ, σ, ea, hR, hE => wo_nil.2 ⟨K, φ, e, H, .refl _ _ _, hR, hE, h⟩
  | o :: l, Q, e, H, h, K, φ, σ, ea, hR, hE => by
    have ih := @vwo_sound hC l
    refine wo_cons ?_
    unfold vwo vstep at h
    unfold StepR
    have next : ∀ {K' φ' v a H' σ'}, Post φ.length K φ K' φ' → Rel K' φ' H' σ' → VR K' v φ' a → vwo P prim own q ops l Q (vupd e o.dst v) H' → WO P prim q ops l (Sem φ.length K φ Q) (AM.upd ea o.dst a) σ' := fun h1 h2 h3 h4 =>
      wo_mono (ih h4 h2 ((hE.on h1).upd h3 o.dst)) fun _ _ hs => hs.on h1 (Nat.le_refl _)
    split at h
    · rename_i hw
      rw [wantedV_sound hw hE]; dsimp only
      split at h
      · rename_i hgc
        split at h
        · rename_i f args hga
          have hga' : ∃ as : Array Value, goCall (AM.ev ea) o.op = some (f, as) ∧ VRs K args φ as.toList := by
            unfold goCallV at hga
            unfold goCall
            split at hga
            · rename_i x as _ hop
              rw [hop]; dsimp only
              have hx := vev_sound hR hE x
              split at hga
              · rename_i f' fi cp hf
                rw [hf] at hx
                obtain ⟨fa, ca, e1, e2, e3⟩ := hx
                cases hga
                rw [e1]
                refine ⟨_, rfl, ?_⟩
                simp only [Array.toList_append, Array.toList_map]
                exact (e2.append (VRs.map_of (vev_sound hR hE))).append e3
              · cases hga
            · cases hga
          obtain ⟨as, g1, g2⟩ := hga'
          rw [g1]; dsimp only
          unfold VCq at h
          unfold ACq
          obtain ⟨H0, hfz, h⟩ := h
          obtain ⟨K0, φ0, p0, hR0⟩ := hfz K φ σ hR
          have g3 := g2.on p0
          have hl0 := p0.le_len (Nat.le_refl _)
          cases q with
          | false =>
            simp only [if_false, Bool.false_eq_true] at h ⊢
            exact (h K0 φ0 σ as hR0 g3).mono fun a σ' ⟨K', φ', v, H', h1, h2, h3, h4⟩ => next (p0.trans h1 hl0) h2 h3 h4
          | true =>
            simp only [if_true] at h ⊢
            obtain ⟨n, a, τ, hac, K', φ', v, T, h1, h2, h3, X, h4, h5, h6⟩ := h K0 φ0 (AM.lock σ) as hR0.lock g3
            refine ⟨n, a, τ, hac, ?_⟩
            subst h4
            have hle := ((hC n) _ _ _ _ _ hac).2.1
            exact next (p0.trans h1 hl0) (quiet_sound hR0 hle h1 h2 h5) h3 h6
        · exact h.elim
      · rename_i hgc
        have hg : goCall (AM.ev ea) o.op = none := by
          unfold isGoCall at hgc
          unfold goCall
          split at hgc
          · exact absurd rfl hgc
          · rename_i hno
            split
            · rename_i x as _ hop; exact absurd hop (hno _ _ _)
            · rfl
        rw [hg]; dsimp only
        unfold After
        split at h
        · rename_i neq n hn
          obtain ⟨dst, op, type, pos, after, guard⟩ := o
          unfold nilOp at hn
          dsimp only at hn h next ⊢
          split at hn
          · rename_i t x y ty
            cases hc : nilCmp P H t (vev e x) (vev e y) with
            | none => rw [hc] at hn; cases hn
            | some m =>
              rw [hc] at hn; cases hn
              obtain ⟨r, h1, h2⟩ := nilCmp_sound (ρ := AM.ev ea) (dst := dst) (type := type) (pos := pos) (after := after) (guard := guard) hR hc (vev_sound hR hE x) (vev_sound hR hE y)
              have h3 : aop P q (AM.ev ea) ⟨dst, .binOp .eql t x y ty, type, pos, after, guard⟩ σ = some (.bool r, σ) := (h2 x y ty rfl rfl).1
              rw [h3]
              exact next (.refl _ _ _) hR (v := .lit (.bool r)) ⟨rfl, rfl⟩ (h r h1)
          · rename_i t x y ty
            cases hc : nilCmp P H t (vev e x) (vev e y) with
            | none => rw [hc] at hn; cases hn
            | some m =>
              rw [hc] at hn; cases hn
              obtain ⟨r, h1, h2⟩ := nilCmp_sound (ρ := AM.ev ea) (dst := dst) (type := type) (pos := pos) (after := after) (guard := guard) hR hc (vev_sound hR hE x) (vev_sound hR hE y)
              have h3 : aop P q (AM.ev ea) ⟨dst, .binOp .neq t x y ty, type, pos, after, guard⟩ σ = some (.bool (!r), σ) := (h2 x y ty rfl rfl).2
              rw [h3]
              exact next (.refl _ _ _) hR (v := .lit (.bool (!r))) ⟨rfl, rfl⟩ (h (!r) fun h => by rw [h1 h]; rfl)
          · cases hn
        · split at h
          · rename_i v H' hv
            obtain ⟨a, σ', K', φ', h1, h2, h3, h4⟩ := vop_sound hR (vev_sound hR hE) hv
            rw [h1]
            exact next h2 h3 h4 h
          · exact h.elim
    · rename_i hw
      rw [wantedV_sound hw hE]
      exact next (.refl _ _ _) hR (v := .tup []) ⟨#[], rfl, rfl⟩ h
    · exact h.elim
end
end Go.Proofs.Ytibejcomfjddfaa.VM
end
section
set_option maxHeartbeats 8000000
set_option linter.unusedVariables false
set_option linter.unusedSimpArgs false

/- The machine of values: code, loops, functions; what is frozen or let go. -/
namespace Go.Proofs.Ytibejcomfjddfaa.VM
open Go AM
section
variable {P : Program} {prim : CallF} {K K' : Kn} {φ φ' : List Rz} {H H' : Hp} {σ σ' : Heap} {v x y : V} {a b : Value} {q : Bool} {e e' : Ev} {ea : Env} {ops : Array Oper} {own : List Tmp}

/-- What follows, where simp does not look. -/
class KVV where run : V → Hp → Prop
def ThenV (N : Ev → Hp → Prop) (Q : Ex → Ev → Hp → Prop) : Ex → Ev → Hp → Prop
  | .normal, e, H => N e H
  | x, e, H => Q x e H
def BlkV (id : Nat) (Q : Ex → Ev → Hp → Prop) : Ex → Ev → Hp → Prop
  | .exit i, e, H => if i = id then Q .normal e H else Q (.exit i) e H
  | x, e, H => Q x e H
def CondV (v : V) [c : PP] : Prop := match v with
  | .lit (.bool t) => (t = true → c.a) ∧ (t = false → c.b)
  | _ => False
/-- The object under an early load is not written any more. -/
theorem Rel.roE (hR : Rel K φ H σ) {g b : Nat} {cells : List V} {rw : Bool} (hg : H[g]? = some (.mem cells rw)) (hb : φ[g]? = some (.mem b)) : Rel K φ (H.set g (.mem cells false)) (roAt σ b) := by
  have hgl := get_lt hg
  refine ⟨by simp [hR.len], fun b' c hc => ?_, fun g' x r hx hr => ?_, hR.inj, hR.apart, hR.gk⟩
  · obtain ⟨p, h1, h2⟩ := hR.kn b' c hc
    rw [roAt_get]
    split
    · refine ⟨_, by rw [h1]; rfl, ?_⟩
      cases p <;> simp_all [Perm.own]
    · exact ⟨p, h1, h2⟩
  · by_cases e : g = g'
    · subst e
      rw [List.getElem?_set_self hgl] at hx; cases hx
      rw [hb] at hr; cases hr
      obtain ⟨vals, p, h1, h2, h3⟩ := hR.ob g _ _ hg hb
      refine ⟨vals, _, by rw [roAt_get, if_pos rfl, h1]; rfl, ?_, h3⟩
      unfold permOk at h2 ⊢
      cases rw <;> cases p <;> simp_all [Perm.own]
    · rw [List.getElem?_set_ne e] at hx
      refine (hR.ob g' x r hx hr).keep (fun b' hb' => ?_) (.refl _ _ _)
      rw [roAt_get, if_neg]
      intro e2; subst e2
      exact e (hR.inj g g' _ _ _ hb hr rfl hb')
def vdraw (P : Program) (prim : CallF) (own : List Tmp) (ops : Array Oper) (Q : Ev → Hp → Prop) (e : Ev) (H : Hp) : Prop := ∃ p, plan ops = some p ∧ ((earlyL ops p.1 p.2 = [] ∧
  vwo P prim own true ops ((p.1.take p.2).map (ops.getD · default)) (vwo P prim own false ops ((p.1.drop p.2).map (ops.getD · default)) Q) e H) ∨
  ∃ j t g o cells rw, earlyL ops p.1 p.2 = [j] ∧ plainLoad ops (ops.getD j default) = some t ∧ e t = .ptr g o ∧ H[g]? = some (.mem cells rw) ∧
  vwo P prim own true ops ((p.1.take p.2).map (ops.getD · default)) (vwo P prim own false ops ((p.1.drop p.2).map (ops.getD · default)) Q) e (H.set g (.mem cells false)))
def SemX (n : Nat) (K : Kn) (φ : List Rz) (Q : Ex → Ev → Hp → Prop) : Ex → Env → Heap → Prop := fun x => Sem n K φ (Q x)
def SemW (P : Program) (prim : CallF) (c : Code) (Q : Ex → Ev → Hp → Prop) (e : Ev) (H : Hp) : Prop := ∀ K φ σ ea, Rel K φ H σ → EvR K φ e ea → W P prim c (SemX φ.length K φ Q) ea σ
def vw (P : Program) (prim : CallF) (own : List Tmp) : Code → (Ex → Ev → Hp → Prop) → Ev → Hp → Prop
  | .skip, Q, e, H => Q .normal e H
  | .label _, Q, e, H => Q .normal e H
  | .exit id, Q, e, H => Q (.exit id) e H
  | .ret, Q, e, H => Q .ret e H
  | .region _ ops draw, Q, e, H => if draw then vdraw P prim own ops (Q .normal) e H else vwo P prim own false ops ops.toList (Q .normal) e H
  | .seq a b, Q, e, H => vw P prim own a (ThenV (vw P prim own b Q) Q) e H
  | .cond x a b, Q, e, H => @CondV (vev e x) ⟨vw P prim own a Q e H, vw P prim own b Q e H⟩
  | .block id a, Q, e, H => vw P prim own a (BlkV id Q) e H
  | .loop a, Q, e, H => SemW P prim (.loop a) Q e H
  | .scope a, Q, e, H => vw P prim own a Q e H
  | _, _, _, _ => False
theorem vw_sound (hC : ∀ n, CallOk P (acall P prim n)) : ∀ (c : Code) {Q : Ex → Ev → Hp → Prop} {e : Ev} {H : Hp}, vw P prim own c Q e H → SemW P prim c Q e H
  | .skip, Q, e, H, h => fun K φ σ ea hR hE => w_skip ⟨K, φ, e, H, .refl _ _ _, hR, hE, h⟩
  | .label _, Q, e, H, h => fun K φ σ ea hR hE => w_label ⟨K, φ, e, H, .refl _ _ _, hR, hE, h⟩
  | .exit _, Q, e, H, h => fun K φ σ ea hR hE => w_exit ⟨K, φ, e, H, .refl _ _ _, hR, hE, h⟩
  | .ret, Q, e, H, h => fun K φ σ ea hR hE => w_ret ⟨K, φ, e, H, .refl _ _ _, hR, hE, h⟩
  | .region id ops draw, Q, e, H, h => fun K φ σ ea hR hE => by
    unfold vw at h
    cases draw with
    | false => exact w_region (vwo_sound hC _ h hR hE)
    | true =>
      obtain ⟨⟨ord, q⟩, hp, h⟩ := h
      rcases h with ⟨he, h⟩ | ⟨j, t, g, o, cells, rw, he, hpl, het, hg, h⟩
      · refine w_draw hp he (wo_mono (vwo_sound hC _ h hR hE) fun ea1 σ1 ⟨K1, φ1, e1, H1, h1, h2, h3, h4⟩ => ?_)
        exact wo_mono (vwo_sound hC _ h4 h2 h3) fun _ _ hs => hs.on h1 (Nat.le_refl _)
      · have hEt := hE t
        rw [het] at hEt
        obtain ⟨b, hb, hv⟩ := hEt
        refine w_drawE hp ?_
        have hro : roEarly ops ea [j] σ = roAt σ b := by simp only [roEarly, List.foldl, hpl, hv]
        rw [he, hro]
        refine wo_mono (vwo_sound hC _ h (hR.roE hg hb) hE) fun ea1 σ1 ⟨K1, φ1, e1, H1, h1, h2, h3, h4⟩ => ?_
        exact wo_mono (vwo_sound hC _ h4 h2 h3) fun _ _ hs => hs.on h1 (Nat.le_refl _)
  | .seq a b, Q, e, H, h => fun K φ σ ea hR hE => by
    refine w_seq ((vw_sound hC a h K φ σ ea hR hE).mono fun x ea1 σ1 hs => ?_)
    cases x with
    | normal =>
      obtain ⟨K1, φ1, e1, H1, h1, h2, h3, h4⟩ := hs
      exact (vw_sound hC b h4 K1 φ1 σ1 ea1 h2 h3).mono fun x _ _ hs => hs.on h1 (Nat.le_refl _)
    | exit i => exact hs
    | ret => exact hs
  | .cond x a b, Q, e, H, h => fun K φ σ ea hR hE => by
    have hx := vev_sound hR hE x
    have h : @CondV (vev e x) ⟨vw P prim own a Q e H, vw P prim own b Q e H⟩ := h
    unfold CondV at h
    split at h
    · rename_i t ht
      rw [ht] at hx
      exact w_cond hx.1 (fun e1 => vw_sound hC a (h.1 e1) K φ σ ea hR hE) (fun e1 => vw_sound hC b (h.2 e1) K φ σ ea hR hE)
    · exact h.elim
  | .block id a, Q, e, H, h => fun K φ σ ea hR hE => by
    refine w_block ((vw_sound hC a h K φ σ ea hR hE).mono fun x ea1 σ1 hs => ?_)
    cases x with
    | normal => exact hs
    | ret => exact hs
    | exit i =>
      obtain ⟨K1, φ1, e1, H1, h1, h2, h3, h4⟩ := hs
      have h4 : if i = id then Q .normal e1 H1 else Q (.exit i) e1 H1 := h4
      show if i = id then SemX φ.length K φ Q .normal ea1 σ1 else SemX φ.length K φ Q (.exit i) ea1 σ1
      by_cases hi : i = id
      · rw [if_pos hi] at h4 ⊢; exact ⟨K1, φ1, e1, H1, h1, h2, h3, h4⟩
      · rw [if_neg hi] at h4 ⊢; exact ⟨K1, φ1, e1, H1, h1, h2, h3, h4⟩
  | .loop a, Q, e, H, h => h
  | .scope a, Q, e, H, h => fun K φ σ ea hR hE => w_scope (vw_sound hC a h K φ σ ea hR hE)
  | .rangeFunc _ _ _ _, _, _, _, h => h.elim
  | .goto _, _, _, _, h => h.elim
  | .refuse _, _, _, _, h => h.elim
/-- After steps that the program does not see. -/
def G (n : Nat) (Q : Ev → Hp → Prop) (e : Ev) (H : Hp) : Prop := ∀ K φ σ ea, Rel K φ H σ → EvR K φ e ea → Sem n K φ Q ea σ
theorem G.refl {n : Nat} {Q : Ev → Hp → Prop} (h : Q e H) : G n Q e H := fun K φ σ ea hR hE => ⟨K, φ, e, H, .refl _ _ _, hR, hE, h⟩
/-- What holds of a round's end, where simp does not look. -/
class KQ where run : Ev → Hp → Prop
def GH (n : Nat) (e : Ev) (H : Hp) [k : KQ] : Prop := G n k.run e H
theorem GH.of {n : Nat} {k : KQ} (h : G n k.run e H) : GH n e H := h
theorem GH.refl {n : Nat} {k : KQ} (h : k.run e H) : GH n e H := G.refl h
/-- A loop's first round. -/
theorem v_once (hC : ∀ n, CallOk P (acall P prim n)) {c : Code} {Q : Ex → Ev → Hp → Prop} (h : vw P prim own c (ThenV (vw P prim own (.loop c) Q) Q) e H) : vw P prim own (.loop c) Q e H := by
  intro K φ σ ea hR hE
  refine AM.w_once ((vw_sound hC c h K φ σ ea hR hE).mono fun x ea1 σ1 hs => ?_)
  cases x with
  | normal =>
    obtain ⟨K1, φ1, e1, H1, h1, h2, h3, h4⟩ := hs
    exact (h4 K1 φ1 σ1 ea1 h2 h3).mono fun x _ _ hs => hs.on h1 (Nat.le_refl _)
  | exit i => exact hs
  | ret => exact hs
theorem v_loopX (hC : ∀ n, CallOk P (acall P prim n)) {X : Type} {c : Code} {Q : Ex → Ev → Hp → Prop} (I : X → Ev → Hp → Prop) (m : X → Nat) (x0 : X) (h0 : G H.length (I x0) e H)
    (hr : ∀ x e' H', I x e' H' → vw P prim own c (ThenV (fun e2 H2 => @GH H.length e2 H2 ⟨fun e3 H3 => ∃ y, I y e3 H3 ∧ m y < m x⟩) Q) e' H') : vw P prim own (.loop c) Q e H := by
  intro K φ σ ea hR hE
  have hlen : φ.length = H.length := hR.len
  refine AM.w_loopX (fun x ea σ => Sem φ.length K φ (I x) ea σ) m x0 (by rw [hlen]; exact h0 K φ σ ea hR hE) ?_
  rintro x ea1 σ1 ⟨K1, φ1, e1, H1, h1, h2, h3, h4⟩
  refine (vw_sound hC c (hr x e1 H1 h4) K1 φ1 σ1 ea1 h2 h3).mono fun y ea2 σ2 hs => ?_
  cases y with
  | normal =>
    obtain ⟨K2, φ2, e2, H2, g1, g2, g3, g4⟩ := hs
    obtain ⟨K3, φ3, e3, H3, f1, f2, f3, z, f4, f5⟩ := g4 K2 φ2 σ2 ea2 g2 g3
    have hl1 := h1.le_len (Nat.le_refl _)
    have hl2 := g1.le_len (Nat.le_refl _)
    rw [← hlen] at f1
    exact ⟨z, ⟨K3, φ3, e3, H3, (h1.trans g1 hl1).trans f1 (Nat.le_refl _), f2, f3, f4⟩, f5⟩
  | exit i => exact Sem.on h1 (Nat.le_refl _) hs
  | ret => exact Sem.on h1 (Nat.le_refl _) hs
/-- What a function answers, after steps that the program does not see. -/
def GV (n : Nat) (R : V → Hp → Prop) (v : V) (H : Hp) : Prop := ∀ K φ σ a, Rel K φ H σ → VR K v φ a → ∃ K' φ' v' H', Post n K φ K' φ' ∧ Rel K' φ' H' σ ∧ VR K' v' φ' a ∧ R v' H'
theorem GV.refl {n : Nat} {R : V → Hp → Prop} (h : R v H) : GV n R v H := fun K φ σ a hR hv => ⟨K, φ, v, H, .refl _ _ _, hR, hv, h⟩
/-- The same, where simp does not look at what is claimed. -/
def GVH (n : Nat) (v : V) (H : Hp) [k : KVV] : Prop := GV n k.run v H
def vresult (P : Program) (e : Ev) (H : Hp) : ResultVar → Option V
  | .tmp t => some (e t)
  | .cell a t => vLoad P t H (e a)
def vresultL (P : Program) (e : Ev) (H : Hp) : List ResultVar → Option (List V)
  | [] => some []
  | r :: rs => match vresult P e H r, vresultL P e H rs with
    | some v, some vs => some (v :: vs)
    | _, _ => none
def vresults (P : Program) (rs : List ResultVar) (e : Ev) (H : Hp) : Option V := match rs with
  | [r] => vresult P e H r
  | rs => (vresultL P e H rs).map .tup
theorem vresult_sound {r : ResultVar} (hR : Rel K φ H σ) (hE : EvR K φ e ea) (h : vresult P e H r = some v) : ∃ a, resultOf P ea σ r = some a ∧ VR K v φ a := by
  cases r with
  | tmp t => cases h; exact ⟨_, rfl, hE t⟩
  | cell c t =>
    obtain ⟨b, o, y, e1, e2, e3⟩ := vLoad_sound hR h (hE c)
    exact ⟨y, by show (match ea c with | .pointer (some p) => loadV P t σ p | _ => none) = some y; rw [e1]; exact e2, e3⟩
theorem vresultL_sound (hR : Rel K φ H σ) (hE : EvR K φ e ea) : ∀ {rs : List ResultVar} {vs : List V}, vresultL P e H rs = some vs → ∃ as, rs.mapM (resultOf P ea σ) = some as ∧ VRs K vs φ as
  | [], vs, h => by cases h; exact ⟨[], rfl, rfl⟩
  | r :: rs, vs, h => by
    unfold vresultL at h
    split at h
    · rename_i v vs' h1 h2
      cases h
      obtain ⟨a, e1, e2⟩ := vresult_sound hR hE h1
      obtain ⟨as, e3, e4⟩ := vresultL_sound hR hE h2
      exact ⟨a :: as, by rw [List.mapM_cons, e1, e3]; rfl, a, as, rfl, e2, e4⟩
    · cases h
theorem vresults_sound {rs : List ResultVar} (hR : Rel K φ H σ) (hE : EvR K φ e ea) (h : vresults P rs e H = some v) : ∃ a, resultsOf P rs ea σ = some a ∧ VR K v φ a := by
  unfold vresults at h
  unfold resultsOf
  split at h
  · exact vresult_sound hR hE h
  · rename_i hne
    cases hl : vresultL P e H rs with
    | none => rw [hl] at h; cases h
    | some vs =>
      rw [hl] at h; cases h
      obtain ⟨as, e1, e2⟩ := vresultL_sound hR hE hl
      split
      · exact absurd rfl (hne _)
      · rw [e1]; exact ⟨_, rfl, _, rfl, by simpa using e2⟩
def BodyV (P : Program) (fn : Func) (n : Nat) [k : KVV] : Ex → Ev → Hp → Prop
  | .exit _, _, _ => False
  | _, e, H => ∃ v, vresults P fn.results.toList e H = some v ∧ @GVH n v H k
/-- Objects name objects. -/
def Ob.bel (n : Nat) : Ob → Prop
  | .mem cells _ => Bels n cells
  | .vec _ rows s _ _ => (∀ r ∈ rows, Bels n r) ∧ RowsOk s rows
  | .fro _ _ _ => True
def Cl (H : Hp) : Prop := ∀ o ∈ H, o.bel H.length
theorem Rel.cl (hR : Rel K φ H σ) : Cl H := by
  intro o ho
  obtain ⟨g, hg⟩ := List.getElem?_of_mem ho
  have hl : g < φ.length := by rw [hR.len]; exact get_lt hg
  have hob := hR.ob g o _ hg (List.getElem?_eq_getElem hl)
  rw [← hR.len]
  cases o with
  | mem cells rw =>
    revert hob
    cases φ[g] with
    | mem b => rintro ⟨vals, p, _, _, h⟩; exact h.bel
    | vec _ _ _ => exact fun h => h.elim
    | fro _ _ _ => exact fun h => h.elim
  | vec w rows s rw t =>
    revert hob
    cases φ[g] with
    | mem b => exact fun h => h.elim
    | vec _ _ _ =>
      rintro ⟨_, rfl, _, _, hok, ⟨h, _⟩ | ⟨b, c, vals, rest, p, _, _, _, _, h⟩⟩
      · exact ⟨fun r hr => by have := List.length_pos_of_mem hr; omega, hok⟩
      · exact ⟨h.bel, hok⟩
    | fro _ _ _ => exact fun h => h.elim
  | fro w rows s => trivial
theorem v_enter (hC : ∀ n, CallOk P (acall P prim n)) (own : List Tmp) {f : FuncId} {fn : Func} {c : Code} {args : List V} {R : V → Hp → Prop} (hp : ∀ as σ, prim f as σ = none) (hf : P.funcs[f]? = some fn) (hb : fn.body = some c) (hok : okFn fn = true) (hsz : args.length ≤ fn.ntmps)
    (h : Cl H → Bels H.length args → vw P prim own c (@BodyV P fn H.length ⟨R⟩) (fun i => args.getD i (.tup [])) H) : VC P prim f args H R := by
  intro K φ σ as hR ha
  have hl := ha.len
  simp only [Array.length_toList] at hl
  refine ac_enter (hp _ _) hf hb hok (by omega) ?_
  have hE : EvR K φ (fun i => args.getD i (.tup [])) (fun i => as.getD i undef) := fun t => by
    show VR K (args.getD t (.tup [])) φ (as.getD t undef)
    rw [List.getD_eq_getElem?_getD, Array.getD_eq_getD_getElem?]
    cases ht : args[t]? with
    | none =>
      have : as[t]? = none := by rw [Array.getElem?_eq_none]; rw [List.getElem?_eq_none_iff] at ht; omega
      rw [this]
      exact ⟨#[], rfl, rfl⟩
    | some v =>
      obtain ⟨a, h1, h2⟩ := ha.get ht
      have : as[t]? = some a := by simpa using h1
      rw [this]
      exact h2
  refine (vw_sound hC c (h hR.cl (by rw [← hR.len]; exact ha.bel)) K φ σ _ hR hE).mono fun x ea σ' hs => ?_
  obtain ⟨K1, φ1, e1, H1, h1, h2, h3, h4⟩ := hs
  have fin : (∃ v, vresults P fn.results.toList e1 H1 = some v ∧ @GVH H.length v H1 ⟨R⟩) → ∃ v, resultsOf P fn.results.toList ea σ' = some v ∧ ∃ K' φ' u H', Post φ.length K φ K' φ' ∧ Rel K' φ' H' σ' ∧ VR K' u φ' v ∧ R u H' := fun ⟨v, g1, g2⟩ => by
    obtain ⟨a, f1, f2⟩ := vresults_sound h2 h3 g1
    obtain ⟨K2, φ2, u, H2, k1, k2, k3, k4⟩ := g2 K1 φ1 σ' a h2 f2
    rw [← hR.len] at k1
    exact ⟨a, f1, K2, φ2, u, H2, h1.trans k1 (Nat.le_refl _), k2, k3, k4⟩
  cases x with
  | exit i => exact h4.elim
  | normal => exact fin h4
  | ret => exact fin h4
theorem VC.known {f : FuncId} {R : V → Hp → Prop} {y : Value} (hp : ∀ σ, prim f #[] σ = some (y, σ)) (hs : scalarB y = true) (h : R (.lit y) H) : VC P prim f [] H R := by
  intro K φ σ as hR ha
  have has : as = #[] := by simp only [VRs] at ha; exact Array.toList_eq_nil_iff.1 ha
  subst has
  exact ac_prim (hp σ) ⟨K, φ, .lit y, H, .refl _ _ _, hR, ⟨rfl, hs⟩, h⟩
theorem VC.mono {f : FuncId} {args : List V} {R R' : V → Hp → Prop} (h : VC P prim f args H R) (hr : ∀ v H', R v H' → R' v H') : VC P prim f args H R' := fun K φ σ as hR ha =>
  (h K φ σ as hR ha).mono fun a σ' ⟨K', φ', v, H', h1, h2, h3, h4⟩ => ⟨K', φ', v, H', h1, h2, h3, hr _ _ h4⟩
end
end Go.Proofs.Ytibejcomfjddfaa.VM
end
section
set_option maxHeartbeats 8000000
set_option linter.unusedVariables false
set_option linter.unusedSimpArgs false

/- The machine of values: objects are frozen, dropped, kept. -/
namespace Go.Proofs.Ytibejcomfjddfaa.VM
open Go AM
section
variable {P : Program} {prim : CallF} {K K' : Kn} {φ φ' : List Rz} {H H' H1 : Hp} {σ σ' : Heap} {v x y : V} {a b : Value} {n : Nat} {L E : List Nat} {e e' : Ev} {ea : Env}

mutual
/-- From the second to the first value, where the objects below n stay, those of L are kept behind them, behind those new empty rows (E: their sizes), and all others are frozen. -/
def Up (n : Nat) (L E : List Nat) (H1 : Hp) : V → V → Prop
  | .fsl k s rows, u => (∃ k0, u = .fsl k0 s rows ∧ (k = true → k0 = true)) ∨ (u = .lit (.slice none 0 0) ∧ rows.length = 0 ∧ s < 4294967296) ∨
      (∀ r ∈ rows, pureVs r = true) ∧ ∃ g w rows0, u = .own g w ∧ ((∃ rw t, H1[g]? = some (.vec w rows0 s rw t) ∧ n ≤ g ∧ g ∉ L ∧ UpR n L E H1 rows rows0) ∨ (H1[g]? = some (.fro w rows0 s) ∧ rows = rows0))
  | .fptr cs, u => u = .fptr cs ∨ (pureVs cs = true ∧ ∃ g o cells rw, u = .ptr g o ∧ H1[g]? = some (.mem cells rw) ∧ n ≤ g ∧ g ∉ L ∧ o ≤ cells.length ∧ Ups n L E H1 cs (cells.drop o))
  | .own g w, u => (g < n ∧ u = .own g w) ∨ (∃ g0, u = .own g0 w ∧ n ≤ g ∧ L[g - n]? = some g0) ∨ (n + L.length ≤ g ∧ g < n + L.length + E.length ∧ w = 0 ∧ u = .lit (.slice none 0 0))
  | .ptr g o, u => (g < n ∧ u = .ptr g o) ∨ (∃ g0, u = .ptr g0 o ∧ n ≤ g ∧ L[g - n]? = some g0)
  | .elt g w k o, u => (g < n ∧ u = .elt g w k o) ∨ (∃ g0, u = .elt g0 w k o ∧ n ≤ g ∧ L[g - n]? = some g0)
  | .lit v, u => u = .lit v
  | .junk, _ => True
  | .fn f fi cp, u => ∃ fi0 cp0, u = .fn f fi0 cp0 ∧ Ups n L E H1 fi fi0 ∧ Ups n L E H1 cp cp0
  | .ifc t v, u => ∃ v0, u = .ifc t v0 ∧ Up n L E H1 v v0
  | .agg cs, u => ∃ cs0, u = .agg cs0 ∧ Ups n L E H1 cs cs0
  | .tup cs, u => ∃ cs0, u = .tup cs0 ∧ Ups n L E H1 cs cs0
def Ups (n : Nat) (L E : List Nat) (H1 : Hp) : List V → List V → Prop
  | [], us => us = []
  | v :: vs, us => ∃ u us', us = u :: us' ∧ Up n L E H1 v u ∧ Ups n L E H1 vs us'
def UpR (n : Nat) (L E : List Nat) (H1 : Hp) : List (List V) → List (List V) → Prop
  | [], us => us = []
  | v :: vs, us => ∃ u us', us = u :: us' ∧ Ups n L E H1 v u ∧ UpR n L E H1 vs us'
end
def UpO (n : Nat) (L E : List Nat) (H1 : Hp) : Ob → Ob → Prop
  | .mem cells rw, .mem cells0 rw0 => rw = rw0 ∧ Ups n L E H1 cells cells0
  | .vec w rows s rw t, .vec w0 rows0 s0 rw0 t0 => w = w0 ∧ s = s0 ∧ rw = rw0 ∧ t = t0 ∧ RowsOk s rows ∧ UpR n L E H1 rows rows0
  | .fro w rows s, .fro w0 rows0 s0 => w = w0 ∧ s = s0 ∧ rows = rows0
  | _, _ => False
mutual
theorem Up.self : ∀ {v : V}, Bel n v → Up n L E H1 v v
  | .lit _, _ => rfl
  | .fsl k _ _, _ => .inl ⟨k, rfl, id⟩
  | .fptr _, _ => .inl rfl
  | .ptr _ _, h => .inl ⟨h, rfl⟩
  | .own _ _, h => .inl ⟨h, rfl⟩
  | .elt _ _ _ _, h => .inl ⟨h, rfl⟩
  | .junk, _ => trivial
  | .fn f fi cp, h => ⟨fi, cp, rfl, Ups.self h.1, Ups.self h.2⟩
  | .ifc t v, h => ⟨v, rfl, Up.self (v := v) h⟩
  | .agg cs, h => ⟨cs, rfl, Ups.self (v := cs) h⟩
  | .tup cs, h => ⟨cs, rfl, Ups.self (v := cs) h⟩
theorem Ups.self : ∀ {v : List V}, Bels n v → Ups n L E H1 v v
  | [], _ => rfl
  | v :: vs, h => ⟨v, vs, rfl, Up.self h.1, Ups.self h.2⟩
end
mutual
theorem pure_bel : ∀ {v : V}, pureV v = true → Bel n v
  | .lit _, _ => trivial
  | .fsl _ _ _, _ => trivial
  | .fptr _, _ => trivial
  | .ptr _ _, h => by cases h
  | .own _ _, h => by cases h
  | .elt _ _ _ _, h => by cases h
  | .junk, _ => trivial
  | .fn f fi cp, h => by
    simp only [pureV, Bool.and_eq_true] at h
    exact ⟨pures_bel h.1, pures_bel h.2⟩
  | .ifc t v, h => pure_bel (v := v) h
  | .agg cs, h => pures_bel (v := cs) h
  | .tup cs, h => pures_bel (v := cs) h
theorem pures_bel : ∀ {v : List V}, pureVs v = true → Bels n v
  | [], _ => trivial
  | v :: vs, h => by
    simp only [pureVs, Bool.and_eq_true] at h
    exact ⟨pure_bel h.1, pures_bel h.2⟩
end
theorem UpR.self : ∀ {v : List (List V)}, (∀ r ∈ v, pureVs r = true) → UpR n L E H1 v v
  | [], _ => rfl
  | v :: vs, h => ⟨v, vs, rfl, Ups.self (pures_bel (h v (by simp))), UpR.self fun r hr => h r (by simp [hr])⟩
theorem UpR.selfB : ∀ {v : List (List V)}, (∀ r ∈ v, Bels n r) → UpR n L E H1 v v
  | [], _ => rfl
  | v :: vs, h => ⟨v, vs, rfl, Ups.self (h v (by simp)), UpR.selfB fun r hr => h r (by simp [hr])⟩
/-- What the objects are afterwards. -/
def phi2 (n : Nat) (L E : List Nat) (φ : List Rz) : List Rz := φ.take n ++ L.map (fun g => φ.getD g (.mem 0)) ++ E.map (fun s => .vec (.slice none 0 0) 0 s)
/-- What is frozen afterwards. -/
noncomputable def kn2 (n : Nat) (L : List Nat) (K : Kn) (φ : List Rz) (σ : Heap) : Kn := fun b =>
  open Classical in if ∃ g r, φ[g]? = some r ∧ n ≤ g ∧ g ∉ L ∧ r.blk = some b then (match σ[b]? with | some x => if x.perm = .dead then none else some x.cells | none => none) else K b
theorem phi2_lt (hn : n ≤ φ.length) {g : Nat} (hg : g < n) : (phi2 n L E φ)[g]? = φ[g]? := by
  unfold phi2
  rw [List.append_assoc, List.getElem?_append_left (by simp; omega), List.getElem?_take, if_pos hg]
theorem phi2_keep (hn : n ≤ φ.length) {g g0 : Nat} {r : Rz} (hg : n ≤ g) (h : L[g - n]? = some g0) (hr : φ[g0]? = some r) : (phi2 n L E φ)[g]? = some r := by
  unfold phi2
  have hl := get_lt h
  have ht : (φ.take n).length = n := by simp; omega
  rw [List.append_assoc, List.getElem?_append_right (by omega), List.getElem?_append_left (by simp; omega), ht, List.getElem?_map, h]
  simp [List.getD_eq_getElem?_getD, hr]
theorem phi2_new (hn : n ≤ φ.length) {g s : Nat} (hg : n + L.length ≤ g) (h : E[g - (n + L.length)]? = some s) : (phi2 n L E φ)[g]? = some (.vec (.slice none 0 0) 0 s) := by
  unfold phi2
  rw [List.getElem?_append_right (by simp; omega), List.getElem?_map]
  have : g - (List.take n φ ++ List.map (fun g => φ.getD g (Rz.mem 0)) L).length = g - (n + L.length) := by simp; omega
  rw [this, h]; rfl
theorem phi2_len (hn : n ≤ φ.length) : (phi2 n L E φ).length = n + L.length + E.length := by unfold phi2; simp; omega
/-- Where an object afterwards comes from. -/
theorem phi2_get (hn : n ≤ φ.length) (hL : ∀ g ∈ L, n ≤ g ∧ g < φ.length) {g : Nat} {r : Rz} (h : (phi2 n L E φ)[g]? = some r) :
    (g < n ∧ φ[g]? = some r) ∨ (n ≤ g ∧ ∃ g0, L[g - n]? = some g0 ∧ φ[g0]? = some r) ∨ (n + L.length ≤ g ∧ ∃ s, E[g - (n + L.length)]? = some s ∧ r = .vec (.slice none 0 0) 0 s) := by
  by_cases h1 : g < n
  · rw [phi2_lt hn h1] at h; exact .inl ⟨h1, h⟩
  · by_cases h2 : g - n < L.length
    · obtain ⟨g0, hg0⟩ : ∃ g0, L[g - n]? = some g0 := ⟨_, List.getElem?_eq_getElem h2⟩
      have := hL g0 (List.mem_of_getElem? hg0)
      obtain ⟨r0, hr0⟩ : ∃ r0, φ[g0]? = some r0 := ⟨_, List.getElem?_eq_getElem this.2⟩
      rw [phi2_keep hn (by omega) hg0 hr0] at h
      cases h
      exact .inr (.inl ⟨by omega, g0, hg0, hr0⟩)
    · have hl := get_lt h
      rw [phi2_len hn] at hl
      obtain ⟨s, hs⟩ : ∃ s, E[g - (n + L.length)]? = some s := ⟨_, List.getElem?_eq_getElem (by omega)⟩
      rw [phi2_new hn (by omega) hs] at h
      cases h
      exact .inr (.inr ⟨by omega, s, hs, rfl⟩)
theorem kn2_le (hR : Rel K φ H1 σ) {b : Nat} {c : List Value} (h : K b = some c) : kn2 n L K φ σ b = some c := by
  unfold kn2
  split
  · rename_i hx
    obtain ⟨g, r, h1, _, _, h2⟩ := hx
    rw [hR.apart g r b h1 h2] at h; cases h
  · exact h
theorem kn2_drop (hR : Rel K φ H1 σ) {g b : Nat} {r : Rz} {x : Blk} (hr : φ[g]? = some r) (hg : n ≤ g) (hL : g ∉ L) (hb : r.blk = some b) (hx : σ[b]? = some x) (hp : x.perm ≠ .dead) : kn2 n L K φ σ b = some x.cells := by
  unfold kn2
  rw [if_pos ⟨g, r, hr, hg, hL, hb⟩, hx]
  simp [hp]
theorem permOk_alive {rw : Bool} {p : Perm} (h : permOk rw p) : p ≠ .dead := by
  unfold permOk at h
  cases rw <;> simp_all
set_option linter.unusedSectionVars false
variable (hR : Rel K φ H1 σ) (hn : n ≤ φ.length) (hL : ∀ g ∈ L, n ≤ g ∧ g < φ.length) (hE : ∀ s ∈ E, 0 < s ∧ s ≤ 1048576)
include hR hn hL hE
mutual
theorem Up.sound : ∀ {v u : V} {a : Value}, Up n L E H1 v u → VR K u φ a → VR (kn2 n L K φ σ) v (phi2 n L E φ) a
  | .lit v, u, a, h, hv => by simp only [Up] at h; subst h; exact hv
  | .junk, _, _, _, _ => trivial
  | .fsl k s rows, u, a, h, hv => by
    have hpost : Post 0 K φ (kn2 n L K φ σ) (phi2 n L E φ) := ⟨fun b c h => kn2_le hR h, fun g r hg => by omega⟩
    simp only [Up] at h
    rcases h with ⟨k0, h, hkk⟩ | ⟨h, h0, h1⟩ | ⟨hpu, g, w, rows0, h, hq⟩
    · subst h
      have hv2 : VR (kn2 n L K φ σ) (.fsl k0 s rows) (phi2 n L E φ) a := hv.mono hpost trivial
      obtain ⟨A, c, v1, v2, v3, v4⟩ := hv2
      exact ⟨A, c, v1, v2, fun h => v3 (hkk h), v4⟩
    · subst h
      obtain ⟨rfl, _⟩ := hv
      refine ⟨none, 0, by rw [h0], fun _ => rfl, (fun _ => by simp [AM.dng]), ?_, h1, .inl ⟨h0, rfl⟩⟩
      rw [h0]; unfold capOK; rw [capOf_exact_eq (by decide)]; exact Nat.le_refl _
    · subst h
      obtain ⟨r, val, w', s', g1, g2, g3, g4, _⟩ := hv
      rcases hq with ⟨rw, t, h1, h2, h3, h4⟩ | ⟨h1, h2⟩
      · have hob := hR.ob g _ r h1 g1
        cases r with
        | mem _ => exact hob.elim
        | fro _ _ _ => exact hob.elim
        | vec val1 w1 s1 =>
          cases g2
          obtain ⟨f1, f2, f3, f4, f5, f6⟩ := hob
          subst f1; subst f2
          rw [g4 rfl]
          rcases f6 with ⟨f6, f7⟩ | ⟨b, c, vals, rest, p, f6, f7, f8, f9, f10⟩
          · have e0 : rows0 = [] := List.eq_nil_of_length_eq_zero f6
            subst e0
            have : rows = [] := by
              cases rows with
              | nil => rfl
              | cons r rs => simp only [UpR] at h4; obtain ⟨_, _, e, _⟩ := h4; cases e
            subst this
            have hcap : capOK 0 s 0 := by unfold capOK; rw [capOf_exact_eq (by decide)]; exact Nat.le_refl _
            rcases f7 with f7 | ⟨b, o, cells, f7, f8, f9⟩
            · subst f7; exact ⟨none, 0, rfl, fun _ => rfl, (fun _ => by simp [AM.dng]), hcap, by omega, .inl ⟨rfl, rfl⟩⟩
            · subst f7; exact ⟨_, 0, rfl, (fun e => by cases e), (fun _ => by simp [AM.dng]), hcap, by omega, .inr ⟨b, o, cells, rfl, kn2_le hR f8, by simpa using f9, by simp [RowsR]⟩⟩
          · obtain ⟨hrows, hl⟩ := UpR.sound h4 f10
            have hpr := hrows.pure hpu
            have hvl := hrows.len
            have hk := kn2_drop (L := L) hR g1 h2 h3 (vec_blk f6 f7) f8 (permOk_alive f9)
            subst f6
            refine ⟨_, c, by rw [hl], (fun e => by cases e), (fun _ => f7.dng), ?_, by omega, .inr ⟨b, 0, _, rfl, hk, ?_, ?_⟩⟩
            · rw [hl]; exact f7.ok
            · simp; omega
            · rw [List.drop_zero, ← hvl, List.take_left]
              exact hpr
      · subst h2
        have hob := hR.ob g _ r h1 g1
        cases r with
        | mem _ => exact hob.elim
        | vec _ _ _ => exact hob.elim
        | fro val1 w1 s1 =>
          cases g2
          obtain ⟨f1, f2, f3⟩ := hob
          subst f1; subst f2
          rw [g4 rfl]
          have hv2 : VR (kn2 n L K φ σ) (.fsl true s rows) (phi2 n L E φ) val := f3.monoN (n := 0) ⟨hpost.kn, fun g r hg => by omega⟩
          obtain ⟨A, c, v1, v2, v3, v4⟩ := hv2
          exact ⟨A, c, v1, v2, fun _ => v3 rfl, v4⟩
  | .fptr cs, u, a, h, hv => by
    have hpost : Post 0 K φ (kn2 n L K φ σ) (phi2 n L E φ) := ⟨fun b c h => kn2_le hR h, fun g r hg => by omega⟩
    simp only [Up] at h
    rcases h with h | ⟨hpu, g, o, cells, rw, h, h1, h2, h3, h4, h5⟩
    · subst h; exact hv.mono hpost trivial
    · subst h
      obtain ⟨b, g1, g2⟩ := hv
      obtain ⟨vals, p, f1, f2, f3⟩ := hR.ob g _ _ h1 g1
      have hs := Ups.sound h5 (f3.drop o)
      have hk := kn2_drop (L := L) hR g1 h2 h3 rfl f1 (permOk_alive f2)
      have hl := hs.len
      rw [List.length_drop] at hl
      have hl2 := f3.len
      refine ⟨b, o, _, g2, hk, by simp only; omega, ?_⟩
      simp only
      rw [← hl, ← List.length_drop, List.take_length]
      exact hs.pure hpu
  | .own g w, u, a, h, hv => by
    simp only [Up] at h
    rcases h with ⟨h1, h2⟩ | ⟨g0, h1, h2, h3⟩ | ⟨h1, h2, h3, h4⟩
    · subst h2
      obtain ⟨r, val, w', s', g1, g2⟩ := hv
      exact ⟨r, val, w', s', by rw [phi2_lt hn h1]; exact g1, g2⟩
    · subst h1
      obtain ⟨r, val, w', s', g1, g2⟩ := hv
      exact ⟨r, val, w', s', phi2_keep hn h2 h3 g1, g2⟩
    · subst h3; subst h4
      obtain ⟨rfl, _⟩ := hv
      obtain ⟨s, hs⟩ : ∃ s, E[g - (n + L.length)]? = some s := ⟨_, List.getElem?_eq_getElem (by omega)⟩
      exact ⟨_, _, 0, s, phi2_new hn h1 hs, rfl, Nat.le_refl _, fun _ => rfl, _, _, _, rfl⟩
  | .ptr g o, u, a, h, hv => by
    simp only [Up] at h
    rcases h with ⟨h1, h2⟩ | ⟨g0, h1, h2, h3⟩
    · subst h2
      obtain ⟨b, g1, g2⟩ := hv
      exact ⟨b, by rw [phi2_lt hn h1]; exact g1, g2⟩
    · subst h1
      obtain ⟨b, g1, g2⟩ := hv
      exact ⟨b, phi2_keep hn h2 h3 g1, g2⟩
  | .elt g w k o, u, a, h, hv => by
    simp only [Up] at h
    rcases h with ⟨h1, h2⟩ | ⟨g0, h1, h2, h3⟩
    · subst h2
      obtain ⟨r, val, w', s', g1, g2⟩ := hv
      exact ⟨r, val, w', s', by rw [phi2_lt hn h1]; exact g1, g2⟩
    · subst h1
      obtain ⟨r, val, w', s', g1, g2⟩ := hv
      exact ⟨r, val, w', s', phi2_keep hn h2 h3 g1, g2⟩
  | .fn f fi cp, u, a, h, hv => by
    simp only [Up] at h
    obtain ⟨fi0, cp0, rfl, h1, h2⟩ := h
    obtain ⟨fa, ca, e1, e2, e3⟩ := hv
    exact ⟨fa, ca, e1, Ups.sound h1 e2, Ups.sound h2 e3⟩
  | .ifc t v, u, a, h, hv => by
    simp only [Up] at h
    obtain ⟨v0, rfl, h1⟩ := h
    obtain ⟨x, e1, e2⟩ := hv
    exact ⟨x, e1, Up.sound h1 e2⟩
  | .agg cs, u, a, h, hv => by
    simp only [Up] at h
    obtain ⟨v0, rfl, h1⟩ := h
    obtain ⟨x, e1, e2⟩ := hv
    exact ⟨x, e1, Ups.sound h1 e2⟩
  | .tup cs, u, a, h, hv => by
    simp only [Up] at h
    obtain ⟨v0, rfl, h1⟩ := h
    obtain ⟨x, e1, e2⟩ := hv
    exact ⟨x, e1, Ups.sound h1 e2⟩
theorem Ups.sound : ∀ {v u : List V} {a : List Value}, Ups n L E H1 v u → VRs K u φ a → VRs (kn2 n L K φ σ) v (phi2 n L E φ) a
  | [], u, a, h, hv => by simp only [Ups] at h; subst h; exact hv
  | v :: vs, u, a, h, hv => by
    simp only [Ups] at h
    obtain ⟨u0, us, rfl, h1, h2⟩ := h
    obtain ⟨a0, as, e1, e2, e3⟩ := hv
    exact ⟨a0, as, e1, Up.sound h1 e2, Ups.sound h2 e3⟩
theorem UpR.sound : ∀ {s : Nat} {v u : List (List V)} {a : List Value}, UpR n L E H1 v u → RowsR K s u φ a → RowsR (kn2 n L K φ σ) s v (phi2 n L E φ) a ∧ v.length = u.length
  | s, [], u, a, h, hv => by simp only [UpR] at h; subst h; exact ⟨hv, rfl⟩
  | s, v :: vs, u, a, h, hv => by
    simp only [UpR] at h
    obtain ⟨u0, us, rfl, h1, h2⟩ := h
    obtain ⟨a0, as, e1, e2, e3, e4⟩ := hv
    obtain ⟨f1, f2⟩ := UpR.sound h2 e4
    have h3 := Ups.sound h1 e3
    have l1 := h3.len
    have l2 := e3.len
    exact ⟨⟨a0, as, e1, by omega, h3, f1⟩, by simp [f2]⟩
end
end
end Go.Proofs.Ytibejcomfjddfaa.VM
end
section
set_option maxHeartbeats 8000000
set_option linter.unusedVariables false
set_option linter.unusedSimpArgs false

/- The machine of values: the end of functions and of rounds. -/
namespace Go.Proofs.Ytibejcomfjddfaa.VM
open Go AM
section
variable {P : Program} {prim : CallF} {K K' : Kn} {φ φ' : List Rz} {H H' H1 : Hp} {σ σ' : Heap} {v x y : V} {a b : Value} {n : Nat} {L E : List Nat} {e e' : Ev} {ea : Env}

theorem UpO.sound (hR : Rel K φ H1 σ) (hn : n ≤ φ.length) (hL : ∀ g ∈ L, n ≤ g ∧ g < φ.length) (hE : ∀ s ∈ E, 0 < s ∧ s ≤ 1048576) {y x : Ob} {r : Rz} (h : UpO n L E H1 y x) (hob : ObR K φ σ x r) : ObR (kn2 n L K φ σ) (phi2 n L E φ) σ y r := by
  cases y with
  | mem cells rw =>
    cases x with
    | mem cells0 rw0 =>
      obtain ⟨rfl, h2⟩ := h
      cases r with
      | mem b =>
        obtain ⟨vals, p, h3, h4, h5⟩ := hob
        exact ⟨vals, p, h3, h4, Ups.sound hR hn hL hE h2 h5⟩
      | vec _ _ _ => exact hob.elim
      | fro _ _ _ => exact hob.elim
    | vec _ _ _ _ _ => exact h.elim
    | fro _ _ _ => exact h.elim
  | vec w rows s rw t =>
    cases x with
    | mem _ _ => exact h.elim
    | fro _ _ _ => exact h.elim
    | vec w0 rows0 s0 rw0 t0 =>
      obtain ⟨rfl, rfl, rfl, rfl, h1, h2⟩ := h
      cases r with
      | mem b => exact hob.elim
      | fro _ _ _ => exact hob.elim
      | vec val w' s' =>
        obtain ⟨f1, f2, f3, f4, f5, f6⟩ := hob
        refine ⟨f1, f2, f3, f4, h1, ?_⟩
        rcases f6 with ⟨f6, f7⟩ | ⟨b, c, vals, rest, p, f6, f7, f8, f9, f10⟩
        · refine .inl ⟨?_, f7.mono fun b c h => kn2_le hR h⟩
          have : rows0 = [] := List.eq_nil_of_length_eq_zero f6
          subst this
          cases rows with
          | nil => rfl
          | cons r rs => simp only [UpR] at h2; obtain ⟨_, _, e, _⟩ := h2; cases e
        · obtain ⟨g1, g2⟩ := UpR.sound hR hn hL hE h2 f10
          exact .inr ⟨b, c, vals, rest, p, by rw [g2]; exact f6, by rw [g2]; exact f7, f8, f9, g1⟩
  | fro w rows s =>
    cases x with
    | mem _ _ => exact h.elim
    | vec _ _ _ _ _ => exact h.elim
    | fro w0 rows0 s0 =>
      obtain ⟨rfl, rfl, rfl⟩ := h
      cases r with
      | mem b => exact hob.elim
      | vec _ _ _ => exact hob.elim
      | fro val w' s' =>
        obtain ⟨f1, f2, f3⟩ := hob
        exact ⟨f1, f2, f3.monoN (n := 0) ⟨fun b c h => kn2_le hR h, fun g r hg => by omega⟩⟩
theorem ghost (hR : Rel K φ H1 σ) (hn : n ≤ H1.length) (hL : ∀ g ∈ L, n ≤ g ∧ g < H1.length) (hE : ∀ s ∈ E, 0 < s ∧ s ≤ 1048576) (hnd : L.Nodup) (hlen : H'.length = n + L.length + E.length)
    (h1 : ∀ (i : Nat) x y, i < n → H1[i]? = some x → H'[i]? = some y → UpO n L E H1 y x) (h2 : ∀ (j g : Nat) x y, L[j]? = some g → H1[g]? = some x → H'[n + j]? = some y → UpO n L E H1 y x) (h3 : ∀ (j s : Nat), E[j]? = some s → H'[n + L.length + j]? = some (.vec 0 [] s true true)) :
    ∃ K' φ', Post n K φ K' φ' ∧ Rel K' φ' H' σ ∧ ∀ {v u : V} {a : Value}, Up n L E H1 v u → VR K u φ a → VR K' v φ' a := by
  have hlenR := hR.len
  rw [← hlenR] at hn hL
  refine ⟨kn2 n L K φ σ, phi2 n L E φ, ⟨fun b c h => kn2_le hR h, fun g r hg hr => ⟨r, by rw [phi2_lt hn hg]; exact hr, .refl r⟩⟩, ?_, fun {v u a} h hv => Up.sound hR hn hL hE h hv⟩
  have blkE : ∀ s : Nat, (Rz.vec (.slice none 0 0) 0 s).blk = none := fun _ => rfl
  -- which object stands behind
  have src : ∀ {g : Nat} {r : Rz} {b : Nat}, (phi2 n L E φ)[g]? = some r → r.blk = some b → ∃ g0, φ[g0]? = some r ∧ ((g < n ∧ g0 = g) ∨ (n ≤ g ∧ L[g - n]? = some g0)) := fun {g r b} hg hb => by
    rcases phi2_get hn hL hg with ⟨e1, e2⟩ | ⟨e1, g0, e2, e3⟩ | ⟨_, s, _, e3⟩
    · exact ⟨g, e2, .inl ⟨e1, rfl⟩⟩
    · exact ⟨g0, e3, .inr ⟨e1, e2⟩⟩
    · subst e3; cases hb
  refine ⟨by rw [phi2_len hn, hlen], fun b c hc => ?_, fun g y r hy hr => ?_, fun g g' r r' b hg hg' hb hb' => ?_, fun g r b hg hb => ?_, fun p hp => kn2_le hR (hR.gk p hp)⟩
  · unfold kn2 at hc
    split at hc
    · split at hc
      · rename_i x hx
        split at hc
        · cases hc
        · rename_i hp
          cases hc
          exact ⟨x.perm, hx, hp⟩
      · cases hc
    · exact hR.kn b c hc
  · rcases phi2_get hn hL hr with ⟨e1, e2⟩ | ⟨e1, g0, e2, e3⟩ | ⟨e1, s, e2, e3⟩
    · obtain ⟨x, hx⟩ : ∃ x, H1[g]? = some x := ⟨_, List.getElem?_eq_getElem (by rw [← hlenR]; exact get_lt e2)⟩
      exact UpO.sound hR hn hL hE (h1 g x y e1 hx hy) (hR.ob g x r hx e2)
    · obtain ⟨x, hx⟩ : ∃ x, H1[g0]? = some x := ⟨_, List.getElem?_eq_getElem (by rw [← hlenR]; exact get_lt e3)⟩
      exact UpO.sound hR hn hL hE (h2 (g - n) g0 x y e2 hx (by rw [Nat.add_sub_cancel' e1]; exact hy)) (hR.ob g0 x r hx e3)
    · have := h3 (g - (n + L.length)) s e2
      rw [Nat.add_sub_cancel' e1, hy] at this
      cases this
      subst e3
      obtain ⟨s1, s2⟩ := hE s (List.mem_of_getElem? e2)
      exact ⟨rfl, rfl, s1, s2, (fun r hr => by simp at hr), .inl ⟨rfl, .inl rfl⟩⟩
  · obtain ⟨g0, e1, e2⟩ := src hg hb
    obtain ⟨g0', e1', e2'⟩ := src hg' hb'
    have := hR.inj g0 g0' r r' b e1 e1' hb hb'
    subst this
    rcases e2 with ⟨a1, a2⟩ | ⟨a1, a2⟩ <;> rcases e2' with ⟨b1, b2⟩ | ⟨b1, b2⟩
    · omega
    · have := (hL g0 (List.mem_of_getElem? b2)).1; omega
    · have := (hL g0 (List.mem_of_getElem? a2)).1; omega
    · have nd : ∀ (i j : Nat), i < j → L[i]? = some g0 → L[j]? = some g0 → False := fun i j hij hi hj => by
        have := List.pairwise_iff_getElem.1 hnd i j (get_lt hi) (get_lt hj) hij
        rw [List.getElem?_eq_getElem (get_lt hi)] at hi
        rw [List.getElem?_eq_getElem (get_lt hj)] at hj
        exact this ((Option.some.inj hi).trans (Option.some.inj hj).symm)
      rcases Nat.lt_trichotomy (g - n) (g' - n) with h | h | h
      · exact (nd _ _ h a2 b2).elim
      · omega
      · exact (nd _ _ h b2 a2).elim
  · obtain ⟨g0, e1, e2⟩ := src hg hb
    unfold kn2
    split
    · rename_i hx
      obtain ⟨g1, r1, f1, f2, f3, f4⟩ := hx
      have := hR.inj g0 g1 r r1 b e1 f1 hb f4
      subst this
      rcases e2 with ⟨a1, a2⟩ | ⟨a1, a2⟩
      · omega
      · exact absurd (List.mem_of_getElem? a2) f3
    · exact hR.apart g0 r b e1 hb
/-- Objects, one by one. -/
def UpOs (n : Nat) (L E : List Nat) (H1 : Hp) : List Ob → List Ob → Prop
  | [], us => us = []
  | y :: ys, us => ∃ x xs, us = x :: xs ∧ UpO n L E H1 y x ∧ UpOs n L E H1 ys xs
theorem UpOs.len : ∀ {ys xs : List Ob}, UpOs n L E H1 ys xs → ys.length = xs.length
  | [], _, h => by simp only [UpOs] at h; subst h; rfl
  | y :: ys, _, ⟨x, xs, h1, h2, h3⟩ => by subst h1; simp [h3.len]
theorem UpOs.get : ∀ {ys xs : List Ob}, UpOs n L E H1 ys xs → ∀ {i : Nat} {y x : Ob}, ys[i]? = some y → xs[i]? = some x → UpO n L E H1 y x
  | [], _, h, i, y, x, hy, _ => by simp at hy
  | y :: ys, _, ⟨x, xs, h1, h2, h3⟩, 0, y', x', hy, hx => by subst h1; simp at hy hx; subst hy; subst hx; exact h2
  | y :: ys, _, ⟨x, xs, h1, h2, h3⟩, i + 1, y', x', hy, hx => by subst h1; exact h3.get (i := i) (by simpa using hy) (by simpa using hx)
theorem UpO.self {o : Ob} (h : o.bel n) : UpO n L E H1 o o := by
  cases o with
  | mem cells rw => exact ⟨rfl, Ups.self h⟩
  | vec w rows s rw t => exact ⟨rfl, rfl, rfl, rfl, h.2, UpR.selfB h.1⟩
  | fro w rows s => exact ⟨rfl, rfl, rfl⟩
mutual
def belB (n : Nat) : V → Bool
  | .lit _ | .fsl _ _ _ | .fptr _ | .junk => true
  | .ptr g _ | .own g _ | .elt g _ _ _ => decide (g < n)
  | .fn _ fi cp => belBs n fi && belBs n cp
  | .ifc _ v => belB n v
  | .agg cs | .tup cs => belBs n cs
def belBs (n : Nat) : List V → Bool
  | [] => true
  | v :: vs => belB n v && belBs n vs
end
mutual
theorem belB_sound : ∀ {v : V}, belB n v = true → Bel n v
  | .lit _, _ => trivial
  | .fsl _ _ _, _ => trivial
  | .fptr _, _ => trivial
  | .junk, _ => trivial
  | .ptr _ _, h => by simpa [belB, Bel] using h
  | .own _ _, h => by simpa [belB, Bel] using h
  | .elt _ _ _ _, h => by simpa [belB, Bel] using h
  | .fn f fi cp, h => by
    simp only [belB, Bool.and_eq_true] at h
    exact ⟨belBs_sound h.1, belBs_sound h.2⟩
  | .ifc t v, h => belB_sound (v := v) h
  | .agg cs, h => belBs_sound (v := cs) h
  | .tup cs, h => belBs_sound (v := cs) h
theorem belBs_sound : ∀ {v : List V}, belBs n v = true → Bels n v
  | [], _ => trivial
  | v :: vs, h => by
    simp only [belBs, Bool.and_eq_true] at h
    exact ⟨belB_sound h.1, belBs_sound h.2⟩
end
mutual
theorem Bel.mono {m : Nat} (hm : m ≤ n) : ∀ {v : V}, Bel m v → Bel n v
  | .lit _, _ => trivial
  | .fsl _ _ _, _ => trivial
  | .fptr _, _ => trivial
  | .junk, _ => trivial
  | .ptr _ _, h => Nat.lt_of_lt_of_le h hm
  | .own _ _, h => Nat.lt_of_lt_of_le h hm
  | .elt _ _ _ _, h => Nat.lt_of_lt_of_le h hm
  | .fn f fi cp, h => ⟨Bels.mono hm h.1, Bels.mono hm h.2⟩
  | .ifc t v, h => Bel.mono hm (v := v) h
  | .agg cs, h => Bels.mono hm (v := cs) h
  | .tup cs, h => Bels.mono hm (v := cs) h
theorem Bels.mono {m : Nat} (hm : m ≤ n) : ∀ {v : List V}, Bels m v → Bels n v
  | [], _ => trivial
  | v :: vs, h => ⟨Bel.mono hm h.1, Bels.mono hm h.2⟩
end
theorem Ob.bel.mono {m : Nat} (hm : m ≤ n) {o : Ob} (h : o.bel m) : o.bel n := by
  cases o with
  | mem cells rw => exact Bels.mono hm h
  | vec w rows s rw t => exact ⟨fun r hr => Bels.mono hm (h.1 r hr), h.2⟩
  | fro w rows s => trivial
theorem Cl.app {Y : Hp} (h : Cl H) (hY : ∀ o ∈ Y, o.bel (H.length + Y.length)) : Cl (H ++ Y) := fun o ho => by
  rw [List.length_append]
  rcases List.mem_append.1 ho with ho | ho
  · exact (h o ho).mono (by omega)
  · exact hY o ho
theorem Cl.nil : Cl [] := fun o ho => by simp at ho
/-- The general end: objects below n are told one by one behind those that stay whole. -/
theorem ghostA (hR : Rel K φ H1 σ) {H0 Z Z' X Y : Hp} (hcl : Cl H0) (hH1 : H1 = H0 ++ (Z ++ X)) (hL : ∀ g ∈ L, H0.length + Z.length ≤ g ∧ g < H1.length) (hE : ∀ s ∈ E, 0 < s ∧ s ≤ 1048576) (hnd : L.Nodup)
    (hZ : UpOs (H0.length + Z.length) L E H1 Z' Z) (hY : Y.length = L.length) (hYo : ∀ (j g : Nat) x y, L[j]? = some g → H1[g]? = some x → Y[j]? = some y → UpO (H0.length + Z.length) L E H1 y x) :
    ∃ K' φ', Post (H0.length + Z.length) K φ K' φ' ∧ Rel K' φ' (H0 ++ (Z' ++ (Y ++ E.map fun s => .vec 0 [] s true true))) σ ∧ ∀ {v u : V} {a : Value}, Up (H0.length + Z.length) L E H1 v u → VR K u φ a → VR K' v φ' a := by
  have hzl := hZ.len
  refine ghost hR (by rw [hH1]; simp only [List.length_append]; omega) hL hE hnd (by simp only [List.length_append, List.length_map]; omega) (fun i x y hi hx hy => ?_) (fun j g x y hj hx hy => ?_) (fun j s hj => ?_)
  · rw [hH1] at hx
    by_cases h : i < H0.length
    · rw [List.getElem?_append_left h] at hx hy
      rw [hx] at hy; cases hy
      exact UpO.self ((hcl x (List.mem_of_getElem? hx)).mono (by omega))
    · rw [List.getElem?_append_right (by omega), List.getElem?_append_left (by omega)] at hx hy
      exact hZ.get hy hx
  · have hjl := get_lt hj
    rw [List.getElem?_append_right (by omega), List.getElem?_append_right (by omega), List.getElem?_append_left (by omega)] at hy
    exact hYo j g x y hj hx (by rw [← hy]; congr 1; omega)
  · have hjl := get_lt hj
    rw [List.getElem?_append_right (by omega), List.getElem?_append_right (by omega), List.getElem?_append_right (by omega), List.getElem?_map]
    rw [show H0.length + Z.length + L.length + j - H0.length - Z'.length - Y.length = j by omega, hj]; rfl
/-- A function's end: what it made is frozen. -/
theorem GV.ret {R : V → Hp → Prop} {X : Hp} (v : V) (hcl : Cl H) (hup : Up H.length [] [] (H ++ X) v x) (h : R v H) : GV H.length R x (H ++ X) := fun K φ σ a hR hv => by
  obtain ⟨K', φ', h1, h2, h3⟩ := ghostA (L := []) (E := []) (H0 := H) (Z := []) (Z' := []) (X := X) (Y := []) hR hcl (by simp) (by simp) (by simp) (by simp) rfl rfl (by simp)
  simp only [List.map_nil, List.append_nil, List.length_nil, Nat.add_zero] at h1 h2 h3
  exact ⟨K', φ', v, H, h1, h2, h3 hup hv, h⟩
theorem GV.ans {X : Hp} {v : V} (hcl : Cl H) (hup : Up H.length [] [] (H ++ X) v x) : @GVH H.length x (H ++ X) ⟨fun u T => u = v ∧ T = H⟩ := GV.ret v hcl hup ⟨rfl, rfl⟩
theorem GV.ans0 {v : V} (h : x = v) : @GVH n x H ⟨fun u T => u = v ∧ T = H⟩ := GV.refl ⟨h, rfl⟩
/-- One new object is kept. -/
theorem GV.keep {R : V → Hp → Prop} {X : Hp} (g : Nat) (y : Ob) (v : V) (hcl : Cl H) (hg : ∃ z, (H ++ X)[g]? = some z ∧ H.length ≤ g ∧ UpO H.length [g] [] (H ++ X) y z) (hup : Up H.length [g] [] (H ++ X) v x) (h : R v (H ++ [y])) : GV H.length R x (H ++ X) := fun K φ σ a hR hv => by
  obtain ⟨z, hz, hg, hyz⟩ := hg
  have hgl := get_lt hz
  obtain ⟨K', φ', h1, h2, h3⟩ := ghostA (L := [g]) (E := []) (H0 := H) (Z := []) (Z' := []) (X := X) (Y := [y]) hR hcl (by simp) (by simpa using ⟨hg, by simpa using hgl⟩) (by simp) (by simp) rfl rfl (fun j g' x' y' hj hx hy => by
    have : j = 0 := by have := get_lt hj; simp at this; omega
    subst this
    simp at hj hy
    subst hj; subst hy
    rw [hz] at hx; cases hx
    exact hyz)
  simp only [List.map_nil, List.append_nil, List.length_nil, Nat.add_zero, List.nil_append] at h1 h2 h3
  exact ⟨K', φ', v, H ++ [y], h1, h2, h3 hup hv, h⟩
/-- Rows of one's own are kept: the answer is they. -/
theorem GV.own {k : KVV} {X : Hp} {g w s : Nat} {rows : List (List V)} {rw t : Bool} (hcl : Cl H) (hg : (H ++ X)[g]? = some (.vec w rows s rw t)) (hl : H.length ≤ g) (ho : RowsOk s rows) (hp : ∀ r ∈ rows, pureVs r = true) (h : k.run (.own H.length w) (H ++ [.vec w rows s rw t])) : @GVH H.length (.own g w) (H ++ X) k :=
  GV.keep g (.vec w rows s rw t) (.own H.length w) hcl ⟨_, hg, hl, rfl, rfl, rfl, rfl, ho, UpR.self hp⟩ (by simp [Up]) h
/-- nil, as rows of one's own. -/
theorem GV.nil {k : KVV} {X : Hp} {s : Nat} (hcl : Cl H) (hs : 0 < s) (hs1 : s ≤ 1048576) (h : k.run (.own H.length 0) (H ++ [.vec 0 [] s true true])) : @GVH H.length (.lit (.slice none 0 0)) (H ++ X) k := fun K φ σ a hR hv => by
  obtain ⟨K', φ', h1, h2, h3⟩ := ghostA (L := []) (E := [s]) (H0 := H) (Z := []) (Z' := []) (X := X) (Y := []) hR hcl (by simp) (by simp) (by simpa using ⟨hs, hs1⟩) (by simp) rfl rfl (by simp)
  simp only [List.map_nil, List.append_nil, List.length_nil, Nat.add_zero, List.nil_append, List.map_cons] at h1 h2 h3
  exact ⟨K', φ', _, _, h1, h2, h3 (v := .own H.length 0) (u := .lit (.slice none 0 0)) (by simp [Up]) hv, h⟩
theorem GV.nil0 {k : KVV} {s : Nat} (hcl : Cl H) (hs : 0 < s) (hs1 : s ≤ 1048576) (h : k.run (.own H.length 0) (H ++ [.vec 0 [] s true true])) : @GVH H.length (.lit (.slice none 0 0)) H k := by
  have := GV.nil (X := []) hcl hs hs1 h
  rwa [List.append_nil] at this
def clip (n : Nat) (e : Ev) : Ev := fun t => if belB n (e t) = true then e t else .junk
theorem clip_up (t : Tmp) : Up n L E H1 (clip n e t) (e t) := by
  unfold clip
  split
  · rename_i h; exact Up.self (belB_sound h)
  · simp [Up]
/-- A round's end: what was made meanwhile is let go; new empty rows. -/
theorem G.mk {Q : Ev → Hp → Prop} {m : Nat} {H0 Z Z' X : Hp} (E : List Nat) (e' : Ev) (hcl : Cl H0) (hm : m ≤ H0.length + Z.length) (hE : ∀ s ∈ E, 0 < s ∧ s ≤ 1048576)
    (hZ : UpOs (H0.length + Z.length) [] E (H0 ++ (Z ++ X)) Z' Z) (he : ∀ t, Up (H0.length + Z.length) [] E (H0 ++ (Z ++ X)) (e' t) (e t))
    (h : Q e' (H0 ++ (Z' ++ E.map fun s => .vec 0 [] s true true))) : G m Q e (H0 ++ (Z ++ X)) := fun K φ σ ea hR hEv => by
  obtain ⟨K', φ', h1, h2, h3⟩ := ghostA (L := []) (E := E) (Y := []) hR hcl rfl (by simp) hE (by simp) hZ rfl (by simp)
  simp only [List.nil_append] at h2
  exact ⟨K', φ', e', _, h1.weaken hm, h2, fun t => h3 (he t) (hEv t), h⟩
/-- Nothing is made anew. -/
theorem G.clip {Q : Ev → Hp → Prop} {m : Nat} {H0 Z Z' X : Hp} (hcl : Cl H0) (hm : m ≤ H0.length + Z.length) (hZ : UpOs (H0.length + Z.length) [] [] (H0 ++ (Z ++ X)) Z' Z) (h : Q (clip (H0.length + Z.length) e) (H0 ++ Z')) : G m Q e (H0 ++ (Z ++ X)) :=
  .mk [] _ hcl hm (by simp) hZ clip_up (by simpa using h)
/-- New empty rows for nil. -/
theorem G.nils {Q : Ev → Hp → Prop} {m : Nat} {H0 Z Z' : Hp} (E : List Nat) (hcl : Cl H0) (hm : m ≤ H0.length + Z.length) (hE : ∀ s ∈ E, 0 < s ∧ s ≤ 1048576) (hZ : UpOs (H0.length + Z.length) [] E (H0 ++ Z) Z' Z) (h : Q (VM.clip (H0.length + Z.length) e) (H0 ++ (Z' ++ E.map fun s => .vec 0 [] s true true))) : G m Q e (H0 ++ Z) := by
  have := G.mk (Q := Q) (m := m) (e := e) (H0 := H0) (Z := Z) (Z' := Z') (X := []) E _ hcl hm hE (by simpa using hZ) clip_up h
  simpa using this
/-- The machine's answer is the program's. -/
theorem VC.start {f : FuncId} {args : List V} {as : Array Value} {R : V → Hp → Prop} {σ : Heap} (h : VC P prim f args [] R) (hgl : ∀ p ∈ gcells, ∃ x : Blk, σ[p.1]? = some x ∧ x.perm ≠ .dead ∧ x.cells = p.2) (ha : ∀ K : Kn, (∀ b x, σ[b]? = some x → x.perm ≠ .dead → K b = some x.cells) → VRs K args [] as.toList) (hb : ∀ v H', R v H' → v = .lit (.bool true)) : ∃ n σ', acall P prim n f as σ = some (.bool true, σ') := by
  let K : Kn := fun b => match σ[b]? with
    | some x => if x.perm = .dead then none else some x.cells
    | none => none
  have hR : Rel K [] [] σ := by
    refine ⟨rfl, fun b c hc => ?_, fun g x r hx => by simp at hx, fun g g' r r' b hg => by simp at hg, fun g r b hg => by simp at hg, fun p hp => ?_⟩
    · simp only [K] at hc
      split at hc
      · rename_i x hx
        split at hc
        · cases hc
        · rename_i hp; cases hc; exact ⟨x.perm, hx, hp⟩
      · cases hc
    · obtain ⟨x, h1, h2, h3⟩ := hgl p hp
      show (match σ[p.1]? with | some x => if x.perm = Perm.dead then none else some x.cells | none => none) = _
      rw [h1]
      simp [h2, h3]
  obtain ⟨n, a, σ', h1, K', φ', v, H', h2, h3, h4, h5⟩ := h K [] σ as hR (ha K fun b x hx hp => by show (match σ[b]? with | some x => if x.perm = Perm.dead then none else some x.cells | none => none) = _; rw [hx]; exact if_neg hp)
  have := hb v H' h5
  subst this
  obtain ⟨rfl, _⟩ := h4
  exact ⟨n, σ', h1⟩
end
end Go.Proofs.Ytibejcomfjddfaa.VM
end
section
set_option maxHeartbeats 8000000
set_option linter.unusedVariables false
set_option linter.unusedSimpArgs false

/- The machine of values: the rules as equations for simp. -/
namespace Go.Proofs.Ytibejcomfjddfaa.VM
open Go AM
section
variable {P : Program} {prim : CallF} {own : List Tmp} {H H' : Hp} {v x : V} {e e' : Ev} {ops : Array Oper} {q : Bool} {k : V → Hp → Prop} {Q : Ex → Ev → Hp → Prop} {Q1 : Ev → Hp → Prop}
variable {dst : Option Tmp} {type : TypeId} {pos : String} {after : Array Edge} {guard : Option (Nat × Bool)}

/-- What is behind an operation's answer. -/
def VK (r : Option (V × Hp)) [k : KVV] : Prop := match r with
  | some (v, H) => k.run v H
  | none => False
@[simp] theorem VK_some {u : V} {T : Hp} [k : KVV] : VK (some (u, T)) = k.run u T := propext Iff.rfl
@[simp] theorem VK_none [k : KVV] : VK none = False := propext Iff.rfl
@[simp] theorem VK_if {c : Prop} [Decidable c] {a : V × Hp} [k : KVV] : VK (if c then some a else none) ↔ (c ∧ k.run a.1 a.2) := by
  by_cases h : c <;> simp [h, VK]
@[simp] theorem VK_ite {c : Prop} [Decidable c] {a b : V × Hp} [k : KVV] : VK (if c then some a else some b) ↔ ((c → k.run a.1 a.2) ∧ (¬ c → k.run b.1 b.2)) := by
  by_cases h : c <;> simp [h, VK]
/-- A call to be answered for. -/
def CALLv (P : Program) (prim : CallF) (q : Bool) (f : FuncId) (args : List V) (H : Hp) [k : KVV] : Prop := VCq P prim q f args H k.run
@[simp ↓] theorem vw_skip : vw P prim own .skip Q e H = Q .normal e H := propext Iff.rfl
@[simp ↓] theorem vw_label {l : Nat} : vw P prim own (.label l) Q e H = Q .normal e H := propext Iff.rfl
@[simp ↓] theorem vw_exit {l : Nat} : vw P prim own (.exit l) Q e H = Q (.exit l) e H := propext Iff.rfl
@[simp ↓] theorem vw_ret : vw P prim own .ret Q e H = Q .ret e H := propext Iff.rfl
@[simp ↓] theorem vw_seq {a b : Code} : vw P prim own (.seq a b) Q e H = vw P prim own a (ThenV (vw P prim own b Q) Q) e H := propext Iff.rfl
@[simp ↓] theorem vw_block {id : Nat} {a : Code} : vw P prim own (.block id a) Q e H = vw P prim own a (BlkV id Q) e H := propext Iff.rfl
@[simp ↓] theorem vw_scope {a : Code} : vw P prim own (.scope a) Q e H = vw P prim own a Q e H := propext Iff.rfl
@[simp ↓] theorem vw_cond {x : Operand} {a b : Code} : vw P prim own (.cond x a b) Q e H = @CondV (vev e x) ⟨vw P prim own a Q e H, vw P prim own b Q e H⟩ := propext Iff.rfl
@[simp ↓] theorem vw_region {id : Nat} {l : List Oper} : vw P prim own (.region id l.toArray false) Q e H = vwo P prim own false l.toArray l (Q .normal) e H := propext Iff.rfl
theorem v_draw {id : Nat} {ops : Array Oper} {ord : List Nat} {m : Nat} (hp : plan ops = some (ord, m)) (he : earlyL ops ord m = []) (h : vwo P prim own true ops ((ord.take m).map (ops.getD · default)) (vwo P prim own false ops ((ord.drop m).map (ops.getD · default)) (Q .normal)) e H) :
    vw P prim own (.region id ops true) Q e H := ⟨_, hp, .inl ⟨he, h⟩⟩
theorem v_drawE {id : Nat} {ops : Array Oper} {ord : List Nat} {m j t g o : Nat} {cells : List V} {rw : Bool} (hp : plan ops = some (ord, m)) (he : earlyL ops ord m = [j]) (hl : plainLoad ops (ops.getD j default) = some t) (ht : e t = .ptr g o) (hg : H[g]? = some (.mem cells rw))
    (h : vwo P prim own true ops ((ord.take m).map (ops.getD · default)) (vwo P prim own false ops ((ord.drop m).map (ops.getD · default)) (Q .normal)) e (H.set g (.mem cells false))) :
    vw P prim own (.region id ops true) Q e H := ⟨_, hp, .inr ⟨j, t, g, o, cells, rw, he, hl, ht, hg, h⟩⟩
@[simp ↓] theorem ThenV_normal {N : Ev → Hp → Prop} : ThenV N Q .normal e H = N e H := propext Iff.rfl
@[simp ↓] theorem ThenV_exit {N : Ev → Hp → Prop} {i : Nat} : ThenV N Q (.exit i) e H = Q (.exit i) e H := propext Iff.rfl
@[simp ↓] theorem ThenV_ret {N : Ev → Hp → Prop} : ThenV N Q .ret e H = Q .ret e H := propext Iff.rfl
@[simp ↓] theorem BlkV_normal {id : Nat} : BlkV id Q .normal e H = Q .normal e H := propext Iff.rfl
@[simp ↓] theorem BlkV_ret {id : Nat} : BlkV id Q .ret e H = Q .ret e H := propext Iff.rfl
@[simp ↓] theorem BlkV_exit {id i : Nat} : BlkV id Q (.exit i) e H = if i = id then Q .normal e H else Q (.exit i) e H := propext Iff.rfl
@[simp ↓] theorem BodyV_ret {fn : Func} {n : Nat} [k : KVV] : BodyV P fn n .ret e H = ∃ v, vresults P fn.results.toList e H = some v ∧ @GVH n v H k := propext Iff.rfl
@[simp ↓] theorem BodyV_normal {fn : Func} {n : Nat} [k : KVV] : BodyV P fn n .normal e H = ∃ v, vresults P fn.results.toList e H = some v ∧ @GVH n v H k := propext Iff.rfl
@[simp ↓] theorem vwo_nil : vwo P prim own q ops [] Q1 e H = Q1 e H := propext Iff.rfl
@[simp ↓] theorem vwo_cons {o : Oper} {l : List Oper} : vwo P prim own q ops (o :: l) Q1 e H = vstep P prim own q ops o e H fun v H' => vwo P prim own q ops l Q1 (vupd e o.dst v) H' := propext Iff.rfl
@[simp] theorem CondV_true [c : PP] : CondV (.lit (.bool true)) ↔ c.a := by simp [CondV]
@[simp] theorem CondV_false [c : PP] : CondV (.lit (.bool false)) ↔ c.b := by simp [CondV]
theorem CondV.on {t : Bool} {c : PP} (h1 : t = true → c.a) (h2 : t = false → c.b) : @CondV (.lit (.bool t)) c := ⟨h1, h2⟩
theorem CondV.dec {p : Prop} [Decidable p] {c : PP} (h1 : p → c.a) (h2 : ¬ p → c.b) : @CondV (.lit (.bool (decide p))) c := ⟨fun h => h1 (of_decide_eq_true h), fun h => h2 (of_decide_eq_false h)⟩
@[simp ↓] theorem vstep_guard {op : Op} {jw : Nat × Bool} : vstep P prim own q ops ⟨dst, op, type, pos, after, some jw⟩ e H k = @GuardR (wantedV ops ⟨dst, op, type, pos, after, some jw⟩ e) ⟨vstep P prim own q ops ⟨dst, op, type, pos, after, none⟩ e H k, k (.tup []) H⟩ := by
  show (match wantedV ops ⟨dst, op, type, pos, after, some jw⟩ e with | some true => _ | some false => _ | none => _) = _
  unfold GuardR
  cases wantedV ops ⟨dst, op, type, pos, after, some jw⟩ e with
  | none => rfl
  | some b => cases b <;> rfl
/-- A call of a function value. -/
def CallVv (P : Program) (prim : CallF) (q : Bool) (v : V) (as : List V) (H : Hp) [k : KVV] : Prop := match v with
  | .fn f fi cp => CALLv P prim q f (fi ++ as ++ cp) H
  | _ => False
@[simp] theorem CallVv_fn {f : FuncId} {fi cp as : List V} [k : KVV] : CallVv P prim q (.fn f fi cp) as H = CALLv P prim q f (fi ++ as ++ cp) H := propext Iff.rfl
@[simp ↓] theorem vstep_callT {t : Tmp} {as : List Operand} {ts : Array TypeId} :
    vstep P prim own q ops ⟨dst, .call { callee := .value (.tmp t), args := as.toArray, argTypes := ts }, type, pos, after, none⟩ e H k = @CallVv P prim q (e t) (as.map (vev e)) H ⟨k⟩ := by
  show (match goCallV (vev e) (.call { callee := .value (.tmp t), args := as.toArray, argTypes := ts }) with | some (f, args) => VCq P prim q f args H k | none => False) = _
  unfold goCallV CallVv CALLv
  dsimp only [vev]
  cases e t <;> exact propext Iff.rfl
@[simp ↓] theorem vstep_callF {f : FuncId} {as : List Operand} {ts : Array TypeId} :
    vstep P prim own q ops ⟨dst, .call { callee := .value (.func f), args := as.toArray, argTypes := ts }, type, pos, after, none⟩ e H k = @CALLv P prim q f (as.map (vev e)) H ⟨k⟩ := by
  show VCq P prim q f ([] ++ as.map (vev e) ++ []) H k = _
  rw [List.nil_append, List.append_nil]; rfl
@[simp ↓] theorem vstep_len {x : Operand} {t : TypeId} : vstep P prim own q ops ⟨dst, .call { callee := .builtin .len, args := #[x], argTypes := #[t] }, type, pos, after, none⟩ e H k = @VK (match P.underlying t, vev e x with
      | some .string, .lit (.string s) => some (.lit (.int .i64 s.size), H)
      | _, _ => (vLen P t H (vev e x)).map (·, H)) ⟨k⟩ := propext Iff.rfl
@[simp ↓] theorem vstep_append {s x : Operand} {t tx : TypeId} : vstep P prim own q ops ⟨dst, .call { callee := .builtin .append, args := #[s, x], argTypes := #[t, tx] }, type, pos, after, none⟩ e H k = @VK (match P.underlying tx with
      | some (.int _) => vZeros P t H (vev e s) (vev e x)
      | _ => vAppend P q t tx H (vev e s) (vev e x)) ⟨k⟩ := propext Iff.rfl
@[simp ↓] theorem vstep_cap {x : Operand} {t : TypeId} : vstep P prim own q ops ⟨dst, .call { callee := .builtin .cap, args := #[x], argTypes := #[t] }, type, pos, after, none⟩ e H k = @VK (match P.underlying t, vev e x with
      | some (.slice _), .lit (.slice none 0 0) => some (.lit (.int .i64 0), H)
      | _, _ => none) ⟨k⟩ := propext Iff.rfl
@[simp ↓] theorem vstep_min {x y : Operand} {ts : Array TypeId} : vstep P prim own q ops ⟨dst, .call { callee := .builtin .min, args := #[x, y], argTypes := ts }, type, pos, after, none⟩ e H k = @VK (match toVal (vev e x), toVal (vev e y) with
      | some (.int k m), some (.int _ n) => some (.lit (.int k (if n < m then n else m)), H)
      | _, _ => none) ⟨k⟩ := propext Iff.rfl
@[simp ↓] theorem vstep_max {x y : Operand} {ts : Array TypeId} : vstep P prim own q ops ⟨dst, .call { callee := .builtin .max, args := #[x, y], argTypes := ts }, type, pos, after, none⟩ e H k = @VK (match toVal (vev e x), toVal (vev e y) with
      | some (.int k m), some (.int _ n) => some (.lit (.int k (if n > m then n else m)), H)
      | _, _ => none) ⟨k⟩ := propext Iff.rfl
@[simp ↓] theorem vstep_copy {d x : Operand} {t tx : TypeId} : vstep P prim own q ops ⟨dst, .call { callee := .builtin .copy, args := #[d, x], argTypes := #[t, tx] }, type, pos, after, none⟩ e H k = @VK (if q then none else vCopy P t tx (vev e d) (vev e x) H) ⟨k⟩ := propext Iff.rfl
@[simp ↓] theorem vstep_move {x : Operand} : vstep P prim own q ops ⟨dst, .move x, type, pos, after, none⟩ e H k = @VK (some (vev e x, H)) ⟨k⟩ := propext Iff.rfl
@[simp ↓] theorem vstep_assign {x : Operand} : vstep P prim own q ops ⟨dst, .assign x, type, pos, after, none⟩ e H k = @VK (some (vev e x, H)) ⟨k⟩ := propext Iff.rfl
@[simp ↓] theorem vstep_pick {c a b : Operand} : vstep P prim own q ops ⟨dst, .pick c a b, type, pos, after, none⟩ e H k = @VK (match vev e c with | .lit (.bool t) => some (if t then vev e a else vev e b, H) | _ => none) ⟨k⟩ := propext Iff.rfl
@[simp ↓] theorem vstep_extract {x : Operand} {i : Nat} : vstep P prim own q ops ⟨dst, .extract x i, type, pos, after, none⟩ e H k = @VK (match vev e x with | .tup vs => (vs[i]?).map (·, H) | _ => none) ⟨k⟩ := propext Iff.rfl
@[simp ↓] theorem vstep_nilCheck {x : Operand} : vstep P prim own q ops ⟨dst, .nilCheck x, type, pos, after, none⟩ e H k = @VK (if nonNil (vev e x) = true then some (vev e x, H) else none) ⟨k⟩ := propext Iff.rfl
@[simp ↓] theorem vstep_alloc {t : TypeId} : vstep P prim own q ops ⟨dst, .alloc t, type, pos, after, none⟩ e H k = @VK ((zerosOf P t 1).bind fun zs => (litCells zs).map fun cs => (.ptr H.length 0, H ++ [.mem cs true])) ⟨k⟩ := propext Iff.rfl
@[simp ↓] theorem vstep_box {t : TypeId} {x : Operand} : vstep P prim own q ops ⟨dst, .box t x, type, pos, after, none⟩ e H k = @VK (if (vev e x).cells.all V.isCell = true then some (.ptr H.length 0, H ++ [.mem (vev e x).cells true]) else none) ⟨k⟩ := propext Iff.rfl
@[simp ↓] theorem vstep_load {t : TypeId} {x : Operand} : vstep P prim own q ops ⟨dst, .load t x, type, pos, after, none⟩ e H k = @VK ((vLoad P t H (vev e x)).map (·, H)) ⟨k⟩ := propext Iff.rfl
@[simp ↓] theorem vstep_store {t : TypeId} {x v : Operand} : vstep P prim own q ops ⟨dst, .store t x v, type, pos, after, none⟩ e H k = @VK (if q then none else (vStore P t H (vev e x) (vev e v)).map fun H' => (.tup [], H')) ⟨k⟩ := propext Iff.rfl
@[simp ↓] theorem vstep_fieldAddr {t : TypeId} {x : Operand} {f : Nat} : vstep P prim own q ops ⟨dst, .fieldAddr t x f, type, pos, after, none⟩ e H k = @VK ((vFieldAddr P t (vev e x) f).map (·, H)) ⟨k⟩ := propext Iff.rfl
@[simp ↓] theorem vstep_field {t : TypeId} {x : Operand} {f : Nat} : vstep P prim own q ops ⟨dst, .field t x f, type, pos, after, none⟩ e H k = @VK (match vev e x, fieldOf P t f with
    | .agg cs, some (off, ft) => (partVV P ft cs off).map (·, H)
    | _, _ => none) ⟨k⟩ := propext Iff.rfl
@[simp ↓] theorem vstep_indexAddr {t : TypeId} {x i : Operand} : vstep P prim own q ops ⟨dst, .indexAddr t x i, type, pos, after, none⟩ e H k = @VK ((vIdx P t H (vev e x) (vev e i)).map (·, H)) ⟨k⟩ := propext Iff.rfl
@[simp ↓] theorem vstep_index {t : TypeId} {x i : Operand} : vstep P prim own q ops ⟨dst, .index t x i, type, pos, after, none⟩ e H k = @VK (match P.underlying t, vev e x, isInt (vev e i) with
    | some (.array n e), .agg cs, some j => match szOf P e with
      | some s => if 0 ≤ j ∧ j < n then (partVV P e cs (j.toNat * s)).map (·, H) else none
      | none => none
    | some .string, .lit (.string s), some j => if 0 ≤ j then (s[j.toNat]?).map fun b => (.lit (.int .u8 b.toNat), H) else none
    | _, _, _ => none) ⟨k⟩ := propext Iff.rfl
@[simp ↓] theorem vstep_slice {t : TypeId} {x : Operand} {lo hi mx : Option Operand} : vstep P prim own q ops ⟨dst, .slice t x lo hi mx, type, pos, after, none⟩ e H k = @VK (match vNone P t H (vev e x) (lo.map (vev e)) (hi.map (vev e)) (mx.map (vev e)) with
    | some r => some r
    | none => match vTrunc P t H (vev e x) (lo.map (vev e)) (hi.map (vev e)) (mx.map (vev e)) with
      | some r => some r
      | none => (vSlice P t H (vev e x) (lo.map (vev e)) (hi.map (vev e)) (mx.map (vev e))).map (·, H)) ⟨k⟩ := propext Iff.rfl
@[simp ↓] theorem vstep_makeFunc {f : FuncId} {a b : List Operand} : vstep P prim own q ops ⟨dst, .makeFunc (.func f) a.toArray b.toArray, type, pos, after, none⟩ e H k = @VK (some (.fn f (a.map (vev e)) (b.map (vev e)), H)) ⟨k⟩ := propext Iff.rfl
@[simp ↓] theorem vstep_makeInterface {t : TypeId} {x : Operand} : vstep P prim own q ops ⟨dst, .makeInterface t x, type, pos, after, none⟩ e H k = @VK (if P.concrete t = true then some (.ifc t (vev e x), H) else none) ⟨k⟩ := propext Iff.rfl
@[simp ↓] theorem vstep_makeSlice {t : TypeId} {l c : Operand} : vstep P prim own q ops ⟨dst, .makeSlice t l c, type, pos, after, none⟩ e H k = @VK (vMake P t (vev e l) (vev e c) H) ⟨k⟩ := propext Iff.rfl
@[simp ↓] theorem vstep_build {t : TypeId} {ps : List (Nat × Operand)} : vstep P prim own q ops ⟨dst, .build t ps.toArray, type, pos, after, none⟩ e H k = @VK ((vBuild P t (ps.map fun p => (p.1, vev e p.2))).map (·, H)) ⟨k⟩ := propext Iff.rfl
@[simp ↓] theorem vstep_buildSlice {d : Tmp} {t : TypeId} {len : Nat} {ps : List (Nat × Operand)} : vstep P prim own q ops ⟨some d, .buildSlice t len ps.toArray, type, pos, after, none⟩ e H k = @VK (vLit P (own.contains d) (slPerm P t ps.toArray) t len (ps.map fun p => (p.1, vev e p.2)) H) ⟨k⟩ := propext Iff.rfl
@[simp] theorem permFull : (Perm.full == Perm.full) = true := rfl
@[simp] theorem permByt : (Perm.byt == Perm.full) = false := rfl
attribute [simp] slPerm constBytes fullLit fullLits litNum
/-- A comparison, or arithmetic. -/
def VB (P : Program) (op : BinOp) (t : TypeId) (x y : V) (H : Hp) [k : KVV] : Prop := match op with
  | .eql => match nilCmp P H t x y with
    | some n => ∀ b : Bool, (0 < n → b = false) → k.run (.lit (.bool b)) H
    | none => VK ((vBin P .eql t x y).map (·, H))
  | .neq => match nilCmp P H t x y with
    | some n => ∀ b : Bool, (0 < n → b = true) → k.run (.lit (.bool b)) H
    | none => VK ((vBin P .neq t x y).map (·, H))
  | op => VK ((vBin P op t x y).map (·, H))
@[simp ↓] theorem vstep_binOp {op : BinOp} {t : TypeId} {x y : Operand} {ty : TypeId} : vstep P prim own q ops ⟨dst, .binOp op t x y ty, type, pos, after, none⟩ e H k = @VB P op t (vev e x) (vev e y) H ⟨k⟩ := by
  show (match nilOp P (vev e) (.binOp op t x y ty) H with
      | some (neq, n) => ∀ b : Bool, (0 < n → b = neq) → k (.lit (.bool b)) H
      | none => (match (vBin P op t (vev e x) (vev e y)).map (·, H) with
        | some (v, H') => k v H'
        | none => False)) = _
  unfold nilOp VB VK
  cases op <;> first | exact propext Iff.rfl | (dsimp only; cases nilCmp P H t (vev e x) (vev e y) <;> exact propext Iff.rfl)
@[simp ↓] theorem vstep_unOp {op : UnOp} {t : TypeId} {x : Operand} : vstep P prim own q ops ⟨dst, .unOp op t x, type, pos, after, none⟩ e H k = @VK (match toVal (vev e x) with
    | some a => ((unI op a).bind mkLit).map (·, H)
    | none => none) ⟨k⟩ := propext Iff.rfl
@[simp ↓] theorem vstep_convert {d : Tmp} {src dt : TypeId} {x : Operand} : vstep P prim own q ops ⟨some d, .convert src dt x, type, pos, after, none⟩ e H k = @VK (vConv P (own.contains d) src dt (vev e x) H) ⟨k⟩ := propext Iff.rfl
@[simp] theorem isCell_lit {v : Value} : (V.lit v).isCell = cellB v := rfl
@[simp] theorem isCell_fsl {k : Bool} {s : Nat} {r : List (List V)} : (V.fsl k s r).isCell = true := rfl
@[simp] theorem isCell_fptr {r : List V} : (V.fptr r).isCell = true := rfl
@[simp] theorem isCell_ptr {g o : Nat} : (V.ptr g o).isCell = true := rfl
@[simp] theorem isCell_own {g o : Nat} : (V.own g o).isCell = true := rfl
@[simp] theorem isCell_elt {g o k w : Nat} : (V.elt g o k w).isCell = true := rfl
@[simp] theorem isCell_fn {f : FuncId} {a b : List V} : (V.fn f a b).isCell = true := rfl
@[simp] theorem isCell_ifc {t : TypeId} {v : V} : (V.ifc t v).isCell = true := rfl
@[simp] theorem isCell_agg {a : List V} : (V.agg a).isCell = false := rfl
@[simp] theorem cells_agg {a : List V} : (V.agg a).cells = a := rfl
@[simp] theorem cells_lit {v : Value} : (V.lit v).cells = [V.lit v] := rfl
@[simp] theorem cells_fsl {k : Bool} {s : Nat} {r : List (List V)} : (V.fsl k s r).cells = [V.fsl k s r] := rfl
@[simp] theorem cells_fptr {r : List V} : (V.fptr r).cells = [V.fptr r] := rfl
@[simp] theorem cells_ptr {g o : Nat} : (V.ptr g o).cells = [V.ptr g o] := rfl
@[simp] theorem cells_own {g o : Nat} : (V.own g o).cells = [V.own g o] := rfl
@[simp] theorem cells_elt {g o k w : Nat} : (V.elt g o k w).cells = [V.elt g o k w] := rfl
@[simp] theorem cells_fn {f : FuncId} {a b : List V} : (V.fn f a b).cells = [V.fn f a b] := rfl
@[simp] theorem cells_ifc {t : TypeId} {v : V} : (V.ifc t v).cells = [V.ifc t v] := rfl
theorem cells_cell {v : V} (h : v.isCell = true) : v.cells = [v] := by cases v <;> first | rfl | cases h
/-- Literals of structs. -/
@[simp] theorem fillV_nil {place : Nat → Option (Nat × Nat)} {cells : List V} : fillV place cells [] = some cells := rfl
theorem RowsOk_nil {s : Nat} : RowsOk s [] := fun r hr => by simp at hr
@[simp] theorem RowsOk_nil_iff {s : Nat} : RowsOk s [] ↔ True := ⟨fun _ => trivial, fun _ => RowsOk_nil⟩
@[simp] theorem RowsOk_cons_iff {s : Nat} {r : List V} {rs : List (List V)} : RowsOk s (r :: rs) ↔ (r.length = s ∧ r.all V.isCell = true) ∧ RowsOk s rs := by
  unfold RowsOk; simp
@[simp] theorem RowsOk_app_iff {s : Nat} {r rs : List (List V)} : RowsOk s (r ++ rs) ↔ RowsOk s r ∧ RowsOk s rs := by
  exact ⟨fun h => ⟨fun x hx => h x (List.mem_append_left _ hx), fun x hx => h x (List.mem_append_right _ hx)⟩, fun h => RowsOk.append h.1 h.2⟩
@[simp] theorem RowsOk_map_iff {α : Type} {s : Nat} {f : α → List V} {l : List α} : RowsOk s (l.map f) ↔ ∀ a ∈ l, (f a).length = s ∧ (f a).all V.isCell = true := by
  unfold RowsOk; simp
@[simp] theorem clip_apply {n : Nat} {t : Tmp} : clip n e t = if belB n (e t) = true then e t else .junk := rfl
@[simp] theorem range1 : List.range 1 = [0] := rfl
@[simp] theorem range2 : List.range 2 = [0, 1] := rfl
@[simp] theorem range3 : List.range 3 = [0, 1, 2] := rfl
@[simp] theorem range4 : List.range 4 = [0, 1, 2, 3] := rfl
@[simp] theorem range5 : List.range 5 = [0, 1, 2, 3, 4] := rfl
@[simp] theorem range6 : List.range 6 = [0, 1, 2, 3, 4, 5] := rfl
@[simp] theorem range7 : List.range 7 = [0, 1, 2, 3, 4, 5, 6] := rfl
@[simp] theorem range8 : List.range 8 = [0, 1, 2, 3, 4, 5, 6, 7] := rfl
@[simp] theorem range9 : List.range 9 = [0, 1, 2, 3, 4, 5, 6, 7, 8] := rfl
@[simp] theorem range10 : List.range 10 = [0, 1, 2, 3, 4, 5, 6, 7, 8, 9] := rfl
@[simp] theorem range11 : List.range 11 = [0, 1, 2, 3, 4, 5, 6, 7, 8, 9, 10] := rfl
@[simp] theorem range12 : List.range 12 = [0, 1, 2, 3, 4, 5, 6, 7, 8, 9, 10, 11] := rfl
@[simp] theorem range13 : List.range 13 = [0, 1, 2, 3, 4, 5, 6, 7, 8, 9, 10, 11, 12] := rfl
/-- Contracts. -/
theorem CALLv.ofH {f : FuncId} {args : List V} {R : V → Prop} (h : ∀ H, VC P prim f args H fun u T => R u ∧ T = H) {k : KVV} (hk : ∀ u, R u → k.run u H) : @CALLv P prim q f args H k := by
  refine ⟨H, .refl, ?_⟩
  cases q with
  | false => exact (h H).mono fun u T ⟨e1, e2⟩ => by subst e2; exact hk u e1
  | true => exact (h (lockV H)).mono fun u T ⟨e1, e2⟩ => by subst e2; exact ⟨[], by simp, by simp, by simpa using hk u e1⟩
/-- A call whose answer is a value. -/
def Ans (P : Program) (prim : CallF) (f : FuncId) (args : List V) (v : V) : Prop := ∀ H, VC P prim f args H fun u T => u = v ∧ T = H
theorem Ans.call {f : FuncId} {args : List V} (h : Ans P prim f args v) {k : KVV} (hk : k.run v H) : @CALLv P prim q f args H k := .ofH (R := (· = v)) h fun u e => by subst e; exact hk
/-- A call that makes one object. -/
def AnsK (P : Program) (prim : CallF) (f : FuncId) (args : List V) (v : Nat → V) (y : Ob) : Prop := y.rwOk ∧ ∀ H, VC P prim f args H fun u T => u = v H.length ∧ T = H ++ [y]
theorem AnsK.call {f : FuncId} {args : List V} {y : Ob} {v : Nat → V} (h : AnsK P prim f args v y) {k : KVV} (hk : k.run (v H.length) (H ++ [y])) : @CALLv P prim q f args H k := by
  refine ⟨H, .refl, ?_⟩
  cases q with
  | false => exact (h.2 H).mono fun u T ⟨e1, e2⟩ => by subst e2; subst e1; exact hk
  | true => exact (h.2 (lockV H)).mono fun u T ⟨e1, e2⟩ => by subst e2; subst e1; exact ⟨[y], rfl, by simpa using h.1, by simpa [lockV] using hk⟩
/-- A call that answers rows of one's own. -/
def AnsO (P : Program) (prim : CallF) (f : FuncId) (args : List V) (s : Nat) (rows : List (List V)) : Prop := ∀ H, VC P prim f args H fun u T => ∃ w t, u = .own H.length w ∧ T = H ++ [.vec w rows s true t]
theorem AnsO.call {f : FuncId} {args : List V} {s : Nat} {rows : List (List V)} (h : AnsO P prim f args s rows) {k : KVV} (hk : ∀ w t, k.run (.own H.length w) (H ++ [.vec w rows s true t])) : @CALLv P prim q f args H k := by
  refine ⟨H, .refl, ?_⟩
  cases q with
  | false => exact (h H).mono fun u T ⟨w, t, e1, e2⟩ => by subst e2; subst e1; exact hk w t
  | true => exact (h (lockV H)).mono fun u T ⟨w, t, e1, e2⟩ => by subst e2; subst e1; exact ⟨[_], rfl, by simp [Ob.rwOk], by simpa [lockV] using hk w t⟩
/-- A call that may change what stands. -/
theorem CALLv.at {f : FuncId} {args : List V} {R : V → Hp → Prop} {k : KVV} (h : VC P prim f args H R) (hk : ∀ v T, R v T → k.run v T) : @CALLv P prim false f args H k := ⟨H, .refl, h.mono hk⟩
theorem VC.up {f : FuncId} {args args' : List V} {R : V → Hp → Prop} (ha : Ups H.length [] [] H args' args) (h : VC P prim f args' H R) : VC P prim f args H R := by
  intro K φ σ as hR hs
  obtain ⟨K', φ', h1, h2, h3⟩ := ghostA (L := []) (E := []) (H0 := H) (Z := []) (Z' := []) (X := []) (Y := []) hR hR.cl (by simp) (by simp) (by simp) (by simp) rfl rfl (by simp)
  simp only [List.map_nil, List.append_nil, List.length_nil, Nat.add_zero] at h1 h2 h3
  have conv : ∀ {us vs : List V} {l : List Value}, Ups H.length [] [] H us vs → VRs K vs φ l → VRs K' us φ' l := fun {us} => by
    induction us with
    | nil => intro vs l hu hv; simp only [Ups] at hu; subst hu; exact hv
    | cons u us ih =>
      intro vs l hu hv
      simp only [Ups] at hu
      obtain ⟨w, ws, rfl, e1, e2⟩ := hu
      obtain ⟨a, as', f1, f2, f3⟩ := hv
      exact ⟨a, as', f1, h3 e1 f2, ih e2 f3⟩
  rw [← hR.len] at h1
  exact (h K' φ' σ as h2 (conv ha hs)).mono fun a σ' ⟨K2, φ2, v, H2, g1, g2, g3, g4⟩ => ⟨K2, φ2, v, H2, h1.trans g1 (h1.le_len (Nat.le_refl _)), g2, g3, g4⟩
section
variable {n : Nat} {L E : List Nat} {H1 : Hp}
@[simp] theorem Ups_nil : Ups n L E H1 [] [] ↔ True := by simp [Ups]
@[simp] theorem Ups_cons {v u : V} {vs us : List V} : Ups n L E H1 (v :: vs) (u :: us) ↔ Up n L E H1 v u ∧ Ups n L E H1 vs us := by
  simp only [Ups]
  exact ⟨fun ⟨_, _, h, h1, h2⟩ => by cases h; exact ⟨h1, h2⟩, fun ⟨h1, h2⟩ => ⟨_, _, rfl, h1, h2⟩⟩
@[simp] theorem UpR_nil : UpR n L E H1 [] [] ↔ True := by simp [UpR]
@[simp] theorem UpR_cons {v u : List V} {vs us : List (List V)} : UpR n L E H1 (v :: vs) (u :: us) ↔ Ups n L E H1 v u ∧ UpR n L E H1 vs us := by
  simp only [UpR]
  exact ⟨fun ⟨_, _, h, h1, h2⟩ => by cases h; exact ⟨h1, h2⟩, fun ⟨h1, h2⟩ => ⟨_, _, rfl, h1, h2⟩⟩
@[simp] theorem UpOs_nil : UpOs n L E H1 [] [] ↔ True := by simp [UpOs]
@[simp] theorem UpOs_cons {v u : Ob} {vs us : List Ob} : UpOs n L E H1 (v :: vs) (u :: us) ↔ UpO n L E H1 v u ∧ UpOs n L E H1 vs us := by
  simp only [UpOs]
  exact ⟨fun ⟨_, _, h, h1, h2⟩ => by cases h; exact ⟨h1, h2⟩, fun ⟨h1, h2⟩ => ⟨_, _, rfl, h1, h2⟩⟩
@[simp] theorem UpO_mem {c c0 : List V} {r r0 : Bool} : UpO n L E H1 (.mem c r) (.mem c0 r0) ↔ r = r0 ∧ Ups n L E H1 c c0 := Iff.rfl
@[simp] theorem UpO_vec {w w0 s s0 : Nat} {c c0 : List (List V)} {r r0 t t0 : Bool} : UpO n L E H1 (.vec w c s r t) (.vec w0 c0 s0 r0 t0) ↔ w = w0 ∧ s = s0 ∧ r = r0 ∧ t = t0 ∧ RowsOk s c ∧ UpR n L E H1 c c0 := Iff.rfl
@[simp] theorem UpO_fro {w w0 s s0 : Nat} {c c0 : List (List V)} : UpO n L E H1 (.fro w c s) (.fro w0 c0 s0) ↔ w = w0 ∧ s = s0 ∧ c = c0 := Iff.rfl
/-- Rows without objects stay. -/
theorem UpR_pure {v : List (List V)} (h : ∀ r ∈ v, pureVs r = true) : UpR n L E H1 v v ↔ True := ⟨fun _ => trivial, fun _ => UpR.self h⟩
@[simp] theorem UpR_map {α : Type} {f : α → List V} {l : List α} (h : ∀ a, pureVs (f a) = true) : UpR n L E H1 (l.map f) (l.map f) ↔ True := UpR_pure fun r hr => by obtain ⟨a, _, rfl⟩ := List.mem_map.1 hr; exact h a
/-- Rows that name no object. -/
def PureR (rows : List (List V)) : Prop := ∀ r ∈ rows, pureVs r = true
@[simp] theorem PureR_nil : PureR [] ↔ True := by simp [PureR]
@[simp] theorem PureR_cons {r : List V} {rs : List (List V)} : PureR (r :: rs) ↔ pureVs r = true ∧ PureR rs := by simp [PureR]
@[simp] theorem PureR_app {r rs : List (List V)} : PureR (r ++ rs) ↔ PureR r ∧ PureR rs := by
  unfold PureR
  exact ⟨fun h => ⟨fun x hx => h x (List.mem_append_left _ hx), fun x hx => h x (List.mem_append_right _ hx)⟩, fun h x hx => (List.mem_append.1 hx).elim (h.1 x) (h.2 x)⟩
@[simp] theorem PureR_map {α : Type} {f : α → List V} {l : List α} : PureR (l.map f) ↔ ∀ a ∈ l, pureVs (f a) = true := by simp [PureR]
theorem PureR.take {l : List (List V)} (h : PureR l) (n : Nat) : PureR (l.take n) := fun r hr => h r (List.mem_of_mem_take hr)
theorem PureR.drop {l : List (List V)} (h : PureR l) (n : Nat) : PureR (l.drop n) := fun r hr => h r (List.mem_of_mem_drop hr)
@[simp] theorem PureR_take {α : Type} {f : α → List V} {l : List α} {n : Nat} (h : ∀ a, pureVs (f a) = true) : PureR ((l.map f).take n) ↔ True := ⟨fun _ => trivial, fun _ => .take (PureR_map.2 fun a _ => h a) n⟩
@[simp] theorem PureR_drop {α : Type} {f : α → List V} {l : List α} {n : Nat} (h : ∀ a, pureVs (f a) = true) : PureR ((l.map f).drop n) ↔ True := ⟨fun _ => trivial, fun _ => .drop (PureR_map.2 fun a _ => h a) n⟩
@[simp] theorem PureR_rep {r : List V} {n : Nat} (h : pureVs r = true) : PureR (List.replicate n r) ↔ True := ⟨fun _ => trivial, fun _ x hx => by rw [(List.mem_replicate.1 hx).2]; exact h⟩
/-- One's own rows, frozen. -/
def UpFz (n : Nat) (L E : List Nat) (H1 : Hp) (s : Nat) (rows : List (List V)) (g w : Nat) : Prop := match H1[g]? with
  | some (.vec w' rows0 s' _ _) => w = w' ∧ s = s' ∧ n ≤ g ∧ g ∉ L ∧ (rows = rows0 ∨ UpR n L E H1 rows rows0)
  | some (.fro w' rows0 s') => w = w' ∧ s = s' ∧ rows = rows0
  | _ => False
@[simp] theorem Up_fsl_own {k : Bool} {s g w : Nat} {rows : List (List V)} : Up n L E H1 (.fsl k s rows) (.own g w) ↔ PureR rows ∧ UpFz n L E H1 s rows g w := by
  simp only [Up, PureR, UpFz]
  constructor
  · rintro (⟨_, h, _⟩ | ⟨h, _⟩ | ⟨hp, g', w', rows0, h, hq⟩)
    · cases h
    · cases h
    · cases h
      refine ⟨hp, ?_⟩
      rcases hq with ⟨rw, t, h1, h2, h3, h4⟩ | ⟨h1, h2⟩
      · rw [h1]; exact ⟨rfl, rfl, h2, h3, .inr h4⟩
      · rw [h1]; exact ⟨rfl, rfl, h2⟩
  · rintro ⟨hp, h⟩
    refine .inr (.inr ⟨hp, g, w, ?_⟩)
    split at h
    · rename_i w' rows0 s' rw t hg
      obtain ⟨rfl, rfl, h1, h2, h3⟩ := h
      refine ⟨rows0, rfl, .inl ⟨rw, t, hg, h1, h2, ?_⟩⟩
      rcases h3 with h3 | h3
      · subst h3; exact UpR.self hp
      · exact h3
    · rename_i w' rows0 s' hg
      obtain ⟨rfl, rfl, rfl⟩ := h
      exact ⟨_, rfl, .inr ⟨hg, rfl⟩⟩
    · exact h.elim
@[simp] theorem Up_fsl_fsl {k k0 : Bool} {s s0 : Nat} {rows rows0 : List (List V)} : Up n L E H1 (.fsl k s rows) (.fsl k0 s0 rows0) ↔ s0 = s ∧ rows0 = rows ∧ (k = true → k0 = true) := by
  simp only [Up]
  constructor
  · rintro (⟨_, h, h1⟩ | ⟨h, _⟩ | ⟨_, _, _, _, h, _⟩)
    · cases h; exact ⟨rfl, rfl, h1⟩
    · cases h
    · cases h
  · rintro ⟨rfl, rfl, h⟩; exact .inl ⟨_, rfl, h⟩
@[simp] theorem Up_fsl_nil {k : Bool} {s : Nat} {rows : List (List V)} : Up n L E H1 (.fsl k s rows) (.lit (.slice none 0 0)) ↔ rows = [] ∧ s < 4294967296 := by
  simp only [Up]
  constructor
  · rintro (⟨_, h, _⟩ | ⟨_, h, h1⟩ | ⟨_, _, _, _, h, _⟩)
    · cases h
    · exact ⟨List.eq_nil_of_length_eq_zero h, h1⟩
    · cases h
  · rintro ⟨rfl, h⟩; exact .inr (.inl ⟨trivial, rfl, h⟩)
@[simp] theorem Up_lit {v : Value} {u : V} : Up n L E H1 (.lit v) u ↔ u = .lit v := by simp only [Up]
@[simp] theorem Up_agg {vs us : List V} : Up n L E H1 (.agg vs) (.agg us) ↔ Ups n L E H1 vs us := by
  simp only [Up]
  exact ⟨fun ⟨_, h, h1⟩ => by cases h; exact h1, fun h => ⟨_, rfl, h⟩⟩
@[simp] theorem Up_tup {vs us : List V} : Up n L E H1 (.tup vs) (.tup us) ↔ Ups n L E H1 vs us := by
  simp only [Up]
  exact ⟨fun ⟨_, h, h1⟩ => by cases h; exact h1, fun h => ⟨_, rfl, h⟩⟩
@[simp] theorem Up_junk {u : V} : Up n L E H1 .junk u ↔ True := by simp only [Up]
@[simp] theorem Up_own_nil {g w : Nat} : Up n L E H1 (.own g w) (.lit (.slice none 0 0)) ↔ n + L.length ≤ g ∧ g < n + L.length + E.length ∧ w = 0 := by
  simp only [Up]
  constructor
  · rintro (⟨_, h⟩ | ⟨_, h, _⟩ | ⟨h1, h2, h3, _⟩)
    · cases h
    · cases h
    · exact ⟨h1, h2, h3⟩
  · rintro ⟨h1, h2, h3⟩; exact .inr (.inr ⟨h1, h2, h3, trivial⟩)
@[simp] theorem Up_own_own {g w g0 w0 : Nat} : Up n L E H1 (.own g w) (.own g0 w0) ↔ w0 = w ∧ ((g < n ∧ g0 = g) ∨ (n ≤ g ∧ L[g - n]? = some g0)) := by
  simp only [Up]
  constructor
  · rintro (⟨h1, h⟩ | ⟨_, h, h1⟩ | ⟨_, _, _, h⟩)
    · cases h; exact ⟨rfl, .inl ⟨h1, rfl⟩⟩
    · cases h; exact ⟨rfl, .inr h1⟩
    · cases h
  · rintro ⟨rfl, ⟨h1, rfl⟩ | h⟩
    · exact .inl ⟨h1, rfl⟩
    · exact .inr (.inl ⟨_, rfl, h⟩)
@[simp] theorem Up_ptr_ptr {g o g0 o0 : Nat} : Up n L E H1 (.ptr g o) (.ptr g0 o0) ↔ o0 = o ∧ ((g < n ∧ g0 = g) ∨ (n ≤ g ∧ L[g - n]? = some g0)) := by
  simp only [Up]
  constructor
  · rintro (⟨h1, h⟩ | ⟨_, h, h1⟩)
    · cases h; exact ⟨rfl, .inl ⟨h1, rfl⟩⟩
    · cases h; exact ⟨rfl, .inr h1⟩
  · rintro ⟨rfl, ⟨h1, rfl⟩ | h⟩
    · exact .inl ⟨h1, rfl⟩
    · exact .inr ⟨_, rfl, h⟩
/-- An object's cells, frozen. -/
def UpFp (n : Nat) (L E : List Nat) (H1 : Hp) (cs : List V) (g o : Nat) : Prop := match H1[g]? with
  | some (.mem cells _) => n ≤ g ∧ g ∉ L ∧ o ≤ cells.length ∧ Ups n L E H1 cs (cells.drop o)
  | _ => False
@[simp] theorem Up_fptr_ptr {cs : List V} {g o : Nat} : Up n L E H1 (.fptr cs) (.ptr g o) ↔ pureVs cs = true ∧ UpFp n L E H1 cs g o := by
  simp only [Up, UpFp]
  constructor
  · rintro (h | ⟨hp, g', o', cells, rw, h, h1, h2⟩)
    · cases h
    · cases h; rw [h1]; exact ⟨hp, h2⟩
  · rintro ⟨hp, h⟩
    refine .inr ⟨hp, g, o, ?_⟩
    split at h
    · rename_i cells rw hg
      exact ⟨cells, rw, rfl, hg, h⟩
    · exact h.elim
@[simp] theorem Up_fptr_fptr {cs cs0 : List V} : Up n L E H1 (.fptr cs) (.fptr cs0) ↔ cs0 = cs := by
  simp only [Up]
  constructor
  · rintro (h | ⟨_, _, _, _, _, h, _⟩) <;> cases h; rfl
  · rintro rfl; exact .inl rfl
@[simp] theorem Up_fn {f : FuncId} {fi cp fi0 cp0 : List V} : Up n L E H1 (.fn f fi cp) (.fn f fi0 cp0) ↔ Ups n L E H1 fi fi0 ∧ Ups n L E H1 cp cp0 := by
  simp only [Up]
  exact ⟨fun ⟨_, _, h, h1⟩ => by cases h; exact h1, fun h => ⟨_, _, rfl, h⟩⟩
attribute [simp] UpFz UpFp
end
end
attribute [simp] vev vupd ofVal toVal litsOf flatB vLen lenOf rowsAt rowsOf vLoad at_ vStore putAt spl vFieldAddr vIdx isInt vSlice intOptV vSliceR vAppend srcV vBin vEq mkLit vConv bytesV vBuild vLit litRows vMake vNone vTrunc vZeros nilI VB nilCmp litCells partVV nonNil wantedV vresults vresult vresultL pureV pureVs belB belBs fillV vCopy
end Go.Proofs.Ytibejcomfjddfaa.VM
end
section
set_option maxHeartbeats 8000000
set_option linter.unusedVariables false
set_option linter.unusedSimpArgs false

/- The machine of values: calls with slices that are frozen ahead. -/
namespace Go.Proofs.Ytibejcomfjddfaa.VM
open Go AM
section
variable {P : Program} {prim : CallF} {K K' : Kn} {φ φ' : List Rz} {H H' H0 : Hp} {σ σ' : Heap} {v x : V} {a : Value} {q : Bool}
theorem Frz.trans {H1 H2 : Hp} (h1 : Frz H H1) (h2 : Frz H1 H2) : Frz H H2 := fun K φ σ hR => by
  obtain ⟨K1, φ1, p1, r1⟩ := h1 K φ σ hR
  obtain ⟨K2, φ2, p2, r2⟩ := h2 K1 φ1 σ r1
  exact ⟨K2, φ2, p1.trans p2 (p1.le_len (Nat.le_refl _)), r2⟩
/-- One's own rows are frozen. -/
theorem Frz.vec {g w s : Nat} {rows : List (List V)} {rw t : Bool} (hg : H[g]? = some (.vec w rows s rw t)) (hpu : PureR rows) : Frz H (H.set g (.fro w rows s)) := by
  intro K φ σ hR
  obtain ⟨r, hr⟩ : ∃ r, φ[g]? = some r := ⟨_, List.getElem?_eq_getElem (by rw [hR.len]; exact get_lt hg)⟩
  have hlt := get_lt hr
  have hob := hR.ob g _ r hg hr
  cases r with
  | mem _ => exact hob.elim
  | fro _ _ _ => exact hob.elim
  | vec val w' s' =>
    obtain ⟨rfl, rfl, h0, h1, hok, h2⟩ := hob
    have main : ∀ K' : Kn, (∀ b c, K b = some c → K' b = some c) → (∀ b c, K' b = some c → K b = some c ∨ ((Rz.vec val w s).blk = some b ∧ ∃ p, σ[b]? = some ⟨c, p⟩ ∧ p ≠ .dead)) → VR K' (.fsl true s rows) [] val → ∃ K' φ', Post φ.length K φ K' φ' ∧ Rel K' φ' (H.set g (.fro w rows s)) σ := fun K' k1 k2 k3 => by
      have hp : Post φ.length K φ K' (φ.set g (.fro val w s)) := ⟨k1, fun k q hk hq => by
        by_cases e : k = g
        · subst e; rw [hr] at hq; cases hq
          exact ⟨.fro val w s, by rw [List.getElem?_set_self hk], rfl, Nat.le_refl _, fun _ => rfl⟩
        · exact ⟨q, by rw [List.getElem?_set_ne (Ne.symm e)]; exact hq, .refl _⟩⟩
      have get : ∀ {k : Nat} {q : Rz}, (φ.set g (.fro val w s))[k]? = some q → (k = g ∧ q = .fro val w s) ∨ (k ≠ g ∧ φ[k]? = some q) := fun {k q} hq => by
        by_cases e : k = g
        · subst e; rw [List.getElem?_set_self hlt] at hq; cases hq; exact .inl ⟨rfl, rfl⟩
        · rw [List.getElem?_set_ne (Ne.symm e)] at hq; exact .inr ⟨e, hq⟩
      refine ⟨K', φ.set g (.fro val w s), hp, by simp [hR.len], fun b c hc => ?_, fun k y q hy hq => ?_, fun k k' q q' b hq hq' hb hb' => ?_, fun k q b hq hb => ?_, fun p hp => k1 _ _ (hR.gk p hp)⟩
      · rcases k2 b c hc with h | ⟨_, h⟩
        · exact hR.kn b c h
        · exact h
      · rcases get hq with ⟨e1, e2⟩ | ⟨hk, hq1⟩
        · subst e2
          rw [e1, List.getElem?_set_self (get_lt hg)] at hy; cases hy
          exact ⟨rfl, rfl, k3⟩
        · rw [List.getElem?_set_ne (Ne.symm hk)] at hy
          exact (hR.ob k y q hy hq1).keep (fun _ _ => rfl) hp
      · rcases get hq with ⟨e1, e2⟩ | ⟨hk, hq1⟩
        · subst e2; cases hb
        · rcases get hq' with ⟨e3, e4⟩ | ⟨hk', hq1'⟩
          · subst e4; cases hb'
          · exact hR.inj k k' q q' b hq1 hq1' hb hb'
      · rcases get hq with ⟨e1, e2⟩ | ⟨hk, hq1⟩
        · subst e2; cases hb
        · cases hK : K' b with
          | none => rfl
          | some c =>
            rcases k2 b c hK with h | ⟨h, _⟩
            · rw [hR.apart k q b hq1 hb] at h; cases h
            · exact absurd (hR.inj k g q _ b hq1 hr hb h) hk
    rcases h2 with ⟨h2, h3⟩ | ⟨b, c, vals, rest, p, h3, h4, h5, h6, h7⟩
    · have hr0 : rows = [] := List.eq_nil_of_length_eq_zero h2
      subst hr0
      refine main K (fun _ _ h => h) (fun _ _ h => .inl h) ?_
      have hcap : capOK 0 s 0 := by unfold capOK; rw [capOf_exact_eq (by decide)]; exact Nat.le_refl _
      rcases h3 with h3 | ⟨b, o, cells, h3, h4, h5⟩
      · subst h3; exact ⟨none, 0, rfl, fun _ => rfl, (fun _ => by simp [AM.dng]), hcap, by omega, .inl ⟨rfl, rfl⟩⟩
      · subst h3; exact ⟨_, 0, rfl, (fun e => by cases e), (fun _ => by simp [AM.dng]), hcap, by omega, .inr ⟨b, o, cells, rfl, h4, by simpa using h5, by simp [RowsR]⟩⟩
    · have hblk : (Rz.vec val w s).blk = some b := vec_blk h3 h4
      have hkn : ∀ b' c', K b' = some c' → (K.add b (vals ++ rest)) b' = some c' := fun b' c' h => by
        unfold Kn.add
        split
        · rename_i e; subst e; rw [hR.apart g _ b' hr hblk] at h; cases h
        · exact h
      refine main (K.add b (vals ++ rest)) hkn (fun b' c' h => ?_) ?_
      · unfold Kn.add at h
        split at h
        · rename_i e; subst e; cases h; exact .inr ⟨hblk, p, h5, permOk_alive h6⟩
        · exact .inl h
      · subst h3
        have hl := h7.len
        refine ⟨_, c, rfl, (fun e => by cases e), (fun _ => h4.dng), h4.ok, by omega, .inr ⟨b, 0, vals ++ rest, rfl, by simp [Kn.add], by simp; omega, ?_⟩⟩
        rw [List.drop_zero, ← hl, List.take_left]
        exact (h7.pure hpu).monoN (n := 0) ⟨hkn, fun g r hg => by omega⟩
mutual
theorem Up.lock : ∀ {v u : V}, Up H.length [] [] H v u → Up H.length [] [] (lockV H) v u
  | .lit _, _, h => by simp only [Up] at h ⊢; exact h
  | .junk, _, _ => by simp only [Up]
  | .fsl k s rows, u, h => by
    simp only [Up] at h ⊢
    rcases h with h | h | ⟨hp, g, w, rows0, h, ⟨rw, t, h1, h2, _⟩ | ⟨h1, h2⟩⟩
    · exact .inl h
    · exact .inr (.inl h)
    · have := get_lt h1; omega
    · exact .inr (.inr ⟨hp, g, w, rows0, h, .inr ⟨by simp [lockV, h1, Ob.lock], h2⟩⟩)
  | .fptr cs, u, h => by
    simp only [Up] at h ⊢
    rcases h with h | ⟨hp, g, o, cells, rw, h, h1, h2, _⟩
    · exact .inl h
    · have := get_lt h1; omega
  | .own g w, u, h => by simp only [Up] at h ⊢; exact h
  | .ptr g w, u, h => by simp only [Up] at h ⊢; exact h
  | .elt g w k o, u, h => by simp only [Up] at h ⊢; exact h
  | .fn f fi cp, u, h => by
    simp only [Up] at h ⊢
    obtain ⟨fi0, cp0, rfl, h1, h2⟩ := h
    exact ⟨fi0, cp0, rfl, h1.lock, h2.lock⟩
  | .ifc t v, u, h => by
    simp only [Up] at h ⊢
    obtain ⟨v0, rfl, h1⟩ := h
    exact ⟨v0, rfl, h1.lock⟩
  | .agg cs, u, h => by
    simp only [Up] at h ⊢
    obtain ⟨v0, rfl, h1⟩ := h
    exact ⟨v0, rfl, h1.lock⟩
  | .tup cs, u, h => by
    simp only [Up] at h ⊢
    obtain ⟨v0, rfl, h1⟩ := h
    exact ⟨v0, rfl, h1.lock⟩
theorem Ups.lock : ∀ {v u : List V}, Ups H.length [] [] H v u → Ups H.length [] [] (lockV H) v u
  | [], _, h => by simp only [Ups] at h ⊢; exact h
  | v :: vs, u, h => by
    simp only [Ups] at h ⊢
    obtain ⟨u0, us, rfl, h1, h2⟩ := h
    exact ⟨u0, us, rfl, h1.lock, h2.lock⟩
end
theorem Ans.callF {f : FuncId} {args : List V} (args' : List V) (h : Ans P prim f args' v) (hfz : Frz H H0) (ha : Ups H0.length [] [] H0 args' args) {k : KVV} (hk : k.run v H0) : @CALLv P prim q f args H k := by
  refine ⟨H0, hfz, ?_⟩
  cases q with
  | false => exact VC.up ha ((h H0).mono fun u T ⟨e1, e2⟩ => by subst e2; subst e1; exact hk)
  | true =>
    have hl : (lockV H0).length = H0.length := by simp [lockV]
    refine VC.up (args' := args') (by rw [hl]; exact ha.lock) ((h (lockV H0)).mono fun u T ⟨e1, e2⟩ => ?_)
    subst e2; subst e1
    exact ⟨[], by simp, by simp, by simpa using hk⟩
/-- A call with other words for its arguments. -/
theorem Ans.callU {f : FuncId} {args : List V} (args' : List V) (h : Ans P prim f args' v) (ha : Ups H.length [] [] H args' args) {k : KVV} (hk : k.run v H) : @CALLv P prim q f args H k := h.callF args' .refl ha hk
theorem AnsO.callU {f : FuncId} {args : List V} (args' : List V) {s : Nat} {rows : List (List V)} (h : AnsO P prim f args' s rows) (ha : Ups H.length [] [] H args' args) {k : KVV} (hk : ∀ w t, k.run (.own H.length w) (H ++ [.vec w rows s true t])) : @CALLv P prim q f args H k := by
  refine ⟨H, .refl, ?_⟩
  cases q with
  | false => exact VC.up ha ((h H).mono fun u T ⟨w, t, e1, e2⟩ => by subst e2; subst e1; exact hk w t)
  | true =>
    have hl : (lockV H).length = H.length := by simp [lockV]
    refine VC.up (args' := args') (by rw [hl]; exact ha.lock) ((h (lockV H)).mono fun u T ⟨w, t, e1, e2⟩ => ?_)
    subst e2; subst e1
    exact ⟨[_], rfl, by simp [Ob.rwOk], by simpa [lockV] using hk w t⟩
/-- Rows of one's own, frozen by who asked for them. -/
theorem AnsO.fro {f : FuncId} {args : List V} {s : Nat} {rows : List (List V)} (h : AnsO P prim f args s rows) (hp : PureR rows) (k : Bool) : Ans P prim f args (.fsl k s rows) := fun H K φ σ as hR ha =>
  (h H K φ σ as hR ha).mono fun a σ' ⟨K', φ', v, H', h1, h2, h3, w, t, e1, e2⟩ => by
    subst e1; subst e2
    obtain ⟨K2, φ2, v2, H2, g1, g2, g3, g4⟩ := GV.ret (R := fun u T => u = .fsl k s rows ∧ T = H) (X := [.vec w rows s true t]) (.fsl k s rows) hR.cl (by simp [hp]) ⟨rfl, rfl⟩ K' φ' σ' a h2 h3
    rw [← hR.len] at g1
    exact ⟨K2, φ2, v2, H2, h1.trans g1 (Nat.le_refl _), g2, g3, g4⟩
/-- nil in a temporary becomes empty rows of one's own. -/
theorem G.nilT {Q : Ev → Hp → Prop} {m s : Nat} {e : Ev} {Z : Hp} (t : Tmp) (hcl : Cl H) (hm : m ≤ H.length + Z.length) (hs : 0 < s ∧ s ≤ 1048576) (hZ : UpOs (H.length + Z.length) [] [s] (H ++ Z) Z Z) (ht : e t = .lit (.slice none 0 0))
    (h : Q (vupd (VM.clip (H.length + Z.length) e) (some t) (.own (H.length + Z.length) 0)) (H ++ (Z ++ [.vec 0 [] s true true]))) : G m Q e (H ++ Z) := by
  have := G.mk (Q := Q) (m := m) (e := e) (H0 := H) (Z := Z) (Z' := Z) (X := []) [s] (vupd (VM.clip (H.length + Z.length) e) (some t) (.own (H.length + Z.length) 0)) hcl hm (by simpa using hs) (by simpa using hZ) (fun j => by
    show Up _ _ _ _ (if j = t then V.own (H.length + Z.length) 0 else VM.clip _ e j) (e j)
    by_cases hj : j = t
    · subst hj; rw [if_pos rfl, ht]; simp
    · rw [if_neg hj]; exact clip_up j) (by simpa using h)
  simpa using this
theorem G.nilT0 {Q : Ev → Hp → Prop} {m s : Nat} {e : Ev} (t : Tmp) (hcl : Cl H) (hm : m ≤ H.length) (hs : 0 < s ∧ s ≤ 1048576) (ht : e t = .lit (.slice none 0 0))
    (h : Q (vupd (VM.clip H.length e) (some t) (.own H.length 0)) (H ++ [.vec 0 [] s true true])) : G m Q e H := by
  have := G.nilT (Q := Q) (m := m) (s := s) (e := e) (Z := []) t hcl (by simpa using hm) hs (by simp) ht (by simpa using h)
  simpa using this
theorem Cl.set {g : Nat} {y : Ob} (h : Cl H) (hy : y.bel H.length) : Cl (H.set g y) := fun o ho => by
  rw [List.length_set]
  rcases List.mem_or_eq_of_mem_set ho with ho | rfl
  · exact h o ho
  · exact hy
end
end Go.Proofs.Ytibejcomfjddfaa.VM
end
section
set_option maxHeartbeats 8000000
set_option linter.unusedVariables false
set_option linter.unusedSimpArgs false

/- The machine of values: a law's arguments as they lie in the world's memory. -/
namespace Go.Proofs.Ytibejcomfjddfaa.VM
open Go Go.RowKit AM
section
variable {P : Program} {prim : CallF} {w : World} {v : Value} {x : V}
open Classical in
/-- A cell as the abstract machine may read it; an empty slice of unknown place. -/
noncomputable def cl (h : Array Obj) (v : Value) : Value := match v with
  | .slice (some _) 0 _ => .slice (some ⟨h.size, 0, none⟩) 0 AM.dng
  | v => if Val (idMu h) v v then v else .chan (some 0)
theorem cl_val (h : Array Obj) (v : Value) : Val (idMu h) (cl h v) v := by
  unfold cl
  split
  · exact .sld (Nat.le_refl _)
  · split
    · assumption
    · exact .junk 0 _
theorem cl_same {h : Array Obj} {v : Value} (hv : Val (idMu h) v v) (hne : ∀ a c, v ≠ .slice (some a) 0 c) : cl h v = v := by
  unfold cl
  split
  · exact absurd rfl (hne _ _)
  · rw [if_pos hv]
/-- The memory of a world, all of it to be read alone, and an empty block behind. -/
noncomputable def heapC (h : Array Obj) : Heap := (h.toList.map fun o => match o with
  | .cells c _ _ => ⟨c.toList.map (cl h), .ro⟩
  | _ => ⟨[], .dead⟩) ++ [⟨[], .ro⟩]
theorem heapC_len (h : Array Obj) : (heapC h).length = h.size + 1 := by simp [heapC]
theorem heapC_get {h : Array Obj} {l : Nat} (hl : l < h.size) : (heapC h)[l]? = (h[l]?).map fun o => match o with
    | .cells c _ _ => ⟨c.toList.map (cl h), .ro⟩
    | _ => ⟨[], .dead⟩ := by
  unfold heapC
  rw [List.getElem?_append_left (by simpa using hl)]
  simp
theorem heapC_end (h : Array Obj) : (heapC h)[h.size]? = some ⟨[], .ro⟩ := by
  unfold heapC
  rw [List.getElem?_append_right (by simp)]
  simp
theorem heapC_full {h : Array Obj} {l : Nat} : ¬ isFull (heapC h) l := by
  rintro ⟨x, hx, hp⟩
  by_cases hl : l < h.size
  · rw [heapC_get hl] at hx
    cases ho : h[l]? with
    | none => rw [ho] at hx; cases hx
    | some o =>
      rw [ho] at hx
      cases o <;> (cases hx; cases hp)
  · have := get_lt hx
    rw [heapC_len] at this
    have e : l = h.size := by omega
    subst e
    rw [heapC_end] at hx
    cases hx; cases hp
theorem sim_startC {h : Array Obj} (hg : Globs h) : Sim (idMu h) (heapC h) h := by
  refine ⟨fun l b N hm => ?_, fun l1 l2 b N1 N2 _ _ _ hf _ => heapC_full hf, fun l b N x hm hx hd => ?_, hg.id⟩
  · unfold idMu at hm
    split at hm
    · rename_i c e fr ho
      cases hm
      exact (Array.getElem?_eq_some_iff.1 ho).1
    · cases hm
  · unfold idMu at hm
    split at hm
    · rename_i c e fr ho
      cases hm
      have hl : l < h.size := (Array.getElem?_eq_some_iff.1 ho).1
      rw [heapC_get hl, ho] at hx
      cases hx
      refine ⟨c, e, fr, ho, rfl, fun hp => (by cases hp), fun j v hj => ?_⟩
      simp only [List.getElem?_map, Option.map_eq_some_iff] at hj
      obtain ⟨u, hu, rfl⟩ := hj
      exact ⟨u, by simpa using hu, cl_val h u⟩
    · cases hm
theorem startC (hm : P.follows .mixedOrders = true) (hprim : CallOk P prim) {n : Nat} {f : FuncId} {args args' : Array Value} {σ' : Heap} (hgl : Globs w.heap) (hbody : HasBody P f) (ha : ValL (idMu w.heap) args'.toList args.toList) (h : acall P prim n f args' (heapC w.heap) = some (v, σ')) (hv : scalarB v = true) :
    Calls P f args w fun e w' => e = .returned v ∧ Below w.heap.size w w' := by
  obtain ⟨_, hle, hc⟩ := acall_sound hm hprim n _ _ _ _ _ h
  refine Calls.mono (hc hbody args (idMu w.heap) w ha (sim_startC hgl) (fun l h1 _ => ?_)) fun e w' ⟨v', μ', he, k1, k2, k3⟩ => ?_
  · rw [heapC_len] at h1
    unfold idMu
    rw [Array.getElem?_eq_none (by omega)]
  · subst he
    rw [scalar_val hv k1]
    exact ⟨rfl, k3.os, k3.tape, k3.output, k3.size, fun b hb => k3.keep b hb fun l N _ hf => heapC_full hf⟩
def KOf (w : World) (K : Kn) : Prop := ∀ b x, (heapC w.heap)[b]? = some x → x.perm ≠ .dead → K b = some x.cells
/-- A cell of the world's memory reads as a value. -/
def CellV (w : World) (x : V) (u : Value) : Prop := ∀ K, KOf w K → VR K x [] (cl w.heap u)
def CellsV (w : World) : List V → List Value → Prop
  | [], us => us = []
  | x :: xs, us => ∃ u us', us = u :: us' ∧ CellV w x u ∧ CellsV w xs us'
theorem CellsV.vrs {K : Kn} (hK : KOf w K) : ∀ {xs : List V} {us : List Value}, CellsV w xs us → VRs K xs [] (us.map (cl w.heap))
  | [], _, h => by simp only [CellsV] at h; subst h; rfl
  | x :: xs, _, ⟨u, us, h1, h2, h3⟩ => by subst h1; exact ⟨_, _, rfl, h2 K hK, h3.vrs hK⟩
theorem CellsV.len : ∀ {xs : List V} {us : List Value}, CellsV w xs us → us.length = xs.length
  | [], _, h => by simp only [CellsV] at h; subst h; rfl
  | x :: xs, _, ⟨u, us, h1, h2, h3⟩ => by subst h1; simp [h3.len]
theorem CellV.lit {u : Value} (h : scalarB u = true) : CellV w (.lit u) u := fun K _ => by rw [cl_same (.scal h) (fun a c e => by subst e; simp [scalarB] at h)]; exact ⟨rfl, h⟩
/-- Rows of cells. -/
def RowsV (w : World) (s : Nat) : List (List V) → List Value → Prop
  | [], us => us = []
  | r :: rs, us => ∃ a as, us = a ++ as ∧ r.length = s ∧ CellsV w r a ∧ RowsV w s rs as
theorem RowsV.rows {K : Kn} (hK : KOf w K) {s : Nat} : ∀ {rs : List (List V)} {us : List Value}, RowsV w s rs us → RowsR K s rs [] (us.map (cl w.heap))
  | [], _, h => by simp only [RowsV] at h; subst h; rfl
  | r :: rs, _, ⟨a, as, h1, h2, h3, h4⟩ => by subst h1; exact ⟨_, _, by rw [List.map_append], h2, h3.vrs hK, h4.rows hK⟩
theorem RowsV.len {s : Nat} : ∀ {rs : List (List V)} {us : List Value}, RowsV w s rs us → us.length = rs.length * s
  | [], _, h => by simp only [RowsV] at h; subst h; simp
  | r :: rs, _, ⟨a, as, h1, h2, h3, h4⟩ => by subst h1; rw [List.length_append, h3.len, h2, h4.len, List.length_cons, Nat.add_mul]; omega
/-- A slice. -/
theorem CellV.slice {A : Option Addr} {n c s : Nat} {rows : List (List V)} {us : List Value} (hs : 0 < s) (hs1 : s ≤ 1048576) (h0 : A = none → n = 0 ∧ c = 0) (hnc : n ≤ c) (hc : c ≤ maxLen) (hn : rows.length = n) (hr : RowsV w s rows us)
    (hm : 0 < n → ∃ g o, A = some ⟨g, o, none⟩ ∧ ∀ j u, us[j]? = some u → w.cell? ⟨g, o + j, none⟩ = some u) : ∃ k, CellV w (.fsl k s rows) (.slice A n c) := by
  have hct : c < top := by simp only [top, maxLen] at *; omega
  have hcd : c < AM.dng := by simp only [AM.dng, maxLen] at *; omega
  have hlen := hr.len
  by_cases hn0 : n = 0
  · have hr0 : rows = [] := List.eq_nil_of_length_eq_zero (by omega)
    subst hr0
    cases A with
    | none =>
      obtain ⟨e1, e2⟩ := h0 rfl
      subst e1; subst e2
      refine ⟨true, fun K hK => ?_⟩
      rw [cl_same (.scal rfl) (fun a c e => by cases e)]
      exact ⟨none, 0, rfl, fun _ => rfl, fun _ => hcd, by unfold capOK; rw [capOf_exact_eq (by decide)]; exact Nat.le_refl _, by omega, .inl ⟨rfl, rfl⟩⟩
    | some a =>
      subst hn0
      refine ⟨false, fun K hK => ?_⟩
      show VR K _ [] (.slice (some ⟨w.heap.size, 0, none⟩) 0 AM.dng)
      exact ⟨_, AM.dng, rfl, (fun e => by cases e), (fun h => by cases h), by unfold capOK; rw [capOf_dng]; rfl, by omega, .inr ⟨w.heap.size, 0, [], rfl, hK _ _ (heapC_end _) (by simp), by simp, by simp [RowsR]⟩⟩
  · obtain ⟨g, o, rfl, hcell⟩ := hm (by omega)
    have hpos : 0 < us.length := by rw [hlen, hn]; exact Nat.mul_pos (by omega) hs
    obtain ⟨C, e, fr, ho, hC⟩ : ∃ C e fr, w.heap[g]? = some (.cells C e fr) ∧ ∀ j u, us[j]? = some u → C[o + j]? = some u := by
      have h1 := hcell 0 us[0] (List.getElem?_eq_getElem hpos)
      unfold World.cell? at h1
      split at h1
      · rename_i C e fr ho
        refine ⟨C, e, fr, ho, fun j u hj => ?_⟩
        have h2 := hcell j u hj
        unfold World.cell? at h2
        simp only at ho
        rw [ho] at h2
        simpa using h2
      · cases h1
    have hl : g < w.heap.size := (Array.getElem?_eq_some_iff.1 ho).1
    have hv : Val (idMu w.heap) (.slice (some ⟨g, o, none⟩) n c) (.slice (some ⟨g, o, none⟩) n c) := .sl (N := C.size) (by unfold idMu; rw [ho]) hct
    refine ⟨true, fun K hK => ?_⟩
    rw [cl_same hv (fun a c e => by cases e; exact hn0 rfl)]
    have hk := hK g ⟨C.toList.map (cl w.heap), .ro⟩ (by rw [heapC_get hl, ho]; rfl) (by simp)
    have hfit : o + us.length ≤ C.size := by
      have := hC (us.length - 1) us[us.length - 1] (List.getElem?_eq_getElem (by omega))
      have := (Array.getElem?_eq_some_iff.1 this).1
      omega
    refine ⟨_, c, by rw [hn], (fun e => by cases e), (fun _ => hcd), by unfold capOK; rw [capOf_exact_eq hct, hn]; exact hnc, by omega, .inr ⟨g, o, _, rfl, hk, by simp only [List.length_map, Array.length_toList]; omega, ?_⟩⟩
    have heq : ((C.toList.map (cl w.heap)).drop o).take (rows.length * s) = us.map (cl w.heap) := by
      apply List.ext_getElem?
      intro j
      rw [List.getElem?_take, List.getElem?_drop, List.getElem?_map, List.getElem?_map]
      by_cases hj : j < us.length
      · rw [if_pos (by omega)]
        have := hC j us[j] (List.getElem?_eq_getElem hj)
        rw [List.getElem?_eq_getElem hj, Array.getElem?_toList, this]
      · rw [if_neg (by omega), List.getElem?_eq_none (by omega)]; rfl
    rw [heq]
    exact hr.rows hK
/-- Arguments. -/
def ArgV (w : World) (x : V) (u : Value) : Prop := ∃ a, Val (idMu w.heap) a u ∧ ∀ K, KOf w K → VR K x [] a
theorem CellV.arg {u : Value} (h : CellV w x u) : ArgV w x u := ⟨cl w.heap u, cl_val _ _, h⟩
theorem CellsV.arg {xs : List V} {us : Array Value} (h : CellsV w xs us.toList) : ArgV w (.agg xs) (.agg us) := by
  refine ⟨.agg (us.map (cl w.heap)), .agg (by simp) fun i v v' h1 h2 => ?_, fun K hK => ⟨_, rfl, by rw [Array.toList_map]; exact h.vrs hK⟩⟩
  rw [Array.getElem?_map] at h1
  rw [h2] at h1
  cases h1
  exact cl_val _ _
def ArgsV (w : World) : List V → List Value → Prop
  | [], us => us = []
  | x :: xs, us => ∃ u us', us = u :: us' ∧ ArgV w x u ∧ ArgsV w xs us'
theorem ArgsV.get : ∀ {xs : List V} {us : List Value}, ArgsV w xs us → ∃ as : List Value, ValL (idMu w.heap) as us ∧ ∀ K, KOf w K → VRs K xs [] as
  | [], _, h => by simp only [ArgsV] at h; subst h; exact ⟨[], .nil, fun K _ => rfl⟩
  | x :: xs, _, ⟨u, us, h1, ⟨a, h2, h3⟩, h4⟩ => by
    subst h1
    obtain ⟨as, h5, h6⟩ := h4.get
    refine ⟨a :: as, ⟨by simp [h5.1], fun i v v' e1 e2 => ?_⟩, fun K hK => ⟨a, as, rfl, h3 K hK, h6 K hK⟩⟩
    cases i with
    | zero => simp at e1 e2; subst e1; subst e2; exact h2
    | succ i => exact h5.2 i v v' (by simpa using e1) (by simpa using e2)
/-- The package variables stand in the memory. -/
theorem heapC_glob {h : Array Obj} (hg : Globs h) : ∀ p ∈ gcells, ∃ x : Blk, (heapC h)[p.1]? = some x ∧ x.perm ≠ .dead ∧ x.cells = p.2 := fun p hp => by
  obtain ⟨e, fr, h1⟩ := hg p hp
  refine ⟨_, by rw [heapC_get (Array.getElem?_eq_some_iff.1 h1).1, h1]; rfl, by simp, ?_⟩
  show p.2.map (cl h) = p.2
  refine (List.map_congr_left (g := id) fun x hx => ?_).trans (List.map_id _)
  exact cl_same (.scal (gflat p hp x hx)) (fun a c e => by have := gflat p hp x hx; subst e; simp [scalarB] at this)
/-- A law that is walked holds. -/
theorem Ans.law (hm : P.follows .mixedOrders = true) (hprim : CallOk P prim) {f : FuncId} {xs : List V} {us : Array Value} (h : Ans P prim f xs (.lit (.bool true))) (hbody : HasBody P f) (ha : ArgsV w xs us.toList) (hgl : Globs w.heap := by exact fun p hp => nomatch (show p ∈ ([] : List (Nat × List Value)) from hp)) : Calls P f us w fun e w' => e = .returned (.bool true) ∧ Below w.heap.size w w' := by
  obtain ⟨as, h1, h2⟩ := ha.get
  obtain ⟨n, σ', h3⟩ := VC.start (as := as.toArray) (σ := heapC w.heap) (h []) (heapC_glob hgl) (fun K hK => by simpa using h2 K hK) (fun v H' ⟨e, _⟩ => e)
  exact startC hm hprim hgl hbody (args' := as.toArray) (by simpa using h1) h3 rfl
end
end Go.Proofs.Ytibejcomfjddfaa.VM
end
