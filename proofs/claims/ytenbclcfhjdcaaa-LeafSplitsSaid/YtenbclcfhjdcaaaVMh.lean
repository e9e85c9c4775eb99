/- The machine of values: all operations. -/
import Derived.Test.YtenbclcfhjdcaaaVMg
namespace Go.Proofs.Ytenbclcfhjdcaaa.VM
open Go AM
section
variable {P : Program} {K K' : Kn} {φ φ' : List Rz} {H H' : Hp} {σ σ' : Heap} {v x y : V} {a b : Value} {q : Bool} {ρ : Operand → V} {ρa : Operand → Value}
variable {dst : Option Tmp} {type : TypeId} {pos : String} {after : Array Edge} {guard : Option (Nat × Bool)}

def copyA (P : Program) (t tx : TypeId) (d x : Value) (σ : Heap) : Option (Value × Heap) := match P.underlying t, d with
      | some (.slice e), .slice A n _ => match szOf P e with
        | some size => match (match x with | .slice _ _ _ => srcOf P σ size tx x | _ => none) with
          | some (m, xs) =>
            if Nat.min m n = 0 then some (.int .i64 0, σ) else
            match A with
            | some a => (writeN σ a (xs.take (Nat.min m n * size))).map fun σ' => (.int .i64 (Nat.min m n : Nat), σ')
            | none => none
          | none => none
        | none => none
      | _, _ => none
theorem vCopy_sound (hR : Rel K φ H σ) {t tx : TypeId} {d : V} {da : Value} (h : vCopy P t tx d x H = some (v, H')) (hd : VR K d φ da) (hx : VR K x φ a) : Snd K φ v H' (copyA P t tx da a σ) := by
  unfold vCopy at h
  split at h
  · rename_i e e' hu hu'
    split at h
    · rename_i s g w hs
      split at h
      · rename_i w' rows s' t' hg
        split at h
        · rename_i hc
          obtain ⟨rfl, rfl⟩ := hc
          split at h
          · rename_i xs hxs
            split at h
            · rename_i ho
              cases h
              obtain ⟨r, val, w', s1, g1, g2, g3, g4, A0, n0, c0, g5⟩ := hd
              have hob := hR.ob g _ _ hg g1
              cases r with
              | mem _ => cases g2
              | fro _ _ _ => exact hob.elim
              | vec val1 w2 s2 =>
                cases g2
                obtain ⟨f1, f2, f3, f4, f5, f6⟩ := hob
                subst f1; subst f2
                have g4 := g4 rfl
                obtain ⟨vals, v1, v2⟩ := srcV_sound (P := P) (tx := tx) hR (s := s) (by omega) (by unfold srcV; rw [hu']; exact hxs) hx
                obtain ⟨A1, c1, a1, _⟩ := rowsOf_sound hR (by omega) hxs hx
                have hset : φ.set g (.vec val w s) = φ := set_self g1
                generalize hm : Nat.min xs.length rows.length = m
                have hm1 : m ≤ xs.length := hm ▸ Nat.min_le_left _ _
                have hm2 : m ≤ rows.length := hm ▸ Nat.min_le_right _ _
                have hrl : (xs.take m ++ rows.drop m).length = rows.length := by simp; omega
                have hok : RowsOk s (xs.take m ++ rows.drop m) := fun r hr => by
                  rcases List.mem_append.1 hr with hr | hr
                  · exact ho r (List.mem_of_mem_take hr)
                  · exact f5 r (List.mem_of_mem_drop hr)
                rcases f6 with ⟨f6, f7⟩ | ⟨b, c, old, rest, p, f6, f7, f8, f9, f10⟩
                · have hr0 : rows = [] := List.eq_nil_of_length_eq_zero f6
                  subst hr0
                  have hm0 : m = 0 := by simp at hm2; exact hm2
                  subst hm0
                  obtain ⟨A2, hv2⟩ : ∃ A2, val = .slice A2 0 0 := by
                    rcases f7 with f7 | ⟨_, _, _, f7, _⟩ <;> exact ⟨_, f7⟩
                  unfold copyA
                  rw [g4, hv2, hu]; dsimp only
                  rw [hs]; dsimp only
                  rw [a1]; dsimp only
                  rw [← a1, v1]; dsimp only
                  rw [if_pos (by simp [Nat.min_def])]
                  have e1 : H.set g (.vec w (xs.take 0 ++ [].drop 0) s true t') = H := set_self hg
                  rw [e1]
                  exact .same hR ⟨rfl, rfl⟩
                · have hp : p = .full := f9
                  subst hp
                  have hol := f10.len
                  have hvl := v2.len
                  have hms : m * s ≤ xs.length * s := Nat.mul_le_mul_right _ hm1
                  have hms2 : m * s ≤ rows.length * s := Nat.mul_le_mul_right _ hm2
                  have hnew : RowsR K s (xs.take m ++ rows.drop m) φ (vals.take (m * s) ++ old.drop (m * s)) := (v2.takeR m hm1).append (f10.dropR m hm2)
                  by_cases h0 : m = 0
                  · subst h0
                    unfold copyA
                    rw [g4, f6, hu]; dsimp only
                    rw [hs]; dsimp only
                    rw [a1]; dsimp only
                    rw [← a1, v1]; dsimp only
                    rw [if_pos hm]
                    have e1 : H.set g (.vec w (xs.take 0 ++ rows.drop 0) s true t') = H := set_self hg
                    rw [e1]
                    exact .same hR ⟨rfl, rfl⟩
                  · have hvc : (vals.take (m * s)).all cellB = true := List.all_eq_true.2 fun z hz => List.all_eq_true.1 (v2.cells ho) z (List.mem_of_mem_take hz)
                    have hu2 := hR.upd (r' := .vec val w s) (y' := .vec w (xs.take m ++ rows.drop m) s true t') (σ' := σ.set b ⟨AM.splice (old ++ rest) 0 (vals.take (m * s)), .full⟩) g1 (.refl _)
                      (by
                        rw [hset]
                        refine ⟨rfl, rfl, f3, f4, hok, .inr ⟨b, c, _, rest, .full, by rw [hrl]; exact f6, ?_, ?_, rfl, hnew⟩⟩
                        · have hl1 := hnew.len
                          rw [hrl] at hl1 ⊢
                          rw [List.length_append, hl1, ← hol, ← List.length_append]; exact f7
                        rw [List.getElem?_set_self (get_lt f8), splice_right _ _ _ _ (by simp; omega)]
                        congr 2
                        unfold AM.splice
                        have : (vals.take (m * s)).length = m * s := by rw [List.length_take]; omega
                        simp only [List.take_zero, List.nil_append, Nat.zero_add, this]) (fun j hj => .inl hj) (fun j _ hj => List.getElem?_set_ne (fun e => hj (by rw [← e]; exact vec_blk f6 f7)))
                    rw [hset] at hu2
                    unfold copyA
                    rw [g4, f6, hu]; dsimp only
                    rw [hs]; dsimp only
                    rw [a1]; dsimp only
                    rw [← a1, v1]; dsimp only
                    rw [if_neg (by rw [hm]; exact h0), hm, writeN_eq, f8, writeB_full, if_pos ⟨by simp; omega, hvc⟩]
                    exact ⟨_, _, K, φ, rfl, .refl _ _ _, hu2.1, rfl, rfl⟩
            · cases h
          · cases h
        · cases h
      · cases h
    · cases h
  · cases h
/-- No elements of a slice, and no room. -/
def vNone (P : Program) (t : TypeId) (H : Hp) (x : V) (lo hi mx : Option V) : Option (V × Hp) := match intOptV lo, intOptV hi, intOptV mx with
  | some none, some (some h), some (some m) => match P.underlying t, x with
    | some (.slice e), .fsl k s rows => if (h = 0 ∧ m = 0) ∧ szOf P e = some s ∧ 0 < s ∧ s ≤ 1048576 ∧ (k = true ∨ 0 < rows.length) then some (.own H.length 0, H ++ [.vec 0 [] s true true]) else none
    | _, _ => none
  | _, _, _ => none
theorem vNone_sound (hR : Rel K φ H σ) {t : TypeId} {lo hi mx : Option V} {loA hiA mxA : Option Value} (h : vNone P t H x lo hi mx = some (v, H')) (hx : VR K x φ a) (h1 : OptR K φ lo loA) (h2 : OptR K φ hi hiA) (h3 : OptR K φ mx mxA) :
    Snd K φ v H' ((aSlice P t a loA hiA mxA).map (·, σ)) ∧ ∀ s, a ≠ .string s := by
  unfold vNone at h
  split at h
  · rename_i ih im i1 i2 i3
    have j1 := intOptV_sound i1 h1
    have j2 := intOptV_sound i2 h2
    have j3 := intOptV_sound i3 h3
    split at h
    · rename_i e k s rows hu
      split at h
      · rename_i hc
        obtain ⟨⟨rfl, rfl⟩, hs, s0, s1, hk⟩ := hc
        cases h
        obtain ⟨A, c, e1, e2, e0, e3, e3', e4⟩ := hx
        subst e1
        refine ⟨?_, fun s h => by cases h⟩
        have key : ∃ y, aSlice P t (.slice A rows.length c) loA hiA mxA = some y ∧ Emp K y := by
          unfold aSlice
          rw [j1, j2, j3]; dsimp only
          rw [hu]; dsimp only
          rw [hs]; dsimp only
          rcases e4 with ⟨e4, e5⟩ | ⟨b, o, cells, e5, e6, e7, e8⟩
          · subst e5
            dsimp only
            rw [if_pos ⟨e4, e2 rfl⟩]
            exact ⟨_, rfl, .inl rfl⟩
          · subst e5
            dsimp only
            have emp : Emp K (.slice (some ⟨b, o, none⟩) 0 0) := .inr ⟨b, o, cells, rfl, e6, by omega⟩
            have hb : ∀ C, bounds rows.length C none (some 0) (some 0) = some (0, 0, 0) := fun C => by simp [bounds]
            unfold capOK at e3
            split at e3
            · rename_i C hC
              rw [hC]; dsimp only
              rw [hb]
              exact ⟨_, rfl, emp⟩
            · rename_i es lb hC
              rw [hC]; dsimp only
              rw [hb]
              exact ⟨_, rfl, emp⟩
            · rename_i hC
              exfalso
              have := AM.capOf_dng hC
              rcases hk with hk | hk
              · have := e0 hk; omega
              · omega
        obtain ⟨y, k1, k2⟩ := key
        rw [k1]
        have hy : ∃ A, y = .slice A 0 0 := by rcases k2 with k2 | ⟨_, _, _, k2, _⟩ <;> exact ⟨_, k2⟩
        obtain ⟨A', rfl⟩ := hy
        have hblk : (Rz.vec (.slice A' 0 0) 0 s).blk = none := by cases A' <;> rfl
        obtain ⟨h5, h6⟩ := hR.snoc (r := .vec (.slice A' 0 0) 0 s) (y := .vec 0 [] s true true) ⟨rfl, rfl, s0, s1, (fun r hr => by simp at hr), .inl ⟨rfl, k2⟩⟩ (fun b hb => by rw [hblk] at hb; cases hb)
        exact ⟨_, _, K, _, rfl, h6, h5, .vec (.slice A' 0 0) 0 s, _, 0, s, by rw [← hR.len]; simp, rfl, Nat.le_refl _, fun _ => rfl, _, _, _, rfl⟩
      · cases h
    · cases h
  · cases h
/-- One's own rows cut short. -/
def vTrunc (P : Program) (t : TypeId) (H : Hp) (x : V) (lo hi mx : Option V) : Option (V × Hp) := match intOptV lo, intOptV hi, intOptV mx with
  | some none, some (some h), some none => match P.underlying t, x with
    | some (.slice e), .own g w => match H[g]? with
      | some (.vec w' rows s rw _) => if szOf P e = some s ∧ w = w' ∧ 0 ≤ h ∧ h.toNat ≤ rows.length then some (.own g (w' + 1), H.set g (.vec (w' + 1) (rows.take h.toNat) s rw false)) else none
      | _ => none
    | _, _ => none
  | _, _, _ => none
theorem vTrunc_sound (hR : Rel K φ H σ) {t : TypeId} {lo hi mx : Option V} {loA hiA mxA : Option Value} (h : vTrunc P t H x lo hi mx = some (v, H')) (hx : VR K x φ a) (h1 : OptR K φ lo loA) (h2 : OptR K φ hi hiA) (h3 : OptR K φ mx mxA) :
    Snd K φ v H' ((aSlice P t a loA hiA mxA).map (·, σ)) ∧ ∀ s, a ≠ .string s := by
  unfold vTrunc at h
  split at h
  · rename_i hh i1 i2 i3
    have j1 := intOptV_sound i1 h1
    have j2 := intOptV_sound i2 h2
    have j3 := intOptV_sound i3 h3
    split at h
    · rename_i e g w hu
      split at h
      · rename_i w' rows s rw t' hg
        split at h
        · rename_i hc
          obtain ⟨hs, rfl, h0, hle⟩ := hc
          cases h
          obtain ⟨r, val, w', s1, g1, g2, g3, g4, A0, n0, c0, g5⟩ := hx
          refine ⟨?_, fun s e => by rw [g5] at e; cases e⟩
          have hob := hR.ob g _ _ hg g1
          cases r with
          | mem _ => cases g2
          | fro _ _ _ => exact hob.elim
          | vec val1 w2 s2 =>
            cases g2
            obtain ⟨f1, f2, f3, f4, f5, f6⟩ := hob
            subst f1; subst f2
            rw [g4 rfl]
            have hok : RowsOk s (rows.take hh.toNat) := fun r hr => f5 r (List.mem_of_mem_take hr)
            have hpostS : ∀ a' : Value, Post φ.length K φ K (φ.set g (.vec a' (w + 1) s)) := fun a' => ⟨fun _ _ h => h, fun k q hk hq => by
              by_cases e : k = g
              · subst e; rw [g1] at hq; cases hq
                exact ⟨.vec a' (w + 1) s, by rw [List.getElem?_set_self hk], rfl, Nat.le_succ _, fun e => by omega⟩
              · exact ⟨q, by rw [List.getElem?_set_ne (Ne.symm e)]; exact hq, .refl _⟩⟩
            have fin : ∀ a' : Value, (∃ A n c, a' = .slice A n c) → aSlice P t val loA hiA mxA = some a' → (∀ b, (Rz.vec a' (w + 1) s).blk = some b → (Rz.vec val w s).blk = some b) →
                ObR K (φ.set g (.vec a' (w + 1) s)) σ (.vec (w + 1) (rows.take hh.toNat) s rw false) (.vec a' (w + 1) s) →
                Snd K φ (.own g (w + 1)) (H.set g (.vec (w + 1) (rows.take hh.toNat) s rw false)) ((aSlice P t val loA hiA mxA).map (·, σ)) := fun a' k0 k1 k2 k3 => by
              obtain ⟨u1, u2⟩ := hR.upd (r' := .vec a' (w + 1) s) (y' := .vec (w + 1) (rows.take hh.toNat) s rw false) (σ' := σ) g1 ⟨rfl, Nat.le_succ _, fun e => by omega⟩ k3 (fun j hj => .inl (k2 j hj)) (fun _ _ _ => rfl)
              rw [k1]
              exact ⟨_, _, K, _, rfl, u2, u1, .vec a' (w + 1) s, a', w + 1, s, List.getElem?_set_self (get_lt g1), rfl, Nat.le_refl _, fun _ => rfl, k0⟩
            rcases f6 with ⟨f6, f7⟩ | ⟨b, c, vals, rest, p, f6, f7, f8, f9, f10⟩
            · have hr0 : rows = [] := List.eq_nil_of_length_eq_zero f6
              subst hr0
              have hz : hh = 0 := by simp at hle; omega
              subst hz
              rcases f7 with f7 | ⟨b, o, cells, f7, f8, f9⟩
              · refine fin (.slice none 0 0) ⟨_, _, _, rfl⟩ ?_ (fun b hb => by cases hb) ⟨rfl, rfl, f3, f4, hok, .inl ⟨by simp, .inl rfl⟩⟩
                unfold aSlice
                rw [j1, j2, j3, f7]; dsimp only
                rw [hu]; dsimp only
                rw [hs]; rfl
              · refine fin (.slice (some ⟨b, o, none⟩) 0 0) ⟨_, _, _, rfl⟩ ?_ (fun b hb => by cases hb) ⟨rfl, rfl, f3, f4, hok, .inl ⟨by simp, .inr ⟨b, o, cells, rfl, f8, f9⟩⟩⟩
                unfold aSlice
                rw [j1, j2, j3, f7]; dsimp only
                rw [hu]; dsimp only
                rw [hs]; dsimp only
                rw [capOf_exact_eq (by decide)]
                simp [bounds]
            · obtain ⟨q0, C, q1, q2, q3, q4⟩ := f7
              have hvl := f10.len
              have hms : hh.toNat * s ≤ rows.length * s := Nat.mul_le_mul_right _ hle
              have htl : (rows.take hh.toNat).length = hh.toNat := by simp; omega
              refine fin (.slice (some ⟨b, 0, none⟩) hh.toNat c) ⟨_, _, _, rfl⟩ ?_ (fun j hj => ?_) ⟨rfl, rfl, f3, f4, hok, .inr ⟨b, c, vals.take (hh.toNat * s), vals.drop (hh.toNat * s) ++ rest, p, by rw [htl], ⟨q0, C, by rw [htl]; omega, ?_, (fun h => by cases h), q4⟩, ?_, f9, ?_⟩⟩
              · unfold aSlice
                rw [j1, j2, j3, f6]; dsimp only
                rw [hu]; dsimp only
                rw [hs]; dsimp only
                rcases q4 with q4 | q4
                · have hcC := (capOf_exact q4).1
                  rw [q4]; dsimp only
                  rw [show bounds rows.length C none (some hh) none = some (0, hh.toNat, C) by simp only [bounds]; rw [if_pos (by omega)]]
                  subst hcC
                  simp
                · rw [q4]; dsimp only
                  rw [show bounds rows.length C none (some hh) none = some (0, hh.toNat, C) by simp only [bounds]; rw [if_pos (by omega)]]
                  simp
              · have e1 : (Rz.vec val w s).blk = some b := vec_blk (t := t') (s := s) f6 ⟨q0, C, q1, q2, q3, q4⟩
                rw [e1]
                cases c with
                | zero => cases hj
                | succ c => exact hj
              · rw [← List.append_assoc, List.take_append_drop]; exact q2
              · rw [← List.append_assoc, List.take_append_drop]; exact f8
              · exact (f10.takeR _ hle).on (hpostS _)
        · cases h
      · cases h
    · cases h
  · cases h
/-- Made zeros appended to nil. -/
def vZeros (P : Program) (t : TypeId) (H : Hp) (s x : V) : Option (V × Hp) := match P.underlying t, s, isInt x with
  | some (.slice e), .lit (.slice none 0 0), some n => match szOf P e, byOf P e, zerosOf P e 1 with
    | some size, some bytes, some z => if 0 < n ∧ n ≤ 17179869184 ∧ 0 < size ∧ size ≤ 1048576 ∧ bytes ≤ 4096 ∧ z.length = size ∧ z.all (fun x => scalarB x && cellB x) = true then some (.own H.length 0, H ++ [.vec 0 (List.replicate n.toNat (z.map .lit)) size true true]) else none
    | _, _, _ => none
  | _, _, _ => none
theorem vZeros_sound (hR : Rel K φ H σ) {t : TypeId} {s : V} {sa : Value} (h : vZeros P t H s x = some (v, H')) (hs : VR K s φ sa) (hx : VR K x φ a) : Snd K φ v H' (aZeros P t sa a σ) := by
  unfold vZeros at h
  split at h
  · rename_i e n hu hn
    obtain ⟨k, rfl⟩ := isInt_sound hn hx
    obtain ⟨rfl, _⟩ := hs
    split at h
    · rename_i size bytes z h1 h2 h3
      split at h
      · rename_i hc
        obtain ⟨c1, c2, c3, c4, c5, c6, c7⟩ := hc
        cases h
        simp only [aZeros, hu, h1, h2, zeros_one h3]
        rw [if_pos ⟨c1, c2, c3, c4, c5⟩]
        have hz : ∀ x ∈ z, scalarB x = true ∧ cellB x = true := fun x hx => by have := List.all_eq_true.1 c7 x hx; simpa using this
        have := newVec hR (c := unk size n.toNat) (rows_rep (n := n.toNat) (φ := φ) (K := K) c6 fun x hx => (hz x hx).1) (s := size)
          (fun r hr => by
            rw [(List.mem_replicate.1 hr).2]
            refine ⟨by simp [c6], ?_⟩
            rw [List.all_map, List.all_eq_true]
            exact fun x hx => (hz x hx).2) c3 c4 (.inr (by rw [List.length_replicate]; exact capV_new (by omega) c4 (Nat.le_refl _)))
        rw [List.length_replicate] at this
        exact this
      · cases h
    · cases h
  · cases h
def nonNil : V → Bool
  | .ptr _ _ | .fptr _ | .elt _ _ _ _ | .fn _ _ _ => true
  | _ => false
/-- One operation. own: literals that are to be one's own. -/
def vop (P : Program) (own : List Tmp) (q : Bool) (ρ : Operand → V) (o : Oper) (H : Hp) : Option (V × Hp) := match o.op with
  | .move x | .assign x => some (ρ x, H)
  | .pick c a b => match ρ c with
    | .lit (.bool t) => some (if t then ρ a else ρ b, H)
    | _ => none
  | .extract x i => match ρ x with
    | .tup vs => (vs[i]?).map (·, H)
    | _ => none
  | .nilCheck x => if nonNil (ρ x) = true then some (ρ x, H) else none
  | .alloc t => (zerosOf P t 1).bind fun zs => (litCells zs).map fun cs => (.ptr H.length 0, H ++ [.mem cs true])
  | .box _ x => if (ρ x).cells.all V.isCell = true then some (.ptr H.length 0, H ++ [.mem (ρ x).cells true]) else none
  | .load t x => (vLoad P t H (ρ x)).map (·, H)
  | .store t x v => if q then none else (vStore P t H (ρ x) (ρ v)).map fun H' => (.tup [], H')
  | .fieldAddr t x f => (vFieldAddr P t (ρ x) f).map (·, H)
  | .field t x f => match ρ x, fieldOf P t f with
    | .agg cs, some (off, ft) => (partVV P ft cs off).map (·, H)
    | _, _ => none
  | .indexAddr t x i => (vIdx P t H (ρ x) (ρ i)).map (·, H)
  | .index t x i => match P.underlying t, ρ x, isInt (ρ i) with
    | some (.array n e), .agg cs, some j => match szOf P e with
      | some s => if 0 ≤ j ∧ j < n then (partVV P e cs (j.toNat * s)).map (·, H) else none
      | none => none
    | _, _, _ => none
  | .slice t x lo hi mx => match vNone P t H (ρ x) (lo.map ρ) (hi.map ρ) (mx.map ρ) with
    | some r => some r
    | none => match vTrunc P t H (ρ x) (lo.map ρ) (hi.map ρ) (mx.map ρ) with
      | some r => some r
      | none => (vSlice P t H (ρ x) (lo.map ρ) (hi.map ρ) (mx.map ρ)).map (·, H)
  | .makeFunc fn first captured => match fn with
    | .func f => some (.fn f (first.toList.map ρ) (captured.toList.map ρ), H)
    | _ => none
  | .makeInterface t x => if P.concrete t = true then some (.ifc t (ρ x), H) else none
  | .makeSlice t l c => vMake P t (ρ l) (ρ c) H
  | .build t parts => (vBuild P t (parts.toList.map fun p => (p.1, ρ p.2))).map (·, H)
  | .buildSlice t len parts => vLit P (match o.dst with | some d => own.contains d | none => false) t len (parts.toList.map fun p => (p.1, ρ p.2)) H
  | .binOp op t x y _ => (vBin P op t (ρ x) (ρ y)).map (·, H)
  | .unOp op _ x => match toVal (ρ x) with
    | some a => ((unI op a).bind mkLit).map (·, H)
    | none => none
  | .convert src dt x => vConv P (match o.dst with | some d => own.contains d | none => false) src dt (ρ x) H
  | .call { callee := .builtin b, args, argTypes } => match b, args.toList, argTypes.toList with
    | .append, [s, x], [t, tx] => match P.underlying tx with
      | some (.int _) => vZeros P t H (ρ s) (ρ x)
      | _ => vAppend P q t tx H (ρ s) (ρ x)
    | .cap, [x], [t] => match P.underlying t, ρ x with
      | some (.slice _), .lit (.slice none 0 0) => some (.lit (.int .i64 0), H)
      | _, _ => none
    | .min, [x, y], _ => match toVal (ρ x), toVal (ρ y) with
      | some (.int k m), some (.int _ n) => some (.lit (.int k (if n < m then n else m)), H)
      | _, _ => none
    | .max, [x, y], _ => match toVal (ρ x), toVal (ρ y) with
      | some (.int k m), some (.int _ n) => some (.lit (.int k (if n > m then n else m)), H)
      | _, _ => none
    | .len, [x], [t] => match P.underlying t, ρ x with
      | some .string, .lit (.string s) => some (.lit (.int .i64 s.size), H)
      | _, _ => (vLen P t H (ρ x)).map (·, H)
    | .copy, [d, s], [t, tx] => if q then none else vCopy P t tx (ρ d) (ρ s) H
    | _, _, _ => none
  | _ => none
theorem VRs.map_of {l : List Operand} (h : ∀ x, VR K (ρ x) φ (ρa x)) : VRs K (l.map ρ) φ (l.map ρa) := by
  induction l with
  | nil => rfl
  | cons x l ih => exact ⟨_, _, rfl, h x, ih⟩
theorem PsR.map_of {l : List (Nat × Operand)} (h : ∀ x, VR K (ρ x) φ (ρa x)) : PsR K φ (l.map fun p => (p.1, ρ p.2)) (l.map fun p => (p.1, ρa p.2)) := by
  induction l with
  | nil => rfl
  | cons x l ih => exact ⟨_, _, rfl, h x.2, ih⟩
theorem OptR.map_of {l : Option Operand} (h : ∀ x, VR K (ρ x) φ (ρa x)) : OptR K φ (l.map ρ) (l.map ρa) := by
  cases l with
  | none => trivial
  | some x => exact h x
theorem mapSnd {r : Option V} {ra : Option Value} (hR : Rel K φ H σ) (h : r.map (·, H) = some (v, H')) (hs : ∀ u, r = some u → ∃ y, ra = some y ∧ VR K u φ y) : Snd K φ v H' (ra.map (·, σ)) := by
  cases hr : r with
  | none => rw [hr] at h; cases h
  | some u =>
    rw [hr] at h; cases h
    obtain ⟨y, e1, e2⟩ := hs _ hr
    rw [e1]
    exact .same hR e2
theorem vop_sound (hR : Rel K φ H σ) {own : List Tmp} {o : Oper} (hρ : ∀ x, VR K (ρ x) φ (ρa x)) (h : vop P own q ρ o H = some (v, H')) : Snd K φ v H' (aop P q ρa o σ) := by
  obtain ⟨dst, op, type, pos, after, guard⟩ := o
  cases op with
  | move x => simp only [vop] at h; cases h; exact .same hR (hρ x)
  | assign x => simp only [vop] at h; cases h; exact .same hR (hρ x)
  | pick c a b =>
    simp only [vop] at h
    split at h
    · rename_i t hc
      cases h
      have := hρ c
      rw [hc] at this
      show Snd _ _ _ _ (match (generalizing := false) ρa c with | .bool t => some (if t then ρa a else ρa b, σ) | _ => none)
      rw [this.1]
      refine .same hR ?_
      cases t
      · exact hρ b
      · exact hρ a
    · cases h
  | extract x i =>
    simp only [vop] at h
    split at h
    · rename_i vs hx
      have := hρ x
      rw [hx] at this
      obtain ⟨xs, e1, e2⟩ := this
      show Snd _ _ _ _ (match (generalizing := false) ρa x with | .tuple vs => (vs[i]?).map (·, σ) | _ => none)
      rw [e1]
      refine mapSnd hR h fun u hu => ?_
      obtain ⟨y, f1, f2⟩ := e2.get hu
      exact ⟨y, by simpa using f1, f2⟩
    · cases h
  | nilCheck x =>
    simp only [vop] at h
    split at h
    · rename_i hn
      cases h
      have hx := hρ x
      show Snd _ _ _ _ (match (generalizing := false) ρa x with | .pointer (some a) => some (.pointer (some a), σ) | .func (.func f) a b => some (.func (.func f) a b, σ) | _ => none)
      cases hv : ρ x with
      | ptr g o => rw [hv] at hx; have hx' := hx; obtain ⟨b, _, e⟩ := hx; rw [e] at hx' ⊢; exact .same hR hx'
      | fptr cs => rw [hv] at hx; have hx' := hx; obtain ⟨b, o, c, e, _⟩ := hx; rw [e] at hx' ⊢; exact .same hR hx'
      | elt g w k o => rw [hv] at hx; have hx' := hx; obtain ⟨_, _, _, _, _, _, _, _, _, e⟩ := hx; rw [e] at hx' ⊢; exact .same hR hx'
      | fn f fi cp => rw [hv] at hx; have hx' := hx; obtain ⟨fa, ca, e, _⟩ := hx; rw [e] at hx' ⊢; exact .same hR hx'
      | _ => rw [hv] at hn; cases hn
    · cases h
  | alloc t =>
    simp only [vop] at h
    show Snd _ _ _ _ ((zerosOf P t 1).bind fun zs => (newBlk σ zs).map fun (a, σ') => (.pointer (some a), σ'))
    cases hz : zerosOf P t 1 with
    | none => rw [hz] at h; cases h
    | some zs =>
      rw [hz] at h
      simp only [Option.bind_some] at h ⊢
      cases hl : litCells zs with
      | none => rw [hl] at h; cases h
      | some cs =>
        rw [hl] at h; cases h
        obtain ⟨e1, e2⟩ := litCells_sound (K := K) (φ := φ) hl
        exact newMem hR e1 e2
  | box t x =>
    simp only [vop] at h
    split at h
    · rename_i hc
      cases h
      exact newMem hR ((hρ x).cells hc).1 hc
    · cases h
  | load t x =>
    simp only [vop] at h
    show Snd _ _ _ _ (match (generalizing := false) ρa x with | .pointer (some a) => (loadV P t σ a).map (·, σ) | _ => none)
    cases hl : vLoad P t H (ρ x) with
    | none => rw [hl] at h; cases h
    | some u =>
      rw [hl] at h; cases h
      obtain ⟨b, o, y, e1, e2, e3⟩ := vLoad_sound hR hl (hρ x)
      rw [e1]; dsimp only
      rw [e2]
      exact .same hR e3
  | store t x w =>
    simp only [vop] at h
    cases q with
    | true => cases h
    | false =>
      simp only [if_false, Bool.false_eq_true] at h
      show Snd _ _ _ _ (match (generalizing := false) ρa x, szOf P t with | .pointer (some a), some n => if false = false ∧ (ρa w).cells.size = n then (writeN σ a (ρa w).cells.toList).map fun σ' => (undef, σ') else none | _, _ => none)
      unfold vStore at h
      split at h
      · rename_i n hn
        split at h
        · rename_i hc
          obtain ⟨c1, c2⟩ := hc
          cases hp : putAt H (ρ x) (ρ w).cells with
          | none => rw [hp] at h; cases h
          | some H1 =>
            rw [hp] at h; cases h
            obtain ⟨d1, d2⟩ := (hρ w).cells c2
            obtain ⟨b, o, σ', e1, e2, e3⟩ := putAt_sound hR hp (hρ x) d1 c2
            have hl := d1.len
            simp only [Array.length_toList] at hl
            rw [e1, hn]; dsimp only
            rw [if_pos ⟨rfl, by omega⟩, e2]
            exact ⟨_, _, K, φ, rfl, .refl _ _ _, e3, #[], rfl, rfl⟩
        · cases h
      · cases h
  | fieldAddr t x f =>
    simp only [vop] at h
    show Snd _ _ _ _ (match (generalizing := false) ρa x, fieldOf P t f with | .pointer (some a), some (off, ft) => (match szOf P ft with | some (_ + 1) => some (.pointer (some (a.add off)), σ) | _ => none) | _, _ => none)
    cases hl : vFieldAddr P t (ρ x) f with
    | none => rw [hl] at h; cases h
    | some u =>
      rw [hl] at h; cases h
      obtain ⟨off, ft, n, ad, e1, e2, e3, e4⟩ := vFieldAddr_sound hl (hρ x)
      rw [e3, e1]; dsimp only
      rw [e2]
      exact .same hR e4
  | field t x f =>
    simp only [vop] at h
    show Snd _ _ _ _ (match (generalizing := false) ρa x, fieldOf P t f with | .agg cs, some (off, ft) => (partV P ft cs off).map (·, σ) | _, _ => none)
    split at h
    · rename_i cs off ft hx hf
      have := hρ x
      rw [hx] at this
      obtain ⟨xs, e1, e2⟩ := this
      rw [e1, hf]; dsimp only
      exact mapSnd hR h fun u hu => partVV_sound hu e2
    · cases h
  | indexAddr t x i =>
    simp only [vop] at h
    show Snd _ _ _ _ (idxAddr P t (ρa x) (ρa i) σ)
    cases hl : vIdx P t H (ρ x) (ρ i) with
    | none => rw [hl] at h; cases h
    | some u => rw [hl] at h; cases h; exact vIdx_sound hR hl (hρ x) (hρ i)
  | index t x i =>
    simp only [vop] at h
    show Snd _ _ _ _ (match (generalizing := false) P.underlying t, ρa x, ρa i with
      | some (.array n e), .agg cs, .int _ j => match szOf P e with
        | some s => if 0 ≤ j ∧ j < n then (partV P e cs (j.toNat * s)).map (·, σ) else none
        | none => none
      | _, _, _ => (aPure P ρa _).map (·, σ))
    split at h
    · rename_i n e cs j hu hx hj
      have := hρ x
      rw [hx] at this
      obtain ⟨xs, e1, e2⟩ := this
      obtain ⟨k, e3⟩ := isInt_sound hj (hρ i)
      rw [hu, e1, e3]; dsimp only
      split at h
      · rename_i s hs
        split at h
        · rename_i hc
          rw [if_pos hc]
          exact mapSnd hR h fun u hu => partVV_sound hu e2
        · cases h
      · cases h
    · cases h
  | slice t x lo hi mx =>
    simp only [vop] at h
    show Snd _ _ _ _ (match (generalizing := false) ρa x with
      | .string _ => (aPure P ρa _).map (·, σ)
      | _ => (aSlice P t (ρa x) (lo.map ρa) (hi.map ρa) (mx.map ρa)).map (·, σ))
    split at h
    · rename_i r hn
      cases h
      obtain ⟨e1, e3⟩ := vNone_sound hR hn (hρ x) (OptR.map_of hρ) (OptR.map_of hρ) (OptR.map_of hρ)
      split
      · rename_i s hs; exact absurd hs (e3 s)
      · exact e1
    · split at h
      · rename_i r hn
        cases h
        obtain ⟨e1, e3⟩ := vTrunc_sound hR hn (hρ x) (OptR.map_of hρ) (OptR.map_of hρ) (OptR.map_of hρ)
        split
        · rename_i s hs; exact absurd hs (e3 s)
        · exact e1
      · cases hl : vSlice P t H (ρ x) (lo.map ρ) (hi.map ρ) (mx.map ρ) with
        | none => rw [hl] at h; cases h
        | some u =>
          rw [hl] at h; cases h
          obtain ⟨⟨y, e1, e2⟩, e3⟩ := vSlice_sound hR hl (hρ x) (OptR.map_of hρ) (OptR.map_of hρ) (OptR.map_of hρ)
          split
          · rename_i s hs; exact absurd hs (e3 s)
          · rw [e1]; exact .same hR e2
  | makeFunc fn first captured =>
    simp only [vop] at h
    show Snd _ _ _ _ (match (generalizing := false) fn with | .func f => some (.func (.func f) (first.map ρa) (captured.map ρa), σ) | _ => none)
    split at h
    · cases h
      refine .same hR ⟨_, _, rfl, ?_, ?_⟩
      · rw [Array.toList_map]; exact VRs.map_of hρ
      · rw [Array.toList_map]; exact VRs.map_of hρ
    · cases h
  | makeInterface t x =>
    simp only [vop] at h
    show Snd _ _ _ _ (if P.concrete t = true then some (.iface t (ρa x), σ) else none)
    split at h
    · rename_i hc; cases h; rw [if_pos hc]; exact .same hR ⟨_, rfl, hρ x⟩
    · cases h
  | makeSlice t l c =>
    simp only [vop] at h
    exact vMake_sound hR h (hρ l) (hρ c)
  | build t parts =>
    simp only [vop] at h
    have hstep : aop P q ρa ⟨dst, .build t parts, type, pos, after, guard⟩ σ = (buildV P t (parts.map fun (i, x) => (i, ρa x))).map (·, σ) := by
      simp only [aop, buildV]
      cases zeroOf P t with
      | none => rfl
      | some z =>
        dsimp only
        have : ((parts.map fun (i, x) => (i, ρa x)).all fun (_, x) => !junkB x) = (parts.all fun (_, x) => !junkB (ρa x)) := by
          rw [Array.all_map]; rfl
        rw [this]
        split
        · cases P.built t (parts.map fun (i, x) => (i, ρa x)).toList <;> rfl
        · rfl
    rw [hstep]
    exact mapSnd hR h fun u hu => vBuild_sound hu (by rw [Array.toList_map]; exact PsR.map_of hρ)
  | buildSlice t len parts =>
    simp only [vop] at h
    have hstep : aop P q ρa ⟨dst, .buildSlice t len parts, type, pos, after, guard⟩ σ = (buildSliceV P t len (parts.map fun (i, x) => (i, ρa x))).bind fun cs => (newBlk σ cs).map fun (a, σ') => (.slice (some a) len len, σ') := by
      simp only [aop, buildSliceV]
      cases P.underlying t with
      | none => rfl
      | some d =>
        cases d <;> try rfl
        rename_i e'
        dsimp only
        cases szOf P e' with
        | none => rfl
        | some s =>
          cases zerosOf P e' len with
          | none => rfl
          | some zs =>
            dsimp only
            have : ((parts.map fun (i, x) => (i, ρa x)).all fun (_, x) => !junkB x) = (parts.all fun (_, x) => !junkB (ρa x)) := by
              rw [Array.all_map]; rfl
            rw [this]
            split
            · cases Instr.fill (fun i => some (i * s, s)) zs.toArray (parts.map fun (i, x) => (i, ρa x)).toList <;> rfl
            · rfl
    rw [hstep]
    exact vLit_sound hR h (by rw [Array.toList_map]; exact PsR.map_of hρ)
  | binOp op t x y ty =>
    simp only [vop] at h
    cases hl : vBin P op t (ρ x) (ρ y) with
    | none => rw [hl] at h; cases h
    | some u => rw [hl] at h; cases h; exact vBin_sound hR hl (hρ x) (hρ y)
  | unOp op t x =>
    simp only [vop] at h
    show Snd _ _ _ _ ((aPure P ρa ⟨dst, .unOp op t x, type, pos, after, guard⟩).map (·, σ))
    split at h
    · rename_i a ha
      have e1 := toVal_sound ha (hρ x)
      cases hu : unI op a with
      | none => rw [hu] at h; cases h
      | some y =>
        rw [hu] at h
        simp only [Option.bind_some] at h
        rw [aPure_un, e1, hu]
        exact mapSnd (ra := some y) hR h fun u hu => ⟨y, rfl, mkLit_sound hu⟩
    · cases h
  | convert src dt x =>
    simp only [vop] at h
    exact vConv_sound hR h (hρ x)
  | call c =>
    obtain ⟨callee, args, argTypes⟩ := c
    cases callee with
    | value f => simp only [vop] at h; cases h
    | invoke r m => simp only [vop] at h; cases h
    | builtin bb =>
      simp only [vop] at h
      split at h
      · rename_i s x t tx h1 h2
        have hstep : aop P q ρa ⟨dst, .call ⟨.builtin .append, args, argTypes⟩, type, pos, after, guard⟩ σ = aApp P q t tx (ρa s) (ρa x) σ := by
          simp only [aop, h1, h2]
        rw [hstep]
        unfold aApp
        split at h
        · rename_i k hk
          rw [hk]
          exact vZeros_sound hR h (hρ s) (hρ x)
        · rename_i hk
          split
          · rename_i k hk2; exact absurd hk2 (hk k)
          · exact vAppend_sound hR h (hρ s) (hρ x)
      · rename_i x t h1 h2
        split at h
        · rename_i hu hx
          cases h
          have e1 := hρ x
          rw [hx] at e1
          obtain ⟨e1, _⟩ := e1
          have hstep : aop P q ρa ⟨dst, .call ⟨.builtin .cap, args, argTypes⟩, type, pos, after, guard⟩ σ = some (.int .i64 0, σ) := by
            simp only [aop, h1, h2, hu, e1]
            rw [if_pos (by decide)]; rfl
          rw [hstep]
          exact .same hR ⟨rfl, rfl⟩
        · cases h
      · rename_i x y h1
        split at h
        · rename_i k m k' n hx hy
          cases h
          have ex := toVal_sound hx (hρ x)
          have ey := toVal_sound hy (hρ y)
          have hargs : args = #[x, y] := by rw [← Array.toArray_toList (xs := args), h1]
          subst hargs
          have hstep : aop P q ρa ⟨dst, .call ⟨.builtin .min, #[x, y], argTypes⟩, type, pos, after, guard⟩ σ = (aPure P ρa ⟨dst, .call ⟨.builtin .min, #[x, y], argTypes⟩, type, pos, after, guard⟩).map (·, σ) := by
            simp only [aop]
          rw [hstep, aPure_min ex ey]
          exact .same hR ⟨rfl, rfl⟩
        · cases h
      · rename_i x y h1
        split at h
        · rename_i k m k' n hx hy
          cases h
          have ex := toVal_sound hx (hρ x)
          have ey := toVal_sound hy (hρ y)
          have hargs : args = #[x, y] := by rw [← Array.toArray_toList (xs := args), h1]
          subst hargs
          have hstep : aop P q ρa ⟨dst, .call ⟨.builtin .max, #[x, y], argTypes⟩, type, pos, after, guard⟩ σ = (aPure P ρa ⟨dst, .call ⟨.builtin .max, #[x, y], argTypes⟩, type, pos, after, guard⟩).map (·, σ) := by
            simp only [aop]
          rw [hstep, aPure_max ex ey]
          exact .same hR ⟨rfl, rfl⟩
        · cases h
      · rename_i x t h1 h2
        split at h
        · rename_i s hu hx
          cases h
          have e1 := hρ x
          rw [hx] at e1
          obtain ⟨e1, _⟩ := e1
          have hargs : args = #[x] := by rw [← Array.toArray_toList (xs := args), h1]
          have hts : argTypes = #[t] := by rw [← Array.toArray_toList (xs := argTypes), h2]
          subst hargs; subst hts
          have hstep : aop P q ρa ⟨dst, .call ⟨.builtin .len, #[x], #[t]⟩, type, pos, after, guard⟩ σ = (aPure P ρa ⟨dst, .call ⟨.builtin .len, #[x], #[t]⟩, type, pos, after, guard⟩).map (·, σ) := by
            simp only [aop, hu]
          rw [hstep, aPure_len hu e1]
          exact .same hR ⟨rfl, rfl⟩
        cases hl : vLen P t H (ρ x) with
        | none => rw [hl] at h; cases h
        | some u =>
          rw [hl] at h; cases h
          unfold vLen at hl
          split at hl
          · rename_i e hu
            cases hn : lenOf H (ρ x) with
            | none => rw [hn] at hl; cases hl
            | some n =>
              rw [hn] at hl; cases hl
              obtain ⟨A, c, e1⟩ := lenOf_sound hR hn (hρ x)
              have hstep : aop P q ρa ⟨dst, .call ⟨.builtin .len, args, argTypes⟩, type, pos, after, guard⟩ σ = some (.int .i64 n, σ) := by
                simp only [aop, h1, h2, hu, e1]
              rw [hstep]
              exact .same hR ⟨rfl, rfl⟩
          · rename_i n e hu
            cases hl
            have hstep : aop P q ρa ⟨dst, .call ⟨.builtin .len, args, argTypes⟩, type, pos, after, guard⟩ σ = some (.int .i64 n, σ) := by
              simp only [aop, h1, h2, hu]
            rw [hstep]
            exact .same hR ⟨rfl, rfl⟩
          · cases hl
      · rename_i d s t tx h1 h2
        split at h
        · cases h
        · rename_i hq
          have hstep : aop P q ρa ⟨dst, .call ⟨.builtin .copy, args, argTypes⟩, type, pos, after, guard⟩ σ = copyA P t tx (ρa d) (ρa s) σ := by
            simp only [aop, h1, h2, copyA, if_neg hq]; rfl
          rw [hstep]
          exact vCopy_sound hR h (hρ d) (hρ s)
      · cases h
  | _ => simp only [vop] at h; cases h
end
end Go.Proofs.Ytenbclcfhjdcaaa.VM
