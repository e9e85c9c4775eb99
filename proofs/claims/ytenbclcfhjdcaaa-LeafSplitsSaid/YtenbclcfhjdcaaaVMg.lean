/- The machine of values: one operation. -/
import Derived.Test.YtenbclcfhjdcaaaVMf
namespace Go.Proofs.Ytenbclcfhjdcaaa.VM
open Go AM
section
variable {P : Program} {K K' : Kn} {φ φ' : List Rz} {H H' : Hp} {σ σ' : Heap} {v x y : V} {a b : Value} {q : Bool} {ρ : Operand → V} {ρa : Operand → Value}
variable {dst : Option Tmp} {type : TypeId} {pos : String} {after : Array Edge} {guard : Option (Nat × Bool)}

/-- Rows of a slice literal: its parts in order. -/
def litRows (s len : Nat) (ps : List (Nat × V)) : Option (List (List V)) :=
  if ps.map (·.1) = List.range len ∧ RowsOk s (ps.map fun p => p.2.cells) then some (ps.map fun p => p.2.cells) else none
theorem zip_of : ∀ {ps : List (Nat × Value)} {k : Nat}, ps.map (·.1) = (List.range ps.length).map (· + k) → ps = ((ps.map (·.2)).zipIdx k).map fun x => (x.2, x.1)
  | [], _, _ => rfl
  | (i, a) :: ps, k, h => by
    simp only [List.map_cons, List.length_cons, List.range_succ_eq_map, List.map_map, List.cons.injEq, Nat.zero_add] at h
    obtain ⟨h1, h2⟩ := h
    subst h1
    have := zip_of (ps := ps) (k := i + 1) (by rw [h2]; apply List.map_congr_left; intro j _; simp; omega)
    rw [List.map_cons, List.zipIdx_cons, List.map_cons]
    rw [← this]
theorem PsR.rows {s : Nat} : ∀ {ps : List (Nat × V)} {psA : List (Nat × Value)}, PsR K φ ps psA → RowsOk s (ps.map fun p => p.2.cells) → RowsR K s (ps.map fun p => p.2.cells) φ ((psA.map (·.2)).flatMap fun v => v.cells.toList) ∧ (∀ v ∈ psA.map (·.2), v.cells.size = s) ∧ psA.map (·.1) = ps.map (·.1)
  | [], _, h, _ => by simp only [PsR] at h; subst h; exact ⟨rfl, by simp, rfl⟩
  | (i, v) :: ps, _, ⟨a, as, h1, h2, h3⟩, ho => by
    subst h1
    have hv := ho v.cells (by simp)
    obtain ⟨e1, e2, e3⟩ := PsR.rows h3 (fun r hr => ho r (by simp at hr ⊢; exact .inr hr))
    obtain ⟨c1, _⟩ := h2.cells hv.2
    refine ⟨⟨a.cells.toList, _, by simp, hv.1, c1, e1⟩, ?_, by simp [e3]⟩
    intro u hu
    rcases List.mem_cons.1 hu with rfl | hu
    · have := c1.len; rw [hv.1] at this; simpa using this
    · exact e2 u hu
def vLit (P : Program) (own : Bool) (t : TypeId) (len : Nat) (ps : List (Nat × V)) (H : Hp) : Option (V × Hp) := match P.underlying t with
  | some (.slice e) => match szOf P e, zerosOf P e len with
    | some s, some zs => if zs.length = len * s ∧ 0 < s ∧ s ≤ 1048576 ∧ len * s ≤ 16777216 ∧ len ≤ 16777216 then (match litRows s len ps with
      | some rows => if own = false ∧ 0 < len ∧ rows.all pureVs = true then some (.fsl true s rows, H) else some (.own H.length 0, H ++ [.vec 0 rows s true true])
      | none => none) else none
    | _, _ => none
  | _ => none
theorem vLit_sound (hR : Rel K φ H σ) {own : Bool} {t : TypeId} {len : Nat} {ps : List (Nat × V)} {psA : Array (Nat × Value)} (h : vLit P own t len ps H = some (v, H')) (hps : PsR K φ ps psA.toList) :
    Snd K φ v H' ((buildSliceV P t len psA).bind fun cs => (newBlk σ cs).map fun (a, σ') => (.slice (some a) len len, σ')) := by
  unfold vLit at h
  split at h
  · rename_i e hu
    split at h
    · rename_i s zs hs hz
      split at h
      · rename_i hc
        obtain ⟨c1, c2, c3, c4, c5⟩ := hc
        split at h
        · rename_i rows hl
          unfold litRows at hl
          split at hl
          · rename_i hr
            obtain ⟨r1, r2⟩ := hr
            cases hl
            obtain ⟨e1, e2, e3⟩ := hps.rows r2
            have hlen : ps.length = len := by have := congrArg List.length r1; simpa using this
            have hpsl : psA.toList.length = len := by have := congrArg List.length e3; simp at this ⊢; omega
            have hzip : psA.toList = ((psA.toList.map (·.2)).zipIdx 0).map fun x => (x.2, x.1) := zip_of (by rw [e3, r1, hpsl]; simp)
            have hfill : Instr.fill (fun i => some (i * s, s)) zs.toArray psA.toList = some ((psA.toList.map (·.2)).flatMap fun v => v.cells.toList).toArray := by
              conv => lhs; rw [hzip]
              exact Great.fill_whole c2 _ _ e2 (by simp only [List.length_map, hpsl]; simpa using c1.symm)
            have hj : (psA.all fun (_, x) => !junkB x) = true := by
              rw [← Array.all_toList, List.all_eq_true]
              exact forall2_junk hps (fun p hp => (r2 p.2.cells (List.mem_map.2 ⟨p, hp, rfl⟩)).2)
            have hb : buildSliceV P t len psA = some ((psA.toList.map (·.2)).flatMap fun v => v.cells.toList) := by
              unfold buildSliceV
              rw [hu]; dsimp only; rw [hs, hz]; dsimp only
              rw [if_pos ⟨c4, by simp only [top]; omega, hj⟩, hfill]; rfl
            rw [hb]
            have hrl : (ps.map fun p => p.2.cells).length = len := by simp [hlen]
            split at h
            · rename_i hc
              cases h
              have := newFsl hR (c := len) e1 r2 (fun r hr => List.all_eq_true.1 hc.2.2 r hr) (by omega) (by simp only [AM.dng]; omega) (by unfold capOK; rw [capOf_exact_eq (by simp only [top]; omega), hrl]; exact Nat.le_refl _)
              rw [hrl] at this
              exact this
            · cases h
              have := newVec hR (c := len) e1 r2 c2 c3 (by rw [hrl]; exact capX (by omega))
              rw [hrl] at this
              exact this
          · cases hl
        · cases h
      · cases h
    · cases h
  · cases h
theorem rows_rep {s : Nat} {z : List Value} (hz : z.length = s) (hs : ∀ x ∈ z, scalarB x = true) : ∀ n, RowsR K s (List.replicate n (z.map .lit)) φ (List.replicate n z).flatten
  | 0 => rfl
  | n + 1 => ⟨z, _, by rw [List.replicate_succ, List.flatten_cons], by simp [hz], VRs.lits hs, rows_rep hz hs n⟩
def vMake (P : Program) (t : TypeId) (l c : V) (H : Hp) : Option (V × Hp) := match P.underlying t, isInt l, isInt c with
  | some (.slice e), some l, some c => match szOf P e, byOf P e, zerosOf P e 1 with
    | some s, some bytes, some z => if l = c ∧ 0 ≤ l ∧ c ≤ 17179869184 ∧ bytes ≤ 4096 ∧ 0 < s ∧ s ≤ 1048576 ∧ z.length = s ∧ z.all (fun x => scalarB x && cellB x) = true then some (.own H.length 0, H ++ [.vec 0 (List.replicate l.toNat (z.map .lit)) s true true]) else none
    | _, _, _ => none
  | _, _, _ => none
theorem zeros_one {t n : Nat} {z : List Value} (h : zerosOf P t 1 = some z) : zerosOf P t n = some (List.replicate n z).flatten := by
  unfold zerosOf at h ⊢
  split at h
  · rename_i z' s h1 h2
    split at h
    · rename_i hc
      cases h
      rw [if_pos hc]
      simp
    · cases h
  · cases h
def makeA (P : Program) (t : TypeId) (la ca : Value) (σ : Heap) : Option (Value × Heap) := match P.underlying t, la, ca with
    | some (.slice e), .int _ l, .int _ c => match byOf P e with
      | some bytes => if 0 ≤ l ∧ l ≤ c ∧ c ≤ 17179869184 ∧ bytes ≤ 4096 then (zerosOf P e c.toNat).bind fun zs => (newBlk σ zs).map fun (a, σ') => (.slice (some a) l.toNat c.toNat, σ') else none
      | none => none
    | _, _, _ => none
theorem vMake_sound (hR : Rel K φ H σ) {t : TypeId} {l c : V} {la ca : Value} (h : vMake P t l c H = some (v, H')) (hl : VR K l φ la) (hc : VR K c φ ca) :
    Snd K φ v H' (makeA P t la ca σ) := by
  unfold makeA
  unfold vMake at h
  split at h
  · rename_i e l' c' hu i1 i2
    obtain ⟨k1, rfl⟩ := isInt_sound i1 hl
    obtain ⟨k2, rfl⟩ := isInt_sound i2 hc
    split at h
    · rename_i s bytes z h1 h2 h3
      split at h
      · rename_i hc
        obtain ⟨rfl, c1, c2, c3, c4, c5, c6, c7⟩ := hc
        cases h
        rw [hu]; dsimp only
        rw [h2]; dsimp only
        rw [if_pos ⟨c1, Int.le_refl _, c2, c3⟩, zeros_one h3]
        have hz : ∀ x ∈ z, scalarB x = true ∧ cellB x = true := fun x hx => by have := List.all_eq_true.1 c7 x hx; simpa using this
        have := newVec hR (c := l'.toNat) (rows_rep (n := l'.toNat) (φ := φ) (K := K) c6 fun x hx => (hz x hx).1) (s := s)
          (fun r hr => by
            rw [(List.mem_replicate.1 hr).2]
            refine ⟨by simp [c6], ?_⟩
            rw [List.all_map, List.all_eq_true]
            exact fun x hx => (hz x hx).2) c4 c5 (by rw [List.length_replicate]; exact capX (by omega))
        rw [List.length_replicate] at this
        exact this
      · cases h
    · cases h
  · cases h
/-- Bytes of rows. -/
def bytesV : List (List V) → Option (List UInt8)
  | [] => some []
  | [.lit v] :: l => match byteOfV v, bytesV l with
    | some b, some bs => some (b :: bs)
    | _, _ => none
  | _ => none
theorem bytesV_sound : ∀ {rows : List (List V)} {bs : List UInt8} {vals : List Value}, bytesV rows = some bs → RowsR K 1 rows φ vals → vals.mapM byteOfV = some bs
  | [], _, _, h, hr => by cases h; simp only [RowsR] at hr; subst hr; rfl
  | r :: rs, bs, _, h, ⟨a, as, h1, h2, h3, h4⟩ => by
    subst h1
    match r, h2, h3, h with
    | [x], h2, h3, h =>
      obtain ⟨a1, as1, e1, e2, e3⟩ := h3
      simp only [VRs] at e3
      subst e3; subst e1
      unfold bytesV at h
      split at h
      · rename_i hq; cases hq
      · rename_i v l hq
        cases hq
        obtain ⟨rfl, _⟩ := e2
        split at h
        · rename_i b bs' h5 h6
          cases h
          have := bytesV_sound h6 h4
          simp [List.mapM_cons, h5, this]
        · cases h
      · cases h
def vConv (P : Program) (own : Bool) (src dt : TypeId) (x : V) (H : Hp) : Option (V × Hp) := match P.underlying src, P.underlying dt with
  | some (.slice e), some .string => match P.underlying e, rowsOf H 1 x with
    | some (.int .u8), some (r :: rows) => (bytesV (r :: rows)).map fun bs => (.lit (.string ⟨bs.toArray⟩), H)
    | _, _ => none
  | some .string, some (.slice e) => match P.underlying e, x with
    | some (.int .u8), .lit (.string s) => if s.size ≤ 17179869184 then
        (if own = false then some (.fsl true 1 ((byteCells s).map fun c => [.lit c]), H) else some (.own H.length 0, H ++ [.vec 0 ((byteCells s).map fun c => [.lit c]) 1 true true])) else none
    | _, _ => none
  | some (.slice _), some (.slice e) => match P.underlying e, x with
    | some (.int .u8), .own g w => match H[g]? with
      | some (.vec w' (_ :: _) _ true _) => if src = dt ∧ w = w' then some (x, H) else none
      | _ => none
    | _, _ => none
  | _, _ => match toVal x with
    | some (.int k n) => ((convI P src dt (.int k n)).bind mkLit).map (·, H)
    | _ => none
theorem byteRows_ok {s : ByteArray} : RowsOk 1 ((byteCells s).map fun c => [V.lit c]) := fun r hr => by
  obtain ⟨c, hc, rfl⟩ := List.mem_map.1 hr
  unfold byteCells at hc
  obtain ⟨y, _, rfl⟩ := List.mem_map.1 hc
  exact ⟨rfl, rfl⟩
def convA (P : Program) (src dt : TypeId) (x : Value) (alt : Option Value) (σ : Heap) : Option (Value × Heap) := match P.underlying src, P.underlying dt, x with
    | some (.slice e), some .string, .slice A n _ => match P.underlying e with
      | some (.int .u8) => match A with
        | some a => match readN σ a n with
          | some cs => match cs.mapM byteOfV with
            | some bs => some (.string ⟨bs.toArray⟩, σ)
            | none => none
          | none => none
        | none => none
      | _ => none
    | some (.slice _), some (.slice e), .slice (some a) n c => match P.underlying e, σ[a.block]? with
      | some (.int .u8), some b => if src = dt ∧ b.perm = .full ∧ c < dng then some (.slice (some a) n c, σ) else none
      | _, _ => none
    | some .string, some (.slice e), .string s => match P.underlying e with
      | some (.int .u8) => if s.size ≤ 17179869184 then (newBlk σ (byteCells s)).map fun (a, σ') => (.slice (some a) s.size (unk 1 s.size), σ') else none
      | _ => none
    | _, _, _ => alt.map (·, σ)
theorem vConv_sound (hR : Rel K φ H σ) {own : Bool} {src dt : TypeId} {ox : Operand} (h : vConv P own src dt x H = some (v, H')) (hx : VR K x φ (ρa ox)) :
    Snd K φ v H' (convA P src dt (ρa ox) (aPure P ρa ⟨dst, .convert src dt ox, type, pos, after, guard⟩) σ) := by
  unfold vConv at h
  unfold convA
  split at h
  · rename_i e h1 h2
    split at h
    · rename_i r rows h3 h4
      cases hb : bytesV (r :: rows) with
      | none => rw [hb] at h; cases h
      | some bs =>
        rw [hb] at h; cases h
        obtain ⟨A, c, e1, e2, e3, e4, ⟨e5, _⟩ | ⟨b, o, vals, e5, e6, e7⟩⟩ := rowsOf_sound hR (by omega) h4 hx
        · simp at e5
        · subst e5
          rw [e1, h1, h2]; dsimp only
          rw [h3]; dsimp only
          rw [readN_eq]
          rw [Nat.mul_one] at e6
          rw [e6]; dsimp only
          rw [bytesV_sound hb e7]
          exact .same hR ⟨rfl, rfl⟩
    · cases h
  · rename_i e h1 h2
    split at h
    · rename_i s h3
      obtain ⟨e1, _⟩ := hx
      rw [e1, h1, h2]; dsimp only
      rw [h3]; dsimp only
      split at h
      · rename_i hn
        rw [if_pos hn]
        have hl : ((byteCells s).map fun c => [V.lit c]).length = s.size := by rw [List.length_map, byteCells_len]
        split at h
        · cases h
          have := newFsl hR (c := unk 1 s.size) (rows1 (K := K) (φ := φ) (byteCells_scalar (b := s))) byteRows_ok (fun r hr => by obtain ⟨c, _, rfl⟩ := List.mem_map.1 hr; rfl) (by omega) (by unfold unk top AM.dng; omega) (by rw [hl]; exact capOK_of (capOf_unkS hn (by omega)) (Nat.le_refl _))
          rw [hl] at this
          exact this
        · cases h
          have := newVec hR (c := unk 1 s.size) (rows1 (K := K) (φ := φ) (byteCells_scalar (b := s))) byteRows_ok (by omega) (by omega) (.inr (by rw [hl]; exact capV_new hn (by omega) (Nat.le_refl _)))
          rw [hl] at this
          exact this
      · cases h
    · cases h
  · rename_i e1 e2 h1 h2
    split at h
    · rename_i g w h3
      split at h
      · rename_i w' r0 rows s t hg
        split at h
        · rename_i hc
          obtain ⟨rfl, rfl⟩ := hc
          cases h
          obtain ⟨r, val, w', s1, g1, g2, g3, g4, g5⟩ := hx
          have hob := hR.ob g _ _ hg g1
          cases r with
          | mem _ => cases g2
          | fro _ _ _ => exact hob.elim
          | vec val1 w2 s2 =>
            cases g2
            obtain ⟨f1, f2, f3, f4, f5, f6⟩ := hob
            subst f1; subst f2
            have g4 := g4 rfl
            rcases f6 with ⟨f6, _⟩ | ⟨b, c, vals, rest, p, f6, f7, f8, f9, _⟩
            · simp at f6
            · have hp : p = .full := f9
              subst hp
              subst f6
              rw [g4, h1]; dsimp only
              have h3' := h3
              rw [show e2 = e1 by rw [h1] at h2; cases h2; rfl] at h3'
              rw [h3', f8]; dsimp only
              have hc : c < dng := by
                obtain ⟨_, C, _, _, _, f7 | f7⟩ := f7
                · have := (capOf_exact f7).2; simp only [top, AM.dng] at *; omega
                · by_cases hd : c < AM.dng
                  · exact hd
                  · exfalso
                    rw [capOf_unk f7] at hd f7
                    exact unk_dng (Nat.le_of_not_lt hd) f7
              rw [if_pos ⟨rfl, rfl, hc⟩]
              exact .same hR ⟨_, _, _, _, g1, rfl, Nat.le_refl _, fun _ => rfl, _, _, _, rfl⟩
        · cases h
      · cases h
    · cases h
  · rename_i n1 n2 n3
    split at h
    · rename_i k n hk
      have e1 := toVal_sound hk hx
      cases hci : convI P src dt (.int k n) with
      | none => rw [hci] at h; cases h
      | some y =>
        rw [hci] at h
        simp only [Option.bind_some] at h
        cases hm : mkLit y with
        | none => rw [hm] at h; cases h
        | some l =>
          rw [hm] at h; cases h
          rw [aPure_conv, e1, hci]
          split
          · rename_i hq; cases hq
          · rename_i hq; cases hq
          · rename_i hq; cases hq
          · exact .same hR (mkLit_sound hm)
    · cases h
/-- Rows are copied. -/
def vCopy (P : Program) (t tx : TypeId) (d x : V) (H : Hp) : Option (V × Hp) := match P.underlying t, P.underlying tx with
  | some (.slice e), some (.slice _) => match szOf P e, d with
    | some s, .own g w => match H[g]? with
      | some (.vec w' rows s' true t) => if w = w' ∧ s = s' then (match rowsOf H s x with
        | some xs => if RowsOk s xs then some (.lit (.int .i64 (Nat.min xs.length rows.length : Nat)), H.set g (.vec w' (xs.take (Nat.min xs.length rows.length) ++ rows.drop (Nat.min xs.length rows.length)) s true t)) else none
        | none => none) else none
      | _ => none
    | _, _ => none
  | _, _ => none
end
end Go.Proofs.Ytenbclcfhjdcaaa.VM
