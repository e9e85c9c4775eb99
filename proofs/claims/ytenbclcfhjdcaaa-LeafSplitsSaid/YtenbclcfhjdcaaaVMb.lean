/- The machine of values: reading, writing, new objects. -/
import Derived.Test.YtenbclcfhjdcaaaVMa
namespace Go.Proofs.Ytenbclcfhjdcaaa.VM
open Go AM
section
variable {P : Program} {K K' : Kn} {φ φ' : List Rz} {H H' : Hp} {σ σ' : Heap} {v x : V} {a : Value}

def litsOf : List V → Option (List Value)
  | [] => some []
  | .lit v :: l => (litsOf l).map (v :: ·)
  | _ => none
def toVal : V → Option Value
  | .lit v => some v
  | .agg cs => (litsOf cs).map fun l => .agg l.toArray
  | .ifc t (.lit v) => some (.iface t v)
  | _ => none
def ofVal : Value → V
  | .agg cs => .agg (cs.toList.map .lit)
  | .tuple vs => .tup (vs.toList.map .lit)
  | .iface t v => .ifc t (.lit v)
  | v => .lit v
theorem litsOf_sound : ∀ {l : List V} {m as : List Value}, litsOf l = some m → VRs K l φ as → as = m
  | [], _, _, h, hr => by simp only [litsOf] at h; cases h; exact hr
  | .lit v :: l, _, _, h, ⟨a, as, h1, h2, h3⟩ => by
    simp only [litsOf] at h
    cases hl : litsOf l with
    | none => rw [hl] at h; cases h
    | some m' =>
      rw [hl] at h; cases h
      obtain ⟨rfl, _⟩ := h2
      rw [h1, litsOf_sound hl h3]
  | .fsl _ _ _ :: _, _, _, h, _ => by cases h
  | .fptr _ :: _, _, _, h, _ => by cases h
  | .ptr _ _ :: _, _, _, h, _ => by cases h
  | .own _ _ :: _, _, _, h, _ => by cases h
  | .elt _ _ _ _ :: _, _, _, h, _ => by cases h
  | .fn _ _ _ :: _, _, _, h, _ => by cases h
  | .ifc _ _ :: _, _, _, h, _ => by cases h
  | .agg _ :: _, _, _, h, _ => by cases h
  | .tup _ :: _, _, _, h, _ => by cases h
  | .junk :: _, _, _, h, _ => by cases h
theorem toVal_sound {y : Value} (h : toVal v = some y) (hr : VR K v φ a) : a = y := by
  unfold toVal at h
  split at h
  · cases h; exact hr.1
  · rename_i cs
    cases hl : litsOf cs with
    | none => rw [hl] at h; cases h
    | some m =>
      rw [hl] at h; cases h
      obtain ⟨xs, rfl, h2⟩ := hr
      rw [← litsOf_sound hl h2]
  · cases h
    obtain ⟨x, rfl, h2, _⟩ := hr
    rw [h2]
  · cases h
theorem litsOf_map (l : List Value) : litsOf (l.map .lit) = some l := by
  induction l with
  | nil => rfl
  | cons x l ih => simp [litsOf, ih]
theorem ofVal_sound (h : flatB a = true) : VR K (ofVal a) φ a := by
  unfold ofVal
  split
  · rename_i cs
    exact ⟨cs, rfl, VRs.lits (List.all_eq_true.1 (by rw [Array.all_toList]; exact h))⟩
  · rename_i cs
    exact ⟨cs, rfl, VRs.lits (List.all_eq_true.1 (by rw [Array.all_toList]; exact h))⟩
  · rename_i t v
    exact ⟨v, rfl, rfl, h⟩
  · rename_i h1 h2 h3
    refine ⟨rfl, ?_⟩
    cases a <;> first | exact h | exact absurd rfl (h1 _) | exact absurd rfl (h2 _) | exact absurd rfl (h3 _ _)
def vev (e : Ev) : Operand → V
  | .tmp t => e t
  | .const v => if flatB v then ofVal v else .junk
  | .global _ => .junk
  | .func f => .fn f [] []
theorem vev_sound {e : Ev} {ea : Env} (h : EvR K φ e ea) (o : Operand) : VR K (vev e o) φ (ev ea o) := by
  cases o with
  | tmp t => exact h t
  | const v =>
    show VR K (if flatB v then ofVal v else .junk) φ v
    split
    · rename_i hv; exact ofVal_sound hv
    · trivial
  | global g => trivial
  | func f => exact ⟨#[], #[], rfl, rfl, rfl⟩

def Used (K : Kn) (φ : List Rz) (b : Nat) : Prop := (∃ c, K b = some c) ∨ ∃ (g : Nat) (r : Rz), φ[g]? = some r ∧ r.blk = some b
theorem Rel.used_lt (h : Rel K φ H σ) {b : Nat} (hu : Used K φ b) : b < σ.length := by
  rcases hu with ⟨c, hc⟩ | ⟨g, r, h1, h2⟩
  · obtain ⟨p, hp, _⟩ := h.kn b c hc; exact get_lt hp
  · have hg : g < H.length := by rw [← h.len]; exact get_lt h1
    have := h.ob g H[g] r (List.getElem?_eq_getElem hg) h1
    revert this
    cases r with
    | mem b' =>
      cases h2
      cases H[g] with
      | mem cells rw => rintro ⟨vals, p, h3, _⟩; exact get_lt h3
      | vec _ _ _ _ _ => exact fun h => h.elim
      | fro _ _ _ => exact fun h => h.elim
    | vec val w s =>
      cases H[g] with
      | mem cells rw => exact fun h => h.elim
      | vec w' rows s' rw t =>
        rintro ⟨_, _, _, _, _, ⟨_, h3 | ⟨_, _, _, h3, _⟩⟩ | ⟨b', c, vals, rest, p, h3, h5, h4, _⟩⟩
        · subst h3; cases h2
        · subst h3; cases h2
        · subst h3
          cases c with
          | zero => exact absurd rfl h5.1
          | succ c => cases h2; exact get_lt h4
      | fro _ _ _ => exact fun h => h.elim
    | fro val w s => cases h2
theorem CapV.dng {t : Bool} {c s n total : Nat} (h : CapV t c s n total) : c < AM.dng := by
  obtain ⟨_, C, _, _, _, f7 | f7⟩ := h
  · have := (capOf_exact f7).2; simp only [top, AM.dng] at *; omega
  · by_cases hd : c < AM.dng
    · exact hd
    · exfalso
      rw [capOf_unk f7] at hd f7
      exact unk_dng (Nat.le_of_not_lt hd) f7
theorem vec_blk {t : Bool} {val : Value} {b n c w s s' m total : Nat} (h : val = .slice (some ⟨b, 0, none⟩) n c) (hc : CapV t c s m total) : (Rz.vec val w s').blk = some b := by
  subst h
  cases c with
  | zero => exact absurd rfl hc.1
  | succ c => rfl
/-- An object that another state of memory leaves. -/
theorem ObR.keep {y : Ob} {r : Rz} (h : ObR K φ σ y r) (hb : ∀ b, r.blk = some b → σ'[b]? = σ[b]?) (hp : Post φ.length K φ K' φ') : ObR K' φ' σ' y r := by
  cases y with
  | mem cells rw =>
    cases r with
    | mem b =>
      obtain ⟨vals, p, h1, h2, h3⟩ := h
      exact ⟨vals, p, by rw [hb b rfl]; exact h1, h2, h3.on hp⟩
    | vec _ _ _ => exact h.elim
    | fro _ _ _ => exact h.elim
  | vec w rows s rw t =>
    cases r with
    | mem b => exact h.elim
    | vec val w' s' =>
      obtain ⟨h1, h2, h3, h3', h3'', h4⟩ := h
      refine ⟨h1, h2, h3, h3', h3'', h4.imp (fun ⟨e1, e2⟩ => ⟨e1, e2.mono hp.kn⟩) fun ⟨b, c, vals, rest, p, e1, e2, e3, e4, e5⟩ => ⟨b, c, vals, rest, p, e1, e2, ?_, e4, e5.on hp⟩⟩
      rw [hb b (vec_blk e1 e2)]; exact e3
    | fro _ _ _ => exact h.elim
  | fro w rows s =>
    cases r with
    | mem b => exact h.elim
    | vec _ _ _ => exact h.elim
    | fro val w' s =>
      obtain ⟨h1, h2, h3⟩ := h
      exact ⟨h1, h2, h3.monoN (n := 0) ⟨hp.kn, fun g r hg => by omega⟩⟩
theorem Rel.grow (h : Rel K φ H σ) (hg : ∀ b, Used K φ b → σ'[b]? = σ[b]?) : Rel K φ H σ' :=
  ⟨h.len, fun b c hc => by rw [hg b (.inl ⟨c, hc⟩)]; exact h.kn b c hc, fun g y r h1 h2 => (h.ob g y r h1 h2).keep (fun b hb => hg b (.inr ⟨g, r, h2, hb⟩)) (.refl _ _ _), h.inj, h.apart⟩
/-- An object becomes another one. -/
theorem Rel.upd (h : Rel K φ H σ) {g : Nat} {r r' : Rz} {y' : Ob} (h2 : φ[g]? = some r) (hle : RzLe r r')
    (hob : ObR K (φ.set g r') σ' y' r') (hfresh : ∀ b, r'.blk = some b → r.blk = some b ∨ ¬ Used K φ b)
    (hs : ∀ b, Used K φ b → r.blk ≠ some b → σ'[b]? = σ[b]?) : Rel K (φ.set g r') (H.set g y') σ' ∧ Post φ.length K φ K (φ.set g r') := by
  have hlt := get_lt h2
  have hp : Post φ.length K φ K (φ.set g r') := ⟨fun _ _ h => h, fun k q hk hq => by
    by_cases e : k = g
    · subst e; rw [h2] at hq; cases hq
      exact ⟨r', by rw [List.getElem?_set_self hlt], hle⟩
    · exact ⟨q, by rw [List.getElem?_set_ne (Ne.symm e)]; exact hq, .refl _⟩⟩
  have get : ∀ {k : Nat} {q : Rz}, (φ.set g r')[k]? = some q → (k = g ∧ q = r') ∨ (k ≠ g ∧ φ[k]? = some q) := fun {k q} hq => by
    by_cases e : k = g
    · subst e; rw [List.getElem?_set_self hlt] at hq; cases hq; exact .inl ⟨rfl, rfl⟩
    · rw [List.getElem?_set_ne (Ne.symm e)] at hq; exact .inr ⟨e, hq⟩
  have other : ∀ {k : Nat} {q : Rz} {b : Nat}, k ≠ g → φ[k]? = some q → q.blk = some b → r'.blk ≠ some b ∧ r.blk ≠ some b := fun {k q b} hk hq hb => by
    have h1 : r.blk ≠ some b := fun e => hk (h.inj k g q r b hq h2 hb e)
    exact ⟨fun e => (hfresh b e).elim h1 fun hn => hn (.inr ⟨k, q, hq, hb⟩), h1⟩
  refine ⟨⟨by simp [h.len], fun b c hc => ?_, fun k y q hy hq => ?_, fun k k' q q' b hq hq' hb hb' => ?_, fun k q b hq hb => ?_⟩, hp⟩
  · rw [hs b (.inl ⟨c, hc⟩) (fun e => by rw [h.apart g r b h2 e] at hc; cases hc)]; exact h.kn b c hc
  · rcases get hq with ⟨e1, e2⟩ | ⟨hk, hq1⟩
    · subst e2; rw [e1, List.getElem?_set_self (by rw [← h.len]; exact hlt)] at hy; cases hy; exact hob
    · rw [List.getElem?_set_ne (Ne.symm hk)] at hy
      exact (h.ob k y q hy hq1).keep (fun b hb => hs b (.inr ⟨k, q, hq1, hb⟩) (other hk hq1 hb).2) hp
  · rcases get hq with ⟨e1, e2⟩ | ⟨hk, hq1⟩ <;> rcases get hq' with ⟨e3, e4⟩ | ⟨hk', hq1'⟩
    · rw [e1, e3]
    · subst e2; exact absurd hb (other hk' hq1' hb').1
    · subst e4; exact absurd hb' (other hk hq1 hb).1
    · exact h.inj k k' q q' b hq1 hq1' hb hb'
  · rcases get hq with ⟨e1, e2⟩ | ⟨hk, hq1⟩
    · subst e2
      rcases hfresh b hb with e | hn
      · exact h.apart g r b h2 e
      · cases hK : K b with
        | none => rfl
        | some c => exact absurd (.inl ⟨c, hK⟩) hn
    · exact h.apart k q b hq1 hb
/-- A new object. -/
theorem Rel.snoc (h : Rel K φ H σ) {r : Rz} {y : Ob} (hob : ObR K (φ ++ [r]) σ y r) (hf : ∀ b, r.blk = some b → ¬ Used K φ b) : Rel K (φ ++ [r]) (H ++ [y]) σ ∧ Post φ.length K φ K (φ ++ [r]) := by
  have hp : Post φ.length K φ K (φ ++ [r]) := ⟨fun _ _ h => h, fun k q hk hq => ⟨q, by rw [List.getElem?_append_left hk]; exact hq, .refl _⟩⟩
  have get : ∀ {k : Nat} {q : Rz}, (φ ++ [r])[k]? = some q → (k = φ.length ∧ q = r) ∨ (k < φ.length ∧ φ[k]? = some q) := fun {k q} hq => by
    by_cases e : k < φ.length
    · rw [List.getElem?_append_left e] at hq; exact .inr ⟨e, hq⟩
    · have := get_lt hq
      simp at this
      have e : k = φ.length := by omega
      subst e
      rw [List.getElem?_append_right (by omega)] at hq
      simp at hq
      exact .inl ⟨rfl, hq.symm⟩
  refine ⟨⟨by simp [h.len], h.kn, fun k y' q hy hq => ?_, fun k k' q q' b hq hq' hb hb' => ?_, fun k q b hq hb => ?_⟩, hp⟩
  · rcases get hq with ⟨e1, e2⟩ | ⟨hk, hq1⟩
    · rw [e1, h.len, List.getElem?_append_right (by omega)] at hy
      simp at hy
      subst hy; subst e2; exact hob
    · rw [List.getElem?_append_left (by rw [← h.len]; exact hk)] at hy
      exact (h.ob k y' q hy hq1).keep (fun _ _ => rfl) hp
  · rcases get hq with ⟨e1, e2⟩ | ⟨hk, hq1⟩ <;> rcases get hq' with ⟨e3, e4⟩ | ⟨hk', hq1'⟩
    · rw [e1, e3]
    · subst e2; exact absurd (.inr ⟨k', q', hq1', hb'⟩) (hf b hb)
    · subst e4; exact absurd (.inr ⟨k, q, hq1, hb⟩) (hf b hb')
    · exact h.inj k k' q q' b hq1 hq1' hb hb'
  · rcases get hq with ⟨e1, e2⟩ | ⟨hk, hq1⟩
    · subst e2
      cases hK : K b with
      | none => rfl
      | some c => exact absurd (.inl ⟨c, hK⟩) (hf b hb)
    · exact h.apart k q b hq1 hb
def Kn.add (K : Kn) (b : Nat) (c : List Value) : Kn := fun j => if j = b then some c else K j
/-- A block that is no object's is frozen. -/
theorem Rel.know (h : Rel K φ H σ) {b : Nat} {c : List Value} {p : Perm} (hb : σ[b]? = some ⟨c, p⟩) (hp : p ≠ .dead) (hn : ∀ (g : Nat) r, φ[g]? = some r → r.blk ≠ some b) : Rel (K.add b c) φ H σ ∧ Post φ.length K φ (K.add b c) φ := by
  have hpost : Post φ.length K φ (K.add b c) φ := ⟨fun j d hj => by
    unfold Kn.add
    split
    · rename_i e; subst e
      obtain ⟨p', h1, _⟩ := h.kn j d hj
      rw [hb] at h1; cases h1; rfl
    · exact hj, fun g r _ h => ⟨r, h, .refl _⟩⟩
  refine ⟨⟨h.len, fun j d hj => ?_, fun g y r h1 h2 => (h.ob g y r h1 h2).keep (fun _ _ => rfl) hpost, h.inj, fun g r j h1 h2 => ?_⟩, hpost⟩
  · unfold Kn.add at hj
    split at hj
    · rename_i e; subst e; cases hj; exact ⟨p, hb, hp⟩
    · exact h.kn j d hj
  · unfold Kn.add
    split
    · rename_i e; subst e; exact absurd h2 (hn g r h1)
    · exact h.apart g r j h1 h2
theorem Rel.new (h : Rel K φ H σ) (cs : List Value) (p : Perm) : Rel K φ H (σ ++ [⟨cs, p⟩]) := h.grow fun b hb => List.getElem?_append_left (h.used_lt hb)
theorem Rel.not_used (h : Rel K φ H σ) : ¬ Used K φ σ.length := fun hu => Nat.lt_irrefl _ (h.used_lt hu)
/-- What an operation answers. -/
def Snd (K : Kn) (φ : List Rz) (v : V) (H' : Hp) (r : Option (Value × Heap)) : Prop := ∃ a σ' K' φ', r = some (a, σ') ∧ Post φ.length K φ K' φ' ∧ Rel K' φ' H' σ' ∧ VR K' v φ' a
theorem Snd.same (h : Rel K φ H σ) (hv : VR K v φ a) : Snd K φ v H (some (a, σ)) := ⟨a, σ, K, φ, rfl, .refl _ _ _, h, hv⟩
theorem Snd.und (h : Rel K φ H σ) : Snd K φ (.tup []) H (some (undef, σ)) := .same h ⟨#[], rfl, rfl⟩
end
end Go.Proofs.Ytenbclcfhjdcaaa.VM
