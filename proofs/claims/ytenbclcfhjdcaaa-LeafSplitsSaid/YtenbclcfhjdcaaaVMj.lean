/- The machine of values: code, loops, functions; what is frozen or let go. -/
import Derived.Test.YtenbclcfhjdcaaaVMi
namespace Go.Proofs.Ytenbclcfhjdcaaa.VM
open Go AM
section
variable {P : Program} {prim : CallF} {K K' : Kn} {φ φ' : List Rz} {H H' : Hp} {σ σ' : Heap} {v x y : V} {a b : Value} {q : Bool} {e e' : Ev} {ea : Env} {ops : Array Oper} {own : List Tmp}

/-- What follows, where simp does not look. -/
class KVV where run : V → Hp → Prop
def ThenV (N : Ev → Hp → Prop) (Q : Ex → Ev → Hp → Prop) : Ex → Ev → Hp → Prop
  | .normal, e, H => N e H
  | x, e, H => Q x e H
def BlkV (id : Nat) (Q : Ex → Ev → Hp → Prop) : Ex → Ev → Hp → Prop
  | .exit i, e, H => if i = id then Q .normal e H else Q (.exit i) e H
  | x, e, H => Q x e H
def CondV (v : V) [c : PP] : Prop := match v with
  | .lit (.bool t) => (t = true → c.a) ∧ (t = false → c.b)
  | _ => False
def vdraw (P : Program) (prim : CallF) (own : List Tmp) (ops : Array Oper) (Q : Ev → Hp → Prop) (e : Ev) (H : Hp) : Prop := ∃ p, plan ops = some p ∧
  vwo P prim own true ops ((p.1.take p.2).map (ops.getD · default)) (vwo P prim own false ops ((p.1.drop p.2).map (ops.getD · default)) Q) e H
def SemX (n : Nat) (K : Kn) (φ : List Rz) (Q : Ex → Ev → Hp → Prop) : Ex → Env → Heap → Prop := fun x => Sem n K φ (Q x)
def SemW (P : Program) (prim : CallF) (c : Code) (Q : Ex → Ev → Hp → Prop) (e : Ev) (H : Hp) : Prop := ∀ K φ σ ea, Rel K φ H σ → EvR K φ e ea → W P prim c (SemX φ.length K φ Q) ea σ
def vw (P : Program) (prim : CallF) (own : List Tmp) : Code → (Ex → Ev → Hp → Prop) → Ev → Hp → Prop
  | .skip, Q, e, H => Q .normal e H
  | .label _, Q, e, H => Q .normal e H
  | .exit id, Q, e, H => Q (.exit id) e H
  | .ret, Q, e, H => Q .ret e H
  | .region _ ops draw, Q, e, H => if draw then vdraw P prim own ops (Q .normal) e H else vwo P prim own false ops ops.toList (Q .normal) e H
  | .seq a b, Q, e, H => vw P prim own a (ThenV (vw P prim own b Q) Q) e H
  | .cond x a b, Q, e, H => @CondV (vev e x) ⟨vw P prim own a Q e H, vw P prim own b Q e H⟩
  | .block id a, Q, e, H => vw P prim own a (BlkV id Q) e H
  | .loop a, Q, e, H => SemW P prim (.loop a) Q e H
  | .scope a, Q, e, H => vw P prim own a Q e H
  | _, _, _, _ => False
theorem vw_sound (hC : ∀ n, CallOk P (acall P prim n)) : ∀ (c : Code) {Q : Ex → Ev → Hp → Prop} {e : Ev} {H : Hp}, vw P prim own c Q e H → SemW P prim c Q e H
  | .skip, Q, e, H, h => fun K φ σ ea hR hE => w_skip ⟨K, φ, e, H, .refl _ _ _, hR, hE, h⟩
  | .label _, Q, e, H, h => fun K φ σ ea hR hE => w_label ⟨K, φ, e, H, .refl _ _ _, hR, hE, h⟩
  | .exit _, Q, e, H, h => fun K φ σ ea hR hE => w_exit ⟨K, φ, e, H, .refl _ _ _, hR, hE, h⟩
  | .ret, Q, e, H, h => fun K φ σ ea hR hE => w_ret ⟨K, φ, e, H, .refl _ _ _, hR, hE, h⟩
  | .region id ops draw, Q, e, H, h => fun K φ σ ea hR hE => by
    unfold vw at h
    cases draw with
    | false => exact w_region (vwo_sound hC _ h hR hE)
    | true =>
      obtain ⟨⟨ord, q⟩, hp, h⟩ := h
      refine w_draw hp (wo_mono (vwo_sound hC _ h hR hE) fun ea1 σ1 ⟨K1, φ1, e1, H1, h1, h2, h3, h4⟩ => ?_)
      exact wo_mono (vwo_sound hC _ h4 h2 h3) fun _ _ hs => hs.on h1 (Nat.le_refl _)
  | .seq a b, Q, e, H, h => fun K φ σ ea hR hE => by
    refine w_seq ((vw_sound hC a h K φ σ ea hR hE).mono fun x ea1 σ1 hs => ?_)
    cases x with
    | normal =>
      obtain ⟨K1, φ1, e1, H1, h1, h2, h3, h4⟩ := hs
      exact (vw_sound hC b h4 K1 φ1 σ1 ea1 h2 h3).mono fun x _ _ hs => hs.on h1 (Nat.le_refl _)
    | exit i => exact hs
    | ret => exact hs
  | .cond x a b, Q, e, H, h => fun K φ σ ea hR hE => by
    have hx := vev_sound hE x
    have h : @CondV (vev e x) ⟨vw P prim own a Q e H, vw P prim own b Q e H⟩ := h
    unfold CondV at h
    split at h
    · rename_i t ht
      rw [ht] at hx
      exact w_cond hx.1 (fun e1 => vw_sound hC a (h.1 e1) K φ σ ea hR hE) (fun e1 => vw_sound hC b (h.2 e1) K φ σ ea hR hE)
    · exact h.elim
  | .block id a, Q, e, H, h => fun K φ σ ea hR hE => by
    refine w_block ((vw_sound hC a h K φ σ ea hR hE).mono fun x ea1 σ1 hs => ?_)
    cases x with
    | normal => exact hs
    | ret => exact hs
    | exit i =>
      obtain ⟨K1, φ1, e1, H1, h1, h2, h3, h4⟩ := hs
      have h4 : if i = id then Q .normal e1 H1 else Q (.exit i) e1 H1 := h4
      show if i = id then SemX φ.length K φ Q .normal ea1 σ1 else SemX φ.length K φ Q (.exit i) ea1 σ1
      by_cases hi : i = id
      · rw [if_pos hi] at h4 ⊢; exact ⟨K1, φ1, e1, H1, h1, h2, h3, h4⟩
      · rw [if_neg hi] at h4 ⊢; exact ⟨K1, φ1, e1, H1, h1, h2, h3, h4⟩
  | .loop a, Q, e, H, h => h
  | .scope a, Q, e, H, h => fun K φ σ ea hR hE => w_scope (vw_sound hC a h K φ σ ea hR hE)
  | .rangeFunc _ _ _ _, _, _, _, h => h.elim
  | .goto _, _, _, _, h => h.elim
  | .refuse _, _, _, _, h => h.elim
/-- After steps that the program does not see. -/
def G (n : Nat) (Q : Ev → Hp → Prop) (e : Ev) (H : Hp) : Prop := ∀ K φ σ ea, Rel K φ H σ → EvR K φ e ea → Sem n K φ Q ea σ
theorem G.refl {n : Nat} {Q : Ev → Hp → Prop} (h : Q e H) : G n Q e H := fun K φ σ ea hR hE => ⟨K, φ, e, H, .refl _ _ _, hR, hE, h⟩
/-- What holds of a round's end, where simp does not look. -/
class KQ where run : Ev → Hp → Prop
def GH (n : Nat) (e : Ev) (H : Hp) [k : KQ] : Prop := G n k.run e H
theorem GH.of {n : Nat} {k : KQ} (h : G n k.run e H) : GH n e H := h
theorem GH.refl {n : Nat} {k : KQ} (h : k.run e H) : GH n e H := G.refl h
/-- A loop's first round. -/
theorem v_once (hC : ∀ n, CallOk P (acall P prim n)) {c : Code} {Q : Ex → Ev → Hp → Prop} (h : vw P prim own c (ThenV (vw P prim own (.loop c) Q) Q) e H) : vw P prim own (.loop c) Q e H := by
  intro K φ σ ea hR hE
  refine AM.w_once ((vw_sound hC c h K φ σ ea hR hE).mono fun x ea1 σ1 hs => ?_)
  cases x with
  | normal =>
    obtain ⟨K1, φ1, e1, H1, h1, h2, h3, h4⟩ := hs
    exact (h4 K1 φ1 σ1 ea1 h2 h3).mono fun x _ _ hs => hs.on h1 (Nat.le_refl _)
  | exit i => exact hs
  | ret => exact hs
theorem v_loopX (hC : ∀ n, CallOk P (acall P prim n)) {X : Type} {c : Code} {Q : Ex → Ev → Hp → Prop} (I : X → Ev → Hp → Prop) (m : X → Nat) (x0 : X) (h0 : G H.length (I x0) e H)
    (hr : ∀ x e' H', I x e' H' → vw P prim own c (ThenV (fun e2 H2 => @GH H.length e2 H2 ⟨fun e3 H3 => ∃ y, I y e3 H3 ∧ m y < m x⟩) Q) e' H') : vw P prim own (.loop c) Q e H := by
  intro K φ σ ea hR hE
  have hlen : φ.length = H.length := hR.len
  refine AM.w_loopX (fun x ea σ => Sem φ.length K φ (I x) ea σ) m x0 (by rw [hlen]; exact h0 K φ σ ea hR hE) ?_
  rintro x ea1 σ1 ⟨K1, φ1, e1, H1, h1, h2, h3, h4⟩
  refine (vw_sound hC c (hr x e1 H1 h4) K1 φ1 σ1 ea1 h2 h3).mono fun y ea2 σ2 hs => ?_
  cases y with
  | normal =>
    obtain ⟨K2, φ2, e2, H2, g1, g2, g3, g4⟩ := hs
    obtain ⟨K3, φ3, e3, H3, f1, f2, f3, z, f4, f5⟩ := g4 K2 φ2 σ2 ea2 g2 g3
    have hl1 := h1.le_len (Nat.le_refl _)
    have hl2 := g1.le_len (Nat.le_refl _)
    rw [← hlen] at f1
    exact ⟨z, ⟨K3, φ3, e3, H3, (h1.trans g1 hl1).trans f1 (Nat.le_refl _), f2, f3, f4⟩, f5⟩
  | exit i => exact Sem.on h1 (Nat.le_refl _) hs
  | ret => exact Sem.on h1 (Nat.le_refl _) hs
/-- What a function answers, after steps that the program does not see. -/
def GV (n : Nat) (R : V → Hp → Prop) (v : V) (H : Hp) : Prop := ∀ K φ σ a, Rel K φ H σ → VR K v φ a → ∃ K' φ' v' H', Post n K φ K' φ' ∧ Rel K' φ' H' σ ∧ VR K' v' φ' a ∧ R v' H'
theorem GV.refl {n : Nat} {R : V → Hp → Prop} (h : R v H) : GV n R v H := fun K φ σ a hR hv => ⟨K, φ, v, H, .refl _ _ _, hR, hv, h⟩
/-- The same, where simp does not look at what is claimed. -/
def GVH (n : Nat) (v : V) (H : Hp) [k : KVV] : Prop := GV n k.run v H
def vresult (P : Program) (e : Ev) (H : Hp) : ResultVar → Option V
  | .tmp t => some (e t)
  | .cell a t => vLoad P t H (e a)
def vresultL (P : Program) (e : Ev) (H : Hp) : List ResultVar → Option (List V)
  | [] => some []
  | r :: rs => match vresult P e H r, vresultL P e H rs with
    | some v, some vs => some (v :: vs)
    | _, _ => none
def vresults (P : Program) (rs : List ResultVar) (e : Ev) (H : Hp) : Option V := match rs with
  | [r] => vresult P e H r
  | rs => (vresultL P e H rs).map .tup
theorem vresult_sound {r : ResultVar} (hR : Rel K φ H σ) (hE : EvR K φ e ea) (h : vresult P e H r = some v) : ∃ a, resultOf P ea σ r = some a ∧ VR K v φ a := by
  cases r with
  | tmp t => cases h; exact ⟨_, rfl, hE t⟩
  | cell c t =>
    obtain ⟨b, o, y, e1, e2, e3⟩ := vLoad_sound hR h (hE c)
    exact ⟨y, by show (match ea c with | .pointer (some p) => loadV P t σ p | _ => none) = some y; rw [e1]; exact e2, e3⟩
theorem vresultL_sound (hR : Rel K φ H σ) (hE : EvR K φ e ea) : ∀ {rs : List ResultVar} {vs : List V}, vresultL P e H rs = some vs → ∃ as, rs.mapM (resultOf P ea σ) = some as ∧ VRs K vs φ as
  | [], vs, h => by cases h; exact ⟨[], rfl, rfl⟩
  | r :: rs, vs, h => by
    unfold vresultL at h
    split at h
    · rename_i v vs' h1 h2
      cases h
      obtain ⟨a, e1, e2⟩ := vresult_sound hR hE h1
      obtain ⟨as, e3, e4⟩ := vresultL_sound hR hE h2
      exact ⟨a :: as, by rw [List.mapM_cons, e1, e3]; rfl, a, as, rfl, e2, e4⟩
    · cases h
theorem vresults_sound {rs : List ResultVar} (hR : Rel K φ H σ) (hE : EvR K φ e ea) (h : vresults P rs e H = some v) : ∃ a, resultsOf P rs ea σ = some a ∧ VR K v φ a := by
  unfold vresults at h
  unfold resultsOf
  split at h
  · exact vresult_sound hR hE h
  · rename_i hne
    cases hl : vresultL P e H rs with
    | none => rw [hl] at h; cases h
    | some vs =>
      rw [hl] at h; cases h
      obtain ⟨as, e1, e2⟩ := vresultL_sound hR hE hl
      split
      · exact absurd rfl (hne _)
      · rw [e1]; exact ⟨_, rfl, _, rfl, by simpa using e2⟩
def BodyV (P : Program) (fn : Func) (n : Nat) [k : KVV] : Ex → Ev → Hp → Prop
  | .exit _, _, _ => False
  | _, e, H => ∃ v, vresults P fn.results.toList e H = some v ∧ @GVH n v H k
/-- Objects name objects. -/
def Ob.bel (n : Nat) : Ob → Prop
  | .mem cells _ => Bels n cells
  | .vec _ rows s _ _ => (∀ r ∈ rows, Bels n r) ∧ RowsOk s rows
  | .fro _ _ _ => True
def Cl (H : Hp) : Prop := ∀ o ∈ H, o.bel H.length
theorem Rel.cl (hR : Rel K φ H σ) : Cl H := by
  intro o ho
  obtain ⟨g, hg⟩ := List.getElem?_of_mem ho
  have hl : g < φ.length := by rw [hR.len]; exact get_lt hg
  have hob := hR.ob g o _ hg (List.getElem?_eq_getElem hl)
  rw [← hR.len]
  cases o with
  | mem cells rw =>
    revert hob
    cases φ[g] with
    | mem b => rintro ⟨vals, p, _, _, h⟩; exact h.bel
    | vec _ _ _ => exact fun h => h.elim
    | fro _ _ _ => exact fun h => h.elim
  | vec w rows s rw t =>
    revert hob
    cases φ[g] with
    | mem b => exact fun h => h.elim
    | vec _ _ _ =>
      rintro ⟨_, rfl, _, _, hok, ⟨h, _⟩ | ⟨b, c, vals, rest, p, _, _, _, _, h⟩⟩
      · exact ⟨fun r hr => by have := List.length_pos_of_mem hr; omega, hok⟩
      · exact ⟨h.bel, hok⟩
    | fro _ _ _ => exact fun h => h.elim
  | fro w rows s => trivial
theorem v_enter (hC : ∀ n, CallOk P (acall P prim n)) (own : List Tmp) {f : FuncId} {fn : Func} {c : Code} {args : List V} {R : V → Hp → Prop} (hp : ∀ as σ, prim f as σ = none) (hf : P.funcs[f]? = some fn) (hb : fn.body = some c) (hok : okFn fn = true) (hsz : args.length ≤ fn.ntmps)
    (h : Cl H → Bels H.length args → vw P prim own c (@BodyV P fn H.length ⟨R⟩) (fun i => args.getD i (.tup [])) H) : VC P prim f args H R := by
  intro K φ σ as hR ha
  have hl := ha.len
  simp only [Array.length_toList] at hl
  refine ac_enter (hp _ _) hf hb hok (by omega) ?_
  have hE : EvR K φ (fun i => args.getD i (.tup [])) (fun i => as.getD i undef) := fun t => by
    show VR K (args.getD t (.tup [])) φ (as.getD t undef)
    rw [List.getD_eq_getElem?_getD, Array.getD_eq_getD_getElem?]
    cases ht : args[t]? with
    | none =>
      have : as[t]? = none := by rw [Array.getElem?_eq_none]; rw [List.getElem?_eq_none_iff] at ht; omega
      rw [this]
      exact ⟨#[], rfl, rfl⟩
    | some v =>
      obtain ⟨a, h1, h2⟩ := ha.get ht
      have : as[t]? = some a := by simpa using h1
      rw [this]
      exact h2
  refine (vw_sound hC c (h hR.cl (by rw [← hR.len]; exact ha.bel)) K φ σ _ hR hE).mono fun x ea σ' hs => ?_
  obtain ⟨K1, φ1, e1, H1, h1, h2, h3, h4⟩ := hs
  have fin : (∃ v, vresults P fn.results.toList e1 H1 = some v ∧ @GVH H.length v H1 ⟨R⟩) → ∃ v, resultsOf P fn.results.toList ea σ' = some v ∧ ∃ K' φ' u H', Post φ.length K φ K' φ' ∧ Rel K' φ' H' σ' ∧ VR K' u φ' v ∧ R u H' := fun ⟨v, g1, g2⟩ => by
    obtain ⟨a, f1, f2⟩ := vresults_sound h2 h3 g1
    obtain ⟨K2, φ2, u, H2, k1, k2, k3, k4⟩ := g2 K1 φ1 σ' a h2 f2
    rw [← hR.len] at k1
    exact ⟨a, f1, K2, φ2, u, H2, h1.trans k1 (Nat.le_refl _), k2, k3, k4⟩
  cases x with
  | exit i => exact h4.elim
  | normal => exact fin h4
  | ret => exact fin h4
theorem VC.known {f : FuncId} {R : V → Hp → Prop} {y : Value} (hp : ∀ σ, prim f #[] σ = some (y, σ)) (hs : scalarB y = true) (h : R (.lit y) H) : VC P prim f [] H R := by
  intro K φ σ as hR ha
  have has : as = #[] := by simp only [VRs] at ha; exact Array.toList_eq_nil_iff.1 ha
  subst has
  exact ac_prim (hp σ) ⟨K, φ, .lit y, H, .refl _ _ _, hR, ⟨rfl, hs⟩, h⟩
theorem VC.mono {f : FuncId} {args : List V} {R R' : V → Hp → Prop} (h : VC P prim f args H R) (hr : ∀ v H', R v H' → R' v H') : VC P prim f args H R' := fun K φ σ as hR ha =>
  (h K φ σ as hR ha).mono fun a σ' ⟨K', φ', v, H', h1, h2, h3, h4⟩ => ⟨K', φ', v, H', h1, h2, h3, hr _ _ h4⟩
end
end Go.Proofs.Ytenbclcfhjdcaaa.VM
