/- The machine of values: code. -/
import Derived.Test.YtenbclcfhjdcaaaVMh
namespace Go.Proofs.Ytenbclcfhjdcaaa.VM
open Go AM
section
variable {P : Program} {prim : CallF} {K K' : Kn} {φ φ' : List Rz} {H H' : Hp} {σ σ' : Heap} {v x y : V} {a b : Value} {q : Bool} {e e' : Ev} {ea : Env} {ops : Array Oper} {own : List Tmp}

theorem Post.le_len {n : Nat} {K K' : Kn} (h : Post n K φ K' φ') (hn : n ≤ φ.length) : n ≤ φ'.length := by
  by_cases h0 : n = 0
  · omega
  · obtain ⟨r', h1, _⟩ := h.rz (n - 1) φ[n - 1] (by omega) (List.getElem?_eq_getElem (by omega))
    have := get_lt h1
    omega
/-- A call comes to an answer. -/
def VC (P : Program) (prim : CallF) (f : FuncId) (args : List V) (H : Hp) (R : V → Hp → Prop) : Prop :=
  ∀ K φ σ (as : Array Value), Rel K φ H σ → VRs K args φ as.toList → AC P prim f as σ fun a σ' => ∃ K' φ' v H', Post φ.length K φ K' φ' ∧ Rel K' φ' H' σ' ∧ VR K' v φ' a ∧ R v H'
def Ob.lock : Ob → Ob
  | .mem cells _ => .mem cells false
  | .vec w rows s _ t => .vec w rows s false t
  | .fro w rows s => .fro w rows s
def lockV (H : Hp) : Hp := H.map Ob.lock
def Ob.rwOk : Ob → Prop
  | .mem _ rw | .vec _ _ _ rw _ => rw = true
  | .fro _ _ _ => True
/-- A step that the program does not see. -/
def Frz (H H0 : Hp) : Prop := ∀ K φ σ, Rel K φ H σ → ∃ K' φ', Post φ.length K φ K' φ' ∧ Rel K' φ' H0 σ
theorem Frz.refl : Frz H H := fun K φ σ hR => ⟨K, φ, .refl _ _ _, hR⟩
def VCq (P : Program) (prim : CallF) (q : Bool) (f : FuncId) (args : List V) (H : Hp) (R : V → Hp → Prop) : Prop :=
  ∃ H0, Frz H H0 ∧ if q then VC P prim f args (lockV H0) fun v T => ∃ X, T = lockV H0 ++ X ∧ (∀ o ∈ X, o.rwOk) ∧ R v (H0 ++ X) else VC P prim f args H0 R
theorem permOk_lock {p : Perm} {rw : Bool} (h : permOk rw p) : permOk false (if p = .full then .ro else p) := by
  unfold permOk at *
  cases p <;> cases rw <;> simp_all
theorem Rel.lock (hR : Rel K φ H σ) : Rel K φ (lockV H) (AM.lock σ) := by
  refine ⟨by simp [lockV, hR.len], fun b c hc => ?_, fun g x r hx hr => ?_, hR.inj, hR.apart⟩
  · obtain ⟨p, h1, h2⟩ := hR.kn b c hc
    refine ⟨_, by rw [lock_get, h1]; rfl, ?_⟩
    dsimp only
    split <;> simp_all
  · simp only [lockV, List.getElem?_map] at hx
    cases hg : H[g]? with
    | none => rw [hg] at hx; cases hx
    | some y =>
      rw [hg] at hx
      cases hx
      have hob := hR.ob g y r hg hr
      cases y with
      | mem cells rw =>
        cases r with
        | mem b =>
          obtain ⟨vals, p, h1, h2, h3⟩ := hob
          exact ⟨vals, _, by rw [lock_get, h1]; rfl, permOk_lock h2, h3⟩
        | vec _ _ _ => exact hob.elim
        | fro _ _ _ => exact hob.elim
      | vec w rows s rw t =>
        cases r with
        | mem b => exact hob.elim
        | vec val w' s' =>
          obtain ⟨h1, h2, h3, h4, h5, h6⟩ := hob
          refine ⟨h1, h2, h3, h4, h5, h6.imp id fun ⟨b, c, vals, rest, p, e1, e2, e3, e4, e5⟩ => ⟨b, c, vals, rest, _, e1, e2, by rw [lock_get, e3]; rfl, permOk_lock e4, e5⟩⟩
        | fro _ _ _ => exact hob.elim
      | fro w rows s =>
        cases r with
        | mem b => exact hob.elim
        | vec _ _ _ => exact hob.elim
        | fro _ _ _ => exact hob
theorem lock_same {y : Ob} {r r' : Rz} (h1 : ObR K φ σ y r) (h2 : ObR K' φ' σ' y.lock r') (hle : RzLe r r') : r' = r := by
  cases y with
  | mem cells rw =>
    cases r with
    | mem b => cases r' <;> simp only [RzLe] at hle; rw [hle]
    | vec _ _ _ => exact h1.elim
    | fro _ _ _ => exact h1.elim
  | vec w rows s rw t =>
    cases r with
    | mem b => exact h1.elim
    | vec val w1 s1 =>
      cases r' with
      | mem b => exact h2.elim
      | fro _ _ _ => exact h2.elim
      | vec val2 w2 s2 =>
        obtain ⟨a1, a2, a3⟩ := hle
        have e1 := h1.1
        have e2 := h2.1
        subst a1
        have : w1 = w2 := by rw [← e1]; exact e2
        subst this
        rw [a3 rfl]
    | fro _ _ _ => exact h1.elim
  | fro w rows s =>
    cases r with
    | mem b => exact h1.elim
    | vec _ _ _ => exact h1.elim
    | fro _ _ _ =>
      cases r' <;> simp only [RzLe] at hle
      obtain ⟨rfl, rfl, rfl⟩ := hle
      rfl
/-- A call that may change nothing that stands. -/
theorem quiet_sound (hR : Rel K φ H σ) {τ : Heap} (hle : Le (AM.lock σ) τ) {X : Hp} (hp : Post φ.length K φ K' φ') (hR' : Rel K' φ' (lockV H ++ X) τ) (hX : ∀ o ∈ X, o.rwOk) : Rel K' φ' (H ++ X) (σ ++ τ.drop σ.length) := by
  have hlen : σ.length ≤ τ.length := by have := hle.len; rwa [lock_len] at this
  have hlH : (lockV H).length = H.length := by simp [lockV]
  have lo : ∀ {b : Nat}, b < σ.length → (σ ++ τ.drop σ.length)[b]? = σ[b]? := fun hb => List.getElem?_append_left hb
  have hi : ∀ {b : Nat}, ¬ b < σ.length → (σ ++ τ.drop σ.length)[b]? = τ[b]? := fun {b} hb => by
    rw [List.getElem?_append_right (by omega), List.getElem?_drop]
    congr 1; omega
  have old : ∀ {b : Nat} {x : Blk}, b < σ.length → τ[b]? = some x → x.perm ≠ .full ∧ (x.perm ≠ .dead → ∃ p, σ[b]? = some ⟨x.cells, p⟩ ∧ p ≠ .dead) := fun {b x} hb hx => by
    obtain ⟨y, hy⟩ : ∃ y, σ[b]? = some y := ⟨_, List.getElem?_eq_getElem hb⟩
    obtain ⟨x', h1, h2, h3, h4⟩ := hle.blk b _ (by rw [lock_get, hy]; rfl)
    rw [hx] at h1; cases h1
    obtain ⟨yc, yp⟩ := y
    cases yp with
    | full =>
      have := h3 rfl
      rw [this]
      exact ⟨by simp, fun _ => ⟨_, hy, by simp⟩⟩
    | ro =>
      have := h3 rfl
      rw [this]
      exact ⟨by simp, fun _ => ⟨_, hy, by simp⟩⟩
    | dead =>
      have := h4 rfl
      rw [this]
      exact ⟨by simp, fun h => absurd rfl h⟩
  refine ⟨by rw [hR'.len]; simp [lockV], fun b c hc => ?_, fun g x r' hx hr' => ?_, hR'.inj, hR'.apart⟩
  · obtain ⟨p, h1, h2⟩ := hR'.kn b c hc
    by_cases hb : b < σ.length
    · rw [lo hb]
      exact (old hb h1).2 h2
    · rw [hi hb]
      exact ⟨p, h1, h2⟩
  · by_cases hg : g < H.length
    · rw [List.getElem?_append_left hg] at hx
      obtain ⟨r, hr⟩ : ∃ r, φ[g]? = some r := ⟨_, List.getElem?_eq_getElem (by rw [hR.len]; exact hg)⟩
      have hob := hR.ob g x r hx hr
      obtain ⟨r2, e1, e2⟩ := hp.rz g r (get_lt hr) hr
      rw [hr'] at e1; cases e1
      have hob' := hR'.ob g x.lock r' (by rw [List.getElem?_append_left (by rw [hlH]; exact hg)]; simp [lockV, hx]) hr'
      have := lock_same hob hob' e2
      subst this
      exact hob.keep (fun b hb => lo (hR.used_lt (.inr ⟨g, r', hr, hb⟩))) hp
    · have hx' : (lockV H ++ X)[g]? = some x := by
        rw [List.getElem?_append_right (by omega)] at hx
        rw [List.getElem?_append_right (by omega), hlH]; exact hx
      have hob' := hR'.ob g x r' hx' hr'
      have hrw : x.rwOk := hX x (by rw [List.getElem?_append_right (by omega)] at hx; exact List.mem_of_getElem? hx)
      refine hob'.keep (fun b hb => ?_) (.refl _ _ _)
      refine hi fun hlt => ?_
      cases x with
      | mem cells rw =>
        cases r' with
        | mem b' =>
          cases hb
          obtain ⟨vals, p, h1, h2, _⟩ := hob'
          have hrw : rw = true := hrw
          subst hrw
          have : p = .full := h2
          subst this
          exact (old hlt h1).1 rfl
        | vec _ _ _ => exact hob'.elim
        | fro _ _ _ => exact hob'.elim
      | vec w rows s rw t =>
        cases r' with
        | mem _ => exact hob'.elim
        | fro _ _ _ => exact hob'.elim
        | vec val w' s' =>
          obtain ⟨_, _, _, _, _, ⟨_, h6 | ⟨_, _, _, h6, _⟩⟩ | ⟨b', c, vals, rest, p, h6, h7, h8, h9, _⟩⟩ := hob'
          · subst h6; cases hb
          · subst h6; cases hb
          · rw [vec_blk h6 h7] at hb; cases hb
            have hrw : rw = true := hrw
            subst hrw
            have : p = .full := h9
            subst this
            exact (old hlt h8).1 rfl
      | fro w rows s =>
        cases r' with
        | mem _ => exact hob'.elim
        | vec _ _ _ => exact hob'.elim
        | fro _ _ _ => cases hb
def vupd (e : Ev) (d : Option Tmp) (v : V) : Ev := match d with
  | some i => fun j => if j = i then v else e j
  | none => e
theorem EvR.upd (h : EvR K φ e ea) (hv : VR K v φ a) (d : Option Tmp) : EvR K φ (vupd e d v) (AM.upd ea d a) := by
  cases d with
  | none => exact h
  | some i =>
    intro t
    unfold vupd AM.upd
    dsimp only
    split
    · exact hv
    · exact h t
def wantedV (ops : Array Oper) (o : Oper) (e : Ev) : Option Bool := match o.guard with
  | none => some true
  | some (j, want) => match (ops[j]?).bind (·.dst) with
    | none => some false
    | some d => match e d with
      | .lit (.bool b) => some (b == want)
      | .tup [] => some false
      | _ => none
theorem wantedV_sound {o : Oper} {t : Bool} (h : wantedV ops o e = some t) (hE : EvR K φ e ea) : wantedA ops o ea = some t := by
  unfold wantedV at h
  unfold wantedA
  split at h
  · rename_i hg; rw [hg]; exact h
  · rename_i j want hg
    rw [hg]; dsimp only
    split at h
    · rename_i hd; rw [hd]; exact h
    · rename_i d hd
      rw [hd]; dsimp only
      have he := hE d
      split at h
      · rename_i b hb
        rw [hb] at he
        rw [he.1]; exact h
      · rename_i hb
        rw [hb] at he
        obtain ⟨xs, e1, e2⟩ := he
        rw [e1]; exact h
      · cases h
def goCallV (ρ : Operand → V) (op : Op) : Option (FuncId × List V) := match op with
  | .call { callee := .value x, args, .. } => match ρ x with
    | .fn f first captured => some (f, first ++ args.toList.map ρ ++ captured)
    | _ => none
  | _ => none
def isGoCall : Op → Bool
  | .call { callee := .value _, .. } => true
  | _ => false
/-- Is it a slice held against nil? ('!=', how many elements) -/
def nilOp (P : Program) (ρ : Operand → V) (op : Op) (H : Hp) : Option (Bool × Nat) := match op with
  | .binOp .eql t x y _ => (nilCmp P H t (ρ x) (ρ y)).map (false, ·)
  | .binOp .neq t x y _ => (nilCmp P H t (ρ x) (ρ y)).map (true, ·)
  | _ => none
def vstep (P : Program) (prim : CallF) (own : List Tmp) (q : Bool) (ops : Array Oper) (o : Oper) (e : Ev) (H : Hp) (k : V → Hp → Prop) : Prop := match wantedV ops o e with
  | some true => if isGoCall o.op then (match goCallV (vev e) o.op with
    | some (f, args) => VCq P prim q f args H k
    | none => False) else (match nilOp P (vev e) o.op H with
      | some (neq, n) => ∀ b : Bool, (0 < n → b = neq) → k (.lit (.bool b)) H
      | none => (match vop P own q (vev e) o H with
        | some (v, H') => k v H'
        | none => False))
  | some false => k (.tup []) H
  | none => False
def vwo (P : Program) (prim : CallF) (own : List Tmp) (q : Bool) (ops : Array Oper) : List Oper → (Ev → Hp → Prop) → Ev → Hp → Prop
  | [], Q, e, H => Q e H
  | o :: l, Q, e, H => vstep P prim own q ops o e H fun v H' => vwo P prim own q ops l Q (vupd e o.dst v) H'
/-- A state that some state of values stands for. -/
def Sem (n : Nat) (K : Kn) (φ : List Rz) (Q : Ev → Hp → Prop) (ea : Env) (σ : Heap) : Prop := ∃ K' φ' e' H', Post n K φ K' φ' ∧ Rel K' φ' H' σ ∧ EvR K' φ' e' ea ∧ Q e' H'
theorem Sem.on {n : Nat} {K1 : Kn} {φ1 : List Rz} {Q : Ev → Hp → Prop} (hp : Post n K φ K1 φ1) (hn : n ≤ φ.length) {σ : Heap} (h : Sem φ1.length K1 φ1 Q ea σ) : Sem n K φ Q ea σ :=
  let ⟨K', φ', e', H', h1, h2, h3, h4⟩ := h; ⟨K', φ', e', H', hp.trans h1 (hp.le_len hn), h2, h3, h4⟩
theorem wo_mono {l : List Oper} {Q Q' : Env → Heap → Prop} {ea : Env} (h : WO P prim q ops l Q ea σ) (hq : ∀ e σ, Q e σ → Q' e σ) : WO P prim q ops l Q' ea σ :=
  let ⟨n, e', σ', h1, h2⟩ := h; ⟨n, e', σ', h1, hq _ _ h2⟩
theorem vwo_sound (hC : ∀ n, CallOk P (acall P prim n)) : ∀ (l : List Oper) {Q : Ev → Hp → Prop} {e : Ev} {H : Hp}, vwo P prim own q ops l Q e H → ∀ {K φ σ ea}, Rel K φ H σ → EvR K φ e ea → WO P prim q ops l (Sem φ.length K φ Q) ea σ
  | [], Q, e, H, h, K, φ, σ, ea, hR, hE => wo_nil.2 ⟨K, φ, e, H, .refl _ _ _, hR, hE, h⟩
  | o :: l, Q, e, H, h, K, φ, σ, ea, hR, hE => by
    have ih := @vwo_sound hC l
    refine wo_cons ?_
    unfold vwo vstep at h
    unfold StepR
    have next : ∀ {K' φ' v a H' σ'}, Post φ.length K φ K' φ' → Rel K' φ' H' σ' → VR K' v φ' a → vwo P prim own q ops l Q (vupd e o.dst v) H' → WO P prim q ops l (Sem φ.length K φ Q) (AM.upd ea o.dst a) σ' := fun h1 h2 h3 h4 =>
      wo_mono (ih h4 h2 ((hE.on h1).upd h3 o.dst)) fun _ _ hs => hs.on h1 (Nat.le_refl _)
    split at h
    · rename_i hw
      rw [wantedV_sound hw hE]; dsimp only
      split at h
      · rename_i hgc
        split at h
        · rename_i f args hga
          have hga' : ∃ as : Array Value, goCall (AM.ev ea) o.op = some (f, as) ∧ VRs K args φ as.toList := by
            unfold goCallV at hga
            unfold goCall
            split at hga
            · rename_i x as _ hop
              rw [hop]; dsimp only
              have hx := vev_sound hE x
              split at hga
              · rename_i f' fi cp hf
                rw [hf] at hx
                obtain ⟨fa, ca, e1, e2, e3⟩ := hx
                cases hga
                rw [e1]
                refine ⟨_, rfl, ?_⟩
                simp only [Array.toList_append, Array.toList_map]
                exact (e2.append (VRs.map_of (vev_sound hE))).append e3
              · cases hga
            · cases hga
          obtain ⟨as, g1, g2⟩ := hga'
          rw [g1]; dsimp only
          unfold VCq at h
          unfold ACq
          obtain ⟨H0, hfz, h⟩ := h
          obtain ⟨K0, φ0, p0, hR0⟩ := hfz K φ σ hR
          have g3 := g2.on p0
          have hl0 := p0.le_len (Nat.le_refl _)
          cases q with
          | false =>
            simp only [if_false, Bool.false_eq_true] at h ⊢
            exact (h K0 φ0 σ as hR0 g3).mono fun a σ' ⟨K', φ', v, H', h1, h2, h3, h4⟩ => next (p0.trans h1 hl0) h2 h3 h4
          | true =>
            simp only [if_true] at h ⊢
            obtain ⟨n, a, τ, hac, K', φ', v, T, h1, h2, h3, X, h4, h5, h6⟩ := h K0 φ0 (AM.lock σ) as hR0.lock g3
            refine ⟨n, a, τ, hac, ?_⟩
            subst h4
            have hle := ((hC n) _ _ _ _ _ hac).2.1
            exact next (p0.trans h1 hl0) (quiet_sound hR0 hle h1 h2 h5) h3 h6
        · exact h.elim
      · rename_i hgc
        have hg : goCall (AM.ev ea) o.op = none := by
          unfold isGoCall at hgc
          unfold goCall
          split at hgc
          · exact absurd rfl hgc
          · rename_i hno
            split
            · rename_i x as _ hop; exact absurd hop (hno _ _ _)
            · rfl
        rw [hg]; dsimp only
        unfold After
        split at h
        · rename_i neq n hn
          obtain ⟨dst, op, type, pos, after, guard⟩ := o
          unfold nilOp at hn
          dsimp only at hn h next ⊢
          split at hn
          · rename_i t x y ty
            cases hc : nilCmp P H t (vev e x) (vev e y) with
            | none => rw [hc] at hn; cases hn
            | some m =>
              rw [hc] at hn; cases hn
              obtain ⟨r, h1, h2⟩ := nilCmp_sound (ρ := AM.ev ea) (dst := dst) (type := type) (pos := pos) (after := after) (guard := guard) hR hc (vev_sound hE x) (vev_sound hE y)
              have h3 : aop P q (AM.ev ea) ⟨dst, .binOp .eql t x y ty, type, pos, after, guard⟩ σ = some (.bool r, σ) := (h2 x y ty rfl rfl).1
              rw [h3]
              exact next (.refl _ _ _) hR (v := .lit (.bool r)) ⟨rfl, rfl⟩ (h r h1)
          · rename_i t x y ty
            cases hc : nilCmp P H t (vev e x) (vev e y) with
            | none => rw [hc] at hn; cases hn
            | some m =>
              rw [hc] at hn; cases hn
              obtain ⟨r, h1, h2⟩ := nilCmp_sound (ρ := AM.ev ea) (dst := dst) (type := type) (pos := pos) (after := after) (guard := guard) hR hc (vev_sound hE x) (vev_sound hE y)
              have h3 : aop P q (AM.ev ea) ⟨dst, .binOp .neq t x y ty, type, pos, after, guard⟩ σ = some (.bool (!r), σ) := (h2 x y ty rfl rfl).2
              rw [h3]
              exact next (.refl _ _ _) hR (v := .lit (.bool (!r))) ⟨rfl, rfl⟩ (h (!r) fun h => by rw [h1 h]; rfl)
          · cases hn
        · split at h
          · rename_i v H' hv
            obtain ⟨a, σ', K', φ', h1, h2, h3, h4⟩ := vop_sound hR (vev_sound hE) hv
            rw [h1]
            exact next h2 h3 h4 h
          · exact h.elim
    · rename_i hw
      rw [wantedV_sound hw hE]
      exact next (.refl _ _ _) hR (v := .tup []) ⟨#[], rfl, rfl⟩ h
    · exact h.elim
end
end Go.Proofs.Ytenbclcfhjdcaaa.VM
