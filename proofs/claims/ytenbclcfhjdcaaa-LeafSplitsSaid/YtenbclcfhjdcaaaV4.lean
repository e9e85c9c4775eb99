/- Structs held against each other. -/
import Derived.Test.YtenbclcfhjdcaaaV3
namespace Go.Proofs.Ytenbclcfhjdcaaa.VM
open Go Go.Proofs AM B
theorem part_int (cs : Array Value) (off : Nat) : pureRun Try.prog (part 3 cs off) = cs[off]? := by
  unfold part
  rw [pureRun_bind, show pureRun Try.prog (isAgg 3) = some false by kernel_rfl]
  simp
  cases cs[off]? <;> rfl
theorem eqP_int (d : Nat) (k : IntKind) (a b : Int) : pureRun Try.prog (Op.equalIn (d + 1) 3 (.int k a) (.int k b)) = some (decide (a = b)) := by
  unfold Op.equalIn
  simp [pureRun_bind, pureRun_underlying, Bool.beq_eq_decide_eq]
theorem eqP_key (d : Nat) (a0 b0 a1 b1 : Int) : pureRun Try.prog (Op.equalIn (d + 2) 46 (.agg #[.int .i64 a0, .int .i64 a1]) (.agg #[.int .i64 b0, .int .i64 b1])) = some (decide (a0 = b0 ∧ a1 = b1)) := by
  unfold Op.equalIn
  by_cases h0 : a0 = b0 <;> by_cases h1 : a1 = b1 <;> simp [pureRun_bind, pureRun_underlying, pureRun_program, show Try.prog.stoodInHeld 46 = false by kernel_rfl, part_int, eqP_int, h0, h1]
theorem eqP_rkey (d : Nat) (a0 b0 a1 b1 : Int) : pureRun Try.prog (Op.equalIn (d + 2) 39 (.agg #[.int .i64 a0, .int .i64 a1]) (.agg #[.int .i64 b0, .int .i64 b1])) = some (decide (a0 = b0 ∧ a1 = b1)) := by
  unfold Op.equalIn
  by_cases h0 : a0 = b0 <;> by_cases h1 : a1 = b1 <;> simp [pureRun_bind, pureRun_underlying, pureRun_program, show Try.prog.stoodInHeld 39 = false by kernel_rfl, part_int, eqP_int, h0, h1]
theorem part_key (a b c : Value) : pureRun Try.prog (part 46 #[a, b, c] 0) = some (.agg #[a, b]) := by kernel_rfl
theorem part_rkey (a b c : Value) : pureRun Try.prog (part 39 #[a, b, c] 0) = some (.agg #[a, b]) := by kernel_rfl
theorem eqP_ent (d : Nat) (a0 b0 a1 b1 a2 b2 : Int) : pureRun Try.prog (Op.equalIn (d + 3) 54 (.agg #[.int .i64 a0, .int .i64 a1, .int .i64 a2]) (.agg #[.int .i64 b0, .int .i64 b1, .int .i64 b2])) = some (decide (a0 = b0 ∧ a1 = b1 ∧ a2 = b2)) := by
  unfold Op.equalIn
  by_cases h0 : a0 = b0 <;> by_cases h1 : a1 = b1 <;> by_cases h2 : a2 = b2 <;> simp [pureRun_bind, pureRun_underlying, pureRun_program, show Try.prog.stoodInHeld 54 = false by kernel_rfl, part_int, part_key, eqP_int, eqP_key, h0, h1, h2]
theorem eqP_rent (d : Nat) (a0 b0 a1 b1 a2 b2 : Int) : pureRun Try.prog (Op.equalIn (d + 3) 51 (.agg #[.int .i64 a0, .int .i64 a1, .int .i64 a2]) (.agg #[.int .i64 b0, .int .i64 b1, .int .i64 b2])) = some (decide (a0 = b0 ∧ a1 = b1 ∧ a2 = b2)) := by
  unfold Op.equalIn
  by_cases h0 : a0 = b0 <;> by_cases h1 : a1 = b1 <;> by_cases h2 : a2 = b2 <;> simp [pureRun_bind, pureRun_underlying, pureRun_program, show Try.prog.stoodInHeld 51 = false by kernel_rfl, part_int, part_rkey, eqP_int, eqP_rkey, h0, h1, h2]
@[simp] theorem eqS_key (a0 b0 a1 b1 : Int) : eqS Try.prog 46 #[.int .i64 a0, .int .i64 a1] #[.int .i64 b0, .int .i64 b1] = some (decide (a0 = b0 ∧ a1 = b1)) := by
  unfold eqS
  rw [if_pos ⟨by simp, by simp, by kernel_rfl⟩]
  exact eqP_key 9998 ..
@[simp] theorem eqS_rkey (a0 b0 a1 b1 : Int) : eqS Try.prog 39 #[.int .i64 a0, .int .i64 a1] #[.int .i64 b0, .int .i64 b1] = some (decide (a0 = b0 ∧ a1 = b1)) := by
  unfold eqS
  rw [if_pos ⟨by simp, by simp, by kernel_rfl⟩]
  exact eqP_rkey 9998 ..
@[simp] theorem eqS_ent (a0 b0 a1 b1 a2 b2 : Int) : eqS Try.prog 54 #[.int .i64 a0, .int .i64 a1, .int .i64 a2] #[.int .i64 b0, .int .i64 b1, .int .i64 b2] = some (decide (a0 = b0 ∧ a1 = b1 ∧ a2 = b2)) := by
  unfold eqS
  rw [if_pos ⟨by simp, by simp, by kernel_rfl⟩]
  exact eqP_ent 9997 ..
@[simp] theorem eqS_rent (a0 b0 a1 b1 a2 b2 : Int) : eqS Try.prog 51 #[.int .i64 a0, .int .i64 a1, .int .i64 a2] #[.int .i64 b0, .int .i64 b1, .int .i64 b2] = some (decide (a0 = b0 ∧ a1 = b1 ∧ a2 = b2)) := by
  unfold eqS
  rw [if_pos ⟨by simp, by simp, by kernel_rfl⟩]
  exact eqP_rent 9997 ..
theorem ents_eq {l m : List Ent} (h : l.length = m.length) (hall : ∀ j, j < l.length → ent l j = ent m j) : l = m := by
  apply List.ext_getElem h
  intro i h1 h2
  rw [← ent_eq l i h1, ← ent_eq m i h2]
  exact hall i h1
theorem ent_same {a b : Ent} : a = b ↔ a.s = b.s ∧ a.n = b.n ∧ a.p = b.p := by cases a; cases b; simp
set_option maxRecDepth 100000
theorem v_Equal {kk km : Bool} {l m : List Ent} (hl : l.length < 2 ^ 48) : A 81 [ES kk l, ES km m] (bo (decide (l = m))) := by
  intro H
  refine v_enter hC [] (fun _ _ => kn_none rfl) Try.func81 rfl ok81 (Nat.le_of_ble_eq_true rfl) fun hcl hbl => ?_
  simp
  by_cases hlen : l.length = m.length
  · simp [hlen]
    refine v_loopX hC (fun (k : Nat) e T => T = H ∧ e 0 = ES kk l ∧ e 1 = ES km m ∧ e 12 = i6 l.length ∧ e 13 = i6 k ∧ k ≤ l.length ∧ ∀ j, j < k → ent l j = ent m j) (fun k => l.length - k) 0 (G.refl ?_) ?_
    · simp [hlen]
    · rintro k e T ⟨rfl, h0, h1, h12, h13, hk, hall⟩
      simp [h0, h1, h12, h13]
      refine CondV.dec (fun hlt => ?_) (fun hge => ?_)
      · have hlt : k < l.length := by omega
        simp [h0, h1, h12, h13]
        refine v_draw (ord := [0, 1, 2, 3, 4, 5, 6, 7, 8]) (m := 8) (by decide +kernel) ?_
        simp [h0, h1, h12, h13, getE hlt, getE (show k < m.length by omega)]
        refine CondV.on (fun hb => ?_) (fun hb => ?_)
        · have : l ≠ m := fun e => by
            subst e
            simp at hb
          simp [Try.results81]
          first | (refine GV.ans hcl ?_; simp [this]; done) | (refine GV.ans0 ?_; simp [this]; done)
        · have hb : ent l k = ent m k := by rw [ent_same]; simpa using hb
          simp [h0, h1, h12, h13, w64 (n := (k : Int) + 1) (by omega)]
          refine GH.refl ⟨k + 1, ⟨rfl, ?_, ?_, ?_, ?_, hlt, fun j hj => ?_⟩, by omega⟩ <;> (try simp [h0, h1, h12])
          by_cases hjk : j = k
          · subst hjk; exact hb
          · exact hall j (by omega)
      · have : l = m := ents_eq hlen fun j hj => hall j (by omega)
        simp [Try.results81]
        first | (refine GV.ans hcl ?_; simp [this]; done) | (refine GV.ans0 ?_; simp [this]; done)
  · have : l ≠ m := fun e => hlen (by rw [e])
    have hlen : ¬ ((l.length : Int) = m.length) := by omega
    simp [hlen, Try.results81]
    first | (refine GV.ans hcl ?_; simp [this]; done) | (refine GV.ans0 ?_; simp [this]; done)
theorem v_Same {kk km : Bool} {l m : List Ent} (hl : l.length < 2 ^ 48) {a b : Bool} : A 37 [.agg [bo a, ES kk l], .agg [bo b, ES km m]] (bo (decide (a = b ∧ l = m))) := by
  intro H
  refine v_enter hC [] (fun _ _ => kn_none rfl) Try.func37 rfl ok37 (Nat.le_of_ble_eq_true rfl) fun hcl hbl => ?_
  simp
  rw [Bool.beq_eq_decide_eq]
  by_cases h : a = b
  · subst h
    simp
    refine (v_Equal hl).call ?_
    simp [Try.results37]
    first | (refine GV.ans hcl ?_; simp []; done) | (refine GV.ans0 ?_; simp []; done)
  · simp [h, Try.results37]
    first | (refine GV.ans hcl ?_; simp [h]; done) | (refine GV.ans0 ?_; simp [h]; done)
theorem v_rSame {kk km : Bool} {l m : List Ent} (hl : l.length < 2 ^ 48) {a b : Bool} : A 36 [.agg [bo a, ES kk l], .agg [bo b, ES km m]] (bo (decide (a = b ∧ l = m))) := by
  intro H
  refine v_enter hC [] (fun _ _ => kn_none rfl) Try.func36 rfl ok36 (Nat.le_of_ble_eq_true rfl) fun hcl hbl => ?_
  simp
  rw [Bool.beq_eq_decide_eq]
  by_cases hab : a = b
  · subst hab
    by_cases hlen : l.length = m.length
    · simp [hlen]
      refine v_loopX hC (fun (k : Nat) e T => T = H ++ [.mem [bo a, ES kk l] true, .mem [bo a, ES km m] true] ∧ e 2 = .ptr H.length 0 ∧ e 3 = .ptr (H.length + 1) 0 ∧ e 5 = i6 k ∧ k ≤ l.length ∧ ∀ j, j < k → ent l j = ent m j) (fun k => l.length - k) 0 (G.refl ?_) ?_
      · simp
      · rintro k e T ⟨rfl, h2, h3, h5, hk, hall⟩
        simp [h2, h3, h5]
        refine CondV.dec (fun hlt => ?_) (fun hge => ?_)
        · have hlt : k < l.length := by omega
          simp [h2, h3, h5]
          refine v_draw (ord := [0, 1, 2, 3, 4, 5, 6, 7, 8, 9, 10]) (m := 10) (by decide +kernel) ?_
          simp [h2, h3, h5, getE hlt, getE (show k < m.length by omega)]
          refine CondV.on (fun hb => ?_) (fun hb => ?_)
          · have : l ≠ m := fun e => by
              subst e
              simp at hb
            simp [Try.results36]
            first | (refine GV.ans hcl ?_; simp [this]; done) | (refine GV.ans0 ?_; simp [this]; done)
          · have hb : ent l k = ent m k := by rw [ent_same]; simpa using hb
            simp [h2, h3, h5, w64 (n := (k : Int) + 1) (by omega)]
            refine GH.refl ⟨k + 1, ⟨rfl, ?_, ?_, ?_, hlt, fun j hj => ?_⟩, by omega⟩ <;> (try simp [h2, h3])
            by_cases hjk : j = k
            · subst hjk; exact hb
            · exact hall j (by omega)
        · have : l = m := ents_eq hlen fun j hj => hall j (by omega)
          simp [Try.results36]
          first | (refine GV.ans hcl ?_; simp [this]; done) | (refine GV.ans0 ?_; simp [this]; done)
    · have : l ≠ m := fun e => hlen (by rw [e])
      have hlen : ¬ ((l.length : Int) = m.length) := by omega
      simp [hlen, Try.results36]
      first | (refine GV.ans hcl ?_; simp [this]; done) | (refine GV.ans0 ?_; simp [this]; done)
  · simp [hab, Try.results36]
    first | (refine GV.ans hcl ?_; simp [hab]; done) | (refine GV.ans0 ?_; simp [hab]; done)
end Go.Proofs.Ytenbclcfhjdcaaa.VM
