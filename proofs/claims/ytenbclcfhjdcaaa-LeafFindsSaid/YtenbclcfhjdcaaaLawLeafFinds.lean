/- LeafFinds: where a key is in a right node, or would be. -/
import Derived.Test.YtenbclcfhjdcaaaLeafI
namespace Go.Proofs.Ytenbclcfhjdcaaa
open Go.RowKit B
theorem blk_below {w w1 : World} {b : Nat} {o : Obj} (h : w.heap[b]? = some o) (hb : Below w.heap.size w w1) : w1.heap[b]? = some o := (hb.block b (heap_lt h)).trans h
/-- What LeafFinds holds in memory: the key, the node as leaf's, the node as the reference's. -/
structure FEnv (w W : World) (kb b5 b6 : Nat) (k : Ent) (lf : Bool) (A1 : Option Addr) (c1 : Nat) (A2 : Option Addr) (c2 : Nat) (L : List Ent) : Prop where
  key : W.heap[kb]? = some (.cells #[.int .i64 k.s, .int .i64 k.n] 39)
  x : W.heap[b5]? = some (.cells #[.bool lf, .slice A1 L.length c1] 42)
  y : W.heap[b6]? = some (.cells #[.bool lf, .slice A2 L.length c2] 37)
  rx : Row W (.slice A1 L.length c1) L.length (ents L)
  ry : Row W (.slice A2 L.length c2) L.length (ents L)
  bel : Below w.heap.size w W
theorem FEnv.below {w W W1 : World} {kb b5 b6 : Nat} {k : Ent} {lf : Bool} {A1 : Option Addr} {c1 : Nat} {A2 : Option Addr} {c2 : Nat} {L : List Ent} (h : FEnv w W kb b5 b6 k lf A1 c1 A2 c2 L) (hb : Below W.heap.size W W1) : FEnv w W1 kb b5 b6 k lf A1 c1 A2 c2 L :=
  ⟨blk_below h.key hb, blk_below h.x hb, blk_below h.y hb, h.rx.below hb, h.ry.below hb, bnext h.bel h.bel.size hb⟩
theorem FEnv.cells {w W : World} {kb b5 b6 : Nat} {k : Ent} {lf : Bool} {A1 : Option Addr} {c1 : Nat} {A2 : Option Addr} {c2 : Nat} {L : List Ent} (h : FEnv w W kb b5 b6 k lf A1 c1 A2 c2 L) :
    W.cell? ⟨kb, 0, none⟩ = some (.int .i64 k.s) ∧ W.cell? ⟨kb, 1, none⟩ = some (.int .i64 k.n) ∧ W.cell? ⟨b5, 0, none⟩ = some (.bool lf) ∧ W.cell? ⟨b5, 1, none⟩ = some (.slice A1 L.length c1) ∧
      W.cell? ⟨b6, 0, none⟩ = some (.bool lf) ∧ W.cell? ⟨b6, 1, none⟩ = some (.slice A2 L.length c2) :=
  ⟨by rw [cell_of_row _ _ _ _ _ _ h.key]; rfl, by rw [cell_of_row _ _ _ _ _ _ h.key]; rfl, by rw [cell_of_row _ _ _ _ _ _ h.x]; rfl, by rw [cell_of_row _ _ _ _ _ _ h.x]; rfl, by rw [cell_of_row _ _ _ _ _ _ h.y]; rfl, by rw [cell_of_row _ _ _ _ _ _ h.y]; rfl⟩
set_option maxRecDepth 100000 in
set_option maxHeartbeats 8000000 in
theorem leafFinds_walk (lf : Bool) (v : Value) (l : List Ent) (k : Ent) (w : World) (h : Row w v l.length (ents l)) :
    Calls Try.prog 4 #[.agg #[.bool lf, v], .agg #[.int .i64 k.s, .int .i64 k.n]] w fun e w' => e = .returned (.bool true) ∧ Below w.heap.size w w' := by
  have R := Keep.mk (Below.refl w.heap.size w)
  have BW := Keep.mk (balloc (balloc R.out (.cells #[.bool lf, v] 37)) (.cells #[.int .i64 k.s, .int .i64 k.n] 39))
  have HT := Keep.mk (fun w2 (hb : Below w.heap.size w w2) => law09_To lf v l w2 (h.below hb))
  obtain ⟨A, c, rfl, h1, h2, -⟩ := h
  go_enter Try.func4, Try.ntmps4
  go_wp2_with fail
  have q0 : ((w.alloc (.cells #[.bool lf, .slice A l.length c] 37)).alloc (.cells #[.int .i64 k.s, .int .i64 k.n] 39)).heap[w.heap.size + 1]? = some (.cells #[.int .i64 k.s, .int .i64 k.n] 39) := new_blk (by simp)
  have hs0 : ((w.alloc (.cells #[.bool lf, .slice A l.length c] 37)).alloc (.cells #[.int .i64 k.s, .int .i64 k.n] 39)).heap.size = w.heap.size + 1 + 1 := by simp
  refine (HT.out _ BW.out).mono ?_
  generalize ((w.alloc (.cells #[.bool lf, .slice A l.length c] 37)).alloc (.cells #[.int .i64 k.s, .int .i64 k.n] 39)) = w0 at *
  rintro e w1 ⟨v1, rfl, r1, hb1⟩
  have B1 := Keep.mk (bnext BW.out BW.out.size hb1)
  have hk0 : w1.heap[w.heap.size + 1]? = some (.cells #[.int .i64 k.s, .int .i64 k.n] 39) := (hb1.block _ (by omega)).trans q0
  generalize hL : l.take 18 = L at *
  have hlen : L.length ≤ 18 := by rw [← hL]; simp; omega
  clear hL HT h1 h2
  have hs1 : w.heap.size + 1 + 1 ≤ w1.heap.size := by have := hb1.size; omega
  have RX := Keep.mk r1
  obtain ⟨A1, c1, rfl, -⟩ := id r1
  clear r1 hb1 q0 hs0
  go_wp2_with fail
  have hx2 : (w1.alloc (.cells #[.bool lf, .slice A1 L.length c1] 42)).heap[w1.heap.size]? = some (.cells #[.bool lf, .slice A1 L.length c1] 42) := new_blk rfl
  have hO := law09_Of lf (.slice A1 L.length c1) L (w1.alloc (.cells #[.bool lf, .slice A1 L.length c1] 42)) (RX.out.below (balloc (Below.refl _ _) _)) (by omega)
  have b2 := balloc (Below.refl w1.heap.size w1) (.cells #[.bool lf, .slice A1 L.length c1] 42)
  refine hO.mono ?_
  clear hO
  rintro e w3 ⟨v2, rfl, r2, hb3⟩
  obtain ⟨A2, c2, rfl, -⟩ := id r2
  have E3 : FEnv w (w3.alloc (.cells #[.bool lf, .slice A2 L.length c2] 37)) (w.heap.size + 1) w1.heap.size w3.heap.size k lf A1 c1 A2 c2 L :=
    have h3 := balloc (Below.refl w3.heap.size w3) (.cells #[.bool lf, .slice A2 L.length c2] 37)
    ⟨blk_below (blk_below (blk_below hk0 b2) hb3) h3, blk_below (blk_below hx2 hb3) h3, new_blk rfl, ((RX.out.below b2).below hb3).below h3, r2.below h3, bnext (bnext (bnext B1.out B1.out.size b2) (by have := B1.out.size; simp; omega) hb3) (by have := B1.out.size; have := hb3.size; simp at this; omega) h3⟩
  clear hk0 hx2 b2 r2 hb3 hs1
  have E4 := Keep.mk E3
  obtain ⟨k0, k1, x0, x1, y0, y1⟩ := E3.cells
  clear E3
  by_cases hok : 0 ≤ k.s ∧ k.s < 16 ∧ 0 ≤ k.n ∧ k.n < 65536
  · have HOK := Keep.mk (show rightK k.s k.n = true by simp [rightK]; omega)
    obtain ⟨o1, o2, o3, o4⟩ := hok
    go_wp2_with fail
    generalize hw4 : w3.alloc (.cells #[.bool lf, .slice A2 L.length c2] 37) = w4 at *
    clear hw4
    generalize w3.heap.size = b6 at *
    generalize w1.heap.size = b5 at *
    refine (law09_key k.s k.n _).mono ?_
    rintro e w5 ⟨rfl, hb⟩
    have E5 := E4.out.below hb
    have HR := leaf_Right k.s k.n w5
    rw [HOK.out] at HR
    have HR := Keep.mk HR
    clear hb k0 k1 x0 x1 y0 y1 E4
    go_wp2_with fail
    refine HR.out.mono ?_
    rintro e w6 ⟨rfl, hb⟩
    have E6 := Keep.mk (E5.below hb)
    obtain ⟨k0, k1, x0, x1, y0, y1⟩ := E6.out.cells
    clear E5 hb HR
    have HC := ref09_Check lf (.slice A2 L.length c2) L w6 E6.out.ry (by omega)
    go_wp2_with fail
    by_cases hchk : chk lf L = 0
    · obtain ⟨_, z2, z3, z4⟩ := chk_zero hchk
      rw [hchk] at HC
      obtain ⟨r, hr⟩ := at_exists L k z3
      have HZ := Keep.mk (And.intro z2 (And.intro z3 (And.intro z4 hr)))
      have hrl := hr.le
      clear z2 z3 z4 hr hchk
      refine HC.mono ?_
      rintro e w7 ⟨rfl, hb⟩
      have E7 := Keep.mk (E6.out.below hb)
      clear hb HC k0 k1 x0 x1 y0 y1 E6
      go_wp2_with fail
      have R7 : Keep (Below w7.heap.size w7 w7) := ⟨Below.refl _ _⟩
      go_loopw [8, 9, 10, 11] (fun s8 s9 s10 s11 wr => ∃ j : Nat, s11 = .int .i64 j ∧ j ≤ L.length ∧ s8 = .int .i64 ((min j r : Nat) : Int) ∧ s9 = .int .i64 ((min j (upto L k r) - 1 : Nat) : Int) ∧ s10 = .bool (decide (r < j) && isAt L k r) ∧ Keep (Below w7.heap.size w7 wr)) (fun _ _ _ i _ => L.length - (intOf i).toNat)
      case atStart => exact ⟨0, rfl, Nat.zero_le _, by simp, by simp, by simp, R7⟩
      case round =>
        obtain ⟨j, rfl, hj, rfl, rfl, rfl, I⟩ := hrel
        have E8 := Keep.mk (E7.out.below I.out)
        obtain ⟨k0, k1, x0, x1, y0, y1⟩ := E8.out.cells
        by_cases hlt : j < L.length
        · obtain ⟨gx, ox, cx, e, _, _, _, hcx⟩ := E8.out.rx.ent (by omega)
          cases e
          obtain ⟨gy, oy, cy, e, _, _, _, hcy⟩ := E8.out.ry.ent (by omega)
          cases e
          obtain ⟨p1, p2, _⟩ := hcx j hlt
          obtain ⟨t1, t2, _⟩ := hcy j hlt
          clear hcx hcy
          have okj := ok_key (allR_true.1 HZ.out.1 j hlt)
          have okk := HOK.out
          have bj := placeK_bound _ okj
          have bk := placeK_bound _ okk
          have CA := at_cases HZ.out.2.2.2 HZ.out.2.1 HZ.out.1 HOK.out j hlt
          have ij0 : (0 : Int) ≤ (j : Int) := by omega
          have ij1 : (j : Int) < (L.length : Int) := by omega
          go_wp2_with fail
          refine (ref09_PlaceK _ _ okj).mono ?_
          rintro e w8 ⟨rfl, hb8⟩
          have q1 := kc hb8 k0
          have q2 := kc hb8 k1
          have q3 := kc hb8 x1
          have q4 := kc hb8 p1
          have q5 := kc hb8 p2
          have I8 := Keep.mk (bnext I.out I.out.size hb8)
          have E8b := Keep.mk (E8.out.below hb8)
          clear k0 k1 x0 x1 y0 y1 p1 p2 t1 t2 hb8
          have hr : Below w8.heap.size w8 w8.drew := (Below.refl _ _).drew
          rcases CA with ⟨ca, cb, cc, cd⟩ | ⟨ca, ci, cb, cc, cd⟩ | ⟨ca, ci, cb, cc, cd⟩
          · have KA := Keep.mk ca
            rw [show (decide (r < j) && isAt L k r) = false by simp; omega]
            have nb : ¬ place k < place (ent L j) := by omega
            have nc : place (ent L j) ≤ place k := by omega
            have nd : (place (ent L j) == place k) = false := by rw [beq_eq_false_iff_ne]; omega
            clear ca
            go_wp2_with fail
            go_region_held3 (fun w' => w'.cell? ⟨w.heap.size + 1, 0, none⟩ = some (.int .i64 k.s) ∧ w'.cell? ⟨w.heap.size + 1, 1, none⟩ = some (.int .i64 k.n) ∧ w'.cell? ⟨b5, 1, none⟩ = some (.slice (some ⟨gx, ox, none⟩) L.length c1) ∧ w'.cell? ⟨gx, ox + j * 3, none⟩ = some (.int .i64 (ent L j).s) ∧ w'.cell? ⟨gx, ox + j * 3 + 1, none⟩ = some (.int .i64 (ent L j).n)) (first | go_keep | (go_split_ands; refine ⟨?_, ?_, ?_, ?_, ?_⟩ <;> (refine kc hb ?_; assumption)))
              (first | (go_at_call 23; refine (law09_key _ _ _).mono ?_; rintro e w' ⟨rfl, hb⟩; replace hr := bnext hr hr.size hb) | (go_at_call 27; refine (leaf_lessE _ _ _).mono ?_; rintro e w' ⟨rfl, hb⟩; replace hr := bnext hr hr.size hb) | (go_at_call 26; refine (ref09_PlaceK _ _ okk).mono ?_; rintro e w' ⟨rfl, hb⟩; replace hr := bnext hr hr.size hb))
            have E9 := Keep.mk (E8b.out.below hr)
            have I9 := Keep.mk (bnext I8.out I8.out.size hr)
            obtain ⟨k0, k1, -⟩ := E9.out.cells
            clear hr hb
            go_wp2_with (go_at_call 26; refine (ref09_PlaceK _ _ okk).mono ?_; rintro e w9 ⟨rfl, hb⟩; replace E9 := Keep.mk (E9.out.below hb); replace I9 := Keep.mk (bnext I9.out I9.out.size hb); obtain ⟨k0, k1, -⟩ := E9.out.cells; clear hb)
            have hka := KA.out
            exact ⟨⟨j + 1, by go_num, by omega, by rw [show min (j + 1) r = j + 1 by omega]; go_num, by rw [show min (j + 1) (upto L k r) - 1 = j by unfold upto; split <;> omega], by rw [show decide (r < j + 1) = false by simp; omega]; rfl, I9⟩, by simp [intOf]; omega⟩
          · have KA := Keep.mk (And.intro ca ci)
            rw [show (decide (r < j) && isAt L k r) = false by simp; omega]
            have na : decide (place (ent L j) < place k) = false := by rw [decide_eq_false_iff_not]; omega
            have nb : decide (place k < place (ent L j)) = false := by rw [decide_eq_false_iff_not]; omega
            have nc : decide (place (ent L j) ≤ place k) = true := by rw [decide_eq_true_iff]; omega
            have nd : (place (ent L j) == place k) = true := by rw [beq_iff_eq]; omega
            clear ca ci cb
            go_wp2_with fail
            go_region_held3 (fun w' => w'.cell? ⟨w.heap.size + 1, 0, none⟩ = some (.int .i64 k.s) ∧ w'.cell? ⟨w.heap.size + 1, 1, none⟩ = some (.int .i64 k.n) ∧ w'.cell? ⟨b5, 1, none⟩ = some (.slice (some ⟨gx, ox, none⟩) L.length c1) ∧ w'.cell? ⟨gx, ox + j * 3, none⟩ = some (.int .i64 (ent L j).s) ∧ w'.cell? ⟨gx, ox + j * 3 + 1, none⟩ = some (.int .i64 (ent L j).n)) (first | go_keep | (go_split_ands; refine ⟨?_, ?_, ?_, ?_, ?_⟩ <;> (refine kc hb ?_; assumption)))
              (first | (go_at_call 23; refine (law09_key _ _ _).mono ?_; rintro e w' ⟨rfl, hb⟩; replace hr := bnext hr hr.size hb) | (go_at_call 27; refine (leaf_lessE _ _ _).mono ?_; rintro e w' ⟨rfl, hb⟩; replace hr := bnext hr hr.size hb) | (go_at_call 26; refine (ref09_PlaceK _ _ okk).mono ?_; rintro e w' ⟨rfl, hb⟩; replace hr := bnext hr hr.size hb))
            have E9 := Keep.mk (E8b.out.below hr)
            have I9 := Keep.mk (bnext I8.out I8.out.size hr)
            obtain ⟨k0, k1, -⟩ := E9.out.cells
            clear hr hb
            go_wp2_with (go_at_call 26; refine (ref09_PlaceK _ _ okk).mono ?_; rintro e w9 ⟨rfl, hb⟩; replace E9 := Keep.mk (E9.out.below hb); replace I9 := Keep.mk (bnext I9.out I9.out.size hb); obtain ⟨k0, k1, -⟩ := E9.out.cells; clear hb)
            obtain ⟨hka, hkb⟩ := KA.out
            exact ⟨⟨j + 1, by go_num, by omega, by rw [show min (j + 1) r = min j r by omega], by rw [show min (j + 1) (upto L k r) - 1 = j by unfold upto; rw [hkb]; simp; omega], by rw [show decide (r < j + 1) = true by simp; omega, hkb]; rfl, I9⟩, by simp [intOf]; omega⟩
          · have KA := Keep.mk (And.intro ca ci)
            have na : decide (place (ent L j) < place k) = false := by rw [decide_eq_false_iff_not]; omega
            have nc : decide (place (ent L j) ≤ place k) = false := by rw [decide_eq_false_iff_not]; omega
            have nd : (place (ent L j) == place k) = false := by rw [beq_eq_false_iff_ne]; omega
            clear ca ci
            generalize hz : (decide (r < j) && isAt L k r) = z
            have HZz := Keep.mk hz
            clear hz
            go_wp2_with fail
            go_region_held3 (fun w' => w'.cell? ⟨w.heap.size + 1, 0, none⟩ = some (.int .i64 k.s) ∧ w'.cell? ⟨w.heap.size + 1, 1, none⟩ = some (.int .i64 k.n) ∧ w'.cell? ⟨b5, 1, none⟩ = some (.slice (some ⟨gx, ox, none⟩) L.length c1) ∧ w'.cell? ⟨gx, ox + j * 3, none⟩ = some (.int .i64 (ent L j).s) ∧ w'.cell? ⟨gx, ox + j * 3 + 1, none⟩ = some (.int .i64 (ent L j).n)) (first | go_keep | (go_split_ands; refine ⟨?_, ?_, ?_, ?_, ?_⟩ <;> (refine kc hb ?_; assumption)))
              (first | (go_at_call 23; refine (law09_key _ _ _).mono ?_; rintro e w' ⟨rfl, hb⟩; replace hr := bnext hr hr.size hb) | (go_at_call 27; refine (leaf_lessE _ _ _).mono ?_; rintro e w' ⟨rfl, hb⟩; replace hr := bnext hr hr.size hb) | (go_at_call 26; refine (ref09_PlaceK _ _ okk).mono ?_; rintro e w' ⟨rfl, hb⟩; replace hr := bnext hr hr.size hb))
            have E9 := Keep.mk (E8b.out.below hr)
            have I9 := Keep.mk (bnext I8.out I8.out.size hr)
            obtain ⟨k0, k1, -⟩ := E9.out.cells
            clear hr hb
            go_wp2_with (go_at_call 26; refine (ref09_PlaceK _ _ okk).mono ?_; rintro e w9 ⟨rfl, hb⟩; replace E9 := Keep.mk (E9.out.below hb); replace I9 := Keep.mk (bnext I9.out I9.out.size hb); obtain ⟨k0, k1, -⟩ := E9.out.cells; clear hb)
            all_goals
              obtain ⟨hka, hkb⟩ := KA.out
              have hup : upto L k r ≤ j := by
                unfold upto
                rcases Nat.lt_or_ge r j with h | h
                · split <;> omega
                · rw [hkb (by omega)]; simp; omega
              have hzz : (decide (r < j + 1) && isAt L k r) = (decide (r < j) && isAt L k r) := by
                rcases Nat.lt_or_ge r j with h | h
                · simp [show r < j + 1 by omega, h]
                · rw [hkb (by omega)]; simp
              exact ⟨⟨j + 1, by go_num, by omega, by rw [show min (j + 1) r = min j r by omega], by rw [show min (j + 1) (upto L k r) - 1 = min j (upto L k r) - 1 by omega], (by rw [hzz, HZz.out]; first | rfl | (simp [*]; done)), I9⟩, by simp [intOf]; omega⟩
        · obtain rfl : j = L.length := by omega
          have hfin : (decide (r < L.length) && isAt L k r) = isAt L k r := by
            cases hi : isAt L k r with
            | false => simp
            | true => simp [isAt] at hi; simp [hi.1]
          have hup : upto L k r ≤ L.length := by
            unfold upto
            cases hi : isAt L k r with
            | false => simpa using hrl
            | true => simp [isAt] at hi; simp; omega
          rw [hfin, show min L.length r = r by omega, show min L.length (upto L k r) = upto L k r by omega]
          have KF := Keep.mk (fun lf' w2 (A3 : Option Addr) (c3 : Nat) (hx : Row w2 (.slice A3 L.length c3) L.length (ents L)) => leaf_Find lf' (.slice A3 L.length c3) L k w2 hx (by omega) HZ.out.2.1)
          have HU := Keep.mk (fun {s : Nat} (h : At L k s) => at_unique h HZ.out.2.2.2)
          have hr : Below wr.heap.size wr wr.drew := (Below.refl _ _).drew
          go_wp2_with fail
          go_region_held3 (fun w' => w'.cell? ⟨w.heap.size + 1, 0, none⟩ = some (.int .i64 k.s) ∧ w'.cell? ⟨w.heap.size + 1, 1, none⟩ = some (.int .i64 k.n) ∧ w'.cell? ⟨b5, 0, none⟩ = some (.bool lf) ∧ w'.cell? ⟨b5, 1, none⟩ = some (.slice A1 L.length c1)) (first | go_keep | (go_split_ands; refine ⟨?_, ?_, ?_, ?_⟩ <;> (refine kc hb ?_; assumption)))
            (first | (go_at_call 23; refine (law09_key _ _ _).mono ?_; rintro e w' ⟨rfl, hb⟩; replace hr := bnext hr hr.size hb) | (go_at_call 28; refine (KF.out lf _ A1 c1 (E8.out.rx.below hr)).mono ?_; rintro e w' ⟨r', rfl, ha, hb⟩; obtain rfl : r' = r := HU.out ha; replace hr := bnext hr hr.size hb; clear ha))
          have E9 := Keep.mk (E8.out.below hr)
          obtain ⟨k0, k1, x0, x1, y0, y1⟩ := E9.out.cells
          clear hr hb
          obtain ⟨wq, hwq⟩ : ∃ x : World, x = w' := ⟨_, rfl⟩
          subst hwq
          have hr : Below wq.heap.size wq wq.drew := (Below.refl _ _).drew
          cases lf
          · have KC := Keep.mk (fun w2 (A3 : Option Addr) (c3 : Nat) (hx : Row w2 (.slice A3 L.length c3) L.length (ents L)) => leaf_Child (.slice A3 L.length c3) L k w2 hx (by omega) HZ.out.2.1 (HZ.out.2.2.1 rfl))
            go_wp2_with fail
            go_region_held3 (fun w' => w'.cell? ⟨w.heap.size + 1, 0, none⟩ = some (.int .i64 k.s) ∧ w'.cell? ⟨w.heap.size + 1, 1, none⟩ = some (.int .i64 k.n) ∧ w'.cell? ⟨b5, 0, none⟩ = some (.bool false) ∧ w'.cell? ⟨b5, 1, none⟩ = some (.slice A1 L.length c1)) (first | go_keep | (go_split_ands; refine ⟨?_, ?_, ?_, ?_⟩ <;> (refine kc hb ?_; assumption)))
            (first | (go_at_call 23; refine (law09_key _ _ _).mono ?_; rintro e w' ⟨rfl, hb⟩; replace hr := bnext hr hr.size hb) | (go_at_call 29; refine (KC.out _ A1 c1 (E9.out.rx.below hr)).mono ?_; rintro e w' ⟨r1, rfl, ha, hb⟩; have hrr := HU.out ha; subst hrr; replace hr := bnext hr hr.size hb; clear ha))
            have E10 := Keep.mk (E9.out.below hr)
            obtain ⟨k0, k1, x0, x1, y0, y1⟩ := E10.out.cells
            clear hr hb
            have HKn := Keep.mk (fun w2 => leaf_known w2)
            go_wp2_with (go_at_call 25; refine (HKn.out _).mono ?_; rintro e w9 ⟨rfl, hb⟩; have KB := Keep.mk hb; clear hb)
            go_ret
            refine ⟨retB ?_, bnext E10.out.bel E10.out.bel.size KB.out⟩
            simp [child_upto]
          · go_wp2_with fail
            go_region_held3 (fun w' => w'.cell? ⟨w.heap.size + 1, 0, none⟩ = some (.int .i64 k.s) ∧ w'.cell? ⟨w.heap.size + 1, 1, none⟩ = some (.int .i64 k.n) ∧ w'.cell? ⟨b5, 0, none⟩ = some (.bool true) ∧ w'.cell? ⟨b5, 1, none⟩ = some (.slice A1 L.length c1)) (first | go_keep | (go_split_ands; refine ⟨?_, ?_, ?_, ?_⟩ <;> (refine kc hb ?_; assumption)))
            (first | (go_at_call 23; refine (law09_key _ _ _).mono ?_; rintro e w' ⟨rfl, hb⟩; replace hr := bnext hr hr.size hb) | (go_at_call 29; refine (leaf_Child_leaf _ L k _ (E9.out.rx.below hr)).mono ?_; rintro e w' ⟨rfl, hb⟩; replace hr := bnext hr hr.size hb))
            have E10 := Keep.mk (E9.out.below hr)
            obtain ⟨k0, k1, x0, x1, y0, y1⟩ := E10.out.cells
            clear hr hb
            have HKn := Keep.mk (fun w2 => leaf_known w2)
            go_wp2_with (go_at_call 25; refine (HKn.out _).mono ?_; rintro e w9 ⟨rfl, hb⟩; have KB := Keep.mk hb; clear hb)
            go_ret
            refine ⟨retB ?_, bnext E10.out.bel E10.out.bel.size KB.out⟩
            rfl
    · have hq2 : (chk lf L != 0) = true := by simp [hchk]
      generalize chk lf L = q at *
      clear hchk
      refine HC.mono ?_
      rintro e w7 ⟨rfl, hb⟩
      have E7 := Keep.mk (E6.out.below hb)
      have HKn := Keep.mk (leaf_known w7)
      clear hb HC k0 k1 x0 x1 y0 y1
      go_wp2_with (go_at_call 25; refine HKn.out.mono ?_; rintro e w9 ⟨rfl, hb⟩; have KB := Keep.mk hb; clear hb)
      go_ret
      exact ⟨rfl, bnext E7.out.bel E7.out.bel.size KB.out⟩
  · have HOK := Keep.mk (show rightK k.s k.n = false by simp [rightK]; omega)
    have HRt := Keep.mk (fun w2 => leaf_Right k.s k.n w2)
    rw [HOK.out] at HRt
    have HKn := Keep.mk (fun w2 => leaf_known w2)
    go_wp2_with (first | (go_at_call 23; refine (law09_key _ _ _).mono ?_; rintro e w5 ⟨rfl, hb⟩; replace E4 := Keep.mk (E4.out.below hb); obtain ⟨k0, k1, x0, x1, y0, y1⟩ := E4.out.cells; clear hb) | (go_at_call 22; refine (HRt.out _).mono ?_; rintro e w5 ⟨rfl, hb⟩; replace E4 := Keep.mk (E4.out.below hb); obtain ⟨k0, k1, x0, x1, y0, y1⟩ := E4.out.cells; clear hb) | (go_at_call 24; refine (ref09_Check lf _ L _ E4.out.ry (by omega)).mono ?_; rintro e w5 ⟨rfl, hb⟩; replace E4 := Keep.mk (E4.out.below hb); clear hb) | (go_at_call 25; refine (HKn.out _).mono ?_; rintro e w5 ⟨rfl, hb⟩; replace E4 := Keep.mk (E4.out.below hb); clear hb))
    all_goals first
      | (go_ret; exact ⟨rfl, E4.out.bel⟩)
      | (exfalso; have hn := ‹(!decide (k.n < 65536)) = false›; simp at hn; omega)
end Go.Proofs.Ytenbclcfhjdcaaa
