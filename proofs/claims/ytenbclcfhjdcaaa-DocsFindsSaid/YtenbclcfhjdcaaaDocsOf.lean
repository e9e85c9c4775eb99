/- docs.Of; the law's own example. -/
import Derived.Test.YtenbclcfhjdcaaaDocsNew
namespace Go.Proofs.Ytenbclcfhjdcaaa
open Go.RowKit B

/-- The slice v holds slices; their lengths are ls. -/
def Lens (w : World) (v : Value) (ls : List Int) : Prop :=
  ∃ xs : List Value, Row w v ls.length xs ∧ ∀ i, i < ls.length → ∃ A c, ∃ m : Nat, xs[i]? = some (.slice A m c) ∧ el ls i = m

set_option maxRecDepth 100000 in
theorem docs_of (v : Value) (ls : List Int) (w : World) (h : Lens w v ls) (hr : Docs.Right ls) :
    Calls Try.prog 14 #[v] w fun e w' => ∃ p, e = .returned (.tuple #[p, .int .i64 0]) ∧ DocsAt w' p ls ∧ Below w.heap.size w w' := by
  obtain ⟨i0, hi0, hz0, hz1, hz2⟩ := info_parts infoInt
  have hlen := hr.1
  obtain ⟨xs, ⟨A, c, rfl, h1, h2, h3⟩, hx⟩ := h
  have HI : Keep (∀ k, k < ls.length → ∃ a, A = some a ∧ a.spot = none ∧ ∃ A2 c2, ∃ m : Nat, w.cell? ⟨a.block, a.off + k, none⟩ = some (.slice A2 m c2) ∧ el ls k = m) := ⟨fun k hk => by
    obtain ⟨A2, c2, m, hm, hm2⟩ := hx k hk
    obtain ⟨g, o, e, hc⟩ := h3 (by omega)
    exact ⟨_, e, rfl, A2, c2, m, hc k _ hm, hm2⟩⟩
  have R : Keep (Below w.heap.size w w) := ⟨Below.refl _ _⟩
  clear h3 hx
  go_enter Try.func14, Try.ntmps14
  go_wp2_with fail
  generalize hB : w.heap.size = B at *
  have HB := Keep.mk hB
  go_loopw [4, 9] (fun s i wr => ∃ (k : Nat), i = .int .i64 k ∧ k ≤ ls.length ∧ Keep (wr.ownsRow B 3 1 s k (ints (ls.take k)) ∧ Below B w wr ∧ B ≤ wr.heap.size))
    (fun _ i _ => ls.length - (intOf i).toNat)
  case atStart => exact ⟨0, rfl, Nat.zero_le _, ⟨own_nil' _ _ _ _, R.out, by omega⟩⟩
  case round =>
    obtain ⟨k, rfl, hk, I⟩ := hrel
    by_cases hlt : k < ls.length
    · obtain ⟨a, rfl, hsp, A2, c2, m, ca, hm⟩ := HI.out k hlt
      obtain ⟨ab, ao, asp⟩ := a
      cases hsp
      have ca' := kc (hB ▸ I.out.2.1) ca
      have HM := Keep.mk hm
      obtain ⟨A3, c3, rfl⟩ := own_slice I.out.1
      clear hB ca hm
      go_wp2_with (at_builtin; refine app1 (by rfl) _ _ _ (by rfl) B 3 3 i0 _ 1 8 Try.underlying83 hi0 hz0 hz1 hz2 rfl (by omega) _ k _ (by rfl) I.out.1 [.int .i64 (m : Int)] (by rfl) rfl (by simp [Value.oneCell']) (by omega) (by omega) I.out.2.2 ?_; intro g2 cap2 w1 hown hg hat; have K := Keep.mk (And.intro hown hg); clear hown hg hat)
      go_roundw
      case rel =>
        obtain ⟨o1, g1⟩ := K.out
        rw [show ints (ls.take k) ++ [.int .i64 (m : Int)] = ints (ls.take (k + 1)) by rw [List.take_succ_eq_append_getElem hlt, ← el_eq _ _ hlt, ints_append, HM.out]; rfl] at o1
        have hs := g1.size
        simp at hs
        have := I.out.2.2
        exact ⟨k + 1, by go_num, by omega, ⟨o1, (balloc' I.out.2.1 _).grown g1 (by simp; omega) (fun j hj => (I.out.1.lt j hj).1), by omega⟩⟩
      case measure => simp [intOf]; omega
    · obtain rfl : k = ls.length := by omega
      have e := I.out
      rw [List.take_length] at e
      have HN := Keep.mk (docs_new _ ls wr (Row.of_own e.1) hr)
      clear e hB
      go_wp2_with (go_at_call 70; refine HN.out.mono ?_; rintro e w' ⟨p, rfl, hd, hb⟩; have K := Keep.mk (And.intro hd hb); clear hd hb)
      go_ret2
      exact ⟨p, rfl, K.out.1, by rw [HB.out]; exact bnext I.out.2.1 I.out.2.2 K.out.2⟩
end Go.Proofs.Ytenbclcfhjdcaaa
