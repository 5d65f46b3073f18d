/-
  The top: the iterator over the keys of a map of dependencies.
-/
import Derived.Test.YtcaoldilmnpjoaaGreatSfk
namespace Go.Proofs.YtcaoldilmnpjoaaGreat
set_option linter.all false
open Go.RowKit Go.Sx Go.Maps Go.Sort Go.Shelf
set_option maxRecDepth 100000
set_option maxHeartbeats 4000000
theorem keys1_in {H : Type} (F : Fence) (n : Nat) (h10 : F.fn 75) (hro : F.round = none) (hn : 1 ≤ n) (l Bm b nn : Nat) (D0 : DataW H) {R : Value → Option (DataW H × List MemPlace)} (J : List DepT → World → Prop)
    (hY : ∀ pre x W, J pre W → pre.length < Maps.size D0 → YieldAt F (n - 1) Tryz.prog l #[aggD x] W fun e W' => e = .returned (.bool true) ∧ J (pre ++ [x]) W' ∧ KeepsWalks W W')
    (W : World) (hJ : AbidesFrom W.heap.size J) (hm : W.cell? ⟨Bm, 0, none⟩ = some (.map (some b))) (hown : W.ownsMap Tryz.prog 76 R b nn D0) (h0 : J [] W) :
    CallsIn F n Tryz.prog 75 #[.func (.yield l) #[] #[], .pointer (some ⟨Bm, 0, none⟩)] W fun e W' => (∃ v, e = .returned v) ∧ ∃ (left : Lit → Bool) (ss : List DepT), (∀ kl, left kl = false) ∧ CollD D0 left ss ∧ J ss W' := by
  refine callsIn_of_wp Tryz.func75 rfl h10 ?_ hro
  simp only [Tryz.ntmps75, List.size_toArray, List.length_cons, List.length_nil, Nat.reduceAdd, Nat.reduceSub, Array.replicate_succ, Array.replicate_zero, List.push_toArray, List.append_toArray, List.nil_append, List.cons_append]
  gi_wp2_with (first
    | (gi_at_range; refine wpListIn_range_own _ rfl _ 74 rfl 76 4 keyedD Tryz.underlying74 _ b nn _ rfl hown ?_; intro w0 hrg0 hg0 hs0)
    | gi_in)
  go_frame
  gi_loopw [3] (fun _ wr => ∃ (left : Lit → Bool) (cnt : Nat) (ss : List DepT), wr.ranges Tryz.prog 76 R b W.heap.size nn D0 left cnt ∧ ss.length + cnt ≤ Maps.size D0 ∧ CollD D0 left ss ∧ J ss wr)
    (fun _ wr => wr.rangeLeft b W.heap.size)
  case atStart =>
    exact ⟨_, _, [], hrg0, by simp, CollD.start D0, hJ [] W w0 none h0 hg0 (fun r e => by cases e)⟩
  case round =>
    obtain ⟨left, cnt, ss, hrg, hcs, hC, hJs⟩ := hrel
    gi_wp2_with (first
      | (gi_at_next; refine wpListIn_next_ranges _ rfl _ rfl 76 keyedD R aggD id (fun key kl hk => keyD_inv hk) (fun v _ _ => ⟨v, rfl⟩) b W.heap.size nn _ _ _ rfl hrg ?_ ?_)
      | gi_in)
    · intro hc0 hl0
      gi_wp2
      go_end0
      exact ⟨⟨_, rfl⟩, left, ss, hl0, hC, hJs⟩
    · intro x1 x2 x3 c kl yd yp w2 cnt2 hv hat hRv hlt hrg2 hs9 hg2 hs2 hen
      have hJ2 : J ss w2 := hJ ss wr w2 (some W.heap.size) hJs hg2 (fun r e => by cases e; exact ⟨Nat.le_refl _, hrg.iter_walk⟩)
      clear hs2
      have e9 : aggD (x1, x2, x3) = .agg #[.int .i64 x1, .int .i64 x2, .int .i64 x3] := rfl
      rw [e9] at hen ⊢
      have hJ3 : J ss (w2.alloc (Obj.cells #[.int .i64 x1, .int .i64 x2, .int .i64 x3] 76)) := hJ ss w2 _ none hJ2 (World.grownBy_alloc _ _ none) (fun r e => by cases e)
      obtain ⟨fn, tmps, assign, body, hy, hR⟩ := hY ss (x1, x2, x3) _ hJ3 (by omega)
      rw [e9] at hy
      gi_wp2
      refine hR.mono ?_
      rintro e W3 ⟨rfl, hJ4, hk3⟩
      gi_wp2
      have hrg3 := hrg2.of_walks ((KeepsWalks.alloc _ _).trans hk3)
      go_roundw
      case rel => exact ⟨_, cnt2, ss ++ [(x1, x2, x3)], hrg3, by simp; omega, hC.step hv hat hlt, hJ4⟩
      case measure => rw [hrg3.left_eq, hrg.left_eq]; exact hs9
theorem keys_gives {H : Type} (F : Fence) (n : Nat) (h10 : F.fn 75) (hro : F.round = none) (hn : 1 ≤ n) (Bm b nn : Nat) (D0 : DataW H) {R : Value → Option (DataW H × List MemPlace)} (w : World) (hBm : Bm < w.heap.size)
    (hm : w.cell? ⟨Bm, 0, none⟩ = some (.map (some b))) (hown : w.ownsMap Tryz.prog 76 R b nn D0) :
    SeqGives F n Tryz.prog 75 #[.pointer (some ⟨Bm, 0, none⟩)] aggD (fun ss => ∃ left : Lit → Bool, (∀ kl, left kl = false) ∧ CollD D0 left ss) (Maps.size D0) w := fun l J W hW hJ hY h0 => by
  have hown' : W.ownsMap Tryz.prog 76 R b nn D0 := by
    have hbl := hown.lt
    obtain ⟨es, clock, hb, Ft, hs, hD⟩ := hown
    exact ⟨es, clock, (hW.block b hbl).trans hb, Ft, hs, hD⟩
  refine (keys1_in F n h10 hro hn l Bm b nn D0 J hY W hJ ((hW.cell (p := ⟨Bm, 0, none⟩) hBm).trans hm) hown' h0).mono ?_
  rintro e W' ⟨hv, left, ss, h1, h2, h3⟩
  exact ⟨hv, ss, ⟨left, h1, h2⟩, h3⟩
end Go.Proofs.YtcaoldilmnpjoaaGreat
