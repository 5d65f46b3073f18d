/-
  Part Own20 of the proof.
-/
import Derived.Test.YtcaoldilmnpjoaaGreatEng4
import Derived.Test.YtcaoldilmnpjoaaGreatEng3
import Derived.RangeFuncGives
import Derived.Test.YtcaoldilmnpjoaaGreatProg
namespace Go.Proofs.YtcaoldilmnpjoaaGreat
set_option linter.all false
open Go.RowKit Go.Sx Go.Maps Go.Sort Go.Shelf
set_option maxRecDepth 100000
abbrev br : Ty := .pair (.int .i64) (.pair (.int .i64) (.int .i64))
abbrev aT : Type := Int × Int × Int
def cellsD (x : aT) : List Value := [.int .i64 x.1, .int .i64 x.2.1, .int .i64 x.2.2]
def eG (x : aT) : Value := .agg (cellsD x).toArray
theorem qm {x y : aT} (h : eG x = eG y) : x = y := by
 have h2 : cellsD x = cellsD y := by
  have h1 := Value.agg.inj h
  simpa using congrArg Array.toList h1
 unfold cellsD at h2
 simp only [List.cons.injEq, Value.int.injEq, true_and, and_true] at h2
 exact Prod.ext h2.1 (Prod.ext h2.2.1 h2.2.2)
theorem wideD : (match Tryz.prog.underlying 76 with | some (.array _ _) | some (.struct _) => true | _ => false) = true := by rw [Tryz.underlying76]
theorem zr : WideMaps.KeyLaw Tryz.prog 76 := deep_law (m := 3) (by decide) (by kernel_rfl) (by kernel_rfl) wideD
theorem tP : Keyed Tryz.prog 76 := Keyed.of_law zr
theorem Bb {key : Value} {kl : Lit} (h : keyOf Tryz.prog 76 key = some kl) : ∃ x : aT, key = eG x := by
 obtain ⟨xs, L, rfl, h1, _⟩ := keyOf_top wideD h
 obtain ⟨n, hn⟩ : ∃ n, Tryz.prog.types.size = n + 1 := ⟨Tryz.prog.types.size - 1, by have : 1 ≤ Tryz.prog.types.size := leN (by kernel_rfl); omega⟩
 rw [hn] at h1
 unfold Program.keyLits at h1
 simp only [Tryz.underlying76] at h1
 split at h1
 · rename_i hc
   obtain ⟨hc, _⟩ := hc
   have h3 : Tryz.prog.cellsOf 76 = 3 := by kernel_rfl
   have h4 : Tryz.prog.cellsOf 3 = 1 := by kernel_rfl
   rw [h3] at hc
   obtain ⟨l⟩ := xs
   match l, hc with
   | [a, b, c], _ =>
     simp only [List.mapM_cons, List.mapM_nil, h4] at h1
     simp only [Option.map_eq_some_iff, Option.bind_eq_bind, Option.bind_eq_some_iff, Option.pure_def] at h1
     obtain ⟨_, ⟨l1, e1, _, ⟨l2, e2, _, ⟨l3, e3, _⟩, _⟩, _⟩, _⟩ := h1
     obtain ⟨n1, q1, _⟩ := keyLits_int' Tryz.underlying3 e1
     obtain ⟨n2, q2, _⟩ := keyLits_int' Tryz.underlying3 e2
     obtain ⟨n3, q3, _⟩ := keyLits_int' Tryz.underlying3 e3
     simp at q1 q2 q3
     subst q1 q2 q3
     exact ⟨(n1, n2, n3), rfl⟩
 · cases h1
def jP {H : Type} (D0 : DataW H) (left : Lit → Bool) (ss : List aT) : Prop := ss.Nodup ∧ ∀ x, x ∈ ss ↔ ∃ l, keyOf Tryz.prog 76 (eG x) = some l ∧ has D0 l = true ∧ left l = false
section
variable {H : Type} {D0 : DataW H} {left : Lit → Bool} {ss : List aT}
theorem jP.start (D0 : DataW H) : jP D0 (has D0) [] := ⟨List.nodup_nil, fun x => ⟨fun h => (by cases h), fun ⟨l, _, h1, h2⟩ => by rw [h1] at h2; cases h2⟩⟩
theorem jP.step (h : jP D0 left ss) {x : aT} {l : Lit} {y : DataW H} (hx : keyOf Tryz.prog 76 (eG x) = some l) (hlk : left l = true) (hat : ∀ zd, D0.atKey l zd = y) : jP D0 (fun z => left z && !z.sameKey l) (ss ++ [x]) := by
 have hhas : has D0 l = true := has_true_of_atKey hat
 have hnew : x ∉ ss := fun hm => by
  obtain ⟨l', h1, _, h3⟩ := (h.2 x).1 hm
  rw [hx] at h1; cases h1; rw [hlk] at h3; cases h3
 refine ⟨List.nodup_append.2 ⟨h.1, by simp, fun a ha b hb => by simp at hb; subst hb; exact fun e => hnew (e ▸ ha)⟩, fun y => ?_⟩
 obtain ⟨s, rfl⟩ := zr.str hx
 by_cases hy : y = x
 · subst hy
   simp only [List.mem_append, List.mem_singleton, or_true, true_iff]
   exact ⟨_, hx, hhas, by simp [Lit.sameKey]⟩
 · simp only [List.mem_append, List.mem_singleton, hy, or_false]
   rw [h.2 y]
   constructor
   · rintro ⟨l', h1, h2, h3⟩
     exact ⟨l', h1, h2, by rw [h3]; rfl⟩
   · rintro ⟨l', h1, h2, h3⟩
     refine ⟨l', h1, h2, ?_⟩
     obtain ⟨s', rfl⟩ := zr.str h1
     cases hl : left (.string s') with
     | false => rfl
     | true =>
       rw [hl] at h3
       simp [Lit.sameKey] at h3
       subst h3
       exact absurd (qm (tP.inj h1 hx)) hy
end
def bS {V : Type} (l : List (aT × V)) : List aT := l.map fun p => p.1
theorem s7 {x : aT} (hx : br.bW x) : ∃ l, keyOf Tryz.prog 76 (eG x) = some l := by
 obtain ⟨⟨a1, a2⟩, ⟨b1, b2⟩, c1, c2⟩ := hx
 have h3 : Tryz.prog.cellsOf 76 = 3 := by kernel_rfl
 have h4 : Tryz.prog.cellsOf 3 = 1 := by kernel_rfl
 have h5 : Tryz.prog.keyType 76 = true := by kernel_rfl
 obtain ⟨n, hn⟩ : ∃ n, Tryz.prog.types.size = n + 1 := ⟨Tryz.prog.types.size - 1, by have : 1 ≤ Tryz.prog.types.size := leN (by kernel_rfl); omega⟩
 have wf : ∀ {m : Int}, -9223372036854775808 ≤ m → m ≤ 9223372036854775807 → (Lit.int .i64 m).wf = true := fun h1 h2 => wf_i64 ⟨h1, h2⟩
 have one : ∀ m : Int, -9223372036854775808 ≤ m → m ≤ 9223372036854775807 → Tryz.prog.keyLits (n + 1) 3 [.int .i64 m] = some [.int .i64 m] := fun m h1 h2 => by
  unfold Program.keyLits
  simp only [Tryz.underlying3, wf h1 h2, and_self, if_true]
 refine Option.isSome_iff_exists.1 ?_
 · unfold keyOf
   simp only [Tryz.underlying76, h5, Value.formed, eG, cellsD, Value.cells, h3, List.size_toArray, List.length_cons, List.length_nil, Bool.true_and]
   rw [if_pos (by decide), hn]
   unfold Program.keyLits
   simp only [Tryz.underlying76, h3, h4, List.length_cons, List.length_nil, List.mapM_cons, List.mapM_nil]
   rw [if_pos ⟨trivial, by kernel_rfl⟩]
   simp only [List.drop_zero, List.drop_succ_cons, List.take_succ_cons, List.take_zero, one _ a1 a2, one _ b1 b2, one _ c1 c2]
   rfl
set_option maxHeartbeats 4000000
theorem keys1_in {H : Type} (F : Fence) (n : Nat) (h10 : F.fn 75) (hro : F.round = none) (hn : 1 ≤ n) (l Bm b nn : Nat) (D0 : DataW H) {R : Value → Option (DataW H × List MemPlace)} (J : List aT → World → Prop)
 (hY : ∀ pre x W, J pre W → pre.length < Maps.size D0 → YieldAt F (n - 1) Tryz.prog l #[eG x] W fun e W' => e = .returned (.bool true) ∧ J (pre ++ [x]) W' ∧ KeepsWalks W W')
 (W : World) (hJ : AbidesFrom W.heap.size J) (hm : W.cell? ⟨Bm, 0, none⟩ = some (.map (some b))) (hown : W.ownsMap Tryz.prog 76 R b nn D0) (h0 : J [] W) :
 CallsIn F n Tryz.prog 75 #[.func (.yield l) #[] #[], .pointer (some ⟨Bm, 0, none⟩)] W fun e W' => (∃ v, e = .returned v) ∧ ∃ (left : Lit → Bool) (ss : List aT), (∀ kl, left kl = false) ∧ jP D0 left ss ∧ J ss W' := by
 refine callsIn_of_wp Tryz.func75 rfl h10 ?_ hro
 simp only [Tryz.ntmps75, List.size_toArray, List.length_cons, List.length_nil, Nat.reduceAdd, Nat.reduceSub, Array.replicate_succ, Array.replicate_zero, List.push_toArray, List.append_toArray, List.nil_append, List.cons_append]
 gi_wp2_with (first
  | (gi_at_range; refine wpListIn_range_own _ rfl _ 74 rfl 76 4 tP Tryz.underlying74 _ b nn _ rfl hown ?_; intro w0 hrg0 hg0 hs0)
  | gi_in)
 go_frame
 gi_loopw [3] (fun _ wr => ∃ (left : Lit → Bool) (cnt : Nat) (ss : List aT), wr.ranges Tryz.prog 76 R b W.heap.size nn D0 left cnt ∧ ss.length + cnt ≤ Maps.size D0 ∧ jP D0 left ss ∧ J ss wr)
  (fun _ wr => wr.rangeLeft b W.heap.size)
 case atStart =>
  exact ⟨_, _, [], hrg0, by simp, jP.start D0, hJ [] W w0 none h0 hg0 (fun r e => by cases e)⟩
 case round =>
  obtain ⟨left, cnt, ss, hrg, hcs, hC, hJs⟩ := hrel
  gi_wp2_with (first
   | (gi_at_next; refine wpListIn_next_ranges _ rfl _ rfl 76 tP R eG id (fun key kl hk => Bb hk) (fun v _ _ => ⟨v, rfl⟩) b W.heap.size nn _ _ _ rfl hrg ?_ ?_)
   | gi_in)
  · intro hc0 hl0
    gi_wp2
    go_end0
    exact ⟨⟨_, rfl⟩, left, ss, hl0, hC, hJs⟩
  · intro x1 x2 x3 c kl yd yp w2 cnt2 hv hat hRv hlt hrg2 hs9 hg2 hs2 hen
    have hJ2 : J ss w2 := hJ ss wr w2 (some W.heap.size) hJs hg2 (fun r e => by cases e; exact ⟨Nat.le_refl _, hrg.iter_walk⟩)
    clear hs2
    have e9 : eG (x1, x2, x3) = .agg #[.int .i64 x1, .int .i64 x2, .int .i64 x3] := rfl
    rw [e9] at hen ⊢
    have hJ3 : J ss (w2.alloc (Obj.cells #[.int .i64 x1, .int .i64 x2, .int .i64 x3] 76)) := hJ ss w2 _ none hJ2 (World.grownBy_alloc _ _ none) (fun r e => by cases e)
    obtain ⟨fn, tmps, assign, body, hy, hR⟩ := hY ss (x1, x2, x3) _ hJ3 (by omega)
    rw [e9] at hy
    gi_wp2
    refine hR.mono ?_
    rintro e W3 ⟨rfl, hJ4, hk3⟩
    gi_wp2
    have hrg3 := hrg2.of_walks ((KeepsWalks.alloc _ _).trans hk3)
    go_roundw
    case rel => exact ⟨_, cnt2, ss ++ [(x1, x2, x3)], hrg3, by simp; omega, hC.step hv hat hlt, hJ4⟩
    case measure => rw [hrg3.left_eq, hrg.left_eq]; exact hs9
theorem keys_gives {H : Type} (F : Fence) (n : Nat) (h10 : F.fn 75) (hro : F.round = none) (hn : 1 ≤ n) (Bm b nn : Nat) (D0 : DataW H) {R : Value → Option (DataW H × List MemPlace)} (w : World) (hBm : Bm < w.heap.size)
 (hm : w.cell? ⟨Bm, 0, none⟩ = some (.map (some b))) (hown : w.ownsMap Tryz.prog 76 R b nn D0) :
 SeqGives F n Tryz.prog 75 #[.pointer (some ⟨Bm, 0, none⟩)] eG (fun ss => ∃ left : Lit → Bool, (∀ kl, left kl = false) ∧ jP D0 left ss) (Maps.size D0) w := fun l J W hW hJ hY h0 => by
 have hown' : W.ownsMap Tryz.prog 76 R b nn D0 := by
  have hbl := hown.lt
  obtain ⟨es, clock, hb, Ft, hs, hD⟩ := hown
  exact ⟨es, clock, (hW.block b hbl).trans hb, Ft, hs, hD⟩
 refine (keys1_in F n h10 hro hn l Bm b nn D0 J hY W hJ ((hW.cell (p := ⟨Bm, 0, none⟩) hBm).trans hm) hown' h0).mono ?_
 rintro e W' ⟨hv, left, ss, h1, h2, h3⟩
 exact ⟨hv, ss, ⟨left, h1, h2⟩, h3⟩
end Go.Proofs.YtcaoldilmnpjoaaGreat
