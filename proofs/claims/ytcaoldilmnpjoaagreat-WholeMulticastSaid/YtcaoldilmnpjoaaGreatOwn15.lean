/-
  Part Own15 of the proof.
-/
import Derived.Test.YtcaoldilmnpjoaaGreatOwn14
namespace Go.Proofs.YtcaoldilmnpjoaaGreat
set_option linter.all false
open Go.RowKit Go.Sx
set_option maxRecDepth 100000
set_option maxHeartbeats 16000000
def acF (c : aY) (node : Int) : Tup [DT.cell Ii, DT.cell .bool] := if node = c.1 then (c.2.2.1, true, ()) else if node = c.2.2.1 then (c.1, true, ()) else (0, false, ())
def nc : aB := ⟨[.cell az, .cell Ii], fun (x : aY × Int × Unit) => True, [.cell Ii, .cell .bool], fun (x : aY × Int × Unit) => acF x.1 x.2.1⟩
theorem ac_ok (c : aY) (node : Int) (h : nc.pre (c, node, ())) : PTk Tryz.prog AI 70 nc (c, node, ()) := by
 dsimp only [PTk, nc] at h ⊢
 generalize hr : acF c node = r
 obtain ⟨c1, c2, c3, c4, c5, c6⟩ := c
 dsimp only [acF] at hr
 refine Tb ai mixed (fn := Tryz.f70) ?_
 refine Pq ?_
 with_reducible repeat' (first | exact True.intro | refine Ca ?_ | refine Cb ?_ | refine Cd ?_ | (refine Ce ?_; (try ((repeat (first | rw [ifP] at hr | rw [ifM] at hr | rw [if_pos rfl] at hr)); subst hr))) | refine Cm ?_ ?_ | (first | refine Bo (fun hk h => ?_) fun hk h => ?_ | refine Al (fun hk h => ?_) fun hk h => ?_) <;> (try (have hb : (_ : Bool) = _ := h; clear h; subst hb)) <;> (try replace hr := hri hr) <;> first | exact Dd | refine Nx ?_)
 all_goals first | with_reducible refine Ez ?_ | exact Cl1 | exact Cl2 | skip
theorem w9 : aE Tryz.prog AI 70 nc.con := aB.sound Tryz.call70 (fun x h => ac_ok x.1 x.2.1 h)
structure ChS where
 p1 : List cL
 p2 : List aY
 up : List Bool
 L : List Int
 R : List Int
 F : List Int
def chC (x : U ChS) : List (Chunk Ab) := [.cells 25 [.ro ah (fun _ => (x ()).p1), .ro az (fun _ => (x ()).p2)], .cells 26 [.ro .bool (fun _ => (x ()).up)], .cells 32 [.ro Ii (fun _ => (x ()).L)],
 .cells 30 [.ro Ii (fun _ => (x ()).R)], .cells 30 [.ro Ii (fun _ => (x ()).F)]]
def unCh : List (Chunk Ab) → Option (U ChS)
 | [.cells t0 [.ro (.pair .str (.pair .bool (.int .i64))) p1, .ro (.pair (.int .i64) (.pair (.int .i64) (.pair (.int .i64) (.pair (.int .i64) (.pair (.int .i64) (.int .i64)))))) p2], .cells t1 [.ro .bool up], .cells t2 [.ro (.int .i64) L],
     .cells t3 [.ro (.int .i64) R], .cells t4 [.ro (.int .i64) F]] => (match aG t0 25 && aG t1 26 && aG t2 32 && aG t3 30 && aG t4 30 with
     | true => some (fun _ => ⟨p1 (), p2 (), up (), L (), R (), F ()⟩)
     | false => none)
 | _ => none
theorem unCh_eq (cs : List (Chunk Ab)) (W : U ChS) (h : unCh cs = some W) : cs = chC (fun _ => W ()) := by
 unfold unCh at h
 split at h <;> (try (cases h; done))
 split at h <;> cases h
 rename_i hb
 simp only [Bool.and_eq_true, ad] at hb
 obtain ⟨⟨⟨⟨rfl, rfl⟩, rfl⟩, rfl⟩, rfl⟩ := hb
 rfl
def chP : AS Ab ChS := ⟨5, 5, unCh, chC, by decide, unCh_eq⟩
def chB (S : ChS) (node left : Int) (may : Bool) (i : Nat) : Bool :=
 if left < 1 then false
 else if (acF (S.p2.getD i z6) node).2.1 = true then
  (if S.up.getD i false = true then
    (if (ae (S.L, ()) (acF (S.p2.getD i z6) node).1 node).1 = true then
      (if may = true then decide (lat S.R (acF (S.p2.getD i z6) node).1 = left - 1) else false)
    else decide (lat S.F (acF (S.p2.getD i z6) node).1 = left - 1))
  else false)
 else false
def chR (f : Nat → Bool) : Nat → Nat → Int
 | 0, _ => -1
 | n + 1, i => if f i = true then (i : Int) else chR f n (i + 1)
def chI (S : ChS) (node left : Int) (may : Bool) : Int := chR (chB S node left may) S.p2.length 0
theorem mP (f : Nat → Bool) : ∀ (n i : Nat), chR f n i = -1 ∨ ∃ k : Nat, i ≤ k ∧ k < i + n ∧ f k = true ∧ chR f n i = (k : Int)
 | 0, i => .inl rfl
 | n + 1, i => by
   show (if f i = true then (i : Int) else chR f n (i + 1)) = -1 ∨ ∃ k : Nat, i ≤ k ∧ k < i + (n + 1) ∧ f k = true ∧ (if f i = true then (i : Int) else chR f n (i + 1)) = (k : Int)
   by_cases h : f i = true
   · rw [if_pos h]; exact .inr ⟨i, Nat.le_refl _, by omega, h, rfl⟩
   · rw [if_neg h]
     rcases mP f n (i + 1) with h1 | ⟨k, h1, h2, h3, h4⟩
     · exact .inl h1
     · exact .inr ⟨k, by omega, by omega, h3, h4⟩
structure Cr (f : Nat → Bool) (n : Nat) where
 i : Nat
 hi : i ≤ n
 eq : chR f (n - i) i = chR f n 0
theorem Cr.zero (f : Nat → Bool) (n : Nat) : ∃ x : Cr f n, x.i = 0 := ⟨⟨0, Nat.zero_le _, rfl⟩, rfl⟩
theorem Cr.step {f : Nat → Bool} {n : Nat} (x : Cr f n) (h : (x.i : Int) < (n : Int)) (hf : f x.i = false) : ∃ y : Cr f n, y.i = x.i + 1 := by
 have e := x.eq
 rw [show n - x.i = (n - (x.i + 1)) + 1 from by omega] at e
 have e : (if f x.i = true then (x.i : Int) else chR f (n - (x.i + 1)) (x.i + 1)) = chR f n 0 := e
 rw [if_neg (by rw [hf]; decide)] at e
 exact ⟨⟨x.i + 1, by omega, e⟩, rfl⟩
theorem Cr.hit {f : Nat → Bool} {n : Nat} (x : Cr f n) (h : (x.i : Int) < (n : Int)) (hf : f x.i = true) : chR f n 0 = (x.i : Int) := by
 have e := x.eq
 rw [show n - x.i = (n - (x.i + 1)) + 1 from by omega] at e
 have e : (if f x.i = true then (x.i : Int) else chR f (n - (x.i + 1)) (x.i + 1)) = chR f n 0 := e
 rw [if_pos hf] at e
 exact e.symm
theorem Cr.done {f : Nat → Bool} {n : Nat} (x : Cr f n) (h : ¬ (x.i : Int) < (n : Int)) : chR f n 0 = -1 := by
 have e := x.eq
 rw [show n - x.i = 0 from by omega] at e
 exact e.symm
section
variable {S : ChS} {node left : Int} {may : Bool} {i : Nat}
theorem chb1 (h : left < 1) : chB S node left may i = false := by unfold chB; rw [if_pos h]
theorem chb2 (h : ¬ left < 1) (h2 : (acF (S.p2.getD i z6) node).2.1 = false) : chB S node left may i = false := by unfold chB; rw [if_neg h, if_neg (by rw [h2]; decide)]
theorem chb3 (h : ¬ left < 1) (h2 : (acF (S.p2.getD i z6) node).2.1 = true) (h3 : S.up.getD i false = false) : chB S node left may i = false := by unfold chB; rw [if_neg h, if_pos h2, if_neg (by rw [h3]; decide)]
theorem chb4 (h : ¬ left < 1) (h2 : (acF (S.p2.getD i z6) node).2.1 = true) (h3 : S.up.getD i false = true) (h4 : (ae (S.L, ()) (acF (S.p2.getD i z6) node).1 node).1 = true) (h5 : may = false) : chB S node left may i = false := by
 unfold chB; rw [if_neg h, if_pos h2, if_pos h3, if_pos h4, if_neg (by rw [h5]; decide)]
theorem chb5 (h : ¬ left < 1) (h2 : (acF (S.p2.getD i z6) node).2.1 = true) (h3 : S.up.getD i false = true) (h4 : (ae (S.L, ()) (acF (S.p2.getD i z6) node).1 node).1 = true) (h5 : may = true) (h6 : ¬ S.R.getD (acF (S.p2.getD i z6) node).1.toNat 0 = left - 1) : chB S node left may i = false := by
 unfold chB; rw [if_neg h, if_pos h2, if_pos h3, if_pos h4, if_pos h5]; exact decide_eq_false h6
theorem chb6 (h : ¬ left < 1) (h2 : (acF (S.p2.getD i z6) node).2.1 = true) (h3 : S.up.getD i false = true) (h4 : (ae (S.L, ()) (acF (S.p2.getD i z6) node).1 node).1 = false) (h6 : ¬ S.F.getD (acF (S.p2.getD i z6) node).1.toNat 0 = left - 1) : chB S node left may i = false := by
 unfold chB; rw [if_neg h, if_pos h2, if_pos h3, if_neg (by rw [h4]; decide)]; exact decide_eq_false h6
theorem chb7 (h : ¬ left < 1) (h2 : (acF (S.p2.getD i z6) node).2.1 = true) (h3 : S.up.getD i false = true) (h4 : (ae (S.L, ()) (acF (S.p2.getD i z6) node).1 node).1 = true) (h5 : may = true) (h6 : S.R.getD (acF (S.p2.getD i z6) node).1.toNat 0 = left - 1) : chB S node left may i = true := by
 unfold chB; rw [if_neg h, if_pos h2, if_pos h3, if_pos h4, if_pos h5]; exact decide_eq_true h6
theorem chb8 (h : ¬ left < 1) (h2 : (acF (S.p2.getD i z6) node).2.1 = true) (h3 : S.up.getD i false = true) (h4 : (ae (S.L, ()) (acF (S.p2.getD i z6) node).1 node).1 = false) (h6 : S.F.getD (acF (S.p2.getD i z6) node).1.toNat 0 = left - 1) : chB S node left may i = true := by
 unfold chB; rw [if_neg h, if_pos h2, if_pos h3, if_neg (by rw [h4]; decide)]; exact decide_eq_true h6
end
theorem ac_in {C : List aY} {n : Nat} (hE : bd C n) {c : aY} (hc : c ∈ C) {node : Int} (h : (acF c node).2.1 = true) : 0 ≤ (acF c node).1 ∧ (acF c node).1 < (n : Int) := by
 obtain ⟨h1, h2, _⟩ := hE c hc
 unfold acF at h ⊢
 split
 · exact h2
 · rename_i e1
   rw [if_neg e1] at h
   split
   · exact h1
   · rename_i e2; rw [if_neg e2] at h; cases h
structure ChOk (S : ChS) (node left : Int) : Prop where
 n : S.p1.length ≤ 16
 c : S.p2.length ≤ 32
 ends : bd S.p2 S.p1.length
 up : S.up.length = S.p2.length
 L : S.L.length = S.p1.length
 R : S.R.length = S.p1.length
 F : S.F.length = S.p1.length
 left : -1 ≤ left ∧ left ≤ 100
def iV : bp Ab ChS := ⟨chP, [.cell Ii, .cell Ii, .cell .bool], [0, 1, 2, 3, 4], fun S (x : Int × Int × Bool × Unit) => ChOk S x.1 x.2.1, [.cell Ii], fun S (x : Int × Int × Bool × Unit) => (chI S x.1 x.2.1 x.2.2.1, ()), fun S (x : Int × Int × Bool × Unit) => S⟩
noncomputable abbrev Eh1 : Env Ab := ⟨tis, [(39, df.con), (70, nc.con)] ++ E0.con⟩
theorem eh1Ok : aU Tryz.prog AI Eh1 := ((ai.add w9).add gC)
theorem cho_ok (S : ChS) (node left : Int) (may : Bool) (h : iV.pre S (node, left, may, ())) : ∃ args : List SV, args.length + [0, 1, 2, 3, 4].length ≤ Tryz.f69.ntmps ∧ args.all (iX 5) = true ∧ (∀ (ρ : Ev) us, aL (Den ρ) (dM [.cell Ii, .cell Ii, .cell .bool] (fun _ => (node, left, may, ()))) us → aL (Den ρ) args us) ∧
 (svc Eh1 5 (aS Tryz.f69) ⟨cQ 0 (args ++ cg [0, 1, 2, 3, 4]), chC (fun _ => S)⟩ (ek Eh1.ti 5 Tryz.f69.results.toList (ag (svs [.cell Ii] (fun _ => (chI S node left may, ())))) (chC (fun _ => S))) ∨
  svc Eh1 5 (aS Tryz.f69) ⟨cQ 0 (args ++ cg [0, 1, 2, 3, 4]), chC (fun _ => S)⟩ (nQ Eh1.ti 5 Tryz.f69.results.toList (ag (svs [.cell Ii] (fun _ => (chI S node left may, ())))) (chC (fun _ => S)))) := by
 dsimp only [iV] at h ⊢
 have hS := h
 obtain ⟨p1, p2, up, L, R, F⟩ := S
 obtain ⟨hn, hc, hE, hup, hL, hR, hF, hlf⟩ := h
 dsimp only at hn hc hE hup hL hR hF ⊢
 refine ⟨dM [.cell Ii, .cell Ii, .cell .bool] (fun _ => (node, left, may, ())), Nat.le_of_ble_eq_true (by kernel_rfl), rfl, (fun ρ us hd => hd), .inl ?_⟩
 obtain ⟨x0, hx0⟩ := Cr.zero (chB ⟨p1, p2, up, L, R, F⟩ node left may) p2.length
 refine Pq ?_
 with_reducible repeat' (first | exact True.intro | refine Ca ?_ | refine Cb ?_ | refine Cd ?_ | refine Ce ?_ | refine Cm ?_ ?_ | (first | refine Bo (fun hk h => ?_) fun hk h => ?_ | refine Al (fun hk h => ?_) fun hk h => ?_) <;> (try (have hb : (_ : Bool) = _ := h; clear h; subst hb)) <;> (try replace hr := hri hr) <;> first | exact Dd | refine Nx ?_)
 all_goals first | with_reducible refine Ez ?_ | exact Cl1 | exact Cl2 | skip
 refine ⟨⟨Cr (chB ⟨p1, p2, up, L, R, F⟩ node left may) p2.length, fun x => ⟨[(0, Sx.one (.int .i64 (fun _ => node))), (1, Sx.one (.int .i64 (fun _ => left))), (2, Sx.one (.sb (fun _ => may))), (3, Sx.one (.ptr 0 0)), (4, Sx.one (.ptr 1 0)), (5, Sx.one (.ptr 2 0)), (6, Sx.one (.ptr 3 0)), (7, Sx.one (.ptr 4 0)), (18, Sx.one (.ro az (fun _ => p2))), (19, Sx.one (.int .i64 (fun _ => p2.length))), (20, Sx.one (.int .i64 (fun _ => x.i)))],
  chC (fun _ => ⟨p1, p2, up, L, R, F⟩)⟩, fun x => p2.length - x.i, x0⟩, ?_, fun (x : Cr (chB ⟨p1, p2, up, L, R, F⟩ node left may) p2.length) => ?_⟩
 · refine Pq ?_
   with_reducible repeat' first | exact True.intro | refine Ca ?_ | refine Cb ?_ | refine Cd ?_ | refine Ce ?_ | refine Cm ?_ ?_
   all_goals first | with_reducible refine Ez ?_ | exact Cl1 | (rw [hx0]; rfl) | exact Cl2 | skip
 have hhi := x.hi
 have hac := fun (h1 : ((x.i : Nat) : Int) < (p2.length : Int)) (h2 : (acF (p2.getD x.i z6) node).2.1 = true) => ac_in hE (eU (show x.i < p2.length by omega)) h2
 have hxR := fun h1 h2 => ivx hR (hac h1 h2)
 have hxF := fun h1 h2 => ivx hF (hac h1 h2)
 refine Pq ?_
 with_reducible repeat' (first | exact True.intro | refine Ca ?_ | refine Cb ?_ | refine Cd ?_ | refine Ce ?_ | refine Cm ?_ ?_ | (first | refine Bo (fun hk h => ?_) fun hk h => ?_ | refine Al (fun hk h => ?_) fun hk h => ?_) <;> (try (have hb : (_ : Bool) = _ := h; clear h; subst hb)) <;> (try replace hr := hri hr) <;> first | exact Dd | refine Nx ?_)
 all_goals first | with_reducible refine Ez ?_ | exact Cl1 | exact hxR (by assumption) (by assumption) | exact hxF (by assumption) (by assumption) | exact (x.hit (by assumption) (chb7 (S := ⟨p1, p2, up, L, R, F⟩) (by assumption) (by assumption) (by assumption) (by assumption) rfl (by assumption))).symm | exact (x.hit (by assumption) (chb8 (S := ⟨p1, p2, up, L, R, F⟩) (by assumption) (by assumption) (by assumption) (by assumption) (by assumption))).symm | exact (x.done (by assumption)).symm | exact Cl2 | skip
 all_goals
  (obtain ⟨y, hy⟩ := x.step (by assumption) (by
    first
    | exact chb1 (S := ⟨p1, p2, up, L, R, F⟩) (by assumption)
    | exact chb2 (S := ⟨p1, p2, up, L, R, F⟩) (by assumption) (by assumption)
    | exact chb3 (S := ⟨p1, p2, up, L, R, F⟩) (by assumption) (by assumption) (by assumption)
    | exact chb4 (S := ⟨p1, p2, up, L, R, F⟩) (by assumption) (by assumption) (by assumption) (by assumption) rfl
    | exact chb5 (S := ⟨p1, p2, up, L, R, F⟩) (by assumption) (by assumption) (by assumption) (by assumption) rfl (by assumption)
    | exact chb6 (S := ⟨p1, p2, up, L, R, F⟩) (by assumption) (by assumption) (by assumption) (by assumption) (by assumption))
   refine ⟨y, (by dsimp only; omega), ?_⟩
   refine Pq ?_
   with_reducible repeat' first | exact True.intro | refine Ca ?_ | refine Cb ?_ | refine Cd ?_ | refine Ce ?_ | refine Cm ?_ ?_
   all_goals first | with_reducible refine Ez ?_ | exact Cl1 | (rw [hy]; rfl) | (rw [hy]; omega) | exact Cl2 | skip)
theorem AF : aE Tryz.prog AI 69 iV.con := bp.sound eh1Ok mixed (fn := Tryz.f69) (c := aS Tryz.f69) Tryz.call69 (by kernel_rfl) (by kernel_rfl) (by kernel_rfl) (q := iV) (by decide) fun S x h => cho_ok S x.1 x.2.1 x.2.2.1 h
theorem cho_ro : iV.Ro := ⟨fun _ _ => rfl, fun _ => rfl, fun _ _ => rfl, fun _ => rfl, fun _ => rfl⟩
theorem xK : aE Tryz.prog AI 69 iV.Bw := bp.soundR cho_ro AF
end Go.Proofs.YtcaoldilmnpjoaaGreat
