/-
  The top: the choice of a cable.
-/
import Derived.Test.YtcaoldilmnpjoaaGreatUpd
namespace Go.Proofs.YtcaoldilmnpjoaaGreat
set_option linter.all false
open Go.RowKit Go.Sx
set_option maxRecDepth 100000
set_option maxHeartbeats 16000000
def acF (c : CabT) (node : Int) : Tup [DT.cell Ii, DT.cell .bool] := if node = c.1 then (c.2.2.1, true, ()) else if node = c.2.2.1 then (c.1, true, ()) else (0, false, ())
def acSpec : PureSpec := ⟨[.cell CabE, .cell Ii], fun (x : CabT × Int × Unit) => True, [.cell Ii, .cell .bool], fun (x : CabT × Int × Unit) => acF x.1 x.2.1⟩
theorem ac_ok (c : CabT) (node : Int) (h : acSpec.pre (c, node, ())) : TmplOk Tryz.prog AI 70 (argS acSpec.ds (fun _ => (c, node, ()))) [] (resOf (svs acSpec.rs (fun _ => acSpec.f (c, node, ())))) [] := by
  dsimp only [acSpec] at h ⊢
  generalize hr : acF c node = r
  obtain ⟨c1, c2, c3, c4, c5, c6⟩ := c
  dsimp only [acF] at hr
  refine tmpl_of_body e0Ok mixed (fn := Tryz.f70) (c := bodyOf Tryz.f70) (by kernel_rfl) (by kernel_rfl) (by kernel_rfl) (Nat.le_of_ble_eq_true (by kernel_rfl)) ?_
  refine Pr ?_
  refine Nx ?_
  repeat' (first
    | with_reducible (first | refine Ck.au ?_ | refine Ck.all_cons ?_ | refine Ck.all_nil ?_ | refine Ck.mk ?_ ?_)
    | (with_reducible (first | refine Both.mk (fun h => ?_) (fun h => ?_) | refine Alt.mk (fun h => ?_) (fun h => ?_) | refine Pick.mk (fun h => ?_) (fun l1 x l2 h => ?_)) <;> (have hk := h) <;> (try replace h := nh h) <;> (try replace hr := hri hr) <;> (try (have hb : (_ : Bool) = _ := h; clear h; subst hb; (try replace hr := hri hr))) <;> first | exact Dd | refine Nx ?_)
    | ((with_reducible refine End.mk ?_); (try ((repeat (first | rw [ifP] at hr | rw [ifM] at hr | rw [if_pos rfl] at hr)); subst hr)))
    | with_reducible exact True.intro)
  all_goals first
    | (fail_if_success (with_reducible refine Exists.intro ?_ ?_)
       first
       | exact Cl1
       | exact Cl2)
    | skip
theorem ac_sound : ConSound Tryz.prog AI 70 acSpec.con := PureSpec.sound Tryz.call70 (fun x h => ac_ok x.1 x.2.1 h)
structure ChS where
  p1 : List NodeT
  p2 : List CabT
  up : List Bool
  L : List Int
  R : List Int
  F : List Int
def chC (x : U ChS) : List (Chunk Ab) := [.cells 25 [.ro NodeE (fun _ => (x ()).p1), .ro CabE (fun _ => (x ()).p2)], .cells 26 [.ro .bool (fun _ => (x ()).up)], .cells 32 [.ro Ii (fun _ => (x ()).L)],
  .cells 30 [.ro Ii (fun _ => (x ()).R)], .cells 30 [.ro Ii (fun _ => (x ()).F)]]
def unCh : List (Chunk Ab) → Option (U ChS)
  | [.cells t0 [.ro (.pair .str (.pair .bool (.int .i64))) p1, .ro (.pair (.int .i64) (.pair (.int .i64) (.pair (.int .i64) (.pair (.int .i64) (.pair (.int .i64) (.int .i64)))))) p2], .cells t1 [.ro .bool up], .cells t2 [.ro (.int .i64) L],
      .cells t3 [.ro (.int .i64) R], .cells t4 [.ro (.int .i64) F]] => (match beqN t0 25 && beqN t1 26 && beqN t2 32 && beqN t3 30 && beqN t4 30 with
      | true => some (fun _ => ⟨p1 (), p2 (), up (), L (), R (), F ()⟩)
      | false => none)
  | _ => none
theorem unCh_eq (cs : List (Chunk Ab)) (W : U ChS) (h : unCh cs = some W) : cs = chC (fun _ => W ()) := by
  unfold unCh at h
  split at h <;> (try (cases h; done))
  split at h <;> cases h
  rename_i hb
  simp only [Bool.and_eq_true, beqN_iff] at hb
  obtain ⟨⟨⟨⟨rfl, rfl⟩, rfl⟩, rfl⟩, rfl⟩ := hb
  rfl
def chP : ParL Ab ChS := ⟨5, 5, unCh, chC, by decide, unCh_eq⟩
/-- Is cable i chosen? -/
def chB (S : ChS) (node left : Int) (may : Bool) (i : Nat) : Bool :=
  if left < 1 then false
  else if (acF (S.p2.getD i z6) node).2.1 = true then
    (if S.up.getD i false = true then
      (if (aboveF (S.L, ()) (acF (S.p2.getD i z6) node).1 node).1 = true then
        (if may = true then decide (lat S.R (acF (S.p2.getD i z6) node).1 = left - 1) else false)
      else decide (lat S.F (acF (S.p2.getD i z6) node).1 = left - 1))
    else false)
  else false
def chR (f : Nat → Bool) : Nat → Nat → Int
  | 0, _ => -1
  | n + 1, i => if f i = true then (i : Int) else chR f n (i + 1)
def chI (S : ChS) (node left : Int) (may : Bool) : Int := chR (chB S node left may) S.p2.length 0
theorem chR_fact (f : Nat → Bool) : ∀ (n i : Nat), chR f n i = -1 ∨ ∃ k : Nat, i ≤ k ∧ k < i + n ∧ f k = true ∧ chR f n i = (k : Int)
  | 0, i => .inl rfl
  | n + 1, i => by
    show (if f i = true then (i : Int) else chR f n (i + 1)) = -1 ∨ ∃ k : Nat, i ≤ k ∧ k < i + (n + 1) ∧ f k = true ∧ (if f i = true then (i : Int) else chR f n (i + 1)) = (k : Int)
    by_cases h : f i = true
    · rw [if_pos h]; exact .inr ⟨i, Nat.le_refl _, by omega, h, rfl⟩
    · rw [if_neg h]
      rcases chR_fact f n (i + 1) with h1 | ⟨k, h1, h2, h3, h4⟩
      · exact .inl h1
      · exact .inr ⟨k, by omega, by omega, h3, h4⟩
structure Cr (f : Nat → Bool) (n : Nat) where
  i : Nat
  hi : i ≤ n
  eq : chR f (n - i) i = chR f n 0
theorem Cr.zero (f : Nat → Bool) (n : Nat) : ∃ x : Cr f n, x.i = 0 := ⟨⟨0, Nat.zero_le _, rfl⟩, rfl⟩
theorem Cr.step {f : Nat → Bool} {n : Nat} (x : Cr f n) (h : (x.i : Int) < (n : Int)) (hf : f x.i = false) : ∃ y : Cr f n, y.i = x.i + 1 := by
  have e := x.eq
  rw [show n - x.i = (n - (x.i + 1)) + 1 from by omega] at e
  have e : (if f x.i = true then (x.i : Int) else chR f (n - (x.i + 1)) (x.i + 1)) = chR f n 0 := e
  rw [if_neg (by rw [hf]; decide)] at e
  exact ⟨⟨x.i + 1, by omega, e⟩, rfl⟩
theorem Cr.hit {f : Nat → Bool} {n : Nat} (x : Cr f n) (h : (x.i : Int) < (n : Int)) (hf : f x.i = true) : chR f n 0 = (x.i : Int) := by
  have e := x.eq
  rw [show n - x.i = (n - (x.i + 1)) + 1 from by omega] at e
  have e : (if f x.i = true then (x.i : Int) else chR f (n - (x.i + 1)) (x.i + 1)) = chR f n 0 := e
  rw [if_pos hf] at e
  exact e.symm
theorem Cr.done {f : Nat → Bool} {n : Nat} (x : Cr f n) (h : ¬ (x.i : Int) < (n : Int)) : chR f n 0 = -1 := by
  have e := x.eq
  rw [show n - x.i = 0 from by omega] at e
  exact e.symm
section
variable {S : ChS} {node left : Int} {may : Bool} {i : Nat}
theorem chb1 (h : left < 1) : chB S node left may i = false := by unfold chB; rw [if_pos h]
theorem chb2 (h : ¬ left < 1) (h2 : (acF (S.p2.getD i z6) node).2.1 = false) : chB S node left may i = false := by unfold chB; rw [if_neg h, if_neg (by rw [h2]; decide)]
theorem chb3 (h : ¬ left < 1) (h2 : (acF (S.p2.getD i z6) node).2.1 = true) (h3 : S.up.getD i false = false) : chB S node left may i = false := by unfold chB; rw [if_neg h, if_pos h2, if_neg (by rw [h3]; decide)]
theorem chb4 (h : ¬ left < 1) (h2 : (acF (S.p2.getD i z6) node).2.1 = true) (h3 : S.up.getD i false = true) (h4 : (aboveF (S.L, ()) (acF (S.p2.getD i z6) node).1 node).1 = true) (h5 : may = false) : chB S node left may i = false := by
  unfold chB; rw [if_neg h, if_pos h2, if_pos h3, if_pos h4, if_neg (by rw [h5]; decide)]
theorem chb5 (h : ¬ left < 1) (h2 : (acF (S.p2.getD i z6) node).2.1 = true) (h3 : S.up.getD i false = true) (h4 : (aboveF (S.L, ()) (acF (S.p2.getD i z6) node).1 node).1 = true) (h5 : may = true) (h6 : ¬ S.R.getD (acF (S.p2.getD i z6) node).1.toNat 0 = left - 1) : chB S node left may i = false := by
  unfold chB; rw [if_neg h, if_pos h2, if_pos h3, if_pos h4, if_pos h5]; exact decide_eq_false h6
theorem chb6 (h : ¬ left < 1) (h2 : (acF (S.p2.getD i z6) node).2.1 = true) (h3 : S.up.getD i false = true) (h4 : (aboveF (S.L, ()) (acF (S.p2.getD i z6) node).1 node).1 = false) (h6 : ¬ S.F.getD (acF (S.p2.getD i z6) node).1.toNat 0 = left - 1) : chB S node left may i = false := by
  unfold chB; rw [if_neg h, if_pos h2, if_pos h3, if_neg (by rw [h4]; decide)]; exact decide_eq_false h6
theorem chb7 (h : ¬ left < 1) (h2 : (acF (S.p2.getD i z6) node).2.1 = true) (h3 : S.up.getD i false = true) (h4 : (aboveF (S.L, ()) (acF (S.p2.getD i z6) node).1 node).1 = true) (h5 : may = true) (h6 : S.R.getD (acF (S.p2.getD i z6) node).1.toNat 0 = left - 1) : chB S node left may i = true := by
  unfold chB; rw [if_neg h, if_pos h2, if_pos h3, if_pos h4, if_pos h5]; exact decide_eq_true h6
theorem chb8 (h : ¬ left < 1) (h2 : (acF (S.p2.getD i z6) node).2.1 = true) (h3 : S.up.getD i false = true) (h4 : (aboveF (S.L, ()) (acF (S.p2.getD i z6) node).1 node).1 = false) (h6 : S.F.getD (acF (S.p2.getD i z6) node).1.toNat 0 = left - 1) : chB S node left may i = true := by
  unfold chB; rw [if_neg h, if_pos h2, if_pos h3, if_neg (by rw [h4]; decide)]; exact decide_eq_true h6
end
theorem ac_in {C : List CabT} {n : Nat} (hE : EndsOk C n) {c : CabT} (hc : c ∈ C) {node : Int} (h : (acF c node).2.1 = true) : 0 ≤ (acF c node).1 ∧ (acF c node).1 < (n : Int) := by
  obtain ⟨h1, h2, _⟩ := hE c hc
  unfold acF at h ⊢
  split
  · exact h2
  · rename_i e1
    rw [if_neg e1] at h
    split
    · exact h1
    · rename_i e2; rw [if_neg e2] at h; cases h
structure ChOk (S : ChS) (node left : Int) : Prop where
  n : S.p1.length ≤ 16
  c : S.p2.length ≤ 32
  ends : EndsOk S.p2 S.p1.length
  up : S.up.length = S.p2.length
  L : S.L.length = S.p1.length
  R : S.R.length = S.p1.length
  F : S.F.length = S.p1.length
  left : -1 ≤ left ∧ left ≤ 100
def choSpec : StepC Ab ChS := ⟨chP, [.cell Ii, .cell Ii, .cell .bool], [0, 1, 2, 3, 4], fun S (x : Int × Int × Bool × Unit) => ChOk S x.1 x.2.1, [.cell Ii], fun S (x : Int × Int × Bool × Unit) => (chI S x.1 x.2.1 x.2.2.1, ()), fun S (x : Int × Int × Bool × Unit) => S⟩
noncomputable abbrev Eh1 : Env Ab := ⟨tis, [(39, aboveSpec.con), (70, acSpec.con)] ++ E0.con⟩
theorem eh1Ok : EnvOk Tryz.prog AI Eh1 := ((e0Ok.add ac_sound).add above_sound)
theorem cho_ok (S : ChS) (node left : Int) (may : Bool) (h : choSpec.pre S (node, left, may, ())) : ∃ args : List SV, args.length + [0, 1, 2, 3, 4].length ≤ Tryz.f69.ntmps ∧ args.all (belV 5) = true ∧ (∀ (ρ : Ev) us, All2 (Den ρ) (argS [.cell Ii, .cell Ii, .cell .bool] (fun _ => (node, left, may, ()))) us → All2 (Den ρ) args us) ∧
    (svc Eh1 5 (bodyOf Tryz.f69) ⟨argT 0 (args ++ ptrsS [0, 1, 2, 3, 4]), chC (fun _ => S)⟩ (finP Eh1.ti 5 Tryz.f69.results.toList (resOf (svs [.cell Ii] (fun _ => (chI S node left may, ())))) (chC (fun _ => S))) ∨
     svc Eh1 5 (bodyOf Tryz.f69) ⟨argT 0 (args ++ ptrsS [0, 1, 2, 3, 4]), chC (fun _ => S)⟩ (finR Eh1.ti 5 Tryz.f69.results.toList (resOf (svs [.cell Ii] (fun _ => (chI S node left may, ())))) (chC (fun _ => S)))) := by
  dsimp only [choSpec] at h ⊢
  have hS := h
  obtain ⟨p1, p2, up, L, R, F⟩ := S
  obtain ⟨hn, hc, hE, hup, hL, hR, hF, hlf⟩ := h
  dsimp only at hn hc hE hup hL hR hF ⊢
  refine ⟨argS [.cell Ii, .cell Ii, .cell .bool] (fun _ => (node, left, may, ())), Nat.le_of_ble_eq_true (by kernel_rfl), rfl, (fun ρ us hd => hd), .inl ?_⟩
  obtain ⟨x0, hx0⟩ := Cr.zero (chB ⟨p1, p2, up, L, R, F⟩ node left may) p2.length
  refine Pr ?_
  (try (conv in (SS.mk _ _) => dsimp only [acSpec, aboveSpec]))
  refine Nx ?_
  repeat' (first
    | with_reducible (first | refine Ck.au ?_ | refine Ck.all_cons ?_ | refine Ck.all_nil ?_ | refine Ck.mk ?_ ?_)
    | (with_reducible (first | refine Both.mk (fun h => ?_) (fun h => ?_) | refine Alt.mk (fun h => ?_) (fun h => ?_) | refine Pick.mk (fun h => ?_) (fun l1 x l2 h => ?_)) <;> (have hk := h) <;> (try replace h := nh h) <;> (try dsimp only [acSpec, aboveSpec] at h) <;> (try simp only [natCast_eq] at h) <;> (try replace hr := hri hr) <;> (try (have hb : (_ : Bool) = _ := h; clear h; subst hb; (try replace hr := hri hr))) <;> first | exact Dd | refine Nx ?_)
    | with_reducible refine End.mk ?_
    | with_reducible exact True.intro)
  all_goals first
    | (fail_if_success (with_reducible refine Exists.intro ?_ ?_)
       first
       | exact Cl1
       | (dsimp only [acSpec, aboveSpec]; exact Cl1)
       | exact Cl2
       | (dsimp only [acSpec, aboveSpec]; exact Cl2)
       | (dsimp only [acSpec, aboveSpec] at *; exact Cl2))
    | skip
  refine ⟨⟨Cr (chB ⟨p1, p2, up, L, R, F⟩ node left may) p2.length, fun x => ⟨[(0, Sx.one (.int .i64 (fun _ => node))), (1, Sx.one (.int .i64 (fun _ => left))), (2, Sx.one (.sb (fun _ => may))), (3, Sx.one (.ptr 0 0)), (4, Sx.one (.ptr 1 0)), (5, Sx.one (.ptr 2 0)), (6, Sx.one (.ptr 3 0)), (7, Sx.one (.ptr 4 0)), (18, Sx.one (.ro CabE (fun _ => p2))), (19, Sx.one (.int .i64 (fun _ => p2.length))), (20, Sx.one (.int .i64 (fun _ => x.i)))],
    chC (fun _ => ⟨p1, p2, up, L, R, F⟩)⟩, fun x => p2.length - x.i, x0⟩, ?_, fun (x : Cr (chB ⟨p1, p2, up, L, R, F⟩ node left may) p2.length) => ?_⟩
  · refine Pr ?_
    (try (conv in (SS.mk _ _) => dsimp only [acSpec, aboveSpec]))
    refine Nx ?_
    repeat' (first
      | with_reducible (first | refine Ck.au ?_ | refine Ck.all_cons ?_ | refine Ck.all_nil ?_ | refine Ck.mk ?_ ?_)
      | (with_reducible (first | refine Both.mk (fun h => ?_) (fun h => ?_) | refine Alt.mk (fun h => ?_) (fun h => ?_) | refine Pick.mk (fun h => ?_) (fun l1 x l2 h => ?_)) <;> (have hk := h) <;> (try replace h := nh h) <;> (try dsimp only [acSpec, aboveSpec] at h) <;> (try simp only [natCast_eq] at h) <;> (try replace hr := hri hr) <;> (try (have hb : (_ : Bool) = _ := h; clear h; subst hb; (try replace hr := hri hr))) <;> first | exact Dd | refine Nx ?_)
      | with_reducible refine End.mk ?_
      | with_reducible exact True.intro)
    all_goals first
      | (fail_if_success (with_reducible refine Exists.intro ?_ ?_)
         first
         | exact Cl1
         | (dsimp only [acSpec, aboveSpec]; exact Cl1)
         | (rw [hx0]; rfl)
         | exact Cl2
         | (dsimp only [acSpec, aboveSpec]; exact Cl2)
         | (dsimp only [acSpec, aboveSpec] at *; exact Cl2))
      | skip
  have hhi := x.hi
  have hac := fun (h1 : ((x.i : Nat) : Int) < (p2.length : Int)) (h2 : (acF (p2.getD x.i z6) node).2.1 = true) => ac_in hE (getD_mem (show x.i < p2.length by omega)) h2
  have hxR := fun h1 h2 => ivx hR (hac h1 h2)
  have hxF := fun h1 h2 => ivx hF (hac h1 h2)
  refine Pr ?_
  (try (conv in (SS.mk _ _) => dsimp only [acSpec, aboveSpec]))
  refine Nx ?_
  repeat' (first
    | with_reducible (first | refine Ck.au ?_ | refine Ck.all_cons ?_ | refine Ck.all_nil ?_ | refine Ck.mk ?_ ?_)
    | (with_reducible (first | refine Both.mk (fun h => ?_) (fun h => ?_) | refine Alt.mk (fun h => ?_) (fun h => ?_) | refine Pick.mk (fun h => ?_) (fun l1 x l2 h => ?_)) <;> (have hk := h) <;> (try replace h := nh h) <;> (try dsimp only [acSpec, aboveSpec] at h) <;> (try simp only [natCast_eq] at h) <;> (try replace hr := hri hr) <;> (try (have hb : (_ : Bool) = _ := h; clear h; subst hb; (try replace hr := hri hr))) <;> first | exact Dd | refine Nx ?_)
    | with_reducible refine End.mk ?_
    | with_reducible exact True.intro)
  all_goals first
    | (fail_if_success (with_reducible refine Exists.intro ?_ ?_)
       first
       | exact Cl1
       | (dsimp only [acSpec, aboveSpec]; exact Cl1)
       | first | exact hxR (by assumption) (by assumption) | exact hxF (by assumption) (by assumption) | exact (x.hit (by assumption) (chb7 (S := ⟨p1, p2, up, L, R, F⟩) (by assumption) (by assumption) (by assumption) (by assumption) rfl (by assumption))).symm | exact (x.hit (by assumption) (chb8 (S := ⟨p1, p2, up, L, R, F⟩) (by assumption) (by assumption) (by assumption) (by assumption) (by assumption))).symm | exact (x.done (by assumption)).symm
       | exact Cl2
       | (dsimp only [acSpec, aboveSpec]; exact Cl2)
       | (dsimp only [acSpec, aboveSpec] at *; exact Cl2))
    | skip
  all_goals
   (obtain ⟨y, hy⟩ := x.step (by assumption) (by
      first
      | exact chb1 (S := ⟨p1, p2, up, L, R, F⟩) (by assumption)
      | exact chb2 (S := ⟨p1, p2, up, L, R, F⟩) (by assumption) (by assumption)
      | exact chb3 (S := ⟨p1, p2, up, L, R, F⟩) (by assumption) (by assumption) (by assumption)
      | exact chb4 (S := ⟨p1, p2, up, L, R, F⟩) (by assumption) (by assumption) (by assumption) (by assumption) rfl
      | exact chb5 (S := ⟨p1, p2, up, L, R, F⟩) (by assumption) (by assumption) (by assumption) (by assumption) rfl (by assumption)
      | exact chb6 (S := ⟨p1, p2, up, L, R, F⟩) (by assumption) (by assumption) (by assumption) (by assumption) (by assumption))
    refine ⟨y, (by dsimp only; omega), ?_⟩
    refine Pr ?_
    (try (conv in (SS.mk _ _) => dsimp only [acSpec, aboveSpec]))
    refine Nx ?_
    repeat' (first
      | with_reducible (first | refine Ck.au ?_ | refine Ck.all_cons ?_ | refine Ck.all_nil ?_ | refine Ck.mk ?_ ?_)
      | (with_reducible (first | refine Both.mk (fun h => ?_) (fun h => ?_) | refine Alt.mk (fun h => ?_) (fun h => ?_) | refine Pick.mk (fun h => ?_) (fun l1 x l2 h => ?_)) <;> (have hk := h) <;> (try replace h := nh h) <;> (try dsimp only [acSpec, aboveSpec] at h) <;> (try simp only [natCast_eq] at h) <;> (try replace hr := hri hr) <;> (try (have hb : (_ : Bool) = _ := h; clear h; subst hb; (try replace hr := hri hr))) <;> first | exact Dd | refine Nx ?_)
      | with_reducible refine End.mk ?_
      | with_reducible exact True.intro)
    all_goals first
      | (fail_if_success (with_reducible refine Exists.intro ?_ ?_)
         first
         | exact Cl1
         | (dsimp only [acSpec, aboveSpec]; exact Cl1)
         | first | (rw [hy]; rfl) | (rw [hy]; omega)
         | exact Cl2
         | (dsimp only [acSpec, aboveSpec]; exact Cl2)
         | (dsimp only [acSpec, aboveSpec] at *; exact Cl2))
      | skip)
theorem cho_sound : ConSound Tryz.prog AI 69 choSpec.con := StepC.sound eh1Ok mixed (fn := Tryz.f69) (c := bodyOf Tryz.f69) Tryz.call69 (by kernel_rfl) (by kernel_rfl) (by kernel_rfl) (q := choSpec) (by decide) fun S x h => cho_ok S x.1 x.2.1 x.2.2.1 h
theorem cho_ro : choSpec.Ro := ⟨fun _ _ => rfl, fun _ => rfl, fun _ _ => rfl, fun _ => rfl, fun _ => rfl⟩
theorem cho_soundR : ConSound Tryz.prog AI 69 choSpec.conR := StepC.soundR cho_ro cho_sound
end Go.Proofs.YtcaoldilmnpjoaaGreat
