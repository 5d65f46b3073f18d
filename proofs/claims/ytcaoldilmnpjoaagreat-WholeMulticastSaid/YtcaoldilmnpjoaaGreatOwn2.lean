/-
  Part Own2 of the proof.
-/
import Derived.Test.YtcaoldilmnpjoaaGreatOwn1
namespace Go.Proofs.YtcaoldilmnpjoaaGreat
set_option linter.all false
open Go.RowKit Go.Sx
set_option maxRecDepth 100000
set_option maxHeartbeats 16000000
def fE : aB := ⟨[.cell I64], fun (x : (Int) × Unit) => (x.1 = 1) ∨ (x.1 = 2) ∨ (x.1 = 3), [.cell U64], fun (x : (Int) × Unit) => if x.1 = 1 then (1, ()) else if x.1 = 2 then (2, ()) else (3, ())⟩
theorem size_ok (a0 : Int) (h : fE.pre (a0, ())) : bQ Tryz.prog AI 58 (dM fE.ds (fun _ => (a0, ()))) [] (ag (svs fE.rs (fun _ => fE.f (a0, ())))) [] := by
 dsimp only [fE] at h ⊢
 rcases h with rfl | rfl | rfl
 all_goals
  (refine av ai mixed (fn := Tryz.f58) (c := aS Tryz.f58) (by kernel_rfl) (by kernel_rfl) (by kernel_rfl) (Nat.le_of_ble_eq_true (by kernel_rfl)) ?_
   refine Pq ?_
   with_reducible repeat' (first | exact True.intro | refine Ca ?_ | refine Cb ?_ | refine Cd ?_ | refine Ce ?_ | refine Cm ?_ ?_ | (first | refine Bo (fun hk h => ?_) fun hk h => ?_ | refine Al (fun hk h => ?_) fun hk h => ?_) <;> (try (have hb : (_ : Bool) = _ := h; clear h; subst hb)) <;> (try replace hr := hri hr) <;> first | exact Dd | refine Nx ?_)
   all_goals first | with_reducible refine Ez ?_ | exact Cl1 | decide +kernel | exact Cl2 | skip
   skip)
theorem wR : aE Tryz.prog AI 58 fE.con := aB.sound Tryz.call58 (fun x h => size_ok x.1 h)
def iI : aB := ⟨[.cell U64, .cell U64], fun (x : (Int) × (Int) × Unit) => (x.1 = 1 ∧ x.2.1 = 3) ∨ (x.1 = 1 ∧ x.2.1 = 2) ∨ (x.1 = 2 ∧ x.2.1 = 3), [.cell U64, .cell U64], fun (x : (Int) × (Int) × Unit) => if x.1 = 1 ∧ x.2.1 = 3 then (0, 3, ()) else if x.1 = 1 ∧ x.2.1 = 2 then (0, 2, ()) else (0, 6, ())⟩
theorem mul_ok (a0 : Int) (a1 : Int) (h : iI.pre (a0, a1, ())) : bQ Tryz.prog AI 62 (dM iI.ds (fun _ => (a0, a1, ()))) [] (ag (svs iI.rs (fun _ => iI.f (a0, a1, ())))) [] := by
 dsimp only [iI] at h ⊢
 rcases h with ⟨rfl, rfl⟩ | ⟨rfl, rfl⟩ | ⟨rfl, rfl⟩
 all_goals
  (refine av ai mixed (fn := Tryz.f62) (c := aS Tryz.f62) (by kernel_rfl) (by kernel_rfl) (by kernel_rfl) (Nat.le_of_ble_eq_true (by kernel_rfl)) ?_
   refine Pq ?_
   with_reducible repeat' (first | exact True.intro | refine Ca ?_ | refine Cb ?_ | refine Cd ?_ | refine Ce ?_ | refine Cm ?_ ?_ | (first | refine Bo (fun hk h => ?_) fun hk h => ?_ | refine Al (fun hk h => ?_) fun hk h => ?_) <;> (try (have hb : (_ : Bool) = _ := h; clear h; subst hb)) <;> (try replace hr := hri hr) <;> first | exact Dd | refine Nx ?_)
   all_goals first | with_reducible refine Ez ?_ | exact Cl1 | decide +kernel | exact Cl2 | skip
   skip)
theorem zh : aE Tryz.prog AI 62 iI.con := aB.sound Tryz.call62 (fun x h => mul_ok x.1 x.2.1 h)
noncomputable abbrev Er1 : Env Ab := ⟨tis, [(62, iI.con), (58, fE.con)] ++ E0.con⟩
theorem er1Ok : aU Tryz.prog AI Er1 := ((ai.add wR).add zh)
def fL : aB := ⟨[.cell I64, .cell U64], fun (x : (Int) × (Int) × Unit) => (x.1 = 1 ∧ x.2.1 = 3) ∨ (x.1 = 1 ∧ x.2.1 = 2), [.cell WE], fun (x : (Int) × (Int) × Unit) => if x.1 = 1 ∧ x.2.1 = 3 then ((false, 0, 3), ()) else ((false, 0, 2), ())⟩
theorem prod_ok (a0 : Int) (a1 : Int) (h : fL.pre (a0, a1, ())) : bQ Tryz.prog AI 59 (dM fL.ds (fun _ => (a0, a1, ()))) [] (ag (svs fL.rs (fun _ => fL.f (a0, a1, ())))) [] := by
 dsimp only [fL] at h ⊢
 rcases h with ⟨rfl, rfl⟩ | ⟨rfl, rfl⟩
 all_goals
  (refine av er1Ok mixed (fn := Tryz.f59) (c := aS Tryz.f59) (by kernel_rfl) (by kernel_rfl) (by kernel_rfl) (Nat.le_of_ble_eq_true (by kernel_rfl)) ?_
   refine Pq ?_
   with_reducible repeat' (first | exact True.intro | refine Ca ?_ | refine Cb ?_ | refine Cd ?_ | refine Ce ?_ | refine Cm ?_ ?_ | (first | refine Bo (fun hk h => ?_) fun hk h => ?_ | refine Al (fun hk h => ?_) fun hk h => ?_) <;> (try (have hb : (_ : Bool) = _ := h; clear h; subst hb)) <;> (try replace hr := hri hr) <;> first | exact Dd | refine Nx ?_)
   all_goals first | with_reducible refine Ez ?_ | exact Cl1 | decide +kernel | exact Cl2 | skip
   skip)
theorem wV : aE Tryz.prog AI 59 fL.con := aB.sound Tryz.call59 (fun x h => prod_ok x.1 x.2.1 h)
def iS : aB := ⟨[.cell U64, .cell U64, .cell U64], fun (x : (Int) × (Int) × (Int) × Unit) => (x.1 = 0 ∧ x.2.1 = 5 ∧ x.2.2.1 = 1), [.cell U64, .cell U64], fun (x : (Int) × (Int) × (Int) × Unit) => (5, 0, ())⟩
theorem div_ok (a0 : Int) (a1 : Int) (a2 : Int) (h : iS.pre (a0, a1, a2, ())) : bQ Tryz.prog AI 103 (dM iS.ds (fun _ => (a0, a1, a2, ()))) [] (ag (svs iS.rs (fun _ => iS.f (a0, a1, a2, ())))) [] := by
 dsimp only [iS] at h ⊢
 rcases h with ⟨rfl, rfl, rfl⟩
 all_goals
  (refine av ai mixed (fn := Tryz.f103) (c := aS Tryz.f103) (by kernel_rfl) (by kernel_rfl) (by kernel_rfl) (Nat.le_of_ble_eq_true (by kernel_rfl)) ?_
   refine Pq ?_
   with_reducible repeat' (first | exact True.intro | refine Ca ?_ | refine Cb ?_ | refine Cd ?_ | refine Ce ?_ | refine Cm ?_ ?_ | (first | refine Bo (fun hk h => ?_) fun hk h => ?_ | refine Al (fun hk h => ?_) fun hk h => ?_) <;> (try (have hb : (_ : Bool) = _ := h; clear h; subst hb)) <;> (try replace hr := hri hr) <;> first | exact Dd | refine Nx ?_)
   all_goals first | with_reducible refine Ez ?_ | exact Cl1 | decide +kernel | exact Cl2 | skip
   skip)
theorem A6 : aE Tryz.prog AI 103 iS.con := aB.sound Tryz.call103 (fun x h => div_ok x.1 x.2.1 x.2.2.1 h)
noncomputable abbrev Er2 : Env Ab := ⟨tis, [(103, iS.con)] ++ Er1.con⟩
theorem er2Ok : aU Tryz.prog AI Er2 := (er1Ok.add A6)
def ew : aB := ⟨[.cell WE, .cell U64], fun (x : (Bool × Int × Int) × (Int) × Unit) => (x.1 = (false, 0, 5) ∧ x.2.1 = 1), [.cell WE, .cell U64], fun (x : (Bool × Int × Int) × (Int) × Unit) => ((false, 0, 5), 0, ())⟩
theorem wdiv_ok (a0 : Bool × Int × Int) (a1 : Int) (h : ew.pre (a0, a1, ())) : bQ Tryz.prog AI 61 (dM ew.ds (fun _ => (a0, a1, ()))) [] (ag (svs ew.rs (fun _ => ew.f (a0, a1, ())))) [] := by
 dsimp only [ew] at h ⊢
 rcases h with ⟨rfl, rfl⟩
 all_goals
  (refine av er2Ok mixed (fn := Tryz.f61) (c := aS Tryz.f61) (by kernel_rfl) (by kernel_rfl) (by kernel_rfl) (Nat.le_of_ble_eq_true (by kernel_rfl)) ?_
   refine Pq ?_
   with_reducible repeat' (first | exact True.intro | refine Ca ?_ | refine Cb ?_ | refine Cd ?_ | refine Ce ?_ | refine Cm ?_ ?_ | (first | refine Bo (fun hk h => ?_) fun hk h => ?_ | refine Al (fun hk h => ?_) fun hk h => ?_) <;> (try (have hb : (_ : Bool) = _ := h; clear h; subst hb)) <;> (try replace hr := hri hr) <;> first | exact Dd | refine Nx ?_)
   all_goals first | with_reducible refine Ez ?_ | exact Cl1 | decide +kernel | exact Cl2 | skip
   skip)
theorem wD : aE Tryz.prog AI 61 ew.con := aB.sound Tryz.call61 (fun x h => wdiv_ok x.1 x.2.1 h)
def fU : aB := ⟨[.cell WE], fun (x : (Bool × Int × Int) × Unit) => (x.1 = (false, 0, 5)) ∨ (x.1 = (false, 0, 6)), [.cell .bool], fun (x : (Bool × Int × Int) × Unit) => if x.1 = (false, 0, 5) then (true, ()) else (true, ())⟩
theorem fits_ok (a0 : Bool × Int × Int) (h : fU.pre (a0, ())) : bQ Tryz.prog AI 104 (dM fU.ds (fun _ => (a0, ()))) [] (ag (svs fU.rs (fun _ => fU.f (a0, ())))) [] := by
 dsimp only [fU] at h ⊢
 rcases h with rfl | rfl
 all_goals
  (refine av ai mixed (fn := Tryz.f104) (c := aS Tryz.f104) (by kernel_rfl) (by kernel_rfl) (by kernel_rfl) (Nat.le_of_ble_eq_true (by kernel_rfl)) ?_
   refine Pq ?_
   with_reducible repeat' (first | exact True.intro | refine Ca ?_ | refine Cb ?_ | refine Cd ?_ | refine Ce ?_ | refine Cm ?_ ?_ | (first | refine Bo (fun hk h => ?_) fun hk h => ?_ | refine Al (fun hk h => ?_) fun hk h => ?_) <;> (try (have hb : (_ : Bool) = _ := h; clear h; subst hb)) <;> (try replace hr := hri hr) <;> first | exact Dd | refine Nx ?_)
   all_goals first | with_reducible refine Ez ?_ | exact Cl1 | decide +kernel | exact Cl2 | skip
   skip)
theorem x5 : aE Tryz.prog AI 104 fU.con := aB.sound Tryz.call104 (fun x h => fits_ok x.1 h)
def gx : aB := ⟨[.cell WE], fun (x : (Bool × Int × Int) × Unit) => (x.1 = (false, 0, 5)) ∨ (x.1 = (false, 0, 6)), [.cell I64], fun (x : (Bool × Int × Int) × Unit) => if x.1 = (false, 0, 5) then (5, ()) else (6, ())⟩
theorem sgn_ok (a0 : Bool × Int × Int) (h : gx.pre (a0, ())) : bQ Tryz.prog AI 105 (dM gx.ds (fun _ => (a0, ()))) [] (ag (svs gx.rs (fun _ => gx.f (a0, ())))) [] := by
 dsimp only [gx] at h ⊢
 rcases h with rfl | rfl
 all_goals
  (refine av ai mixed (fn := Tryz.f105) (c := aS Tryz.f105) (by kernel_rfl) (by kernel_rfl) (by kernel_rfl) (Nat.le_of_ble_eq_true (by kernel_rfl)) ?_
   refine Pq ?_
   with_reducible repeat' (first | exact True.intro | refine Ca ?_ | refine Cb ?_ | refine Cd ?_ | refine Ce ?_ | refine Cm ?_ ?_ | (first | refine Bo (fun hk h => ?_) fun hk h => ?_ | refine Al (fun hk h => ?_) fun hk h => ?_) <;> (try (have hb : (_ : Bool) = _ := h; clear h; subst hb)) <;> (try replace hr := hri hr) <;> first | exact Dd | refine Nx ?_)
   all_goals first | with_reducible refine Ez ?_ | exact Cl1 | decide +kernel | exact Cl2 | skip
   skip)
theorem z7 : aE Tryz.prog AI 105 gx.con := aB.sound Tryz.call105 (fun x h => sgn_ok x.1 h)
noncomputable abbrev Er3 : Env Ab := ⟨tis, [(105, gx.con), (104, fU.con)] ++ Er2.con⟩
theorem er3Ok : aU Tryz.prog AI Er3 := ((er2Ok.add x5).add z7)
def hZ : aB := ⟨[.cell WE, .cell WE], fun (x : (Bool × Int × Int) × (Bool × Int × Int) × Unit) => (x.1 = (false, 0, 5) ∧ x.2.1 = (false, 0, 6)), [.cell xY, .cell I64], fun (x : (Bool × Int × Int) × (Bool × Int × Int) × Unit) => ((5, 6), 0, ())⟩
theorem res_ok (a0 : Bool × Int × Int) (a1 : Bool × Int × Int) (h : hZ.pre (a0, a1, ())) : bQ Tryz.prog AI 63 (dM hZ.ds (fun _ => (a0, a1, ()))) [] (ag (svs hZ.rs (fun _ => hZ.f (a0, a1, ())))) [] := by
 dsimp only [hZ] at h ⊢
 rcases h with ⟨rfl, rfl⟩
 all_goals
  (refine av er3Ok mixed (fn := Tryz.f63) (c := aS Tryz.f63) (by kernel_rfl) (by kernel_rfl) (by kernel_rfl) (Nat.le_of_ble_eq_true (by kernel_rfl)) ?_
   refine Pq ?_
   with_reducible repeat' (first | exact True.intro | refine Ca ?_ | refine Cb ?_ | refine Cd ?_ | refine Ce ?_ | refine Cm ?_ ?_ | (first | refine Bo (fun hk h => ?_) fun hk h => ?_ | refine Al (fun hk h => ?_) fun hk h => ?_) <;> (try (have hb : (_ : Bool) = _ := h; clear h; subst hb)) <;> (try replace hr := hri hr) <;> first | exact Dd | refine Nx ?_)
   all_goals first | with_reducible refine Ez ?_ | exact Cl1 | decide +kernel | exact Cl2 | skip
   skip)
theorem zM : aE Tryz.prog AI 63 hZ.con := aB.sound Tryz.call63 (fun x h => res_ok x.1 x.2.1 h)
def fN : aB := ⟨[.cell xY], fun (x : (Int × Int) × Unit) => (x.1 = (1, 2)) ∨ (x.1 = (1, 3)), [.cell xY], fun (x : (Int × Int) × Unit) => if x.1 = (1, 2) then ((1, 2), ()) else ((1, 3), ())⟩
theorem norm_ok (a0 : Int × Int) (h : fN.pre (a0, ())) : bQ Tryz.prog AI 56 (dM fN.ds (fun _ => (a0, ()))) [] (ag (svs fN.rs (fun _ => fN.f (a0, ())))) [] := by
 dsimp only [fN] at h ⊢
 rcases h with rfl | rfl
 all_goals
  (refine av ai mixed (fn := Tryz.f56) (c := aS Tryz.f56) (by kernel_rfl) (by kernel_rfl) (by kernel_rfl) (Nat.le_of_ble_eq_true (by kernel_rfl)) ?_
   refine Pq ?_
   with_reducible repeat' (first | exact True.intro | refine Ca ?_ | refine Cb ?_ | refine Cd ?_ | refine Ce ?_ | refine Cm ?_ ?_ | (first | refine Bo (fun hk h => ?_) fun hk h => ?_ | refine Al (fun hk h => ?_) fun hk h => ?_) <;> (try (have hb : (_ : Bool) = _ := h; clear h; subst hb)) <;> (try replace hr := hri hr) <;> first | exact Dd | refine Nx ?_)
   all_goals first | with_reducible refine Ez ?_ | exact Cl1 | decide +kernel | exact Cl2 | skip
   skip)
theorem iE : aE Tryz.prog AI 56 fN.con := aB.sound Tryz.call56 (fun x h => norm_ok x.1 h)
structure Lg (g : Nat) where
 a : Int
 b : Int
 a0 : 0 ≤ a ∧ a < 4294967296
 b0 : 0 ≤ b ∧ b < 4294967296
 eq : Int.gcd a b = g
theorem Lg.step {g : Nat} (x : Lg g) (h : ¬ x.b = 0) : ∃ y : Lg g, y.a = x.b ∧ y.b = x.a % x.b ∧ y.b < x.b := by
 have h1 := x.a0; have h2 := x.b0
 have h3 : 0 ≤ x.a % x.b := Int.emod_nonneg _ h
 have h4 : x.a % x.b < x.b := Int.emod_lt_of_pos _ (by omega)
 refine ⟨⟨x.b, x.a % x.b, x.b0, ⟨h3, by omega⟩, ?_⟩, rfl, rfl, h4⟩
 refine Eq.trans ?_ x.eq
 show Int.gcd x.b (x.a % x.b) = Int.gcd x.a x.b
 obtain ⟨m, hm⟩ := Int.eq_ofNat_of_zero_le h1.1
 obtain ⟨n, hn⟩ := Int.eq_ofNat_of_zero_le h2.1
 rw [hm, hn, show ((m : Int) % (n : Int)) = ((m % n : Nat) : Int) from rfl]
 show Nat.gcd n (m % n) = Nat.gcd m n
 rw [Nat.gcd_comm, Nat.gcd_comm m n]
 exact (Nat.gcd_rec n m).symm
theorem Lg.done {g : Nat} (x : Lg g) (h : x.b = 0) : x.a = (g : Int) := by
 have h1 := x.a0
 have e := x.eq
 rw [h, Int.gcd_zero_right] at e; omega
def nP (a b : Int) : Tup [DT.cell U64] := (((Int.gcd a b : Nat) : Int), ())
def lr : aB := ⟨[.cell U64, .cell U64], fun (x : Int × Int × Unit) => (0 ≤ x.1 ∧ x.1 < 4294967296) ∧ (0 ≤ x.2.1 ∧ x.2.1 < 4294967296), [.cell U64], fun (x : Int × Int × Unit) => nP x.1 x.2.1⟩
theorem gcd_ok (a : Int) (b : Int) (h : lr.pre (a, b, ())) : PTk Tryz.prog AI 57 lr (a, b, ()) := by
 dsimp only [PTk, lr] at h ⊢
 generalize hr : nP a b = r
 obtain ⟨h0, h1⟩ := h
 dsimp only [nP] at hr
 refine Tb ai mixed (fn := Tryz.f57) ?_
 refine Pq ?_
 with_reducible repeat' (first | exact True.intro | refine Ca ?_ | refine Cb ?_ | refine Cd ?_ | (refine Ce ?_; (try ((repeat (first | rw [ifP] at hr | rw [ifM] at hr | rw [if_pos rfl] at hr)); subst hr))) | refine Cm ?_ ?_ | (first | refine Bo (fun hk h => ?_) fun hk h => ?_ | refine Al (fun hk h => ?_) fun hk h => ?_) <;> (try (have hb : (_ : Bool) = _ := h; clear h; subst hb)) <;> (try replace hr := hri hr) <;> first | exact Dd | refine Nx ?_)
 all_goals first | with_reducible refine Ez ?_ | exact Cl1 | exact Cl2 | skip
 obtain ⟨x0, hx0, hx1⟩ : ∃ x : Lg (Int.gcd a b), x.a = a ∧ x.b = b := ⟨⟨a, b, h0, h1, rfl⟩, rfl, rfl⟩
 refine ⟨⟨Lg (Int.gcd a b), fun x => ⟨[(0, Sx.one (.int .u64 (fun _ => x.a))), (1, Sx.one (.int .u64 (fun _ => x.b)))], []⟩, fun x => x.b.toNat, x0⟩, ?_, fun (x : Lg (Int.gcd a b)) => ?_⟩
 · refine Pq ?_
   with_reducible repeat' first | exact True.intro | refine Ca ?_ | refine Cb ?_ | refine Cd ?_ | refine Ce ?_ | refine Cm ?_ ?_
   all_goals first | with_reducible refine Ez ?_ | exact Cl1 | exact hx0.symm | exact hx1.symm | exact Cl2 | skip
 have hlo := x.a0
 have hhi := x.b0
 refine Pq ?_
 with_reducible repeat' (first | exact True.intro | refine Ca ?_ | refine Cb ?_ | refine Cd ?_ | refine Ce ?_ | refine Cm ?_ ?_ | (first | refine Bo (fun hk h => ?_) fun hk h => ?_ | refine Al (fun hk h => ?_) fun hk h => ?_) <;> (try (have hb : (_ : Bool) = _ := h; clear h; subst hb)) <;> (try replace hr := hri hr) <;> first | exact Dd | refine Nx ?_)
 all_goals first | with_reducible refine Ez ?_ | exact Cl1 | (subst hr; exact x.done (by assumption)) | exact ⟨hlo.1, by omega, by omega⟩ | exact Cl2 | skip
 obtain ⟨y, hy1, hy2, hy3⟩ := x.step (by assumption)
 refine ⟨y, by (try dsimp only); omega, ?_⟩
 refine Pq ?_
 with_reducible repeat' first | exact True.intro | refine Ca ?_ | refine Cb ?_ | refine Cd ?_ | refine Ce ?_ | refine Cm ?_ ?_
 all_goals first | with_reducible refine Ez ?_ | exact Cl1 | exact hy1.symm | exact hy2.symm | exact Cl2 | skip
theorem zw : aE Tryz.prog AI 57 lr.con := aB.sound Tryz.call57 (fun x h => gcd_ok x.1 x.2.1 h)
noncomputable abbrev Er4 : Env Ab := ⟨tis, [(57, lr.con)] ++ Er3.con⟩
theorem er4Ok : aU Tryz.prog AI Er4 := (er3Ok.add zw)
def fG : aB := ⟨[.cell xY], fun (x : (Int × Int) × Unit) => (x.1 = (1, 2)) ∨ (x.1 = (1, 3)), [.cell .bool], fun (x : (Int × Int) × Unit) => if x.1 = (1, 2) then (true, ()) else (true, ())⟩
theorem rval_ok (a0 : Int × Int) (h : fG.pre (a0, ())) : bQ Tryz.prog AI 55 (dM fG.ds (fun _ => (a0, ()))) [] (ag (svs fG.rs (fun _ => fG.f (a0, ())))) [] := by
 dsimp only [fG] at h ⊢
 rcases h with rfl | rfl
 all_goals
  (refine av er4Ok mixed (fn := Tryz.f55) (c := aS Tryz.f55) (by kernel_rfl) (by kernel_rfl) (by kernel_rfl) (Nat.le_of_ble_eq_true (by kernel_rfl)) ?_
   refine Pr ?_
   (try (conv in (SS.mk _ _) => dsimp only [nP]))
   refine Nx ?_
   with_reducible repeat' (first | exact True.intro | refine Ca ?_ | refine Cb ?_ | refine Cd ?_ | refine Ce ?_ | refine Cm ?_ ?_ | (first | refine Bo (fun hk h => ?_) fun hk h => ?_ | refine Al (fun hk h => ?_) fun hk h => ?_) <;> (try dsimp only [nP] at h) <;> (try simp only [natCast_eq] at h) <;> (try (have hb : (_ : Bool) = _ := h; clear h; subst hb)) <;> (try replace hr := hri hr) <;> first | exact Dd | refine Nx ?_)
   all_goals first | with_reducible refine Ez ?_ | exact Cl1 | (dsimp only [nP]; exact Cl1) | decide +kernel | exact Cl2 | (dsimp only [nP]; exact Cl2) | (dsimp only [nP] at *; exact Cl2) | skip
   skip)
theorem wS : aE Tryz.prog AI 55 fG.con := aB.sound Tryz.call55 (fun x h => rval_ok x.1 h)
noncomputable abbrev Er5 : Env Ab := ⟨tis, [(63, hZ.con), (61, ew.con), (60, jw.con), (59, fL.con), (56, fN.con), (55, fG.con)] ++ Er4.con⟩
theorem er5Ok : aU Tryz.prog AI Er5 := ((((((er4Ok.add wS).add iE).add wV).add AO).add wD).add zM)
def fK : aB := ⟨[.cell xY, .cell xY], fun (x : (Int × Int) × (Int × Int) × Unit) => (x.1 = (1, 2) ∧ x.2.1 = (1, 3)), [.cell xY, .cell I64], fun (x : (Int × Int) × (Int × Int) × Unit) => ((5, 6), 0, ())⟩
theorem radd_ok (a0 : Int × Int) (a1 : Int × Int) (h : fK.pre (a0, a1, ())) : bQ Tryz.prog AI 19 (dM fK.ds (fun _ => (a0, a1, ()))) [] (ag (svs fK.rs (fun _ => fK.f (a0, a1, ())))) [] := by
 dsimp only [fK] at h ⊢
 rcases h with ⟨rfl, rfl⟩
 all_goals
  (refine av er5Ok mixed (fn := Tryz.f19) (c := aS Tryz.f19) (by kernel_rfl) (by kernel_rfl) (by kernel_rfl) (Nat.le_of_ble_eq_true (by kernel_rfl)) ?_
   refine Pr ?_
   (try (conv in (SS.mk _ _) => dsimp only [nP]))
   refine Nx ?_
   with_reducible repeat' (first | exact True.intro | refine Ca ?_ | refine Cb ?_ | refine Cd ?_ | refine Ce ?_ | refine Cm ?_ ?_ | (first | refine Bo (fun hk h => ?_) fun hk h => ?_ | refine Al (fun hk h => ?_) fun hk h => ?_) <;> (try dsimp only [nP] at h) <;> (try simp only [natCast_eq] at h) <;> (try (have hb : (_ : Bool) = _ := h; clear h; subst hb)) <;> (try replace hr := hri hr) <;> first | exact Dd | refine Nx ?_)
   all_goals first | with_reducible refine Ez ?_ | exact Cl1 | (dsimp only [nP]; exact Cl1) | decide +kernel | exact Cl2 | (dsimp only [nP]; exact Cl2) | (dsimp only [nP] at *; exact Cl2) | skip
   skip)
theorem wU : aE Tryz.prog AI 19 fK.con := aB.sound Tryz.call19 (fun x h => radd_ok x.1 x.2.1 h)
noncomputable abbrev Er6 : Env Ab := ⟨tis, [(19, fK.con)] ++ E0.con⟩
theorem er6Ok : aU Tryz.prog AI Er6 := (ai.add wU)
def cJ : Tup [DT.cell .bool] := (true, ())
def js : aB := ⟨[], fun _ => True, [.cell .bool], fun _ => cJ⟩
theorem awk_ok : bQ Tryz.prog AI 5 (dM js.ds (fun _ => ())) [] (ag (svs js.rs (fun _ => js.f ()))) [] := by
 dsimp only [js, cJ]
 refine av er6Ok mixed (fn := Tryz.f5) (c := aS Tryz.f5) (by kernel_rfl) (by kernel_rfl) (by kernel_rfl) (Nat.le_of_ble_eq_true (by kernel_rfl)) ?_
 refine Pq ?_
 with_reducible repeat' (first | exact True.intro | refine Ca ?_ | refine Cb ?_ | refine Cd ?_ | refine Ce ?_ | refine Cm ?_ ?_ | (first | refine Bo (fun hk h => ?_) fun hk h => ?_ | refine Al (fun hk h => ?_) fun hk h => ?_) <;> (try (have hb : (_ : Bool) = _ := h; clear h; subst hb)) <;> (try replace hr := hri hr) <;> first | exact Dd | refine Nx ?_)
 all_goals first | with_reducible refine Ez ?_ | exact Cl1 | decide +kernel | exact Cl2 | skip
theorem AL : aE Tryz.prog AI 5 js.con := aB.sound Tryz.call5 (fun x h => awk_ok)
end Go.Proofs.YtcaoldilmnpjoaaGreat
