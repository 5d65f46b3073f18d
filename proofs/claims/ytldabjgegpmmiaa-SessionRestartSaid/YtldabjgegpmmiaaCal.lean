/-
  Layer 47: the method calm of a pair.
-/
import Derived.Test.YtldabjgegpmmiaaGdp
namespace Go.Proofs.Ytldabjgegpmmiaa
set_option linter.all false
set_option linter.unusedVariables false
set_option linter.unusedSimpArgs false
set_option linter.unusedSectionVars false
open Go.RowKit Go.Sx
set_option maxRecDepth 100000
set_option maxHeartbeats 16000000
theorem GoodP.okE {S : Pr} {n k : Nat} (h : GoodP S n k) : OkE S.e0 ∧ OkE S.e1 := ⟨h.e0.ok, h.e1.ok⟩
theorem GoodP.lens {S : Pr} {n k : Nat} (h : GoodP S n k) (hn : n ≤ 1000000) : S.f0.length ≤ 1000000 ∧ S.f1.length ≤ 1000000 := by have := h.fl; omega
theorem GoodP.lenr {S : Pr} {n k : Nat} (h : GoodP S n k) (hn : k ≤ 1000000) : S.r0.length ≤ 1000000 ∧ S.r1.length ≤ 1000000 := by have := h.r0; have := h.r1; omega
theorem GoodP.lenw {S : Pr} {n k : Nat} (h : GoodP S n k) : S.w0.length ≤ 2000000 ∧ S.w1.length ≤ 2000000 := by have := h.e0.w.len; have := h.e1.w.len; omega
theorem GoodP.preT {S : Pr} {n k : Nat} (h : GoodP S n k) (hn : n ≤ 1000000) (m : Int) : ptickSpec.pre S (m, ()) := ⟨h.okE, h.lens hn⟩
theorem GoodP.preA {S : Pr} {n k : Nat} (h : GoodP S n k) (hn : n ≤ 1000000) {i a : Int} (hi : i = 0 ∨ i = 1) (h0 : 0 ≤ a ∧ a ≤ 1000000) (b : Bool) : parSpec.pre S (i, a, b, ()) :=
  ⟨hi, h.okE, h.lens hn, h0, fun m hm => (h.m0 m hm).1, fun m hm => (h.m1 m hm).1⟩
theorem GoodP.preR {S : Pr} {n k : Nat} (h : GoodP S n k) (hk : k ≤ 1000000) {i m : Int} (hi : i = 0 ∨ i = 1) (hm : m ≤ 1000) : prdSpec.pre S (i, m, ()) := ⟨hi, h.okE, h.lenr hk, hm⟩
theorem GoodP.preW {S : Pr} {n k : Nat} (h : GoodP S n k) {i : Int} (hi : i = 0 ∨ i = 1) {l : List Int} (hl : l.length ≤ 1000) : pwrSpec.pre S (i, l, ()) := ⟨hi, h.okE, h.lenw, hl⟩
/-- One arrival at each end. -/
def arr2 (S : Pr) : Pr := (paF (paF S 0 0 false).2 1 0 false).2
def calI : Nat → Pr → Pr
  | 0, S => S
  | n + 1, S => if (S.f0.length : Int) + (S.f1.length : Int) = 0 then S else calI n (arr2 S)
def rd2 (S : Pr) : Pr := (prF (prF S 0 100).2 1 100).2
def calR (S : Pr) : Pr := rd2 (calI 400 (ptickF S 9).2)
def calN : Nat → Pr → Pr
  | 0, S => S
  | n + 1, S => calR (calN n S)
theorem GoodP.arr2 {S : Pr} {n k : Nat} (h : GoodP S n k) : GoodP (Go.Proofs.Ytldabjgegpmmiaa.arr2 S) n k := (h.arr 0 0 false).arr 1 0 false
theorem GoodP.calI {n k : Nat} : ∀ (j : Nat) {S : Pr}, GoodP S n k → GoodP (Go.Proofs.Ytldabjgegpmmiaa.calI j S) n k
  | 0, S, h => h
  | j + 1, S, h => by
    unfold Go.Proofs.Ytldabjgegpmmiaa.calI
    split
    · exact h
    · exact GoodP.calI j h.arr2
theorem GoodP.rd2 {S : Pr} {n k : Nat} (h : GoodP S n k) : GoodP (Go.Proofs.Ytldabjgegpmmiaa.rd2 S) n (k + 200) := (h.rd 0 100 (Int.le_refl _)).rd 1 100 (Int.le_refl _)
theorem GoodP.calR {S : Pr} {n k : Nat} (h : GoodP S n k) : GoodP (Go.Proofs.Ytldabjgegpmmiaa.calR S) (n + 4) (k + 200) := ((h.tick 9).calI 400).rd2
theorem GoodP.calN {n k : Nat} : ∀ (j : Nat) {S : Pr}, GoodP S n k → GoodP (Go.Proofs.Ytldabjgegpmmiaa.calN j S) (n + 4 * j) (k + 200 * j)
  | 0, S, h => h
  | j + 1, S, h => (GoodP.calN j h).calR
/-- The rounds of calm. -/
structure LCo (S0 : Pr) (t : Int) where
  i : Nat
  S : Pr
  hi : (i : Int) ≤ t
  hS : S = calN i S0
theorem LCo.next {S0 : Pr} {t : Int} (x : LCo S0 t) (h : (x.i : Int) < t) : ∃ y : LCo S0 t, (y.i : Int) = x.i + 1 ∧ y.S = calR x.S :=
  ⟨⟨x.i + 1, calR x.S, by omega, by rw [x.hS]; rfl⟩, by show ((x.i + 1 : Nat) : Int) = _; omega, rfl⟩
theorem LCo.done {S0 : Pr} {t : Int} (x : LCo S0 t) (h : ¬ (x.i : Int) < t) : x.S = calN t.toNat S0 := by
  have := x.hi
  rw [x.hS, show x.i = t.toNat by omega]
/-- The arrivals of one round. -/
structure LCi (S1 : Pr) (n k : Nat) where
  j : Nat
  S : Pr
  hj : j ≤ 400
  hS : calI (400 - j) S = calI 400 S1
  good : GoodP S n k
theorem LCi.next {S1 : Pr} {n k : Nat} (x : LCi S1 n k) (h : (x.j : Int) < 400) (h0 : ¬ (x.S.f0.length : Int) + (x.S.f1.length : Int) = 0) : ∃ y : LCi S1 n k, (y.j : Int) = x.j + 1 ∧ y.S = (paF (paF x.S 0 0 false).2 1 0 false).2 :=
  ⟨⟨x.j + 1, arr2 x.S, by omega, by
    have e := x.hS
    rw [show 400 - x.j = (400 - (x.j + 1)) + 1 by omega] at e
    unfold calI at e
    rw [if_neg h0] at e
    exact e, x.good.arr2⟩, by show ((x.j + 1 : Nat) : Int) = _; omega, rfl⟩
theorem LCi.stop {S1 : Pr} {n k : Nat} (x : LCi S1 n k) (h0 : (x.S.f0.length : Int) + (x.S.f1.length : Int) = 0) : x.S = calI 400 S1 := by
  rw [← x.hS]
  cases 400 - x.j with
  | zero => rfl
  | succ j => unfold calI; rw [if_pos h0]
theorem LCi.done {S1 : Pr} {n k : Nat} (x : LCi S1 n k) (h : ¬ (x.j : Int) < 400) : x.S = calI 400 S1 := by
  have := x.hj
  rw [← x.hS, show 400 - x.j = 0 by omega]; rfl
def pcalF (S : Pr) (t : Int) : T0 × Pr := ((), calN t.toNat S)
noncomputable abbrev Epc : Env Ab := ⟨tis, [(39, prdSpec.con), (15, pwrSpec.con), (14, parSpec.con), (13, ptickSpec.con)] ++ E0.con⟩
theorem epcOk : EnvOk Try.prog AI Epc := ((((e0Ok.add ptick_sound).add par_sound).add pwr_sound).add prd_sound)
def pcalSpec : StepM Ab Pr := ⟨parL, [.cell (.int .i64)], fun S (x : Int × Unit) => GoodP S 100000 100000 ∧ 0 ≤ x.1 ∧ x.1 ≤ 400, [], fun S (x : Int × Unit) => (pcalF S x.1).1, fun S (x : Int × Unit) => (pcalF S x.1).2⟩
theorem pcal_ok (S : Pr) (t : Int) (h : pcalSpec.pre S (t, ())) : ∃ args : List SV, args.length + 1 ≤ Try.f16.ntmps ∧ args.all (belV (parL).k) = true ∧ (∀ (ρ : Ev) us, All2 (Den ρ) (argS [.cell (.int .i64)] (fun _ => (t, ()))) us → All2 (Den ρ) args us) ∧ (svc Epc (parL).k (bodyOf Try.f16) ⟨argT 0 (Sx.one (.ptr 0 0) :: args), (parL).opn (fun _ => S)⟩ (finP Epc.ti (parL).k Try.f16.results.toList (resOf (svs pcalSpec.rs (fun _ => pcalSpec.f S (t, ())))) ((parL).opn (fun _ => pcalSpec.next S (t, ())))) ∨ svc Epc (parL).k (bodyOf Try.f16) ⟨argT 0 (Sx.one (.ptr 0 0) :: args), (parL).opn (fun _ => S)⟩ (finR Epc.ti (parL).k Try.f16.results.toList (resOf (svs pcalSpec.rs (fun _ => pcalSpec.f S (t, ())))) ((parL).opn (fun _ => pcalSpec.next S (t, ()))))) := by
  dsimp only [pcalSpec, parL] at h ⊢
  obtain ⟨hg, ht0, ht1⟩ := h
  refine ⟨argS [.cell (.int .i64)] (fun _ => (t, ())), Nat.le_of_ble_eq_true (by kernel_rfl), rfl, (fun ρ us hd => hd), .inl ?_⟩
  generalize hr : pcalF S t = r
  dsimp only [pcalF] at hr
  (try (conv in (LoopInv.inv _ _) => dsimp only)); (try (conv in (SS.mk _ _) => cbv; (try dsimp only [ptickSpec, parSpec, prdSpec, Ty.T, Ty.dflt, KT.T]); (try simp only [natCast_eq])))
  (with_reducible refine (?_ : T1 _ ?_) ?_; rotate_left 1; (conv => lhs; cbv; (try cbv); (try cbv)); intro hT; clear hT; with_reducible refine Sh.mk (by kernel_rfl) ?_)
  repeat' (first
    | with_reducible (first | refine Ck.mk (C := tt) tt_intro ?_ | refine Ck.mk (show drawOk _ _ = true by kernel_rfl) ?_ | refine Ck.all_cons ?_ | refine Ck.all_nil ?_ | refine Ck.mk (by assumption) ?_ | refine Ck.mk (decide_eq_true (by assumption)) ?_ | refine Ck.mk (decide_eq_false (by assumption)) ?_ | refine Ck.mk ?_ ?_)
    | (with_reducible (first | refine Both.mk (fun h => ?_) (fun h => ?_) | refine Alt.mk (fun h => ?_) (fun h => ?_) | refine Pick.mk (fun h => ?_) (fun l1 x l2 h => ?_)) <;> (have hk := h) <;> (try simp only [nrm, reduceCtorEq, pair_eta, map_idL] at h) <;> (try dsimp only [ptickSpec, parSpec, prdSpec, Ty.T, Ty.dflt, KT.T, getM, putM, delM] at h) <;> (try simp only [natCast_eq] at h) <;> skip <;> (try first | rw [if_pos h] at hr | rw [if_neg h] at hr | rw [ifF h] at hr | rw [ifN h] at hr) <;> (try (have hb : (_ : Bool) = _ := h; clear h; subst hb; (try first | rw [if_pos rfl] at hr | rw [if_neg Bool.false_ne_true] at hr))) <;> first | (exfalso; omega) | exact absurd (h.symm.trans (by assumption) : true = false) Bool.noConfusion | exact absurd (h.symm.trans (by assumption) : false = true) Bool.noConfusion | (with_reducible refine (?_ : T1 _ ?_) ?_; rotate_left 1; (conv => lhs; cbv; (try cbv); (try cbv)); intro hT; clear hT; with_reducible refine Sh.mk (by kernel_rfl) ?_))
    | ((with_reducible refine End.mk ?_); (try ((repeat (first | rw [if_pos (by first | assumption | omega)] at hr | rw [if_neg (by first | assumption | omega | (simp only [Bool.false_eq_true, Bool.true_eq_false, reduceCtorEq, not_false_eq_true]; done) | (simp only [Bool.not_eq_true]; assumption) | (simp only [Bool.not_eq_false]; assumption))] at hr | rw [if_pos rfl] at hr)); subst hr)))
    | with_reducible exact True.intro)
  all_goals first
    | (fail_if_success (with_reducible refine Exists.intro ?_ ?_)
       first
         | with_reducible rfl
         | with_reducible assumption
         | (symm; with_reducible assumption)
         | omega
         | ((try dsimp only [ptickSpec, parSpec, prdSpec, Ty.T, Ty.dflt, KT.T, getM, putM, delM, inI64, maxRow]); first | done | with_reducible rfl | with_reducible assumption | (symm; with_reducible assumption) | ((try simp only [natCast_eq, List.nil_append]); first | done | with_reducible rfl | omega | exact take_cg (by omega) | exact drop_cg (by omega) | exact take_drop_cg (by omega) (by omega) | exact take_all (by omega) | exact take_drop_all (by omega) (by omega) | exact drop_take_cg (by omega) (by omega) (by omega)))
         | ((try dsimp only [ptickSpec, parSpec, prdSpec, Ty.T, Ty.dflt, KT.T, getM, putM, delM, inI64, maxRow]); first | (simp only [nrm, reduceCtorEq, pair_eta, map_idL, natCast_eq, inI64, maxRow]; first | done | with_reducible assumption | omega) | exact map_pair_id _)
         | ((try dsimp only [ptickSpec, parSpec, prdSpec, Ty.T, Ty.dflt, KT.T, getM, putM, delM, inI64, maxRow] at *); first | ((try simp only [natCast_eq] at *) <;> omega) | ((try simp only [lens, natCast_eq] at *) <;> omega))
         | assumption
         | (symm; assumption)
         | (dsimp only; simp only [nrb, *]; done)
         | (simp; done)
         | (and_intros <;> first | trivial | with_reducible assumption | omega)
         | ((try dsimp only [ptickSpec, parSpec, prdSpec, Ty.T, Ty.dflt, KT.T, getM, putM, delM, inI64, maxRow] at *) <;> simp [*] <;> done))
    | skip
  obtain ⟨x0, hx0, hx1⟩ : ∃ x : LCo S t, (x.i : Int) = 0 ∧ x.S = S := ⟨⟨0, S, by omega, rfl⟩, rfl, rfl⟩
  refine ⟨⟨LCo S t, fun x => ⟨[(0, Sx.one (.ptr 0 0)), (4, Sx.one (.int .i64 (fun _ => t))), (5, Sx.one (.int .i64 (fun _ => (x.i : Int))))], parC (fun _ => x.S)⟩, fun x => (t - x.i).toNat, x0⟩, ?_, fun (x : LCo S t) => ?_⟩
  · (try (conv in (LoopInv.inv _ _) => dsimp only)); (try (conv in (SS.mk _ _) => cbv; (try dsimp only [ptickSpec, parSpec, prdSpec, Ty.T, Ty.dflt, KT.T]); (try simp only [natCast_eq])))
    (with_reducible refine (?_ : T1 _ ?_) ?_; rotate_left 1; (conv => lhs; cbv; (try cbv); (try cbv)); intro hT; clear hT; with_reducible refine Sh.mk (by kernel_rfl) ?_)
    repeat' (first
      | with_reducible (first | refine Ck.mk (C := tt) tt_intro ?_ | refine Ck.mk (show drawOk _ _ = true by kernel_rfl) ?_ | refine Ck.all_cons ?_ | refine Ck.all_nil ?_ | refine Ck.mk (by assumption) ?_ | refine Ck.mk (decide_eq_true (by assumption)) ?_ | refine Ck.mk (decide_eq_false (by assumption)) ?_ | refine Ck.mk ?_ ?_)
      | (with_reducible (first | refine Both.mk (fun h => ?_) (fun h => ?_) | refine Alt.mk (fun h => ?_) (fun h => ?_) | refine Pick.mk (fun h => ?_) (fun l1 x l2 h => ?_)) <;> (have hk := h) <;> (try simp only [nrm, reduceCtorEq, pair_eta, map_idL] at h) <;> (try dsimp only [ptickSpec, parSpec, prdSpec, Ty.T, Ty.dflt, KT.T, getM, putM, delM] at h) <;> (try simp only [natCast_eq] at h) <;> skip <;> (try first | rw [if_pos h] at hr | rw [if_neg h] at hr | rw [ifF h] at hr | rw [ifN h] at hr) <;> (try (have hb : (_ : Bool) = _ := h; clear h; subst hb; (try first | rw [if_pos rfl] at hr | rw [if_neg Bool.false_ne_true] at hr))) <;> first | (exfalso; omega) | exact absurd (h.symm.trans (by assumption) : true = false) Bool.noConfusion | exact absurd (h.symm.trans (by assumption) : false = true) Bool.noConfusion | (with_reducible refine (?_ : T1 _ ?_) ?_; rotate_left 1; (conv => lhs; cbv; (try cbv); (try cbv)); intro hT; clear hT; with_reducible refine Sh.mk (by kernel_rfl) ?_))
      | ((with_reducible refine End.mk ?_); skip)
      | with_reducible exact True.intro)
    all_goals first
      | (fail_if_success (with_reducible refine Exists.intro ?_ ?_)
         first
           | with_reducible rfl
           | with_reducible assumption
           | (symm; with_reducible assumption)
           | omega
           | ((try dsimp only [ptickSpec, parSpec, prdSpec, Ty.T, Ty.dflt, KT.T, getM, putM, delM, inI64, maxRow]); first | done | with_reducible rfl | with_reducible assumption | (symm; with_reducible assumption) | ((try simp only [natCast_eq, List.nil_append]); first | done | with_reducible rfl | omega | exact take_cg (by omega) | exact drop_cg (by omega) | exact take_drop_cg (by omega) (by omega) | exact take_all (by omega) | exact take_drop_all (by omega) (by omega) | exact drop_take_cg (by omega) (by omega) (by omega)))
           | first | exact hx0.symm | (rw [hx1]; done)
           | ((try dsimp only [ptickSpec, parSpec, prdSpec, Ty.T, Ty.dflt, KT.T, getM, putM, delM, inI64, maxRow]); first | (simp only [nrm, reduceCtorEq, pair_eta, map_idL, natCast_eq, inI64, maxRow]; first | done | with_reducible assumption | omega) | exact map_pair_id _)
           | ((try dsimp only [ptickSpec, parSpec, prdSpec, Ty.T, Ty.dflt, KT.T, getM, putM, delM, inI64, maxRow] at *); first | ((try simp only [natCast_eq] at *) <;> omega) | ((try simp only [lens, natCast_eq] at *) <;> omega))
           | assumption
           | (symm; assumption)
           | (dsimp only; simp only [nrb, *]; done)
           | (simp; done)
           | (and_intros <;> first | trivial | with_reducible assumption | omega)
           | ((try dsimp only [ptickSpec, parSpec, prdSpec, Ty.T, Ty.dflt, KT.T, getM, putM, delM, inI64, maxRow] at *) <;> simp [*] <;> done))
      | skip
  have hgx : GoodP x.S (100000 + 4 * x.i) (100000 + 200 * x.i) := by rw [x.hS]; exact hg.calN x.i
  have hxi := x.hi
  (try (conv in (LoopInv.inv _ _) => dsimp only)); (try (conv in (SS.mk _ _) => cbv; (try dsimp only [ptickSpec, parSpec, prdSpec, Ty.T, Ty.dflt, KT.T]); (try simp only [natCast_eq])))
  (with_reducible refine (?_ : T1 _ ?_) ?_; rotate_left 1; (conv => lhs; cbv; (try cbv); (try cbv)); intro hT; clear hT; with_reducible refine Sh.mk (by kernel_rfl) ?_)
  repeat' (first
    | with_reducible (first | refine Ck.mk (C := tt) tt_intro ?_ | refine Ck.mk (show drawOk _ _ = true by kernel_rfl) ?_ | refine Ck.all_cons ?_ | refine Ck.all_nil ?_ | refine Ck.mk (by assumption) ?_ | refine Ck.mk (decide_eq_true (by assumption)) ?_ | refine Ck.mk (decide_eq_false (by assumption)) ?_ | refine Ck.mk ?_ ?_)
    | (with_reducible (first | refine Both.mk (fun h => ?_) (fun h => ?_) | refine Alt.mk (fun h => ?_) (fun h => ?_) | refine Pick.mk (fun h => ?_) (fun l1 x l2 h => ?_)) <;> (have hk := h) <;> (try simp only [nrm, reduceCtorEq, pair_eta, map_idL] at h) <;> (try dsimp only [ptickSpec, parSpec, prdSpec, Ty.T, Ty.dflt, KT.T, getM, putM, delM] at h) <;> (try simp only [natCast_eq] at h) <;> skip <;> (try first | rw [if_pos h] at hr | rw [if_neg h] at hr | rw [ifF h] at hr | rw [ifN h] at hr) <;> (try (have hb : (_ : Bool) = _ := h; clear h; subst hb; (try first | rw [if_pos rfl] at hr | rw [if_neg Bool.false_ne_true] at hr))) <;> first | (exfalso; omega) | exact absurd (h.symm.trans (by assumption) : true = false) Bool.noConfusion | exact absurd (h.symm.trans (by assumption) : false = true) Bool.noConfusion | (with_reducible refine (?_ : T1 _ ?_) ?_; rotate_left 1; (conv => lhs; cbv; (try cbv); (try cbv)); intro hT; clear hT; with_reducible refine Sh.mk (by kernel_rfl) ?_))
    | ((with_reducible refine End.mk ?_); skip)
    | with_reducible exact True.intro)
  all_goals first
    | (fail_if_success (with_reducible refine Exists.intro ?_ ?_)
       first
         | with_reducible rfl
         | with_reducible assumption
         | (symm; with_reducible assumption)
         | omega
         | ((try dsimp only [ptickSpec, parSpec, prdSpec, Ty.T, Ty.dflt, KT.T, getM, putM, delM, inI64, maxRow]); first | done | with_reducible rfl | with_reducible assumption | (symm; with_reducible assumption) | ((try simp only [natCast_eq, List.nil_append]); first | done | with_reducible rfl | omega | exact take_cg (by omega) | exact drop_cg (by omega) | exact take_drop_cg (by omega) (by omega) | exact take_all (by omega) | exact take_drop_all (by omega) (by omega) | exact drop_take_cg (by omega) (by omega) (by omega)))
         | first | exact hgx.preT (by omega) _ | (subst hr; (try dsimp only); (try simp only [pair_eta, map_idL]); rw [x.done (by assumption)]; done)
         | ((try dsimp only [ptickSpec, parSpec, prdSpec, Ty.T, Ty.dflt, KT.T, getM, putM, delM, inI64, maxRow]); first | (simp only [nrm, reduceCtorEq, pair_eta, map_idL, natCast_eq, inI64, maxRow]; first | done | with_reducible assumption | omega) | exact map_pair_id _)
         | ((try dsimp only [ptickSpec, parSpec, prdSpec, Ty.T, Ty.dflt, KT.T, getM, putM, delM, inI64, maxRow] at *); first | ((try simp only [natCast_eq] at *) <;> omega) | ((try simp only [lens, natCast_eq] at *) <;> omega))
         | assumption
         | (symm; assumption)
         | (dsimp only; simp only [nrb, *]; done)
         | (simp; done)
         | (and_intros <;> first | trivial | with_reducible assumption | omega)
         | ((try dsimp only [ptickSpec, parSpec, prdSpec, Ty.T, Ty.dflt, KT.T, getM, putM, delM, inI64, maxRow] at *) <;> simp [*] <;> done))
    | skip
  all_goals
    (obtain ⟨z0, hz0, hz1⟩ : ∃ z : LCi (ptickF x.S 9).2 (100000 + 4 * x.i + 4) (100000 + 200 * x.i), (z.j : Int) = 0 ∧ z.S = (ptickF x.S 9).2 := ⟨⟨0, (ptickF x.S 9).2, Nat.zero_le _, rfl, hgx.tick 9⟩, rfl, rfl⟩
     dsimp only
     refine ⟨⟨LCi (ptickF x.S 9).2 (100000 + 4 * x.i + 4) (100000 + 200 * x.i), fun z => ⟨[(0, Sx.one (.ptr 0 0)), (4, Sx.one (.int .i64 (fun _ => t))), (5, Sx.one (.int .i64 (fun _ => (x.i : Int)))), (9, Sx.one (.int .i64 (fun _ => (z.j : Int))))], parC (fun _ => z.S)⟩, fun z => 400 - z.j, z0⟩, ?_, fun (z : LCi (ptickF x.S 9).2 (100000 + 4 * x.i + 4) (100000 + 200 * x.i)) => ?_⟩
     · (try (conv in (LoopInv.inv _ _) => dsimp only)); (try (conv in (SS.mk _ _) => cbv; (try dsimp only [ptickSpec, parSpec, prdSpec, Ty.T, Ty.dflt, KT.T]); (try simp only [natCast_eq])))
       (with_reducible refine (?_ : T1 _ ?_) ?_; rotate_left 1; (conv => lhs; cbv; (try cbv); (try cbv)); intro hT; clear hT; with_reducible refine Sh.mk (by kernel_rfl) ?_)
       repeat' (first
         | with_reducible (first | refine Ck.mk (C := tt) tt_intro ?_ | refine Ck.mk (show drawOk _ _ = true by kernel_rfl) ?_ | refine Ck.all_cons ?_ | refine Ck.all_nil ?_ | refine Ck.mk (by assumption) ?_ | refine Ck.mk (decide_eq_true (by assumption)) ?_ | refine Ck.mk (decide_eq_false (by assumption)) ?_ | refine Ck.mk ?_ ?_)
         | (with_reducible (first | refine Both.mk (fun h => ?_) (fun h => ?_) | refine Alt.mk (fun h => ?_) (fun h => ?_) | refine Pick.mk (fun h => ?_) (fun l1 x l2 h => ?_)) <;> (have hk := h) <;> (try simp only [nrm, reduceCtorEq, pair_eta, map_idL] at h) <;> (try dsimp only [ptickSpec, parSpec, prdSpec, Ty.T, Ty.dflt, KT.T, getM, putM, delM] at h) <;> (try simp only [natCast_eq] at h) <;> skip <;> (try first | rw [if_pos h] at hr | rw [if_neg h] at hr | rw [ifF h] at hr | rw [ifN h] at hr) <;> (try (have hb : (_ : Bool) = _ := h; clear h; subst hb; (try first | rw [if_pos rfl] at hr | rw [if_neg Bool.false_ne_true] at hr))) <;> first | (exfalso; omega) | exact absurd (h.symm.trans (by assumption) : true = false) Bool.noConfusion | exact absurd (h.symm.trans (by assumption) : false = true) Bool.noConfusion | (with_reducible refine (?_ : T1 _ ?_) ?_; rotate_left 1; (conv => lhs; cbv; (try cbv); (try cbv)); intro hT; clear hT; with_reducible refine Sh.mk (by kernel_rfl) ?_))
         | ((with_reducible refine End.mk ?_); skip)
         | with_reducible exact True.intro)
       all_goals first
         | (fail_if_success (with_reducible refine Exists.intro ?_ ?_)
            first
              | with_reducible rfl
              | with_reducible assumption
              | (symm; with_reducible assumption)
              | omega
              | ((try dsimp only [ptickSpec, parSpec, prdSpec, Ty.T, Ty.dflt, KT.T, getM, putM, delM, inI64, maxRow]); first | done | with_reducible rfl | with_reducible assumption | (symm; with_reducible assumption) | ((try simp only [natCast_eq, List.nil_append]); first | done | with_reducible rfl | omega | exact take_cg (by omega) | exact drop_cg (by omega) | exact take_drop_cg (by omega) (by omega) | exact take_all (by omega) | exact take_drop_all (by omega) (by omega) | exact drop_take_cg (by omega) (by omega) (by omega)))
              | first | exact hz0.symm | ((try dsimp only); (try simp only [pair_eta, map_idL]); rw [hz1]; done)
              | ((try dsimp only [ptickSpec, parSpec, prdSpec, Ty.T, Ty.dflt, KT.T, getM, putM, delM, inI64, maxRow]); first | (simp only [nrm, reduceCtorEq, pair_eta, map_idL, natCast_eq, inI64, maxRow]; first | done | with_reducible assumption | omega) | exact map_pair_id _)
              | ((try dsimp only [ptickSpec, parSpec, prdSpec, Ty.T, Ty.dflt, KT.T, getM, putM, delM, inI64, maxRow] at *); first | ((try simp only [natCast_eq] at *) <;> omega) | ((try simp only [lens, natCast_eq] at *) <;> omega))
              | assumption
              | (symm; assumption)
              | (dsimp only; simp only [nrb, *]; done)
              | (simp; done)
              | (and_intros <;> first | trivial | with_reducible assumption | omega)
              | ((try dsimp only [ptickSpec, parSpec, prdSpec, Ty.T, Ty.dflt, KT.T, getM, putM, delM, inI64, maxRow] at *) <;> simp [*] <;> done))
         | skip
     have hzj := z.hj
     have hgz := z.good
     have hzf := hgz.fl
     have hga := hgz.arr 0 0 false
     (try (conv in (LoopInv.inv _ _) => dsimp only)); (try (conv in (SS.mk _ _) => cbv; (try dsimp only [ptickSpec, parSpec, prdSpec, Ty.T, Ty.dflt, KT.T]); (try simp only [natCast_eq])))
     (with_reducible refine (?_ : T1 _ ?_) ?_; rotate_left 1; (conv => lhs; cbv; (try cbv); (try cbv)); intro hT; clear hT; with_reducible refine Sh.mk (by kernel_rfl) ?_)
     repeat' (first
       | with_reducible (first | refine Ck.mk (C := tt) tt_intro ?_ | refine Ck.mk (show drawOk _ _ = true by kernel_rfl) ?_ | refine Ck.all_cons ?_ | refine Ck.all_nil ?_ | refine Ck.mk (by assumption) ?_ | refine Ck.mk (decide_eq_true (by assumption)) ?_ | refine Ck.mk (decide_eq_false (by assumption)) ?_ | refine Ck.mk ?_ ?_)
       | (with_reducible (first | refine Both.mk (fun h => ?_) (fun h => ?_) | refine Alt.mk (fun h => ?_) (fun h => ?_) | refine Pick.mk (fun h => ?_) (fun l1 x l2 h => ?_)) <;> (have hk := h) <;> (try simp only [nrm, reduceCtorEq, pair_eta, map_idL] at h) <;> (try dsimp only [ptickSpec, parSpec, prdSpec, Ty.T, Ty.dflt, KT.T, getM, putM, delM] at h) <;> (try simp only [natCast_eq] at h) <;> skip <;> (try first | rw [if_pos h] at hr | rw [if_neg h] at hr | rw [ifF h] at hr | rw [ifN h] at hr) <;> (try (have hb : (_ : Bool) = _ := h; clear h; subst hb; (try first | rw [if_pos rfl] at hr | rw [if_neg Bool.false_ne_true] at hr))) <;> first | (exfalso; omega) | exact absurd (h.symm.trans (by assumption) : true = false) Bool.noConfusion | exact absurd (h.symm.trans (by assumption) : false = true) Bool.noConfusion | (with_reducible refine (?_ : T1 _ ?_) ?_; rotate_left 1; (conv => lhs; cbv; (try cbv); (try cbv)); intro hT; clear hT; with_reducible refine Sh.mk (by kernel_rfl) ?_))
       | ((with_reducible refine End.mk ?_); skip)
       | with_reducible exact True.intro)
     all_goals first
       | (fail_if_success (with_reducible refine Exists.intro ?_ ?_)
          first
            | with_reducible rfl
            | with_reducible assumption
            | (symm; with_reducible assumption)
            | omega
            | ((try dsimp only [ptickSpec, parSpec, prdSpec, Ty.T, Ty.dflt, KT.T, getM, putM, delM, inI64, maxRow]); first | done | with_reducible rfl | with_reducible assumption | (symm; with_reducible assumption) | ((try simp only [natCast_eq, List.nil_append]); first | done | with_reducible rfl | omega | exact take_cg (by omega) | exact drop_cg (by omega) | exact take_drop_cg (by omega) (by omega) | exact take_all (by omega) | exact take_drop_all (by omega) (by omega) | exact drop_take_cg (by omega) (by omega) (by omega)))
            | first | exact hgz.preA (by omega) (.inl rfl) ⟨Int.le_refl _, by decide⟩ _ | exact hga.preA (by rw [if_neg (by decide)]; omega) (.inr rfl) ⟨Int.le_refl _, by decide⟩ _ | exact hgz.preR (by omega) (.inl rfl) (by decide) | exact (hgz.rd 0 100 (Int.le_refl _)).preR (by omega) (.inr rfl) (by decide)
            | ((try dsimp only [ptickSpec, parSpec, prdSpec, Ty.T, Ty.dflt, KT.T, getM, putM, delM, inI64, maxRow]); first | (simp only [nrm, reduceCtorEq, pair_eta, map_idL, natCast_eq, inI64, maxRow]; first | done | with_reducible assumption | omega) | exact map_pair_id _)
            | ((try dsimp only [ptickSpec, parSpec, prdSpec, Ty.T, Ty.dflt, KT.T, getM, putM, delM, inI64, maxRow] at *); first | ((try simp only [natCast_eq] at *) <;> omega) | ((try simp only [lens, natCast_eq] at *) <;> omega))
            | assumption
            | (symm; assumption)
            | (dsimp only; simp only [nrb, *]; done)
            | (simp; done)
            | (and_intros <;> first | trivial | with_reducible assumption | omega)
            | ((try dsimp only [ptickSpec, parSpec, prdSpec, Ty.T, Ty.dflt, KT.T, getM, putM, delM, inI64, maxRow] at *) <;> simp [*] <;> done))
       | skip
     all_goals
       (first
         | (refine Exists.elim (z.next (by assumption) (by assumption)) ?_
            rintro y ⟨hy0, hy1⟩
            refine ⟨y, by (try dsimp only); (try simp only [natCast_eq]); omega, ?_⟩
            (try (conv in (LoopInv.inv _ _) => dsimp only)); (try (conv in (SS.mk _ _) => cbv; (try dsimp only [ptickSpec, parSpec, prdSpec, Ty.T, Ty.dflt, KT.T]); (try simp only [natCast_eq])))
            (with_reducible refine (?_ : T1 _ ?_) ?_; rotate_left 1; (conv => lhs; cbv; (try cbv); (try cbv)); intro hT; clear hT; with_reducible refine Sh.mk (by kernel_rfl) ?_)
            repeat' (first
              | with_reducible (first | refine Ck.mk (C := tt) tt_intro ?_ | refine Ck.mk (show drawOk _ _ = true by kernel_rfl) ?_ | refine Ck.all_cons ?_ | refine Ck.all_nil ?_ | refine Ck.mk (by assumption) ?_ | refine Ck.mk (decide_eq_true (by assumption)) ?_ | refine Ck.mk (decide_eq_false (by assumption)) ?_ | refine Ck.mk ?_ ?_)
              | (with_reducible (first | refine Both.mk (fun h => ?_) (fun h => ?_) | refine Alt.mk (fun h => ?_) (fun h => ?_) | refine Pick.mk (fun h => ?_) (fun l1 x l2 h => ?_)) <;> (have hk := h) <;> (try simp only [nrm, reduceCtorEq, pair_eta, map_idL] at h) <;> (try dsimp only [ptickSpec, parSpec, prdSpec, Ty.T, Ty.dflt, KT.T, getM, putM, delM] at h) <;> (try simp only [natCast_eq] at h) <;> skip <;> (try first | rw [if_pos h] at hr | rw [if_neg h] at hr | rw [ifF h] at hr | rw [ifN h] at hr) <;> (try (have hb : (_ : Bool) = _ := h; clear h; subst hb; (try first | rw [if_pos rfl] at hr | rw [if_neg Bool.false_ne_true] at hr))) <;> first | (exfalso; omega) | exact absurd (h.symm.trans (by assumption) : true = false) Bool.noConfusion | exact absurd (h.symm.trans (by assumption) : false = true) Bool.noConfusion | (with_reducible refine (?_ : T1 _ ?_) ?_; rotate_left 1; (conv => lhs; cbv; (try cbv); (try cbv)); intro hT; clear hT; with_reducible refine Sh.mk (by kernel_rfl) ?_))
              | ((with_reducible refine End.mk ?_); skip)
              | with_reducible exact True.intro)
            all_goals first
              | (fail_if_success (with_reducible refine Exists.intro ?_ ?_)
                 first
                   | with_reducible rfl
                   | with_reducible assumption
                   | (symm; with_reducible assumption)
                   | omega
                   | ((try dsimp only [ptickSpec, parSpec, prdSpec, Ty.T, Ty.dflt, KT.T, getM, putM, delM, inI64, maxRow]); first | done | with_reducible rfl | with_reducible assumption | (symm; with_reducible assumption) | ((try simp only [natCast_eq, List.nil_append]); first | done | with_reducible rfl | omega | exact take_cg (by omega) | exact drop_cg (by omega) | exact take_drop_cg (by omega) (by omega) | exact take_all (by omega) | exact take_drop_all (by omega) (by omega) | exact drop_take_cg (by omega) (by omega) (by omega)))
                   | first | exact hy0.symm | ((try dsimp only); (try simp only [pair_eta, map_idL]); rw [hy1]; done)
                   | ((try dsimp only [ptickSpec, parSpec, prdSpec, Ty.T, Ty.dflt, KT.T, getM, putM, delM, inI64, maxRow]); first | (simp only [nrm, reduceCtorEq, pair_eta, map_idL, natCast_eq, inI64, maxRow]; first | done | with_reducible assumption | omega) | exact map_pair_id _)
                   | ((try dsimp only [ptickSpec, parSpec, prdSpec, Ty.T, Ty.dflt, KT.T, getM, putM, delM, inI64, maxRow] at *); first | ((try simp only [natCast_eq] at *) <;> omega) | ((try simp only [lens, natCast_eq] at *) <;> omega))
                   | assumption
                   | (symm; assumption)
                   | (dsimp only; simp only [nrb, *]; done)
                   | (simp; done)
                   | (and_intros <;> first | trivial | with_reducible assumption | omega)
                   | ((try dsimp only [ptickSpec, parSpec, prdSpec, Ty.T, Ty.dflt, KT.T, getM, putM, delM, inI64, maxRow] at *) <;> simp [*] <;> done))
              | skip
            skip)
         | (refine Exists.elim (x.next (by assumption)) ?_
            rintro y ⟨hy0, hy1⟩
            have hz : z.S = calI 400 (ptickF x.S 9).2 := by first | exact z.stop (by assumption) | exact z.done (by assumption)
            have hy2 : y.S = (prF (prF z.S 0 100).2 1 100).2 := by rw [hy1, hz]; rfl
            refine ⟨y, by (try dsimp only); (try simp only [natCast_eq]); omega, ?_⟩
            (try (conv in (LoopInv.inv _ _) => dsimp only)); (try (conv in (SS.mk _ _) => cbv; (try dsimp only [ptickSpec, parSpec, prdSpec, Ty.T, Ty.dflt, KT.T]); (try simp only [natCast_eq])))
            (with_reducible refine (?_ : T1 _ ?_) ?_; rotate_left 1; (conv => lhs; cbv; (try cbv); (try cbv)); intro hT; clear hT; with_reducible refine Sh.mk (by kernel_rfl) ?_)
            repeat' (first
              | with_reducible (first | refine Ck.mk (C := tt) tt_intro ?_ | refine Ck.mk (show drawOk _ _ = true by kernel_rfl) ?_ | refine Ck.all_cons ?_ | refine Ck.all_nil ?_ | refine Ck.mk (by assumption) ?_ | refine Ck.mk (decide_eq_true (by assumption)) ?_ | refine Ck.mk (decide_eq_false (by assumption)) ?_ | refine Ck.mk ?_ ?_)
              | (with_reducible (first | refine Both.mk (fun h => ?_) (fun h => ?_) | refine Alt.mk (fun h => ?_) (fun h => ?_) | refine Pick.mk (fun h => ?_) (fun l1 x l2 h => ?_)) <;> (have hk := h) <;> (try simp only [nrm, reduceCtorEq, pair_eta, map_idL] at h) <;> (try dsimp only [ptickSpec, parSpec, prdSpec, Ty.T, Ty.dflt, KT.T, getM, putM, delM] at h) <;> (try simp only [natCast_eq] at h) <;> skip <;> (try first | rw [if_pos h] at hr | rw [if_neg h] at hr | rw [ifF h] at hr | rw [ifN h] at hr) <;> (try (have hb : (_ : Bool) = _ := h; clear h; subst hb; (try first | rw [if_pos rfl] at hr | rw [if_neg Bool.false_ne_true] at hr))) <;> first | (exfalso; omega) | exact absurd (h.symm.trans (by assumption) : true = false) Bool.noConfusion | exact absurd (h.symm.trans (by assumption) : false = true) Bool.noConfusion | (with_reducible refine (?_ : T1 _ ?_) ?_; rotate_left 1; (conv => lhs; cbv; (try cbv); (try cbv)); intro hT; clear hT; with_reducible refine Sh.mk (by kernel_rfl) ?_))
              | ((with_reducible refine End.mk ?_); skip)
              | with_reducible exact True.intro)
            all_goals first
              | (fail_if_success (with_reducible refine Exists.intro ?_ ?_)
                 first
                   | with_reducible rfl
                   | with_reducible assumption
                   | (symm; with_reducible assumption)
                   | omega
                   | ((try dsimp only [ptickSpec, parSpec, prdSpec, Ty.T, Ty.dflt, KT.T, getM, putM, delM, inI64, maxRow]); first | done | with_reducible rfl | with_reducible assumption | (symm; with_reducible assumption) | ((try simp only [natCast_eq, List.nil_append]); first | done | with_reducible rfl | omega | exact take_cg (by omega) | exact drop_cg (by omega) | exact take_drop_cg (by omega) (by omega) | exact take_all (by omega) | exact take_drop_all (by omega) (by omega) | exact drop_take_cg (by omega) (by omega) (by omega)))
                   | first | exact hy0.symm | ((try dsimp only); (try simp only [pair_eta, map_idL]); rw [hy2]; done)
                   | ((try dsimp only [ptickSpec, parSpec, prdSpec, Ty.T, Ty.dflt, KT.T, getM, putM, delM, inI64, maxRow]); first | (simp only [nrm, reduceCtorEq, pair_eta, map_idL, natCast_eq, inI64, maxRow]; first | done | with_reducible assumption | omega) | exact map_pair_id _)
                   | ((try dsimp only [ptickSpec, parSpec, prdSpec, Ty.T, Ty.dflt, KT.T, getM, putM, delM, inI64, maxRow] at *); first | ((try simp only [natCast_eq] at *) <;> omega) | ((try simp only [lens, natCast_eq] at *) <;> omega))
                   | assumption
                   | (symm; assumption)
                   | (dsimp only; simp only [nrb, *]; done)
                   | (simp; done)
                   | (and_intros <;> first | trivial | with_reducible assumption | omega)
                   | ((try dsimp only [ptickSpec, parSpec, prdSpec, Ty.T, Ty.dflt, KT.T, getM, putM, delM, inI64, maxRow] at *) <;> simp [*] <;> done))
              | skip
            skip)
         | skip))
theorem pcal_sound : ConSound Try.prog AI 16 pcalSpec.con := StepM.sound epcOk mixed (fn := Try.f16) (c := bodyOf Try.f16) Try.call16 (by kernel_rfl) (by kernel_rfl) (by kernel_rfl) fun S x h => pcal_ok S x.1 h
end Go.Proofs.Ytldabjgegpmmiaa
