/-
  Layer 47: SessionResets, the walk.
-/
import Derived.Test.YtldabjgegpmmiaaRes
import Derived.Test.YtldabjgegpmmiaaEng3
namespace Go.Proofs.Ytldabjgegpmmiaa
set_option linter.all false
set_option linter.unusedVariables false
set_option linter.unusedSimpArgs false
set_option linter.unusedSectionVars false
open Go.RowKit Go.Sx
set_option maxRecDepth 100000
set_option maxHeartbeats 16000000
theorem beq_inl : ConSound Try.prog AI 18 (inl E0 Try.f18 0) := inl_sound e0Ok mixed (fn := Try.f18) (c := bodyOf Try.f18) Try.call18 (by kernel_rfl) (by kernel_rfl) (by kernel_rfl) 0
noncomputable abbrev Ers : Env Ab := ⟨tis, [(21, smmSpec.con), (22, erdSpec.con), (20, etkSpec.con), (17, estSpec.con), (19, ercSpec.con), (15, pwrSpec.con), (14, parSpec.con), (13, ptickSpec.con), (12, conSpec.con), (11, awakeSpec.con), (18, inl E0 Try.f18 0)] ++ E0.con⟩
theorem ersOk : EnvOk Try.prog AI Ers := (((((((((((e0Ok.add beq_inl).add awake_sound).add con_sound).add ptick_sound).add par_sound).add pwr_sound).add erc_sound).add est_sound).add etk_sound).add erd_sound).add smm_sound)
structure LRo (S0 : Pr) where
  i : Nat
  S : Pr
  hi : i ≤ 12
  hS : S = resN i S0
theorem LRo.next {S0 : Pr} (x : LRo S0) (h : (x.i : Int) < 12) : ∃ y : LRo S0, (y.i : Int) = x.i + 1 ∧ y.S = resR x.S :=
  ⟨⟨x.i + 1, resR x.S, by omega, by rw [x.hS]; rfl⟩, by show ((x.i + 1 : Nat) : Int) = _; omega, rfl⟩
theorem LRo.done {S0 : Pr} (x : LRo S0) (h : ¬ (x.i : Int) < 12) : x.S = resN 12 S0 := by
  have := x.hi
  rw [x.hS, show x.i = 12 by omega]
structure LRi (S1 : Pr) (n k : Nat) where
  j : Nat
  S : Pr
  hj : j ≤ 40
  hS : arrN (40 - j) S = arrN 40 S1
  good : GoodP S n k
theorem LRi.next {S1 : Pr} {n k : Nat} (x : LRi S1 n k) (h : (x.j : Int) < 40) : ∃ y : LRi S1 n k, (y.j : Int) = x.j + 1 ∧ y.S = (paF (paF x.S 0 0 false).2 1 0 false).2 :=
  ⟨⟨x.j + 1, arr2 x.S, by omega, by
    have e := x.hS
    rw [show 40 - x.j = (40 - (x.j + 1)) + 1 by omega] at e
    exact e, x.good.arr2⟩, by show ((x.j + 1 : Nat) : Int) = _; omega, rfl⟩
theorem LRi.done {S1 : Pr} {n k : Nat} (x : LRi S1 n k) (h : ¬ (x.j : Int) < 40) : x.S = arrN 40 S1 := by
  have := x.hj
  rw [← x.hS, show 40 - x.j = 0 by omega]; rfl
theorem resN_good {S : Pr} {n k : Nat} (h : GoodP S n k) : ∀ i : Nat, GoodP (resN i S) (n + 4 * i) k
  | 0 => h
  | i + 1 => ((resN_good h i).tick 9).calI 40
theorem take16 (l : List Int) : l.take 16 = List.drop (0 : Int).toNat (l.take (min (l.length : Int) 16).toNat) := by
  show l.take 16 = l.take (min (l.length : Int) 16).toNat
  by_cases h : l.length ≤ 16
  · rw [List.take_of_length_le h, List.take_of_length_le (by omega)]
  · congr 1; omega
def rstF (_ : List Int) (_ : Int) : Tup [DT.cell .bool] := (true, ())
def rstSpec : PureSpec := ⟨[.lst (.int .u8), .cell (.int .u8)], fun (x : (List Int) × Int × Unit) => (inBytes x.1 ∧ x.1.length ≤ maxLen) ∧ 0 ≤ x.2.1 ∧ x.2.1 ≤ 255, [.cell .bool], fun (x : (List Int) × Int × Unit) => rstF x.1 x.2.1⟩
theorem rst_ok (l : List Int) (kd : Int) (h : rstSpec.pre (l, kd, ())) : TmplOk Try.prog AI 4 (argS rstSpec.ds (fun _ => (l, kd, ()))) [] (resOf (svs rstSpec.rs (fun _ => rstSpec.f (l, kd, ())))) [] := by
  dsimp only [rstSpec] at h ⊢
  generalize hr : rstF l kd = r
  obtain ⟨⟨hb, hl0⟩, hk0, hk1⟩ := h
  dsimp only [rstF] at hr
  refine tmpl_of_body ersOk mixed (fn := Try.f4) (c := bodyOf Try.f4) (by kernel_rfl) (by kernel_rfl) (by kernel_rfl) (Nat.le_of_ble_eq_true (by kernel_rfl)) ?_
  (try (conv in (LoopInv.inv _ _) => dsimp only)); (try (conv in (SS.mk _ _) => cbv; (try dsimp only [ercSpec, estSpec, etkSpec, erdSpec, estF, Ty.T, Ty.dflt, KT.T]); (try simp only [natCast_eq])))
  (with_reducible refine (?_ : T1 _ ?_) ?_; rotate_left 1; (conv => lhs; cbv; (try cbv); (try cbv)); intro hT; clear hT; with_reducible refine Sh.mk (by kernel_rfl) ?_)
  repeat' (first
    | with_reducible (first | refine Ck.mk (C := tt) tt_intro ?_ | refine Ck.mk (show drawOk _ _ = true by kernel_rfl) ?_ | refine Ck.all_cons ?_ | refine Ck.all_nil ?_ | refine Ck.mk (by assumption) ?_ | refine Ck.mk (decide_eq_true (by assumption)) ?_ | refine Ck.mk (decide_eq_false (by assumption)) ?_ | refine Ck.mk ?_ ?_)
    | (with_reducible (first | refine Both.mk (fun h => ?_) (fun h => ?_) | refine Alt.mk (fun h => ?_) (fun h => ?_) | refine Pick.mk (fun h => ?_) (fun l1 x l2 h => ?_)) <;> (have hk := h) <;> (try simp only [nrm, reduceCtorEq, pair_eta, map_idL] at h) <;> (try dsimp only [ercSpec, estSpec, etkSpec, erdSpec, estF, Ty.T, Ty.dflt, KT.T, getM, putM, delM] at h) <;> (try simp only [natCast_eq] at h) <;> (try simp only [pair_eta, g1] at h) <;> (try simp only [g2] at h) <;> (try simp only [g3] at h) <;> (try simp only [g4] at h) <;> (try (exfalso; first | exact absurd rfl h | omega)) <;> (try first | rw [if_pos h] at hr | rw [if_neg h] at hr | rw [ifF h] at hr | rw [ifN h] at hr) <;> (try (have hb : (_ : Bool) = _ := h; clear h; subst hb; (try first | rw [if_pos rfl] at hr | rw [if_neg Bool.false_ne_true] at hr))) <;> first | (exfalso; omega) | exact absurd (h.symm.trans (by assumption) : true = false) Bool.noConfusion | exact absurd (h.symm.trans (by assumption) : false = true) Bool.noConfusion | (with_reducible refine (?_ : T1 _ ?_) ?_; rotate_left 1; (conv => lhs; cbv; (try cbv); (try cbv)); intro hT; clear hT; with_reducible refine Sh.mk (by kernel_rfl) ?_))
    | ((with_reducible refine End.mk ?_); (try ((repeat (first | rw [if_pos (by first | assumption | omega)] at hr | rw [if_neg (by first | assumption | omega | (simp only [Bool.false_eq_true, Bool.true_eq_false, reduceCtorEq, not_false_eq_true]; done) | (simp only [Bool.not_eq_true]; assumption) | (simp only [Bool.not_eq_false]; assumption))] at hr | rw [if_pos rfl] at hr)); subst hr)))
    | with_reducible exact True.intro)
  all_goals first
    | (fail_if_success (with_reducible refine Exists.intro ?_ ?_)
       first
         | with_reducible rfl
         | with_reducible assumption
         | (symm; with_reducible assumption)
         | omega
         | ((try dsimp only [ercSpec, estSpec, etkSpec, erdSpec, estF, Ty.T, Ty.dflt, KT.T, getM, putM, delM, inI64, maxRow]); first | done | with_reducible rfl | with_reducible assumption | (symm; with_reducible assumption) | ((try simp only [natCast_eq, List.nil_append]); first | done | with_reducible rfl | omega | exact take_cg (by omega) | exact drop_cg (by omega) | exact take_drop_cg (by omega) (by omega) | exact take_all (by omega) | exact take_drop_all (by omega) (by omega) | exact drop_take_cg (by omega) (by omega) (by omega)))
         | exact (conP_good 255 1).preW (i := 1) (l := l) (.inr rfl) (by omega)
         | ((try dsimp only [ercSpec, estSpec, etkSpec, erdSpec, estF, Ty.T, Ty.dflt, KT.T, getM, putM, delM, inI64, maxRow]); first | (simp only [nrm, reduceCtorEq, pair_eta, map_idL, natCast_eq, inI64, maxRow]; first | done | with_reducible assumption | omega) | exact map_pair_id _)
         | ((try dsimp only [ercSpec, estSpec, etkSpec, erdSpec, estF, Ty.T, Ty.dflt, KT.T, getM, putM, delM, inI64, maxRow] at *); first | ((try simp only [natCast_eq] at *) <;> omega) | ((try simp only [lens, natCast_eq] at *) <;> omega))
         | assumption
         | (symm; assumption)
         | (dsimp only; simp only [nrb, *]; done)
         | (simp; done)
         | (and_intros <;> first | trivial | with_reducible assumption | omega)
         | ((try dsimp only [ercSpec, estSpec, etkSpec, erdSpec, estF, Ty.T, Ty.dflt, KT.T, getM, putM, delM, inI64, maxRow] at *) <;> simp [*] <;> done))
    | skip
  have hw : GoodP (pwF (conP 255 1) 1 l).2 0 0 := ((conP_good 255 1).wr 1 hb).1
  obtain ⟨x0, hx0, hx1⟩ : ∃ x : LRo (pwF (conP 255 1) 1 l).2, (x.i : Int) = 0 ∧ x.S = (pwF (conP 255 1) 1 l).2 := ⟨⟨0, _, by omega, rfl⟩, rfl, rfl⟩
  refine ⟨⟨LRo (pwF (conP 255 1) 1 l).2, fun x => ⟨[(0, Sx.one (.ro (.int .u8) (fun _ => l))), (1, Sx.one (.int .u8 (fun _ => kd))), (5, Sx.one (.ptr 0 0)), (26, Sx.one (.int .i64 (fun _ => (x.i : Int))))], parC (fun _ => x.S)⟩, fun x => 12 - x.i, x0⟩, ?_, fun (x : LRo (pwF (conP 255 1) 1 l).2) => ?_⟩
  · (try (conv in (LoopInv.inv _ _) => dsimp only)); (try (conv in (SS.mk _ _) => cbv; (try dsimp only [ercSpec, estSpec, etkSpec, erdSpec, estF, Ty.T, Ty.dflt, KT.T]); (try simp only [natCast_eq])))
    (with_reducible refine (?_ : T1 _ ?_) ?_; rotate_left 1; (conv => lhs; cbv; (try cbv); (try cbv)); intro hT; clear hT; with_reducible refine Sh.mk (by kernel_rfl) ?_)
    repeat' (first
      | with_reducible (first | refine Ck.mk (C := tt) tt_intro ?_ | refine Ck.mk (show drawOk _ _ = true by kernel_rfl) ?_ | refine Ck.all_cons ?_ | refine Ck.all_nil ?_ | refine Ck.mk (by assumption) ?_ | refine Ck.mk (decide_eq_true (by assumption)) ?_ | refine Ck.mk (decide_eq_false (by assumption)) ?_ | refine Ck.mk ?_ ?_)
      | (with_reducible (first | refine Both.mk (fun h => ?_) (fun h => ?_) | refine Alt.mk (fun h => ?_) (fun h => ?_) | refine Pick.mk (fun h => ?_) (fun l1 x l2 h => ?_)) <;> (have hk := h) <;> (try simp only [nrm, reduceCtorEq, pair_eta, map_idL] at h) <;> (try dsimp only [ercSpec, estSpec, etkSpec, erdSpec, estF, Ty.T, Ty.dflt, KT.T, getM, putM, delM] at h) <;> (try simp only [natCast_eq] at h) <;> (try simp only [pair_eta, g1] at h) <;> (try simp only [g2] at h) <;> (try simp only [g3] at h) <;> (try simp only [g4] at h) <;> (try (exfalso; first | exact absurd rfl h | omega)) <;> (try first | rw [if_pos h] at hr | rw [if_neg h] at hr | rw [ifF h] at hr | rw [ifN h] at hr) <;> (try (have hb : (_ : Bool) = _ := h; clear h; subst hb; (try first | rw [if_pos rfl] at hr | rw [if_neg Bool.false_ne_true] at hr))) <;> first | (exfalso; omega) | exact absurd (h.symm.trans (by assumption) : true = false) Bool.noConfusion | exact absurd (h.symm.trans (by assumption) : false = true) Bool.noConfusion | (with_reducible refine (?_ : T1 _ ?_) ?_; rotate_left 1; (conv => lhs; cbv; (try cbv); (try cbv)); intro hT; clear hT; with_reducible refine Sh.mk (by kernel_rfl) ?_))
      | ((with_reducible refine End.mk ?_); skip)
      | with_reducible exact True.intro)
    all_goals first
      | (fail_if_success (with_reducible refine Exists.intro ?_ ?_)
         first
           | with_reducible rfl
           | with_reducible assumption
           | (symm; with_reducible assumption)
           | omega
           | ((try dsimp only [ercSpec, estSpec, etkSpec, erdSpec, estF, Ty.T, Ty.dflt, KT.T, getM, putM, delM, inI64, maxRow]); first | done | with_reducible rfl | with_reducible assumption | (symm; with_reducible assumption) | ((try simp only [natCast_eq, List.nil_append]); first | done | with_reducible rfl | omega | exact take_cg (by omega) | exact drop_cg (by omega) | exact take_drop_cg (by omega) (by omega) | exact take_all (by omega) | exact take_drop_all (by omega) (by omega) | exact drop_take_cg (by omega) (by omega) (by omega)))
           | first | exact hx0.symm | ((try dsimp only); (try simp only [pair_eta, map_idL]); rw [hx1]; done)
           | ((try dsimp only [ercSpec, estSpec, etkSpec, erdSpec, estF, Ty.T, Ty.dflt, KT.T, getM, putM, delM, inI64, maxRow]); first | (simp only [nrm, reduceCtorEq, pair_eta, map_idL, natCast_eq, inI64, maxRow]; first | done | with_reducible assumption | omega) | exact map_pair_id _)
           | ((try dsimp only [ercSpec, estSpec, etkSpec, erdSpec, estF, Ty.T, Ty.dflt, KT.T, getM, putM, delM, inI64, maxRow] at *); first | ((try simp only [natCast_eq] at *) <;> omega) | ((try simp only [lens, natCast_eq] at *) <;> omega))
           | assumption
           | (symm; assumption)
           | (dsimp only; simp only [nrb, *]; done)
           | (simp; done)
           | (and_intros <;> first | trivial | with_reducible assumption | omega)
           | ((try dsimp only [ercSpec, estSpec, etkSpec, erdSpec, estF, Ty.T, Ty.dflt, KT.T, getM, putM, delM, inI64, maxRow] at *) <;> simp [*] <;> done))
      | skip
  have hgx : GoodP x.S (4 * x.i) 0 := by rw [x.hS]; exact (resN_good hw x.i).mono (by omega) (Nat.le_refl _)
  have hxi := x.hi
  by_cases hin : (x.i : Int) < 12
  · (try (conv in (LoopInv.inv _ _) => dsimp only)); (try (conv in (SS.mk _ _) => cbv; (try dsimp only [ercSpec, estSpec, etkSpec, erdSpec, estF, Ty.T, Ty.dflt, KT.T]); (try simp only [natCast_eq])))
    (with_reducible refine (?_ : T1 _ ?_) ?_; rotate_left 1; (conv => lhs; cbv; (try cbv); (try cbv)); intro hT; clear hT; with_reducible refine Sh.mk (by kernel_rfl) ?_)
    repeat' (first
      | with_reducible (first | refine Ck.mk (C := tt) tt_intro ?_ | refine Ck.mk (show drawOk _ _ = true by kernel_rfl) ?_ | refine Ck.all_cons ?_ | refine Ck.all_nil ?_ | refine Ck.mk (by assumption) ?_ | refine Ck.mk (decide_eq_true (by assumption)) ?_ | refine Ck.mk (decide_eq_false (by assumption)) ?_ | refine Ck.mk ?_ ?_)
      | (with_reducible (first | refine Both.mk (fun h => ?_) (fun h => ?_) | refine Alt.mk (fun h => ?_) (fun h => ?_) | refine Pick.mk (fun h => ?_) (fun l1 x l2 h => ?_)) <;> (have hk := h) <;> (try simp only [nrm, reduceCtorEq, pair_eta, map_idL] at h) <;> (try dsimp only [ercSpec, estSpec, etkSpec, erdSpec, estF, Ty.T, Ty.dflt, KT.T, getM, putM, delM] at h) <;> (try simp only [natCast_eq] at h) <;> (try simp only [pair_eta, g1] at h) <;> (try simp only [g2] at h) <;> (try simp only [g3] at h) <;> (try simp only [g4] at h) <;> (try (exfalso; first | exact absurd rfl h | omega)) <;> (try first | rw [if_pos h] at hr | rw [if_neg h] at hr | rw [ifF h] at hr | rw [ifN h] at hr) <;> (try (have hb : (_ : Bool) = _ := h; clear h; subst hb; (try first | rw [if_pos rfl] at hr | rw [if_neg Bool.false_ne_true] at hr))) <;> first | (exfalso; omega) | exact absurd (h.symm.trans (by assumption) : true = false) Bool.noConfusion | exact absurd (h.symm.trans (by assumption) : false = true) Bool.noConfusion | (with_reducible refine (?_ : T1 _ ?_) ?_; rotate_left 1; (conv => lhs; cbv; (try cbv); (try cbv)); intro hT; clear hT; with_reducible refine Sh.mk (by kernel_rfl) ?_))
      | ((with_reducible refine End.mk ?_); skip)
      | with_reducible exact True.intro)
    all_goals first
      | (fail_if_success (with_reducible refine Exists.intro ?_ ?_)
         first
           | with_reducible rfl
           | with_reducible assumption
           | (symm; with_reducible assumption)
           | omega
           | ((try dsimp only [ercSpec, estSpec, etkSpec, erdSpec, estF, Ty.T, Ty.dflt, KT.T, getM, putM, delM, inI64, maxRow]); first | done | with_reducible rfl | with_reducible assumption | (symm; with_reducible assumption) | ((try simp only [natCast_eq, List.nil_append]); first | done | with_reducible rfl | omega | exact take_cg (by omega) | exact drop_cg (by omega) | exact take_drop_cg (by omega) (by omega) | exact take_all (by omega) | exact take_drop_all (by omega) (by omega) | exact drop_take_cg (by omega) (by omega) (by omega)))
           | exact hgx.preT (by omega) _
           | ((try dsimp only [ercSpec, estSpec, etkSpec, erdSpec, estF, Ty.T, Ty.dflt, KT.T, getM, putM, delM, inI64, maxRow]); first | (simp only [nrm, reduceCtorEq, pair_eta, map_idL, natCast_eq, inI64, maxRow]; first | done | with_reducible assumption | omega) | exact map_pair_id _)
           | ((try dsimp only [ercSpec, estSpec, etkSpec, erdSpec, estF, Ty.T, Ty.dflt, KT.T, getM, putM, delM, inI64, maxRow] at *); first | ((try simp only [natCast_eq] at *) <;> omega) | ((try simp only [lens, natCast_eq] at *) <;> omega))
           | assumption
           | (symm; assumption)
           | (dsimp only; simp only [nrb, *]; done)
           | (simp; done)
           | (and_intros <;> first | trivial | with_reducible assumption | omega)
           | ((try dsimp only [ercSpec, estSpec, etkSpec, erdSpec, estF, Ty.T, Ty.dflt, KT.T, getM, putM, delM, inI64, maxRow] at *) <;> simp [*] <;> done))
      | skip
    all_goals
      (obtain ⟨z0, hz0, hz1⟩ : ∃ z : LRi (ptickF x.S 9).2 (4 * x.i + 4) 0, (z.j : Int) = 0 ∧ z.S = (ptickF x.S 9).2 := ⟨⟨0, (ptickF x.S 9).2, Nat.zero_le _, rfl, hgx.tick 9⟩, rfl, rfl⟩
       dsimp only
       refine ⟨⟨LRi (ptickF x.S 9).2 (4 * x.i + 4) 0, fun z => ⟨[(0, Sx.one (.ro (.int .u8) (fun _ => l))), (1, Sx.one (.int .u8 (fun _ => kd))), (5, Sx.one (.ptr 0 0)), (26, Sx.one (.int .i64 (fun _ => (x.i : Int)))), (30, Sx.one (.int .i64 (fun _ => (z.j : Int))))], parC (fun _ => z.S)⟩, fun z => 40 - z.j, z0⟩, ?_, fun (z : LRi (ptickF x.S 9).2 (4 * x.i + 4) 0) => ?_⟩
       · (try (conv in (LoopInv.inv _ _) => dsimp only)); (try (conv in (SS.mk _ _) => cbv; (try dsimp only [ercSpec, estSpec, etkSpec, erdSpec, estF, Ty.T, Ty.dflt, KT.T]); (try simp only [natCast_eq])))
         (with_reducible refine (?_ : T1 _ ?_) ?_; rotate_left 1; (conv => lhs; cbv; (try cbv); (try cbv)); intro hT; clear hT; with_reducible refine Sh.mk (by kernel_rfl) ?_)
         repeat' (first
           | with_reducible (first | refine Ck.mk (C := tt) tt_intro ?_ | refine Ck.mk (show drawOk _ _ = true by kernel_rfl) ?_ | refine Ck.all_cons ?_ | refine Ck.all_nil ?_ | refine Ck.mk (by assumption) ?_ | refine Ck.mk (decide_eq_true (by assumption)) ?_ | refine Ck.mk (decide_eq_false (by assumption)) ?_ | refine Ck.mk ?_ ?_)
           | (with_reducible (first | refine Both.mk (fun h => ?_) (fun h => ?_) | refine Alt.mk (fun h => ?_) (fun h => ?_) | refine Pick.mk (fun h => ?_) (fun l1 x l2 h => ?_)) <;> (have hk := h) <;> (try simp only [nrm, reduceCtorEq, pair_eta, map_idL] at h) <;> (try dsimp only [ercSpec, estSpec, etkSpec, erdSpec, estF, Ty.T, Ty.dflt, KT.T, getM, putM, delM] at h) <;> (try simp only [natCast_eq] at h) <;> (try simp only [pair_eta, g1] at h) <;> (try simp only [g2] at h) <;> (try simp only [g3] at h) <;> (try simp only [g4] at h) <;> (try (exfalso; first | exact absurd rfl h | omega)) <;> (try first | rw [if_pos h] at hr | rw [if_neg h] at hr | rw [ifF h] at hr | rw [ifN h] at hr) <;> (try (have hb : (_ : Bool) = _ := h; clear h; subst hb; (try first | rw [if_pos rfl] at hr | rw [if_neg Bool.false_ne_true] at hr))) <;> first | (exfalso; omega) | exact absurd (h.symm.trans (by assumption) : true = false) Bool.noConfusion | exact absurd (h.symm.trans (by assumption) : false = true) Bool.noConfusion | (with_reducible refine (?_ : T1 _ ?_) ?_; rotate_left 1; (conv => lhs; cbv; (try cbv); (try cbv)); intro hT; clear hT; with_reducible refine Sh.mk (by kernel_rfl) ?_))
           | ((with_reducible refine End.mk ?_); skip)
           | with_reducible exact True.intro)
         all_goals first
           | (fail_if_success (with_reducible refine Exists.intro ?_ ?_)
              first
                | with_reducible rfl
                | with_reducible assumption
                | (symm; with_reducible assumption)
                | omega
                | ((try dsimp only [ercSpec, estSpec, etkSpec, erdSpec, estF, Ty.T, Ty.dflt, KT.T, getM, putM, delM, inI64, maxRow]); first | done | with_reducible rfl | with_reducible assumption | (symm; with_reducible assumption) | ((try simp only [natCast_eq, List.nil_append]); first | done | with_reducible rfl | omega | exact take_cg (by omega) | exact drop_cg (by omega) | exact take_drop_cg (by omega) (by omega) | exact take_all (by omega) | exact take_drop_all (by omega) (by omega) | exact drop_take_cg (by omega) (by omega) (by omega)))
                | first | exact hz0.symm | ((try dsimp only); (try simp only [pair_eta, map_idL]); rw [hz1]; done)
                | ((try dsimp only [ercSpec, estSpec, etkSpec, erdSpec, estF, Ty.T, Ty.dflt, KT.T, getM, putM, delM, inI64, maxRow]); first | (simp only [nrm, reduceCtorEq, pair_eta, map_idL, natCast_eq, inI64, maxRow]; first | done | with_reducible assumption | omega) | exact map_pair_id _)
                | ((try dsimp only [ercSpec, estSpec, etkSpec, erdSpec, estF, Ty.T, Ty.dflt, KT.T, getM, putM, delM, inI64, maxRow] at *); first | ((try simp only [natCast_eq] at *) <;> omega) | ((try simp only [lens, natCast_eq] at *) <;> omega))
                | assumption
                | (symm; assumption)
                | (dsimp only; simp only [nrb, *]; done)
                | (simp; done)
                | (and_intros <;> first | trivial | with_reducible assumption | omega)
                | ((try dsimp only [ercSpec, estSpec, etkSpec, erdSpec, estF, Ty.T, Ty.dflt, KT.T, getM, putM, delM, inI64, maxRow] at *) <;> simp [*] <;> done))
           | skip
       have hzj := z.hj
       have hgz := z.good
       have hga := hgz.arr 0 0 false
       (try (conv in (LoopInv.inv _ _) => dsimp only)); (try (conv in (SS.mk _ _) => cbv; (try dsimp only [ercSpec, estSpec, etkSpec, erdSpec, estF, Ty.T, Ty.dflt, KT.T]); (try simp only [natCast_eq])))
       (with_reducible refine (?_ : T1 _ ?_) ?_; rotate_left 1; (conv => lhs; cbv; (try cbv); (try cbv)); intro hT; clear hT; with_reducible refine Sh.mk (by kernel_rfl) ?_)
       repeat' (first
         | with_reducible (first | refine Ck.mk (C := tt) tt_intro ?_ | refine Ck.mk (show drawOk _ _ = true by kernel_rfl) ?_ | refine Ck.all_cons ?_ | refine Ck.all_nil ?_ | refine Ck.mk (by assumption) ?_ | refine Ck.mk (decide_eq_true (by assumption)) ?_ | refine Ck.mk (decide_eq_false (by assumption)) ?_ | refine Ck.mk ?_ ?_)
         | (with_reducible (first | refine Both.mk (fun h => ?_) (fun h => ?_) | refine Alt.mk (fun h => ?_) (fun h => ?_) | refine Pick.mk (fun h => ?_) (fun l1 x l2 h => ?_)) <;> (have hk := h) <;> (try simp only [nrm, reduceCtorEq, pair_eta, map_idL] at h) <;> (try dsimp only [ercSpec, estSpec, etkSpec, erdSpec, estF, Ty.T, Ty.dflt, KT.T, getM, putM, delM] at h) <;> (try simp only [natCast_eq] at h) <;> (try simp only [pair_eta, g1] at h) <;> (try simp only [g2] at h) <;> (try simp only [g3] at h) <;> (try simp only [g4] at h) <;> (try (exfalso; first | exact absurd rfl h | omega)) <;> (try first | rw [if_pos h] at hr | rw [if_neg h] at hr | rw [ifF h] at hr | rw [ifN h] at hr) <;> (try (have hb : (_ : Bool) = _ := h; clear h; subst hb; (try first | rw [if_pos rfl] at hr | rw [if_neg Bool.false_ne_true] at hr))) <;> first | (exfalso; omega) | exact absurd (h.symm.trans (by assumption) : true = false) Bool.noConfusion | exact absurd (h.symm.trans (by assumption) : false = true) Bool.noConfusion | (with_reducible refine (?_ : T1 _ ?_) ?_; rotate_left 1; (conv => lhs; cbv; (try cbv); (try cbv)); intro hT; clear hT; with_reducible refine Sh.mk (by kernel_rfl) ?_))
         | ((with_reducible refine End.mk ?_); skip)
         | with_reducible exact True.intro)
       all_goals first
         | (fail_if_success (with_reducible refine Exists.intro ?_ ?_)
            first
              | with_reducible rfl
              | with_reducible assumption
              | (symm; with_reducible assumption)
              | omega
              | ((try dsimp only [ercSpec, estSpec, etkSpec, erdSpec, estF, Ty.T, Ty.dflt, KT.T, getM, putM, delM, inI64, maxRow]); first | done | with_reducible rfl | with_reducible assumption | (symm; with_reducible assumption) | ((try simp only [natCast_eq, List.nil_append]); first | done | with_reducible rfl | omega | exact take_cg (by omega) | exact drop_cg (by omega) | exact take_drop_cg (by omega) (by omega) | exact take_all (by omega) | exact take_drop_all (by omega) (by omega) | exact drop_take_cg (by omega) (by omega) (by omega)))
              | first | exact hgz.preA (by omega) (.inl rfl) ⟨Int.le_refl _, by decide⟩ _ | exact hga.preA (by rw [if_neg (by decide)]; omega) (.inr rfl) ⟨Int.le_refl _, by decide⟩ _
              | ((try dsimp only [ercSpec, estSpec, etkSpec, erdSpec, estF, Ty.T, Ty.dflt, KT.T, getM, putM, delM, inI64, maxRow]); first | (simp only [nrm, reduceCtorEq, pair_eta, map_idL, natCast_eq, inI64, maxRow]; first | done | with_reducible assumption | omega) | exact map_pair_id _)
              | ((try dsimp only [ercSpec, estSpec, etkSpec, erdSpec, estF, Ty.T, Ty.dflt, KT.T, getM, putM, delM, inI64, maxRow] at *); first | ((try simp only [natCast_eq] at *) <;> omega) | ((try simp only [lens, natCast_eq] at *) <;> omega))
              | assumption
              | (symm; assumption)
              | (dsimp only; simp only [nrb, *]; done)
              | (simp; done)
              | (and_intros <;> first | trivial | with_reducible assumption | omega)
              | ((try dsimp only [ercSpec, estSpec, etkSpec, erdSpec, estF, Ty.T, Ty.dflt, KT.T, getM, putM, delM, inI64, maxRow] at *) <;> simp [*] <;> done))
         | skip
       all_goals
         (first
           | (refine Exists.elim (z.next (by assumption)) ?_
              rintro y ⟨hy0, hy1⟩
              refine ⟨y, by (try dsimp only); (try simp only [natCast_eq]); omega, ?_⟩
              (try (conv in (LoopInv.inv _ _) => dsimp only)); (try (conv in (SS.mk _ _) => cbv; (try dsimp only [ercSpec, estSpec, etkSpec, erdSpec, estF, Ty.T, Ty.dflt, KT.T]); (try simp only [natCast_eq])))
              (with_reducible refine (?_ : T1 _ ?_) ?_; rotate_left 1; (conv => lhs; cbv; (try cbv); (try cbv)); intro hT; clear hT; with_reducible refine Sh.mk (by kernel_rfl) ?_)
              repeat' (first
                | with_reducible (first | refine Ck.mk (C := tt) tt_intro ?_ | refine Ck.mk (show drawOk _ _ = true by kernel_rfl) ?_ | refine Ck.all_cons ?_ | refine Ck.all_nil ?_ | refine Ck.mk (by assumption) ?_ | refine Ck.mk (decide_eq_true (by assumption)) ?_ | refine Ck.mk (decide_eq_false (by assumption)) ?_ | refine Ck.mk ?_ ?_)
                | (with_reducible (first | refine Both.mk (fun h => ?_) (fun h => ?_) | refine Alt.mk (fun h => ?_) (fun h => ?_) | refine Pick.mk (fun h => ?_) (fun l1 x l2 h => ?_)) <;> (have hk := h) <;> (try simp only [nrm, reduceCtorEq, pair_eta, map_idL] at h) <;> (try dsimp only [ercSpec, estSpec, etkSpec, erdSpec, estF, Ty.T, Ty.dflt, KT.T, getM, putM, delM] at h) <;> (try simp only [natCast_eq] at h) <;> (try simp only [pair_eta, g1] at h) <;> (try simp only [g2] at h) <;> (try simp only [g3] at h) <;> (try simp only [g4] at h) <;> (try (exfalso; first | exact absurd rfl h | omega)) <;> (try first | rw [if_pos h] at hr | rw [if_neg h] at hr | rw [ifF h] at hr | rw [ifN h] at hr) <;> (try (have hb : (_ : Bool) = _ := h; clear h; subst hb; (try first | rw [if_pos rfl] at hr | rw [if_neg Bool.false_ne_true] at hr))) <;> first | (exfalso; omega) | exact absurd (h.symm.trans (by assumption) : true = false) Bool.noConfusion | exact absurd (h.symm.trans (by assumption) : false = true) Bool.noConfusion | (with_reducible refine (?_ : T1 _ ?_) ?_; rotate_left 1; (conv => lhs; cbv; (try cbv); (try cbv)); intro hT; clear hT; with_reducible refine Sh.mk (by kernel_rfl) ?_))
                | ((with_reducible refine End.mk ?_); skip)
                | with_reducible exact True.intro)
              all_goals first
                | (fail_if_success (with_reducible refine Exists.intro ?_ ?_)
                   first
                     | with_reducible rfl
                     | with_reducible assumption
                     | (symm; with_reducible assumption)
                     | omega
                     | ((try dsimp only [ercSpec, estSpec, etkSpec, erdSpec, estF, Ty.T, Ty.dflt, KT.T, getM, putM, delM, inI64, maxRow]); first | done | with_reducible rfl | with_reducible assumption | (symm; with_reducible assumption) | ((try simp only [natCast_eq, List.nil_append]); first | done | with_reducible rfl | omega | exact take_cg (by omega) | exact drop_cg (by omega) | exact take_drop_cg (by omega) (by omega) | exact take_all (by omega) | exact take_drop_all (by omega) (by omega) | exact drop_take_cg (by omega) (by omega) (by omega)))
                     | first | exact hy0.symm | ((try dsimp only); (try simp only [pair_eta, map_idL]); rw [hy1]; done)
                     | ((try dsimp only [ercSpec, estSpec, etkSpec, erdSpec, estF, Ty.T, Ty.dflt, KT.T, getM, putM, delM, inI64, maxRow]); first | (simp only [nrm, reduceCtorEq, pair_eta, map_idL, natCast_eq, inI64, maxRow]; first | done | with_reducible assumption | omega) | exact map_pair_id _)
                     | ((try dsimp only [ercSpec, estSpec, etkSpec, erdSpec, estF, Ty.T, Ty.dflt, KT.T, getM, putM, delM, inI64, maxRow] at *); first | ((try simp only [natCast_eq] at *) <;> omega) | ((try simp only [lens, natCast_eq] at *) <;> omega))
                     | assumption
                     | (symm; assumption)
                     | (dsimp only; simp only [nrb, *]; done)
                     | (simp; done)
                     | (and_intros <;> first | trivial | with_reducible assumption | omega)
                     | ((try dsimp only [ercSpec, estSpec, etkSpec, erdSpec, estF, Ty.T, Ty.dflt, KT.T, getM, putM, delM, inI64, maxRow] at *) <;> simp [*] <;> done))
                | skip
              skip)
           | (refine Exists.elim (x.next (by assumption)) ?_
              rintro y ⟨hy0, hy1⟩
              have hz : z.S = arrN 40 (ptickF x.S 9).2 := z.done (by assumption)
              have hy2 : y.S = z.S := by rw [hy1, hz, arrN_calI]; rfl
              refine ⟨y, by (try dsimp only); (try simp only [natCast_eq]); omega, ?_⟩
              (try (conv in (LoopInv.inv _ _) => dsimp only)); (try (conv in (SS.mk _ _) => cbv; (try dsimp only [ercSpec, estSpec, etkSpec, erdSpec, estF, Ty.T, Ty.dflt, KT.T]); (try simp only [natCast_eq])))
              (with_reducible refine (?_ : T1 _ ?_) ?_; rotate_left 1; (conv => lhs; cbv; (try cbv); (try cbv)); intro hT; clear hT; with_reducible refine Sh.mk (by kernel_rfl) ?_)
              repeat' (first
                | with_reducible (first | refine Ck.mk (C := tt) tt_intro ?_ | refine Ck.mk (show drawOk _ _ = true by kernel_rfl) ?_ | refine Ck.all_cons ?_ | refine Ck.all_nil ?_ | refine Ck.mk (by assumption) ?_ | refine Ck.mk (decide_eq_true (by assumption)) ?_ | refine Ck.mk (decide_eq_false (by assumption)) ?_ | refine Ck.mk ?_ ?_)
                | (with_reducible (first | refine Both.mk (fun h => ?_) (fun h => ?_) | refine Alt.mk (fun h => ?_) (fun h => ?_) | refine Pick.mk (fun h => ?_) (fun l1 x l2 h => ?_)) <;> (have hk := h) <;> (try simp only [nrm, reduceCtorEq, pair_eta, map_idL] at h) <;> (try dsimp only [ercSpec, estSpec, etkSpec, erdSpec, estF, Ty.T, Ty.dflt, KT.T, getM, putM, delM] at h) <;> (try simp only [natCast_eq] at h) <;> (try simp only [pair_eta, g1] at h) <;> (try simp only [g2] at h) <;> (try simp only [g3] at h) <;> (try simp only [g4] at h) <;> (try (exfalso; first | exact absurd rfl h | omega)) <;> (try first | rw [if_pos h] at hr | rw [if_neg h] at hr | rw [ifF h] at hr | rw [ifN h] at hr) <;> (try (have hb : (_ : Bool) = _ := h; clear h; subst hb; (try first | rw [if_pos rfl] at hr | rw [if_neg Bool.false_ne_true] at hr))) <;> first | (exfalso; omega) | exact absurd (h.symm.trans (by assumption) : true = false) Bool.noConfusion | exact absurd (h.symm.trans (by assumption) : false = true) Bool.noConfusion | (with_reducible refine (?_ : T1 _ ?_) ?_; rotate_left 1; (conv => lhs; cbv; (try cbv); (try cbv)); intro hT; clear hT; with_reducible refine Sh.mk (by kernel_rfl) ?_))
                | ((with_reducible refine End.mk ?_); skip)
                | with_reducible exact True.intro)
              all_goals first
                | (fail_if_success (with_reducible refine Exists.intro ?_ ?_)
                   first
                     | with_reducible rfl
                     | with_reducible assumption
                     | (symm; with_reducible assumption)
                     | omega
                     | ((try dsimp only [ercSpec, estSpec, etkSpec, erdSpec, estF, Ty.T, Ty.dflt, KT.T, getM, putM, delM, inI64, maxRow]); first | done | with_reducible rfl | with_reducible assumption | (symm; with_reducible assumption) | ((try simp only [natCast_eq, List.nil_append]); first | done | with_reducible rfl | omega | exact take_cg (by omega) | exact drop_cg (by omega) | exact take_drop_cg (by omega) (by omega) | exact take_all (by omega) | exact take_drop_all (by omega) (by omega) | exact drop_take_cg (by omega) (by omega) (by omega)))
                     | first | exact hy0.symm | ((try dsimp only); (try simp only [pair_eta, map_idL]); rw [hy2]; done)
                     | ((try dsimp only [ercSpec, estSpec, etkSpec, erdSpec, estF, Ty.T, Ty.dflt, KT.T, getM, putM, delM, inI64, maxRow]); first | (simp only [nrm, reduceCtorEq, pair_eta, map_idL, natCast_eq, inI64, maxRow]; first | done | with_reducible assumption | omega) | exact map_pair_id _)
                     | ((try dsimp only [ercSpec, estSpec, etkSpec, erdSpec, estF, Ty.T, Ty.dflt, KT.T, getM, putM, delM, inI64, maxRow] at *); first | ((try simp only [natCast_eq] at *) <;> omega) | ((try simp only [lens, natCast_eq] at *) <;> omega))
                     | assumption
                     | (symm; assumption)
                     | (dsimp only; simp only [nrb, *]; done)
                     | (simp; done)
                     | (and_intros <;> first | trivial | with_reducible assumption | omega)
                     | ((try dsimp only [ercSpec, estSpec, etkSpec, erdSpec, estF, Ty.T, Ty.dflt, KT.T, getM, putM, delM, inI64, maxRow] at *) <;> simp [*] <;> done))
                | skip
              skip)
           | skip))
  · have hxP : x.S = resP l := x.done hin
    obtain ⟨f1, f2, f3, f4⟩ := resP_facts l (by omega)
    rw [← hxP] at f1 f2 f3 f4
    have g1 := rst_1 ⟨f1, f2, f3⟩
    have g2 := rst_2 x.S.e0 5
    have hbk : OkE (brkE x.S.e0) := ⟨hgx.e0.ok.w, hgx.e0.ok.r, hgx.e0.ok.rw, hgx.e0.ok.tmo, hgx.e0.ok.wait⟩
    have g3 := rst_3 (E := x.S.e0) f3 (k := 1 + kd % 5) (by omega) (by omega)
    obtain ⟨g4, g5⟩ := rst_4 x.S.e0 100
    by_cases hk5 : 1 + kd % 5 = 5
    all_goals (first | rw [if_pos hk5] at g3 | rw [if_neg hk5] at g3)
    · (try (conv in (LoopInv.inv _ _) => dsimp only)); (try (conv in (SS.mk _ _) => cbv; (try dsimp only [ercSpec, estSpec, etkSpec, erdSpec, estF, Ty.T, Ty.dflt, KT.T]); (try simp only [natCast_eq])))
      (with_reducible refine (?_ : T1 _ ?_) ?_; rotate_left 1; (conv => lhs; cbv; (try cbv); (try cbv)); intro hT; clear hT; with_reducible refine Sh.mk (by kernel_rfl) ?_)
      repeat' (first
        | with_reducible (first | refine Ck.mk (C := tt) tt_intro ?_ | refine Ck.mk (show drawOk _ _ = true by kernel_rfl) ?_ | refine Ck.all_cons ?_ | refine Ck.all_nil ?_ | refine Ck.mk (by assumption) ?_ | refine Ck.mk (decide_eq_true (by assumption)) ?_ | refine Ck.mk (decide_eq_false (by assumption)) ?_ | refine Ck.mk ?_ ?_)
        | (with_reducible (first | refine Both.mk (fun h => ?_) (fun h => ?_) | refine Alt.mk (fun h => ?_) (fun h => ?_) | refine Pick.mk (fun h => ?_) (fun l1 x l2 h => ?_)) <;> (have hk := h) <;> (try simp only [nrm, reduceCtorEq, pair_eta, map_idL] at h) <;> (try dsimp only [ercSpec, estSpec, etkSpec, erdSpec, estF, Ty.T, Ty.dflt, KT.T, getM, putM, delM] at h) <;> (try simp only [natCast_eq] at h) <;> (try simp only [pair_eta, g1] at h) <;> (try simp only [g2] at h) <;> (try simp only [g3] at h) <;> (try simp only [g4] at h) <;> (try (exfalso; first | exact absurd rfl h | omega)) <;> (try first | rw [if_pos h] at hr | rw [if_neg h] at hr | rw [ifF h] at hr | rw [ifN h] at hr) <;> (try (have hb : (_ : Bool) = _ := h; clear h; subst hb; (try first | rw [if_pos rfl] at hr | rw [if_neg Bool.false_ne_true] at hr))) <;> first | (exfalso; omega) | exact absurd (h.symm.trans (by assumption) : true = false) Bool.noConfusion | exact absurd (h.symm.trans (by assumption) : false = true) Bool.noConfusion | (with_reducible refine (?_ : T1 _ ?_) ?_; rotate_left 1; (conv => lhs; cbv; (try cbv); (try cbv)); intro hT; clear hT; with_reducible refine Sh.mk (by kernel_rfl) ?_))
        | ((with_reducible refine End.mk ?_); (try ((repeat (first | rw [if_pos (by first | assumption | omega)] at hr | rw [if_neg (by first | assumption | omega | (simp only [Bool.false_eq_true, Bool.true_eq_false, reduceCtorEq, not_false_eq_true]; done) | (simp only [Bool.not_eq_true]; assumption) | (simp only [Bool.not_eq_false]; assumption))] at hr | rw [if_pos rfl] at hr)); subst hr)))
        | with_reducible exact True.intro)
      all_goals first
        | (fail_if_success (with_reducible refine Exists.intro ?_ ?_)
           first
             | with_reducible rfl
             | with_reducible assumption
             | (symm; with_reducible assumption)
             | omega
             | ((try dsimp only [ercSpec, estSpec, etkSpec, erdSpec, estF, Ty.T, Ty.dflt, KT.T, getM, putM, delM, inI64, maxRow]); first | done | with_reducible rfl | with_reducible assumption | (symm; with_reducible assumption) | ((try simp only [natCast_eq, List.nil_append]); first | done | with_reducible rfl | omega | exact take_cg (by omega) | exact drop_cg (by omega) | exact take_drop_cg (by omega) (by omega) | exact take_all (by omega) | exact take_drop_all (by omega) (by omega) | exact drop_take_cg (by omega) (by omega) (by omega)))
             | first | exact ⟨hgx.e0.ok, Nat.zero_le _⟩ | ((try dsimp only); simp only [pair_eta, map_idL, g1, g2, g3]; first | exact hbk | exact ⟨hbk, Nat.zero_le _⟩ | exact hbk.r | exact ⟨Int.le_refl _, by decide⟩ | exact decide_eq_true g5 | (simp only [g4, f4]; exact ⟨fun y hy => hb y (List.mem_of_mem_take hy), fun y hy => hb y (List.mem_of_mem_take (List.mem_of_mem_drop hy))⟩) | exact ⟨fun y hy => absurd (show y ∈ ([] : List Int) from hy) List.not_mem_nil, fun y hy => absurd hy List.not_mem_nil⟩)
             | ((try dsimp only [ercSpec, estSpec, etkSpec, erdSpec, estF, Ty.T, Ty.dflt, KT.T, getM, putM, delM, inI64, maxRow]); first | (simp only [nrm, reduceCtorEq, pair_eta, map_idL, natCast_eq, inI64, maxRow]; first | done | with_reducible assumption | omega) | exact map_pair_id _)
             | ((try dsimp only [ercSpec, estSpec, etkSpec, erdSpec, estF, Ty.T, Ty.dflt, KT.T, getM, putM, delM, inI64, maxRow] at *); first | ((try simp only [natCast_eq] at *) <;> omega) | ((try simp only [lens, natCast_eq] at *) <;> omega))
             | assumption
             | (symm; assumption)
             | (dsimp only; simp only [nrb, *]; done)
             | (simp; done)
             | (and_intros <;> first | trivial | with_reducible assumption | omega)
             | ((try dsimp only [ercSpec, estSpec, etkSpec, erdSpec, estF, Ty.T, Ty.dflt, KT.T, getM, putM, delM, inI64, maxRow] at *) <;> simp [*] <;> done))
        | skip
      all_goals first | (exfalso; exact absurd rfl h) | (exfalso; exact h (by first | exact (decide_eq_true hk5).symm | exact (decide_eq_false hk5).symm)) | (exfalso; exact h (f4.trans (take16 l))) | skip
    · (try (conv in (LoopInv.inv _ _) => dsimp only)); (try (conv in (SS.mk _ _) => cbv; (try dsimp only [ercSpec, estSpec, etkSpec, erdSpec, estF, Ty.T, Ty.dflt, KT.T]); (try simp only [natCast_eq])))
      (with_reducible refine (?_ : T1 _ ?_) ?_; rotate_left 1; (conv => lhs; cbv; (try cbv); (try cbv)); intro hT; clear hT; with_reducible refine Sh.mk (by kernel_rfl) ?_)
      repeat' (first
        | with_reducible (first | refine Ck.mk (C := tt) tt_intro ?_ | refine Ck.mk (show drawOk _ _ = true by kernel_rfl) ?_ | refine Ck.all_cons ?_ | refine Ck.all_nil ?_ | refine Ck.mk (by assumption) ?_ | refine Ck.mk (decide_eq_true (by assumption)) ?_ | refine Ck.mk (decide_eq_false (by assumption)) ?_ | refine Ck.mk ?_ ?_)
        | (with_reducible (first | refine Both.mk (fun h => ?_) (fun h => ?_) | refine Alt.mk (fun h => ?_) (fun h => ?_) | refine Pick.mk (fun h => ?_) (fun l1 x l2 h => ?_)) <;> (have hk := h) <;> (try simp only [nrm, reduceCtorEq, pair_eta, map_idL] at h) <;> (try dsimp only [ercSpec, estSpec, etkSpec, erdSpec, estF, Ty.T, Ty.dflt, KT.T, getM, putM, delM] at h) <;> (try simp only [natCast_eq] at h) <;> (try simp only [pair_eta, g1] at h) <;> (try simp only [g2] at h) <;> (try simp only [g3] at h) <;> (try simp only [g4] at h) <;> (try (exfalso; first | exact absurd rfl h | omega)) <;> (try first | rw [if_pos h] at hr | rw [if_neg h] at hr | rw [ifF h] at hr | rw [ifN h] at hr) <;> (try (have hb : (_ : Bool) = _ := h; clear h; subst hb; (try first | rw [if_pos rfl] at hr | rw [if_neg Bool.false_ne_true] at hr))) <;> first | (exfalso; omega) | exact absurd (h.symm.trans (by assumption) : true = false) Bool.noConfusion | exact absurd (h.symm.trans (by assumption) : false = true) Bool.noConfusion | (with_reducible refine (?_ : T1 _ ?_) ?_; rotate_left 1; (conv => lhs; cbv; (try cbv); (try cbv)); intro hT; clear hT; with_reducible refine Sh.mk (by kernel_rfl) ?_))
        | ((with_reducible refine End.mk ?_); (try ((repeat (first | rw [if_pos (by first | assumption | omega)] at hr | rw [if_neg (by first | assumption | omega | (simp only [Bool.false_eq_true, Bool.true_eq_false, reduceCtorEq, not_false_eq_true]; done) | (simp only [Bool.not_eq_true]; assumption) | (simp only [Bool.not_eq_false]; assumption))] at hr | rw [if_pos rfl] at hr)); subst hr)))
        | with_reducible exact True.intro)
      all_goals first
        | (fail_if_success (with_reducible refine Exists.intro ?_ ?_)
           first
             | with_reducible rfl
             | with_reducible assumption
             | (symm; with_reducible assumption)
             | omega
             | ((try dsimp only [ercSpec, estSpec, etkSpec, erdSpec, estF, Ty.T, Ty.dflt, KT.T, getM, putM, delM, inI64, maxRow]); first | done | with_reducible rfl | with_reducible assumption | (symm; with_reducible assumption) | ((try simp only [natCast_eq, List.nil_append]); first | done | with_reducible rfl | omega | exact take_cg (by omega) | exact drop_cg (by omega) | exact take_drop_cg (by omega) (by omega) | exact take_all (by omega) | exact take_drop_all (by omega) (by omega) | exact drop_take_cg (by omega) (by omega) (by omega)))
             | first | exact ⟨hgx.e0.ok, Nat.zero_le _⟩ | ((try dsimp only); simp only [pair_eta, map_idL, g1, g2, g3]; first | exact hbk | exact ⟨hbk, Nat.zero_le _⟩ | exact hbk.r | exact ⟨Int.le_refl _, by decide⟩ | exact decide_eq_true g5 | (simp only [g4, f4]; exact ⟨fun y hy => hb y (List.mem_of_mem_take hy), fun y hy => hb y (List.mem_of_mem_take (List.mem_of_mem_drop hy))⟩) | exact ⟨fun y hy => absurd (show y ∈ ([] : List Int) from hy) List.not_mem_nil, fun y hy => absurd hy List.not_mem_nil⟩)
             | ((try dsimp only [ercSpec, estSpec, etkSpec, erdSpec, estF, Ty.T, Ty.dflt, KT.T, getM, putM, delM, inI64, maxRow]); first | (simp only [nrm, reduceCtorEq, pair_eta, map_idL, natCast_eq, inI64, maxRow]; first | done | with_reducible assumption | omega) | exact map_pair_id _)
             | ((try dsimp only [ercSpec, estSpec, etkSpec, erdSpec, estF, Ty.T, Ty.dflt, KT.T, getM, putM, delM, inI64, maxRow] at *); first | ((try simp only [natCast_eq] at *) <;> omega) | ((try simp only [lens, natCast_eq] at *) <;> omega))
             | assumption
             | (symm; assumption)
             | (dsimp only; simp only [nrb, *]; done)
             | (simp; done)
             | (and_intros <;> first | trivial | with_reducible assumption | omega)
             | ((try dsimp only [ercSpec, estSpec, etkSpec, erdSpec, estF, Ty.T, Ty.dflt, KT.T, getM, putM, delM, inI64, maxRow] at *) <;> simp [*] <;> done))
        | skip
      all_goals first | (exfalso; exact absurd rfl h) | (exfalso; exact h (by first | exact (decide_eq_true hk5).symm | exact (decide_eq_false hk5).symm)) | (exfalso; exact h (f4.trans (take16 l))) | skip
theorem rst_sound : ConSound Try.prog AI 4 rstSpec.con := PureSpec.sound Try.call4 (fun x h => rst_ok x.1 x.2.1 h)
end Go.Proofs.Ytldabjgegpmmiaa
