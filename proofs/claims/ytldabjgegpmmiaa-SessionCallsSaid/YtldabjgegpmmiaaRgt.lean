/-
  Layer 47: the reference's end: Tick (contract at its cells).
-/
import Derived.Test.YtldabjgegpmmiaaRgx
import Derived.Test.YtldabjgegpmmiaaSew
namespace Go.Proofs.Ytldabjgegpmmiaa
set_option linter.all false
set_option linter.unusedVariables false
set_option linter.unusedSimpArgs false
set_option linter.unusedSectionVars false
open Go.RowKit Go.Sx
set_option maxRecDepth 100000
set_option maxHeartbeats 16000000
abbrev IIB2 := Tup [DT.cell (.int .i64), .cell (.int .i64), .cell .bool]
def confF (M : TS) (k : Bool) : IIB2 := (rctg M, M.2.1 + M.1 - rctg M, k && decide (M.2.2.1 = rctg M), ())
def confSpec : PureSpec := ⟨[.cell eS, .cell .bool], fun (x : TS × Bool × Unit) => PreR x.1, [.cell (.int .i64), .cell (.int .i64), .cell .bool], fun (x : TS × Bool × Unit) => confF x.1 x.2.1⟩
theorem conf_ok (M : TS) (k : Bool) (h : confSpec.pre (M, k, ())) : TmplOk Try.prog AI 62 (argS confSpec.ds (fun _ => (M, k, ()))) [] (resOf (svs confSpec.rs (fun _ => confSpec.f (M, k, ())))) [] := by
  dsimp only [confSpec] at h ⊢
  generalize hr : confF M k = r
  have hM := h; obtain ⟨⟨h1, h2⟩, ⟨h3, h4⟩, ⟨h5, h6⟩, h7, h8⟩ := h; have hc := adv_rng (K := M.2.2.2) M.1.toNat M.2.1
  dsimp only [confF] at hr
  refine tmpl_of_body ecOk mixed (fn := Try.f62) (c := bodyOf Try.f62) (by kernel_rfl) (by kernel_rfl) (by kernel_rfl) (Nat.le_of_ble_eq_true (by kernel_rfl)) ?_
  (try (conv in (LoopInv.inv _ _) => dsimp only)); (try (conv in (SS.mk _ _) => cbv; (try dsimp only [rctgcSpec, rctgF, Ty.T, Ty.dflt, KT.T]); (try simp only [natCast_eq])))
  (with_reducible refine (?_ : T1 _ ?_) ?_; rotate_left 1; (conv => lhs; cbv; (try cbv); (try cbv)); intro hT; clear hT; with_reducible refine Sh.mk (by kernel_rfl) ?_)
  repeat' (first
    | with_reducible (first | refine Ck.mk (C := tt) tt_intro ?_ | refine Ck.mk (show drawOk _ _ = true by kernel_rfl) ?_ | refine Ck.all_cons ?_ | refine Ck.all_nil ?_ | refine Ck.mk (by assumption) ?_ | refine Ck.mk (decide_eq_true (by assumption)) ?_ | refine Ck.mk (decide_eq_false (by assumption)) ?_ | refine Ck.mk ?_ ?_)
    | (with_reducible (first | refine Both.mk (fun h => ?_) (fun h => ?_) | refine Alt.mk (fun h => ?_) (fun h => ?_) | refine Pick.mk (fun h => ?_) (fun l1 x l2 h => ?_)) <;> (have hk := h) <;> (try simp only [nrm, reduceCtorEq, pair_eta, map_idL] at h) <;> (try dsimp only [rctgcSpec, rctgF, Ty.T, Ty.dflt, KT.T, getM, putM, delM] at h) <;> (try simp only [natCast_eq] at h) <;> skip <;> (try first | rw [if_pos h] at hr | rw [if_neg h] at hr | rw [ifF h] at hr | rw [ifN h] at hr) <;> (try (have hb : (_ : Bool) = _ := h; clear h; subst hb; (try first | rw [if_pos rfl] at hr | rw [if_neg Bool.false_ne_true] at hr))) <;> first | (exfalso; omega) | exact absurd (h.symm.trans (by assumption) : true = false) Bool.noConfusion | exact absurd (h.symm.trans (by assumption) : false = true) Bool.noConfusion | (with_reducible refine (?_ : T1 _ ?_) ?_; rotate_left 1; (conv => lhs; cbv; (try cbv); (try cbv)); intro hT; clear hT; with_reducible refine Sh.mk (by kernel_rfl) ?_))
    | ((with_reducible refine End.mk ?_); (try ((repeat (first | rw [if_pos (by first | assumption | omega)] at hr | rw [if_neg (by first | assumption | omega | (simp only [Bool.false_eq_true, Bool.true_eq_false, reduceCtorEq, not_false_eq_true]; done) | (simp only [Bool.not_eq_true]; assumption) | (simp only [Bool.not_eq_false]; assumption))] at hr | rw [if_pos rfl] at hr)); subst hr)))
    | with_reducible exact True.intro)
  all_goals first
    | (fail_if_success (with_reducible refine Exists.intro ?_ ?_)
       first
         | with_reducible rfl
         | with_reducible assumption
         | (symm; with_reducible assumption)
         | omega
         | ((try dsimp only [rctgcSpec, rctgF, Ty.T, Ty.dflt, KT.T, getM, putM, delM, inI64, maxRow]); first | done | with_reducible rfl | with_reducible assumption | (symm; with_reducible assumption) | ((try simp only [natCast_eq, List.nil_append]); first | done | with_reducible rfl | omega | exact take_cg (by omega) | exact drop_cg (by omega) | exact take_drop_cg (by omega) (by omega) | exact take_all (by omega) | exact take_drop_all (by omega) (by omega) | exact drop_take_cg (by omega) (by omega) (by omega)))
         | exact hM | (dsimp only [rctgcSpec, rctgF, rctg, Ty.T, Ty.dflt]; simp only [pair_eta, map_idL, inI64]; first | done | omega)
         | ((try dsimp only [rctgcSpec, rctgF, Ty.T, Ty.dflt, KT.T, getM, putM, delM, inI64, maxRow]); first | (simp only [nrm, reduceCtorEq, pair_eta, map_idL, natCast_eq, inI64, maxRow]; first | done | with_reducible assumption | omega) | exact map_pair_id _)
         | ((try dsimp only [rctgcSpec, rctgF, Ty.T, Ty.dflt, KT.T, getM, putM, delM, inI64, maxRow] at *); first | ((try simp only [natCast_eq] at *) <;> omega) | ((try simp only [lens, natCast_eq] at *) <;> omega))
         | assumption
         | (symm; assumption)
         | (dsimp only; simp only [nrb, *]; done)
         | (simp; done)
         | (and_intros <;> first | trivial | with_reducible assumption | omega)
         | ((try dsimp only [rctgcSpec, rctgF, Ty.T, Ty.dflt, KT.T, getM, putM, delM, inI64, maxRow] at *) <;> simp [*] <;> done))
    | skip
theorem conf_sound : ConSound Try.prog AI 62 confSpec.con := PureSpec.sound Try.call62 (fun x h => conf_ok x.1 x.2.1 h)
noncomputable abbrev Ert : Env Ab := ⟨tis, [(62, confSpec.con), (61, rtickSpec.con)] ++ E0.con⟩
theorem ertOk : EnvOk Try.prog AI Ert := ((e0Ok.add rtick_sound).add conf_sound)
abbrev rhM (R : RE) : Msg := (1, R.mine, 0, (0, [], false), 0, 0, false)
abbrev rdM (R : RE) (s : Seg) : Msg := (3, R.mine, R.peer, s, 0, 0, false)
abbrev rcM (R : RE) : Msg := (4, R.mine, R.peer, (0, [], false), (confF R.s (decide (0 ≤ R.s.2.2.1))).1, (confF R.s (decide (0 ≤ R.s.2.2.1))).2.1, (confF R.s (decide (0 ≤ R.s.2.2.1))).2.2.1)
def rtkF (R : RE) (m : Int) : TL × RE :=
  if R.st = 1 then (if R.tmo ≤ R.sil then (([rhM R], ()), { R with sil := 0 + 1 }) else (([], ()), { R with sil := R.sil + 1 }))
  else if R.st = 2 then
    (if (refTick R.w m).2.2 = true then
      (if R.owed = true then (([rdM R (refTick R.w m).2.1, rcM R], ()), { R with w := (refTick R.w m).1, owed := false }) else (([rdM R (refTick R.w m).2.1], ()), { R with w := (refTick R.w m).1 }))
    else (if R.owed = true then (([rcM R], ()), { R with w := (refTick R.w m).1, owed := false }) else (([], ()), { R with w := (refTick R.w m).1 })))
  else if R.st = 4 then (if R.owed = true then (([rcM R], ()), { R with owed := false }) else (([], ()), R)) else (([], ()), R)
def rtkeSpec : StepM Ab RE := ⟨reL, [.cell (.int .i64)], fun S (x : Int × Unit) => OkM S.w ∧ PreR S.s ∧ (0 ≤ S.sil ∧ S.sil ≤ 1000000), [.lst msgE], fun S (x : Int × Unit) => (rtkF S x.1).1, fun S (x : Int × Unit) => (rtkF S x.1).2⟩
theorem rtke_ok (S : RE) (m : Int) (h : rtkeSpec.pre S (m, ())) : ∃ args : List SV, args.length + 1 ≤ Try.f36.ntmps ∧ args.all (belV (reL).k) = true ∧ (∀ (ρ : Ev) us, All2 (Den ρ) (argS [.cell (.int .i64)] (fun _ => (m, ()))) us → All2 (Den ρ) args us) ∧ (svc Ert (reL).k (bodyOf Try.f36) ⟨argT 0 (Sx.one (.ptr 0 0) :: args), (reL).opn (fun _ => S)⟩ (finP Ert.ti (reL).k Try.f36.results.toList (resOf (svs rtkeSpec.rs (fun _ => rtkeSpec.f S (m, ())))) ((reL).opn (fun _ => rtkeSpec.next S (m, ())))) ∨ svc Ert (reL).k (bodyOf Try.f36) ⟨argT 0 (Sx.one (.ptr 0 0) :: args), (reL).opn (fun _ => S)⟩ (finR Ert.ti (reL).k Try.f36.results.toList (resOf (svs rtkeSpec.rs (fun _ => rtkeSpec.f S (m, ())))) ((reL).opn (fun _ => rtkeSpec.next S (m, ()))))) := by
  dsimp only [rtkeSpec, reL] at h ⊢
  obtain ⟨h1, h2, h3, h4⟩ := h
  refine ⟨argS [.cell (.int .i64)] (fun _ => (m, ())), Nat.le_of_ble_eq_true (by kernel_rfl), rfl, (fun ρ us hd => hd), .inl ?_⟩
  generalize hr : rtkF S m = r
  dsimp only [rtkF, rhM, rdM, rcM] at hr
  (try (conv in (LoopInv.inv _ _) => dsimp only)); (try (conv in (SS.mk _ _) => cbv; (try dsimp only [rtickSpec, rtickF, confSpec, RW.t, RW.of, Ty.T, Ty.dflt, KT.T]); (try simp only [natCast_eq])))
  (with_reducible refine (?_ : T1 _ ?_) ?_; rotate_left 1; (conv => lhs; cbv; (try cbv); (try cbv)); intro hT; clear hT; with_reducible refine Sh.mk (by kernel_rfl) ?_)
  repeat' (first
    | with_reducible (first | refine Ck.mk (C := tt) tt_intro ?_ | refine Ck.mk (show drawOk _ _ = true by kernel_rfl) ?_ | refine Ck.all_cons ?_ | refine Ck.all_nil ?_ | refine Ck.mk (by assumption) ?_ | refine Ck.mk (decide_eq_true (by assumption)) ?_ | refine Ck.mk (decide_eq_false (by assumption)) ?_ | refine Ck.mk ?_ ?_)
    | (with_reducible (first | refine Both.mk (fun h => ?_) (fun h => ?_) | refine Alt.mk (fun h => ?_) (fun h => ?_) | refine Pick.mk (fun h => ?_) (fun l1 x l2 h => ?_)) <;> (have hk := h) <;> (try simp only [nrm, reduceCtorEq, pair_eta, map_idL] at h) <;> (try dsimp only [rtickSpec, rtickF, confSpec, RW.t, RW.of, Ty.T, Ty.dflt, KT.T, getM, putM, delM] at h) <;> (try simp only [natCast_eq] at h) <;> skip <;> (try first | rw [if_pos h] at hr | rw [if_neg h] at hr | rw [ifF h] at hr | rw [ifN h] at hr) <;> (try (have hb : (_ : Bool) = _ := h; clear h; subst hb; (try first | rw [if_pos rfl] at hr | rw [if_neg Bool.false_ne_true] at hr))) <;> first | (exfalso; omega) | exact absurd (h.symm.trans (by assumption) : true = false) Bool.noConfusion | exact absurd (h.symm.trans (by assumption) : false = true) Bool.noConfusion | (with_reducible refine (?_ : T1 _ ?_) ?_; rotate_left 1; (conv => lhs; cbv; (try cbv); (try cbv)); intro hT; clear hT; with_reducible refine Sh.mk (by kernel_rfl) ?_))
    | ((with_reducible refine End.mk ?_); (try ((repeat (first | rw [if_pos (by first | assumption | omega)] at hr | rw [if_neg (by first | assumption | omega | (simp only [Bool.false_eq_true, Bool.true_eq_false, reduceCtorEq, not_false_eq_true]; done) | (simp only [Bool.not_eq_true]; assumption) | (simp only [Bool.not_eq_false]; assumption))] at hr | rw [if_pos rfl] at hr)); subst hr)))
    | with_reducible exact True.intro)
  all_goals first
    | (fail_if_success (with_reducible refine Exists.intro ?_ ?_)
       first
         | with_reducible rfl
         | with_reducible assumption
         | (symm; with_reducible assumption)
         | omega
         | ((try dsimp only [rtickSpec, rtickF, confSpec, RW.t, RW.of, Ty.T, Ty.dflt, KT.T, getM, putM, delM, inI64, maxRow]); first | done | with_reducible rfl | with_reducible assumption | (symm; with_reducible assumption) | ((try simp only [natCast_eq, List.nil_append]); first | done | with_reducible rfl | omega | exact take_cg (by omega) | exact drop_cg (by omega) | exact take_drop_cg (by omega) (by omega) | exact take_all (by omega) | exact take_drop_all (by omega) (by omega) | exact drop_take_cg (by omega) (by omega) (by omega)))
         | first | exact h1 | exact h2 | ((try dsimp only); (try simp only [pair_eta, map_idL]); done) | ((try dsimp only); (try simp only [pair_eta, map_idL]); rfl)
         | ((try dsimp only [rtickSpec, rtickF, confSpec, RW.t, RW.of, Ty.T, Ty.dflt, KT.T, getM, putM, delM, inI64, maxRow]); first | (simp only [nrm, reduceCtorEq, pair_eta, map_idL, natCast_eq, inI64, maxRow]; first | done | with_reducible assumption | omega) | exact map_pair_id _)
         | ((try dsimp only [rtickSpec, rtickF, confSpec, RW.t, RW.of, Ty.T, Ty.dflt, KT.T, getM, putM, delM, inI64, maxRow] at *); first | ((try simp only [natCast_eq] at *) <;> omega) | ((try simp only [lens, natCast_eq] at *) <;> omega))
         | assumption
         | (symm; assumption)
         | (dsimp only; simp only [nrb, *]; done)
         | (simp; done)
         | (and_intros <;> first | trivial | with_reducible assumption | omega)
         | ((try dsimp only [rtickSpec, rtickF, confSpec, RW.t, RW.of, Ty.T, Ty.dflt, KT.T, getM, putM, delM, inI64, maxRow] at *) <;> simp [*] <;> done))
    | skip
theorem rtke_sound : ConSound Try.prog AI 36 rtkeSpec.con := StepM.sound ertOk mixed (fn := Try.f36) (c := bodyOf Try.f36) Try.call36 (by kernel_rfl) (by kernel_rfl) (by kernel_rfl) fun S x h => rtke_ok S x.1 h
end Go.Proofs.Ytldabjgegpmmiaa
