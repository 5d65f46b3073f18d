/-
  Layer 47: the reference's New (contract).
-/
import Derived.Test.YtldabjgegpmmiaaRgs
import Derived.Test.YtldabjgegpmmiaaSrl
namespace Go.Proofs.Ytldabjgegpmmiaa
set_option linter.all false
set_option linter.unusedVariables false
set_option linter.unusedSimpArgs false
set_option linter.unusedSectionVars false
open Go.RowKit Go.Sx
set_option maxRecDepth 100000
set_option maxHeartbeats 16000000
abbrev enE : Ty := .pair (.int .i64) (.pair (.int .i64) (.pair (.int .i64) (.pair (.int .i64) (.pair eW (.pair eS (.pair .bool (.pair .bool (.int .i64))))))))
abbrev TEn := Int × Int × Int × Int × TW × TS × Bool × Bool × Int
abbrev enT (R : RE) : TEn := (R.mine, R.peer, R.st, R.tmo, R.w.t, R.s, R.owed, R.ended, R.sil)
abbrev zeroRE : RE := ⟨0, 0, 0, 0, ⟨0, 0, 0, 0, 0, 0, 0, [], false, false, false, false⟩, (0, 0, 0, []), false, false, 0⟩
abbrev TEI := Tup [DT.cell enE, .cell (.int .i64)]
def rnwF (i w t : Int) : TEI := if inB i 1 1099511627775 = false then (enT zeroRE, 2, ()) else if inB w 1 1048576 = false then (enT zeroRE, 2, ()) else if inB t 1 1000 = false then (enT zeroRE, 2, ()) else (enT (newRE i w t), 0, ())
noncomputable abbrev Ern : Env Ab := ⟨tis, [(57, rinSpec.con)] ++ E0.con⟩
theorem ernOk : EnvOk Try.prog AI Ern := (e0Ok.add rin_sound)
def rnwSpec : PureSpec := ⟨[.cell (.int .i64), .cell (.int .i64), .cell (.int .i64)], fun (x : Int × Int × Int × Unit) => True, [.cell enE, .cell (.int .i64)], fun (x : Int × Int × Int × Unit) => rnwF x.1 x.2.1 x.2.2.1⟩
theorem rnw_ok (i : Int) (w : Int) (t : Int) (h : rnwSpec.pre (i, w, t, ())) : TmplOk Try.prog AI 30 (argS rnwSpec.ds (fun _ => (i, w, t, ()))) [] (resOf (svs rnwSpec.rs (fun _ => rnwSpec.f (i, w, t, ())))) [] := by
  dsimp only [rnwSpec] at h ⊢
  generalize hr : rnwF i w t = r
  dsimp only [rnwF] at hr
  refine tmpl_of_body ernOk mixed (fn := Try.f30) (c := bodyOf Try.f30) (by kernel_rfl) (by kernel_rfl) (by kernel_rfl) (Nat.le_of_ble_eq_true (by kernel_rfl)) ?_
  (try (conv in (LoopInv.inv _ _) => dsimp only)); (try (conv in (SS.mk _ _) => cbv; (try dsimp only [rinSpec, rinF, Ty.T, Ty.dflt, KT.T]); (try simp only [natCast_eq])))
  (with_reducible refine (?_ : T1 _ ?_) ?_; rotate_left 1; (conv => lhs; cbv; (try cbv); (try cbv)); intro hT; clear hT; with_reducible refine Sh.mk (by kernel_rfl) ?_)
  repeat' (first
    | with_reducible (first | refine Ck.mk (C := tt) tt_intro ?_ | refine Ck.mk (show drawOk _ _ = true by kernel_rfl) ?_ | refine Ck.all_cons ?_ | refine Ck.all_nil ?_ | refine Ck.mk (by assumption) ?_ | refine Ck.mk (decide_eq_true (by assumption)) ?_ | refine Ck.mk (decide_eq_false (by assumption)) ?_ | refine Ck.mk ?_ ?_)
    | (with_reducible (first | refine Both.mk (fun h => ?_) (fun h => ?_) | refine Alt.mk (fun h => ?_) (fun h => ?_) | refine Pick.mk (fun h => ?_) (fun l1 x l2 h => ?_)) <;> (have hk := h) <;> (try simp only [nrm, reduceCtorEq, pair_eta, map_idL] at h) <;> (try dsimp only [rinSpec, rinF, Ty.T, Ty.dflt, KT.T, getM, putM, delM] at h) <;> (try simp only [natCast_eq] at h) <;> skip <;> (try first | rw [if_pos h] at hr | rw [if_neg h] at hr | rw [ifF h] at hr | rw [ifN h] at hr) <;> (try (have hb : (_ : Bool) = _ := h; clear h; subst hb; (try first | rw [if_pos rfl] at hr | rw [if_neg Bool.false_ne_true] at hr))) <;> first | (exfalso; omega) | exact absurd (h.symm.trans (by assumption) : true = false) Bool.noConfusion | exact absurd (h.symm.trans (by assumption) : false = true) Bool.noConfusion | (with_reducible refine (?_ : T1 _ ?_) ?_; rotate_left 1; (conv => lhs; cbv; (try cbv); (try cbv)); intro hT; clear hT; with_reducible refine Sh.mk (by kernel_rfl) ?_))
    | ((with_reducible refine End.mk ?_); (try ((repeat (first | rw [if_pos (by first | assumption | omega)] at hr | rw [if_neg (by first | assumption | omega | (simp only [Bool.false_eq_true, Bool.true_eq_false, reduceCtorEq, not_false_eq_true]; done) | (simp only [Bool.not_eq_true]; assumption) | (simp only [Bool.not_eq_false]; assumption))] at hr | rw [if_pos rfl] at hr)); subst hr)))
    | with_reducible exact True.intro)
  all_goals first
    | (fail_if_success (with_reducible refine Exists.intro ?_ ?_)
       first
         | with_reducible rfl
         | with_reducible assumption
         | (symm; with_reducible assumption)
         | omega
         | ((try dsimp only [rinSpec, rinF, Ty.T, Ty.dflt, KT.T, getM, putM, delM, inI64, maxRow]); first | done | with_reducible rfl | with_reducible assumption | (symm; with_reducible assumption) | ((try simp only [natCast_eq, List.nil_append]); first | done | with_reducible rfl | omega | exact take_cg (by omega) | exact drop_cg (by omega) | exact take_drop_cg (by omega) (by omega) | exact take_all (by omega) | exact take_drop_all (by omega) (by omega) | exact drop_take_cg (by omega) (by omega) (by omega)))
         | ((try dsimp only [rinSpec, rinF, Ty.T, Ty.dflt, KT.T, getM, putM, delM, inI64, maxRow]); first | (simp only [nrm, reduceCtorEq, pair_eta, map_idL, natCast_eq, inI64, maxRow]; first | done | with_reducible assumption | omega) | exact map_pair_id _)
         | ((try dsimp only [rinSpec, rinF, Ty.T, Ty.dflt, KT.T, getM, putM, delM, inI64, maxRow] at *); first | ((try simp only [natCast_eq] at *) <;> omega) | ((try simp only [lens, natCast_eq] at *) <;> omega))
         | assumption
         | (symm; assumption)
         | (dsimp only; simp only [nrb, *]; done)
         | (simp; done)
         | (and_intros <;> first | trivial | with_reducible assumption | omega)
         | ((try dsimp only [rinSpec, rinF, Ty.T, Ty.dflt, KT.T, getM, putM, delM, inI64, maxRow] at *) <;> simp [*] <;> done))
    | skip
theorem rnw_sound : ConSound Try.prog AI 30 rnwSpec.con := PureSpec.sound Try.call30 (fun x h => rnw_ok x.1 x.2.1 x.2.2.1 h)
end Go.Proofs.Ytldabjgegpmmiaa
