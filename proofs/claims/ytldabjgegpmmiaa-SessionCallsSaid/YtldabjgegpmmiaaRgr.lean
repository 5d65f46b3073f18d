/-
  Layer 47: the reference's end: Read (contracts at its cells).
-/
import Derived.Test.YtldabjgegpmmiaaRgx
import Derived.Test.YtldabjgegpmmiaaRfb
namespace Go.Proofs.Ytldabjgegpmmiaa
set_option linter.all false
set_option linter.unusedVariables false
set_option linter.unusedSimpArgs false
set_option linter.unusedSectionVars false
open Go.RowKit Go.Sx
set_option maxRecDepth 100000
set_option maxHeartbeats 16000000
theorem rfin_inl : ConSound Try.prog AI 60 (inl E0 Try.f60 0) := inl_sound e0Ok mixed (fn := Try.f60) (c := bodyOf Try.f60) Try.call60 (by kernel_rfl) (by kernel_rfl) (by kernel_rfl) 0
noncomputable abbrev Err : Env Ab := ⟨tis, [(60, inl E0 Try.f60 0), (59, rreadSpec.con)] ++ E0.con⟩
theorem errOk : EnvOk Try.prog AI Err := ((e0Ok.add rread_sound).add rfin_inl)
abbrev TLB := Tup [DT.lst (.int .u8), DT.cell .bool]
abbrev rqS (R : RE) (m : Int) (o e n : Bool) (s : Int) : TLB × RE := (((rreadF R.s m).2.1, e, ()), { R with s := (rreadF R.s m).1, owed := o, ended := n, st := s })
abbrev rqF (R : RE) (m : Int) (o e n : Bool) : TLB × RE := if R.st = 2 then (if R.w.fin = true then (if n = true then rqS R m o e n 4 else rqS R m o e n R.st) else rqS R m o e n R.st) else rqS R m o e n R.st
abbrev rqN (R : RE) (m : Int) (o e : Bool) : TLB × RE := if R.ended = true then rqF R m o e true else rqF R m o e e
abbrev rqE (R : RE) (m : Int) (o : Bool) : TLB × RE := if 0 ≤ (rreadF R.s m).1.2.2.1 then rqN R m o (decide ((rreadF R.s m).1.2.1 = (rreadF R.s m).1.2.2.1)) else rqN R m o false
def rqdF (R : RE) (m : Int) : TLB × RE := if R.owed = true then rqE R m true else if 0 < (((rreadF R.s m).2.1 : List Int).length : Int) then rqE R m (!decide (R.st = 3)) else rqE R m false
def rrdeSpec : StepM Ab RE := ⟨reL, [.cell (.int .i64)], fun S (x : Int × Unit) => PreR S.s, [.lst (.int .u8), .cell .bool], fun S (x : Int × Unit) => (rqdF S x.1).1, fun S (x : Int × Unit) => (rqdF S x.1).2⟩
theorem rrde_ok (S : RE) (m : Int) (h : rrdeSpec.pre S (m, ())) : ∃ args : List SV, args.length + 1 ≤ Try.f34.ntmps ∧ args.all (belV (reL).k) = true ∧ (∀ (ρ : Ev) us, All2 (Den ρ) (argS [.cell (.int .i64)] (fun _ => (m, ()))) us → All2 (Den ρ) args us) ∧ (svc Err (reL).k (bodyOf Try.f34) ⟨argT 0 (Sx.one (.ptr 0 0) :: args), (reL).opn (fun _ => S)⟩ (finP Err.ti (reL).k Try.f34.results.toList (resOf (svs rrdeSpec.rs (fun _ => rrdeSpec.f S (m, ())))) ((reL).opn (fun _ => rrdeSpec.next S (m, ())))) ∨ svc Err (reL).k (bodyOf Try.f34) ⟨argT 0 (Sx.one (.ptr 0 0) :: args), (reL).opn (fun _ => S)⟩ (finR Err.ti (reL).k Try.f34.results.toList (resOf (svs rrdeSpec.rs (fun _ => rrdeSpec.f S (m, ())))) ((reL).opn (fun _ => rrdeSpec.next S (m, ()))))) := by
  dsimp only [rrdeSpec, reL] at h ⊢
  refine ⟨argS [.cell (.int .i64)] (fun _ => (m, ())), Nat.le_of_ble_eq_true (by kernel_rfl), rfl, (fun ρ us hd => hd), .inl ?_⟩
  generalize hr : rqdF S m = r
  dsimp only [rqdF, rqE, rqN, rqF, rqS] at hr
  (try (conv in (LoopInv.inv _ _) => dsimp only)); (try (conv in (SS.mk _ _) => cbv; (try dsimp only [rreadSpec, Ty.T, Ty.dflt, KT.T]); (try simp only [natCast_eq])))
  (with_reducible refine (?_ : T1 _ ?_) ?_; rotate_left 1; (conv => lhs; cbv; (try cbv); (try cbv)); intro hT; clear hT; with_reducible refine Sh.mk (by kernel_rfl) ?_)
  repeat' (first
    | with_reducible (first | refine Ck.mk (C := tt) tt_intro ?_ | refine Ck.mk (show drawOk _ _ = true by kernel_rfl) ?_ | refine Ck.all_cons ?_ | refine Ck.all_nil ?_ | refine Ck.mk (by assumption) ?_ | refine Ck.mk (decide_eq_true (by assumption)) ?_ | refine Ck.mk (decide_eq_false (by assumption)) ?_ | refine Ck.mk ?_ ?_)
    | (with_reducible (first | refine Both.mk (fun h => ?_) (fun h => ?_) | refine Alt.mk (fun h => ?_) (fun h => ?_) | refine Pick.mk (fun h => ?_) (fun l1 x l2 h => ?_)) <;> (have hk := h) <;> (try simp only [nrm, reduceCtorEq, pair_eta, map_idL] at h) <;> (try dsimp only [rreadSpec, Ty.T, Ty.dflt, KT.T, getM, putM, delM] at h) <;> (try simp only [natCast_eq] at h) <;> skip <;> (try first | rw [if_pos h] at hr | rw [if_neg h] at hr | rw [ifF h] at hr | rw [ifN h] at hr) <;> (try (have hb : (_ : Bool) = _ := h; clear h; subst hb; (try first | rw [if_pos rfl] at hr | rw [if_neg Bool.false_ne_true] at hr))) <;> first | (exfalso; omega) | exact absurd (h.symm.trans (by assumption) : true = false) Bool.noConfusion | exact absurd (h.symm.trans (by assumption) : false = true) Bool.noConfusion | (with_reducible refine (?_ : T1 _ ?_) ?_; rotate_left 1; (conv => lhs; cbv; (try cbv); (try cbv)); intro hT; clear hT; with_reducible refine Sh.mk (by kernel_rfl) ?_))
    | ((with_reducible refine End.mk ?_); (try ((repeat (first | rw [if_pos (by first | assumption | omega)] at hr | rw [if_neg (by first | assumption | omega | (simp only [Bool.false_eq_true, Bool.true_eq_false, reduceCtorEq, not_false_eq_true]; done) | (simp only [Bool.not_eq_true]; assumption) | (simp only [Bool.not_eq_false]; assumption))] at hr | rw [if_pos rfl] at hr)); subst hr)))
    | with_reducible exact True.intro)
  all_goals first
    | (fail_if_success (with_reducible refine Exists.intro ?_ ?_)
       first
         | with_reducible rfl
         | with_reducible assumption
         | (symm; with_reducible assumption)
         | omega
         | ((try dsimp only [rreadSpec, Ty.T, Ty.dflt, KT.T, getM, putM, delM, inI64, maxRow]); first | done | with_reducible rfl | with_reducible assumption | (symm; with_reducible assumption) | ((try simp only [natCast_eq, List.nil_append]); first | done | with_reducible rfl | omega | exact take_cg (by omega) | exact drop_cg (by omega) | exact take_drop_cg (by omega) (by omega) | exact take_all (by omega) | exact take_drop_all (by omega) (by omega) | exact drop_take_cg (by omega) (by omega) (by omega)))
         | exact h
         | ((try dsimp only [rreadSpec, Ty.T, Ty.dflt, KT.T, getM, putM, delM, inI64, maxRow]); first | (simp only [nrm, reduceCtorEq, pair_eta, map_idL, natCast_eq, inI64, maxRow]; first | done | with_reducible assumption | omega) | exact map_pair_id _)
         | ((try dsimp only [rreadSpec, Ty.T, Ty.dflt, KT.T, getM, putM, delM, inI64, maxRow] at *); first | ((try simp only [natCast_eq] at *) <;> omega) | ((try simp only [lens, natCast_eq] at *) <;> omega))
         | assumption
         | (symm; assumption)
         | (dsimp only; simp only [nrb, *]; done)
         | (simp; done)
         | (and_intros <;> first | trivial | with_reducible assumption | omega)
         | ((try dsimp only [rreadSpec, Ty.T, Ty.dflt, KT.T, getM, putM, delM, inI64, maxRow] at *) <;> simp [*] <;> done))
    | skip
theorem rrde_sound : ConSound Try.prog AI 34 rrdeSpec.con := StepM.sound errOk mixed (fn := Try.f34) (c := bodyOf Try.f34) Try.call34 (by kernel_rfl) (by kernel_rfl) (by kernel_rfl) fun S x h => rrde_ok S x.1 h
end Go.Proofs.Ytldabjgegpmmiaa
