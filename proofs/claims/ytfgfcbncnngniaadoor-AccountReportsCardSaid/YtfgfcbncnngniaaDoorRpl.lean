/-
  Layer 50: AccountReports, the walk.
-/
import Derived.Test.YtfgfcbncnngniaaDoorRre
import Derived.Test.YtfgfcbncnngniaaDoorBka
import Derived.Test.YtfgfcbncnngniaaDoorEng3
namespace Go.Proofs.YtfgfcbncnngniaaDoor
set_option linter.all false
set_option linter.unusedVariables false
set_option linter.unusedSimpArgs false
set_option linter.unusedSectionVars false
open Go.RowKit Go.Sx
set_option maxRecDepth 100000
set_option maxHeartbeats 16000000
theorem cnt_sound : ConSound Tryd.prog AI 29 (countCon (A := Ab)) :=
  countCon_sound Tryd.call29 fun s w => (Any.strings_Count_one cntL s 10 w).mono fun e w' h => h
noncomputable abbrev Erq : Env Ab := ⟨tis, [(29, countCon), (28, rrepSpec.con), (17, connsSpec.con), (26, reportSpec.con), (16, plainSpec.con), (13, bkaSpec.con), (12, awakeSpec.con)] ++ E0.con⟩
theorem erqOk : EnvOk Tryd.prog AI Erq := (((((((e0Ok.add awake_sound).add bka_sound).add plain_sound).add report_sound).add conns_sound).add rrep_sound).add cnt_sound)
theorem repL_byt (S : Led) (cs : List Int) : inBytes (repL S cs) := fun x hx => by
  obtain ⟨c, _, hc⟩ := List.mem_flatMap.1 hx
  exact line_byt _ _ x hc
structure RpF (L : List Fv) : Prop where
  ok : OkB (bookAll L)
  e1 : repR (bookAll L).ents (connsR (bookAll L).ents) = repL (bookAll L) (keysL (bookAll L))
  e2 : (u8b (repL (bookAll L) (keysL (bookAll L)))).count 10 = (keysL (bookAll L)).length
  pr : ∀ c ∈ connsR (bookAll L).ents, okN c ∧ OkR (bookAll L).ents c
theorem rpF (L : List Fv) : RpF L := by
  have h := okB_all L
  have hp : ∀ c ∈ connsR (bookAll L).ents, okN c ∧ OkR (bookAll L).ents c := fun c hc => by
    rw [conns_eqR h] at hc
    have := h.preK.rng c ((sortI_perm _).subset hc)
    exact ⟨by unfold okN; omega, h.okR c⟩
  refine ⟨h, h.rep, ?_, hp⟩
  rw [← h.rep, rep_cnt _ hp, conns_eqR h]
def rplF (_ : List Fv) : Tup [DT.cell .bool] := (true, ())
def rplSpec : PureSpec := ⟨[.lst fvE], fun (x : (List Fv) × Unit) => x.1.length ≤ maxLen ∧ ∀ e ∈ x.1, fvE.ok e, [.cell .bool], fun (x : (List Fv) × Unit) => rplF x.1⟩
theorem rpl_ok (L : List Fv) (h : rplSpec.pre (L, ())) : TmplOk Tryd.prog AI 11 (argS rplSpec.ds (fun _ => (L, ()))) [] (resOf (svs rplSpec.rs (fun _ => rplSpec.f (L, ())))) [] := by
  dsimp only [rplSpec] at h ⊢
  generalize hr : rplF L = r
  obtain ⟨hL0, hL⟩ := h; have hF := rpF L; have e1 := hF.e1; have e2 := hF.e2; have hb := repL_byt (bookAll L) (keysL (bookAll L)); have hb2 : inBytes (repR (bookAll L).ents (connsR (bookAll L).ents)) := by rw [e1]; exact hb
  dsimp only [rplF] at hr
  refine tmpl_of_body erqOk mixed (fn := Tryd.f11) (c := bodyOf Tryd.f11) (by kernel_rfl) (by kernel_rfl) (by kernel_rfl) (Nat.le_of_ble_eq_true (by kernel_rfl)) ?_
  (try (conv in (LoopInv.inv _ _) => dsimp only)); (try (conv in (SS.mk _ _) => cbv; (try dsimp only [bkaSpec, plainSpec, plainF, reportSpec, reportF, connsSpec, connsF, rrepSpec, rrepF, Ty.T, Ty.dflt, KT.T]); (try simp only [natCast_eq])))
  (with_reducible refine (?_ : T1 _ ?_) ?_; rotate_left 1; (conv => lhs; cbv; (try cbv); (try cbv)); intro hT; clear hT; with_reducible refine Sh.mk (by kernel_rfl) ?_)
  repeat' (first
    | with_reducible (first | refine Ck.mk (C := tt) tt_intro ?_ | refine Ck.mk (show drawOk _ _ = true by kernel_rfl) ?_ | refine Ck.all_cons ?_ | refine Ck.all_nil ?_ | refine Ck.mk (by assumption) ?_ | refine Ck.mk (decide_eq_true (by assumption)) ?_ | refine Ck.mk (decide_eq_false (by assumption)) ?_ | refine Ck.mk ?_ ?_)
    | (with_reducible (first | refine Both.mk (fun h => ?_) (fun h => ?_) | refine Alt.mk (fun h => ?_) (fun h => ?_) | refine Pick.mk (fun h => ?_) (fun l1 x l2 h => ?_)) <;> (have hk := h) <;> (try simp only [nrm, reduceCtorEq, pair_eta, map_idL] at h) <;> (try dsimp only [bkaSpec, plainSpec, plainF, reportSpec, reportF, connsSpec, connsF, rrepSpec, rrepF, Ty.T, Ty.dflt, KT.T, getM, putM, delM] at h) <;> (try simp only [natCast_eq] at h) <;> (try simp only [pair_eta, map_idL, e1, e2] at h) <;> (try (exfalso; first | exact absurd rfl h | exact absurd trivial h | omega)) <;> (try first | rw [if_pos h] at hr | rw [if_neg h] at hr | rw [ifF h] at hr | rw [ifN h] at hr) <;> (try (have hb : (_ : Bool) = _ := h; clear h; subst hb; (try first | rw [if_pos rfl] at hr | rw [if_neg Bool.false_ne_true] at hr))) <;> first | (exfalso; omega) | exact absurd (h.symm.trans (by assumption) : true = false) Bool.noConfusion | exact absurd (h.symm.trans (by assumption) : false = true) Bool.noConfusion | (with_reducible refine (?_ : T1 _ ?_) ?_; rotate_left 1; (conv => lhs; cbv; (try cbv); (try cbv)); intro hT; clear hT; with_reducible refine Sh.mk (by kernel_rfl) ?_))
    | ((with_reducible refine End.mk ?_); (try ((repeat (first | rw [if_pos (by first | assumption | omega)] at hr | rw [if_neg (by first | assumption | omega | (simp only [Bool.false_eq_true, Bool.true_eq_false, reduceCtorEq, not_false_eq_true]; done) | (simp only [Bool.not_eq_true]; assumption) | (simp only [Bool.not_eq_false]; assumption))] at hr | rw [if_pos rfl] at hr)); subst hr)))
    | with_reducible exact True.intro)
  all_goals first
    | (fail_if_success (with_reducible refine Exists.intro ?_ ?_)
       first
         | with_reducible rfl
         | with_reducible assumption
         | (symm; with_reducible assumption)
         | omega
         | ((try dsimp only [bkaSpec, plainSpec, plainF, reportSpec, reportF, connsSpec, connsF, rrepSpec, rrepF, Ty.T, Ty.dflt, KT.T, getM, putM, delM, inI64, maxRow]); first | done | with_reducible rfl | with_reducible assumption | (symm; with_reducible assumption) | ((try simp only [natCast_eq, List.nil_append]); first | done | with_reducible rfl | omega | exact take_cg (by omega) | exact drop_cg (by omega) | exact take_drop_cg (by omega) (by omega) | exact take_all (by omega) | exact take_drop_all (by omega) (by omega) | exact drop_take_cg (by omega) (by omega) (by omega)))
         | ((try dsimp only [Ty.T, Ty.dflt, plainF]); (try simp only [pair_eta, map_idL]); first | exact hF.ok.preP | exact ⟨⟨hF.ok.ent, hF.ok.len⟩, hF.pr⟩ | exact hF.ok.preK | exact k5 | exact ⟨hb, hb2⟩ | (have := hF.ok.len; omega))
         | exact absurd h Bool.noConfusion
         | ((try dsimp only [bkaSpec, plainSpec, plainF, reportSpec, reportF, connsSpec, connsF, rrepSpec, rrepF, Ty.T, Ty.dflt, KT.T, getM, putM, delM, inI64, maxRow]); first | (simp only [nrm, reduceCtorEq, pair_eta, map_idL, natCast_eq, inI64, maxRow]; first | done | with_reducible assumption | omega) | exact map_pair_id _)
         | ((try dsimp only [bkaSpec, plainSpec, plainF, reportSpec, reportF, connsSpec, connsF, rrepSpec, rrepF, Ty.T, Ty.dflt, KT.T, getM, putM, delM, inI64, maxRow] at *); first | ((try simp only [natCast_eq] at *) <;> omega) | ((try simp only [lens, natCast_eq] at *) <;> omega))
         | assumption
         | (symm; assumption)
         | (dsimp only; simp only [nrb, *]; done)
         | (simp; done)
         | (and_intros <;> first | trivial | with_reducible assumption | omega)
         | ((try dsimp only [bkaSpec, plainSpec, plainF, reportSpec, reportF, connsSpec, connsF, rrepSpec, rrepF, Ty.T, Ty.dflt, KT.T, getM, putM, delM, inI64, maxRow] at *) <;> simp [*] <;> done))
    | skip
theorem rpl_sound : ConSound Tryd.prog AI 11 rplSpec.con := PureSpec.sound Tryd.call11 (fun x h => rpl_ok x.1 h)
end Go.Proofs.YtfgfcbncnngniaaDoor
