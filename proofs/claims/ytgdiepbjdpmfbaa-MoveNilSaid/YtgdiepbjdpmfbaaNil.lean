/-
  Layer 48: the methods of a nil end.
-/
import Derived.Test.YtgdiepbjdpmfbaaAwk
import Derived.Test.YtgdiepbjdpmfbaaEng3
namespace Go.Proofs.Ytgdiepbjdpmfbaa
set_option linter.all false
set_option linter.unusedVariables false
set_option linter.unusedSimpArgs false
set_option linter.unusedSectionVars false
open Go.RowKit Go.Sx
set_option maxRecDepth 100000
set_option maxHeartbeats 16000000
noncomputable abbrev En : Env Ab := ⟨tis, [(22, orCon maccSpec.con (inl E0 Try.f22 0)), (21, orCon mphaseSpec.con (inl E0 Try.f21 0)), (20, orCon mfinSpec.con (inl E0 Try.f20 0)), (17, orCon mhandSpec.con (inl E0 Try.f17 0)), (16, orCon mstartSpec.con (inl E0 Try.f16 0)), (15, orCon mreadSpec.con (inl E0 Try.f15 0)), (13, orCon mrcvSpec.con (inl E0 Try.f13 1)), (11, awakeSpec.con)] ++ E0.con⟩
theorem enOk : EnvOk Try.prog AI En := ((((((((e0Ok.add awake_sound).add (orCon_sound mrcv_sound (inl_sound e0Ok mixed (fn := Try.f13) (c := bodyOf Try.f13) Try.call13 (by kernel_rfl) (by kernel_rfl) (by kernel_rfl) 1))).add (orCon_sound mread_sound (inl_sound e0Ok mixed (fn := Try.f15) (c := bodyOf Try.f15) Try.call15 (by kernel_rfl) (by kernel_rfl) (by kernel_rfl) 0))).add (orCon_sound mstart_sound (inl_sound e0Ok mixed (fn := Try.f16) (c := bodyOf Try.f16) Try.call16 (by kernel_rfl) (by kernel_rfl) (by kernel_rfl) 0))).add (orCon_sound mhand_sound (inl_sound e0Ok mixed (fn := Try.f17) (c := bodyOf Try.f17) Try.call17 (by kernel_rfl) (by kernel_rfl) (by kernel_rfl) 0))).add (orCon_sound mfin_sound (inl_sound e0Ok mixed (fn := Try.f20) (c := bodyOf Try.f20) Try.call20 (by kernel_rfl) (by kernel_rfl) (by kernel_rfl) 0))).add (orCon_sound mphase_sound (inl_sound e0Ok mixed (fn := Try.f21) (c := bodyOf Try.f21) Try.call21 (by kernel_rfl) (by kernel_rfl) (by kernel_rfl) 0))).add (orCon_sound macc_sound (inl_sound e0Ok mixed (fn := Try.f22) (c := bodyOf Try.f22) Try.call22 (by kernel_rfl) (by kernel_rfl) (by kernel_rfl) 0)))
abbrev actE : Ty := .pair (.int .i64) (.pair (.int .i64) (.pair (.int .i64) segE))
abbrev TA := Int × Int × Int × Seg
def nilF (_ : TA) : Tup [DT.cell .bool] := (true, ())
def nilSpec : PureSpec := ⟨[.cell actE], fun (x : TA × Unit) => True, [.cell .bool], fun (x : TA × Unit) => nilF x.1⟩
theorem nil_ok (a : TA) (h : nilSpec.pre (a, ())) : TmplOk Try.prog AI 5 (argS nilSpec.ds (fun _ => (a, ()))) [] (resOf (svs nilSpec.rs (fun _ => nilSpec.f (a, ())))) [] := by
  dsimp only [nilSpec] at h ⊢
  generalize hr : nilF a = r
  dsimp only [nilF] at hr
  refine tmpl_of_body enOk mixed (fn := Try.f5) (c := bodyOf Try.f5) (by kernel_rfl) (by kernel_rfl) (by kernel_rfl) (Nat.le_of_ble_eq_true (by kernel_rfl)) ?_
  (try (conv in (LoopInv.inv _ _) => dsimp only)); (try (conv in (SS.mk _ _) => cbv; (try dsimp only [Ty.T, Ty.dflt, KT.T]); (try simp only [natCast_eq])))
  (refine (?_ : T1 _ ?_) ?_; rotate_left 1; (conv => lhs; cbv; (try cbv); (try cbv)); intro hT; clear hT; refine Sh.mk (by kernel_rfl) ?_)
  repeat' (first
    | with_reducible refine Ck.mk (C := tt) tt_intro ?_
    | with_reducible refine Ck.mk (show drawOk _ _ = true by kernel_rfl) ?_
    | with_reducible refine Ck.all_cons ?_
    | with_reducible refine Ck.all_nil ?_
    | with_reducible refine Ck.mk (by assumption) ?_
    | with_reducible refine Ck.mk (decide_eq_true (by assumption)) ?_
    | with_reducible refine Ck.mk (decide_eq_false (by assumption)) ?_
    | with_reducible refine Ck.mk ?_ ?_
    | (with_reducible refine Both.mk (fun h => ?_) (fun h => ?_) <;> (have hk := h) <;> (try simp only [decide_eq_true_eq, decide_eq_false_iff_not, Bool.not_eq_true', Bool.not_eq_false', Bool.not_eq_true, Bool.not_eq_false, Bool.not_true, Bool.not_false, ne_eq, Bool.false_eq_true, Bool.true_eq_false, reduceCtorEq, beq_iff_eq, beq_eq_false_iff_ne, not_true_eq_false, not_false_eq_true, pair_eta, map_idL] at h) <;> (try dsimp only [Ty.T, Ty.dflt, KT.T, getM, putM, delM] at h) <;> (try simp only [natCast_eq] at h) <;> skip <;> (try first | rw [if_pos h] at hr | rw [if_neg h] at hr | rw [ifF h] at hr | rw [ifN h] at hr) <;> (try (have hb : (_ : Bool) = _ := h; clear h; subst hb; (try first | rw [if_pos rfl] at hr | rw [if_neg Bool.false_ne_true] at hr))) <;> first | (exfalso; omega) | exact absurd (h.symm.trans (by assumption) : true = false) Bool.noConfusion | exact absurd (h.symm.trans (by assumption) : false = true) Bool.noConfusion | (refine (?_ : T1 _ ?_) ?_; rotate_left 1; (conv => lhs; cbv; (try cbv); (try cbv)); intro hT; clear hT; refine Sh.mk (by kernel_rfl) ?_))
    | (with_reducible refine Alt.mk (fun h => ?_) (fun h => ?_) <;> (have hk := h) <;> (try simp only [decide_eq_true_eq, decide_eq_false_iff_not, Bool.not_eq_true', Bool.not_eq_false', Bool.not_eq_true, Bool.not_eq_false, Bool.not_true, Bool.not_false, ne_eq, Bool.false_eq_true, Bool.true_eq_false, reduceCtorEq, beq_iff_eq, beq_eq_false_iff_ne, not_true_eq_false, not_false_eq_true, pair_eta, map_idL] at h) <;> (try dsimp only [Ty.T, Ty.dflt, KT.T, getM, putM, delM] at h) <;> (try simp only [natCast_eq] at h) <;> skip <;> (try first | rw [if_pos h] at hr | rw [if_neg h] at hr | rw [ifF h] at hr | rw [ifN h] at hr) <;> (try (have hb : (_ : Bool) = _ := h; clear h; subst hb; (try first | rw [if_pos rfl] at hr | rw [if_neg Bool.false_ne_true] at hr))) <;> first | (exfalso; omega) | exact absurd (h.symm.trans (by assumption) : true = false) Bool.noConfusion | exact absurd (h.symm.trans (by assumption) : false = true) Bool.noConfusion | (refine (?_ : T1 _ ?_) ?_; rotate_left 1; (conv => lhs; cbv; (try cbv); (try cbv)); intro hT; clear hT; refine Sh.mk (by kernel_rfl) ?_))
    | (with_reducible refine Pick.mk (fun h => ?_) (fun l1 x l2 h => ?_) <;> (refine (?_ : T1 _ ?_) ?_; rotate_left 1; (conv => lhs; cbv; (try cbv); (try cbv)); intro hT; clear hT; refine Sh.mk (by kernel_rfl) ?_))
    | ((with_reducible refine End.mk ?_); (try ((repeat (first | rw [if_pos (by first | assumption | omega)] at hr | rw [if_neg (by first | assumption | omega | (simp only [Bool.false_eq_true, Bool.true_eq_false, reduceCtorEq, not_false_eq_true]; done) | (simp only [Bool.not_eq_true]; assumption) | (simp only [Bool.not_eq_false]; assumption))] at hr | rw [if_pos rfl] at hr)); subst hr)))
    | with_reducible exact True.intro)
  all_goals first
    | (fail_if_success (with_reducible refine Exists.intro ?_ ?_)
       first
         | with_reducible rfl
         | with_reducible assumption
         | (dsimp only [Ty.T, Ty.dflt, KT.T, getM, putM, delM, inI64, maxRow]; done)
         | (symm; with_reducible assumption)
         | (dsimp only [Ty.T, Ty.dflt, KT.T, getM, putM, delM, inI64, maxRow]; first | with_reducible rfl | with_reducible assumption | (symm; with_reducible assumption) | (simp only [natCast_eq]; with_reducible rfl) | omega)
         | omega
         | (dsimp only [Ty.T, Ty.dflt, KT.T, getM, putM, delM, inI64, maxRow]; (try simp only [natCast_eq, List.nil_append]); first | with_reducible rfl | exact take_cg (by omega) | exact drop_cg (by omega) | exact take_drop_cg (by omega) (by omega) | exact take_all (by omega) | exact take_drop_all (by omega) (by omega) | exact drop_take_cg (by omega) (by omega) (by omega))
         | ((try dsimp only [Ty.T, Ty.dflt, KT.T, getM, putM, delM, inI64, maxRow]); simp only [decide_eq_true_eq, decide_eq_false_iff_not, Bool.not_eq_true', Bool.not_eq_false', Bool.not_eq_true, Bool.not_eq_false, Bool.not_true, Bool.not_false, ne_eq, Bool.false_eq_true, Bool.true_eq_false, reduceCtorEq, beq_iff_eq, beq_eq_false_iff_ne, not_true_eq_false, not_false_eq_true, pair_eta, map_idL, natCast_eq, inI64, maxRow]; first | done | with_reducible assumption | omega)
         | exact map_pair_id _
         | ((try dsimp only [Ty.T, Ty.dflt, KT.T, getM, putM, delM, inI64, maxRow]) <;> (try simp only [natCast_eq]) <;> omega)
         | ((try dsimp only [Ty.T, Ty.dflt, KT.T, getM, putM, delM, inI64, maxRow] at *) <;> (try simp only [natCast_eq] at *) <;> omega)
         | ((try dsimp only [Ty.T, Ty.dflt, KT.T, getM, putM, delM, inI64, maxRow] at *) <;> (try simp only [List.length_append, List.length_cons, List.length_nil, List.length_replicate, List.length_take, List.length_drop, natCast_eq] at *) <;> omega)
         | assumption
         | (symm; assumption)
         | (dsimp only; simp only [Bool.or_true, Bool.true_or, Bool.or_false, Bool.false_or, Bool.and_true, Bool.true_and, Bool.and_false, Bool.false_and, Bool.not_true, Bool.not_false, *]; done)
         | (simp; done)
         | (and_intros <;> first | trivial | with_reducible assumption | omega)
         | ((try dsimp only [Ty.T, Ty.dflt, KT.T, getM, putM, delM, inI64, maxRow] at *) <;> simp [*] <;> done))
    | skip
theorem nil_sound : ConSound Try.prog AI 5 nilSpec.con := PureSpec.sound Try.call5 (fun x h => nil_ok x.1 h)
end Go.Proofs.Ytgdiepbjdpmfbaa
