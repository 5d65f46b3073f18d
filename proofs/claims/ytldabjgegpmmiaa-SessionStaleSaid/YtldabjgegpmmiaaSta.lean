/-
  Layer 47: SessionStale, the walk.
-/
import Derived.Test.YtldabjgegpmmiaaStl
import Derived.Test.YtldabjgegpmmiaaEng3
namespace Go.Proofs.Ytldabjgegpmmiaa
set_option linter.all false
set_option linter.unusedVariables false
set_option linter.unusedSimpArgs false
set_option linter.unusedSectionVars false
open Go.RowKit Go.Sx
set_option maxRecDepth 100000
set_option maxHeartbeats 16000000
theorem beq_inl : ConSound Try.prog AI 18 (inl E0 Try.f18 0) := inl_sound e0Ok mixed (fn := Try.f18) (c := bodyOf Try.f18) Try.call18 (by kernel_rfl) (by kernel_rfl) (by kernel_rfl) 0
noncomputable abbrev Est : Env Ab := ⟨tis, [(21, smmSpec.con), (17, estSpec.con), (19, ercSpec.con), (23, erpSpec.con), (15, frzCon pwrSpec.con), (16, pcalSpec.con), (12, conSpec.con), (11, awakeSpec.con), (18, inl E0 Try.f18 0)] ++ E0.con⟩
theorem estOk : EnvOk Try.prog AI Est := (((((((((e0Ok.add beq_inl).add awake_sound).add con_sound).add pcal_sound).add (frzCon_sound pwr_sound)).add erp_sound).add erc_sound).add est_sound).add smm_sound)
structure LSt (L : List Msg) where
  i : Int
  lo : 0 ≤ i
  hi : i ≤ L.length
abbrev elM (L : List Msg) (i : Int) : Msg := L.getD i.toNat (0, 0, 0, (0, [], false), 0, 0, false)
theorem elM_ok {L : List Msg} (hL : ∀ a ∈ L, msgE.ok a) {i : Int} (h0 : 0 ≤ i) (hi : i < L.length) : inBytes (elM L i).2.2.2.1.2.1 := by
  have h : elM L i ∈ L := by
    unfold elM
    rw [List.getD_eq_getElem?_getD, List.getElem?_eq_getElem (by omega)]
    exact List.getElem_mem _
  have := hL _ h
  exact this.2.2.2.1.2.1.2
abbrev GoodSt (m : Msg) : Prop := (m.2.2.2.1.2.1.length ≤ 60 ∧ 1 ≤ m.1 ∧ m.1 ≤ 5 ∧ 1 ≤ m.2.1 ∧ m.2.1 ≤ 20 ∧ 0 ≤ m.2.2.1 ∧ m.2.2.1 < 1099511627776) ∧ ¬ (m.2.1 = 20 ∧ (m.2.2.1 = 10 ∨ m.1 = 1))
theorem st_no1 {m : Msg} (hs : ¬ GoodSt m) (a1 : ¬ (60 : Int) < (m.2.2.2.1.2.1.length : Int)) (a2 : ¬ m.1 < 1) (a3 : ¬ 5 < m.1) (a4 : ¬ m.2.1 < 1) (a5 : ¬ 20 < m.2.1) (a6 : ¬ m.2.2.1 < 0) (a7 : ¬ 1099511627776 ≤ m.2.2.1) (a8 : ¬ m.2.1 = 20) : False := by
  apply hs; refine ⟨⟨by omega, by omega, by omega, by omega, by omega, by omega, by omega⟩, fun h => a8 h.1⟩
theorem st_no2 {m : Msg} (hs : ¬ GoodSt m) (a1 : ¬ (60 : Int) < (m.2.2.2.1.2.1.length : Int)) (a2 : ¬ m.1 < 1) (a3 : ¬ 5 < m.1) (a4 : ¬ m.2.1 < 1) (a5 : ¬ 20 < m.2.1) (a6 : ¬ m.2.2.1 < 0) (a7 : ¬ 1099511627776 ≤ m.2.2.1) (a8 : ¬ m.2.2.1 = 10) (a9 : ¬ m.1 = 1) : False := by
  apply hs; refine ⟨⟨by omega, by omega, by omega, by omega, by omega, by omega, by omega⟩, fun h => h.2.elim a8 a9⟩
abbrev rstM : Msg := (5, 10, 20, (0, [], false), 0, 0, false)
theorem st_cases {m : Msg} (h : GoodSt m) : ((m.2.1 < 20 ∨ m.1 = 5) ∧ ercF stP.e0 m = (([], 17, ()), stP.e0)) ∨ (¬ m.2.1 < 20 ∧ ¬ m.1 = 5 ∧ ercF stP.e0 m = (([rstM], 17, ()), stP.e0)) := by
  obtain ⟨⟨g1, g2, g3, g4, g5, g6, g7⟩, g8⟩ := h
  by_cases hm : m.2.1 < 20
  · exact .inl ⟨.inl hm, erc_stale stP_e0 ⟨g2, g3⟩ ⟨g4, hm⟩ ⟨g6, g7⟩⟩
  · have e := erc_other stP_e0 (m := m) ⟨g2, g3⟩ (by omega) ⟨g6, g7⟩ (fun h => g8 ⟨by omega, .inr h⟩) (fun h => g8 ⟨by omega, .inl h⟩)
    by_cases hk : m.1 = 5
    · rw [if_pos hk] at e; exact .inl ⟨.inr hk, e⟩
    · rw [if_neg hk] at e; exact .inr ⟨hm, hk, e⟩
theorem b123 : inBytes [1, 2, 3] := fun x hx => by simp at hx; omega
theorem LSt.next {L : List Msg} {i : Int} (h0 : 0 ≤ i) (h : i < L.length) : ∃ y : LSt L, y.i = i + 1 := ⟨⟨i + 1, by omega, by omega⟩, rfl⟩
def staF (_ : List Msg) : Tup [DT.cell .bool] := (true, ())
def staSpec : PureSpec := ⟨[.lst msgE], fun (x : (List Msg) × Unit) => x.1.length ≤ maxLen ∧ ∀ a ∈ x.1, msgE.ok a, [.cell .bool], fun (x : (List Msg) × Unit) => staF x.1⟩
theorem sta_ok (L : List Msg) (h : staSpec.pre (L, ())) : TmplOk Try.prog AI 5 (argS staSpec.ds (fun _ => (L, ()))) [] (resOf (svs staSpec.rs (fun _ => staSpec.f (L, ())))) [] := by
  dsimp only [staSpec] at h ⊢
  generalize hr : staF L = r
  obtain ⟨hL0, hL⟩ := h
  have hj : GoodP (calN 3 (conP 255 1)) 12 600 := (conP_good 255 1).calN 3
  dsimp only [staF] at hr
  refine tmpl_of_body estOk mixed (fn := Try.f5) (c := bodyOf Try.f5) (by kernel_rfl) (by kernel_rfl) (by kernel_rfl) (Nat.le_of_ble_eq_true (by kernel_rfl)) ?_
  (try (conv in (LoopInv.inv _ _) => dsimp only)); (try (conv in (SS.mk _ _) => cbv; (try dsimp only [erpSpec, ercSpec, estSpec, erpF, estF, Ty.T, Ty.dflt, KT.T]); (try simp only [natCast_eq])))
  (with_reducible refine (?_ : T1 _ ?_) ?_; rotate_left 1; (conv => lhs; cbv; (try cbv); (try cbv)); intro hT; clear hT; with_reducible refine Sh.mk (by kernel_rfl) ?_)
  repeat' (first
    | with_reducible refine Ck.mk (C := tt) tt_intro ?_
    | with_reducible refine Ck.mk (show drawOk _ _ = true by kernel_rfl) ?_
    | with_reducible refine Ck.all_cons ?_
    | with_reducible refine Ck.all_nil ?_
    | with_reducible refine Ck.mk (by assumption) ?_
    | with_reducible refine Ck.mk (decide_eq_true (by assumption)) ?_
    | with_reducible refine Ck.mk (decide_eq_false (by assumption)) ?_
    | with_reducible refine Ck.mk ?_ ?_
    | (with_reducible refine Both.mk (fun h => ?_) (fun h => ?_) <;> (have hk := h) <;> (try simp only [decide_eq_true_eq, decide_eq_false_iff_not, Bool.not_eq_true', Bool.not_eq_false', Bool.not_eq_true, Bool.not_eq_false, Bool.not_true, Bool.not_false, ne_eq, Bool.false_eq_true, Bool.true_eq_false, reduceCtorEq, beq_iff_eq, beq_eq_false_iff_ne, not_true_eq_false, not_false_eq_true, pair_eta, map_idL] at h) <;> (try dsimp only [erpSpec, ercSpec, estSpec, erpF, estF, Ty.T, Ty.dflt, KT.T, getM, putM, delM] at h) <;> (try simp only [natCast_eq] at h) <;> (try simp only [pair_eta, e1] at h) <;> (try (exfalso; first | exact absurd rfl h | exact absurd stP_e0.2.1 h | omega)) <;> (try first | rw [if_pos h] at hr | rw [if_neg h] at hr | rw [ifF h] at hr | rw [ifN h] at hr) <;> (try (have hb : (_ : Bool) = _ := h; clear h; subst hb; (try first | rw [if_pos rfl] at hr | rw [if_neg Bool.false_ne_true] at hr))) <;> first | (exfalso; omega) | exact absurd (h.symm.trans (by assumption) : true = false) Bool.noConfusion | exact absurd (h.symm.trans (by assumption) : false = true) Bool.noConfusion | (with_reducible refine (?_ : T1 _ ?_) ?_; rotate_left 1; (conv => lhs; cbv; (try cbv); (try cbv)); intro hT; clear hT; with_reducible refine Sh.mk (by kernel_rfl) ?_))
    | (with_reducible refine Alt.mk (fun h => ?_) (fun h => ?_) <;> (have hk := h) <;> (try simp only [decide_eq_true_eq, decide_eq_false_iff_not, Bool.not_eq_true', Bool.not_eq_false', Bool.not_eq_true, Bool.not_eq_false, Bool.not_true, Bool.not_false, ne_eq, Bool.false_eq_true, Bool.true_eq_false, reduceCtorEq, beq_iff_eq, beq_eq_false_iff_ne, not_true_eq_false, not_false_eq_true, pair_eta, map_idL] at h) <;> (try dsimp only [erpSpec, ercSpec, estSpec, erpF, estF, Ty.T, Ty.dflt, KT.T, getM, putM, delM] at h) <;> (try simp only [natCast_eq] at h) <;> (try simp only [pair_eta, e1] at h) <;> (try (exfalso; first | exact absurd rfl h | exact absurd stP_e0.2.1 h | omega)) <;> (try first | rw [if_pos h] at hr | rw [if_neg h] at hr | rw [ifF h] at hr | rw [ifN h] at hr) <;> (try (have hb : (_ : Bool) = _ := h; clear h; subst hb; (try first | rw [if_pos rfl] at hr | rw [if_neg Bool.false_ne_true] at hr))) <;> first | (exfalso; omega) | exact absurd (h.symm.trans (by assumption) : true = false) Bool.noConfusion | exact absurd (h.symm.trans (by assumption) : false = true) Bool.noConfusion | (with_reducible refine (?_ : T1 _ ?_) ?_; rotate_left 1; (conv => lhs; cbv; (try cbv); (try cbv)); intro hT; clear hT; with_reducible refine Sh.mk (by kernel_rfl) ?_))
    | (with_reducible refine Pick.mk (fun h => ?_) (fun l1 x l2 h => ?_) <;> (with_reducible refine (?_ : T1 _ ?_) ?_; rotate_left 1; (conv => lhs; cbv; (try cbv); (try cbv)); intro hT; clear hT; with_reducible refine Sh.mk (by kernel_rfl) ?_))
    | ((with_reducible refine End.mk ?_); (try ((repeat (first | rw [if_pos (by first | assumption | omega)] at hr | rw [if_neg (by first | assumption | omega | (simp only [Bool.false_eq_true, Bool.true_eq_false, reduceCtorEq, not_false_eq_true]; done) | (simp only [Bool.not_eq_true]; assumption) | (simp only [Bool.not_eq_false]; assumption))] at hr | rw [if_pos rfl] at hr)); subst hr)))
    | with_reducible exact True.intro)
  all_goals first
    | (fail_if_success (with_reducible refine Exists.intro ?_ ?_)
       first
         | with_reducible rfl
         | with_reducible assumption
         | (dsimp only [erpSpec, ercSpec, estSpec, erpF, estF, Ty.T, Ty.dflt, KT.T, getM, putM, delM, inI64, maxRow]; done)
         | (symm; with_reducible assumption)
         | (dsimp only [erpSpec, ercSpec, estSpec, erpF, estF, Ty.T, Ty.dflt, KT.T, getM, putM, delM, inI64, maxRow]; first | with_reducible rfl | with_reducible assumption | (symm; with_reducible assumption) | (simp only [natCast_eq]; with_reducible rfl) | omega)
         | omega
         | (dsimp only [erpSpec, ercSpec, estSpec, erpF, estF, Ty.T, Ty.dflt, KT.T, getM, putM, delM, inI64, maxRow]; (try simp only [natCast_eq, List.nil_append]); first | with_reducible rfl | exact take_cg (by omega) | exact drop_cg (by omega) | exact take_drop_cg (by omega) (by omega) | exact take_all (by omega) | exact take_drop_all (by omega) (by omega) | exact drop_take_cg (by omega) (by omega) (by omega))
         | first
         | exact ⟨(conP_good 255 1).mono (by decide) (by decide), by decide, by decide⟩
         | exact hj.preW (.inl rfl) (Nat.le_of_ble_eq_true rfl)
         | ((try dsimp only [erpSpec, ercSpec, estSpec, erpF, estF, Ty.T, Ty.dflt, KT.T, getM, putM, delM, inI64, maxRow]); simp only [decide_eq_true_eq, decide_eq_false_iff_not, Bool.not_eq_true', Bool.not_eq_false', Bool.not_eq_true, Bool.not_eq_false, Bool.not_true, Bool.not_false, ne_eq, Bool.false_eq_true, Bool.true_eq_false, reduceCtorEq, beq_iff_eq, beq_eq_false_iff_ne, not_true_eq_false, not_false_eq_true, pair_eta, map_idL, natCast_eq, inI64, maxRow]; first | done | with_reducible assumption | omega)
         | exact map_pair_id _
         | ((try dsimp only [erpSpec, ercSpec, estSpec, erpF, estF, Ty.T, Ty.dflt, KT.T, getM, putM, delM, inI64, maxRow]) <;> (try simp only [natCast_eq]) <;> omega)
         | ((try dsimp only [erpSpec, ercSpec, estSpec, erpF, estF, Ty.T, Ty.dflt, KT.T, getM, putM, delM, inI64, maxRow] at *) <;> (try simp only [natCast_eq] at *) <;> omega)
         | ((try dsimp only [erpSpec, ercSpec, estSpec, erpF, estF, Ty.T, Ty.dflt, KT.T, getM, putM, delM, inI64, maxRow] at *) <;> (try simp only [List.length_append, List.length_cons, List.length_nil, List.length_replicate, List.length_take, List.length_drop, natCast_eq] at *) <;> omega)
         | assumption
         | (symm; assumption)
         | (dsimp only; simp only [Bool.or_true, Bool.true_or, Bool.or_false, Bool.false_or, Bool.and_true, Bool.true_and, Bool.and_false, Bool.false_and, Bool.not_true, Bool.not_false, *]; done)
         | (simp; done)
         | (and_intros <;> first | trivial | with_reducible assumption | omega)
         | ((try dsimp only [erpSpec, ercSpec, estSpec, erpF, estF, Ty.T, Ty.dflt, KT.T, getM, putM, delM, inI64, maxRow] at *) <;> simp [*] <;> done))
    | skip
  obtain ⟨x0, hx0⟩ : ∃ x : LSt L, x.i = 0 := ⟨⟨0, Int.le_refl _, by omega⟩, rfl⟩
  refine ⟨⟨LSt L, fun x => ⟨[(3, Sx.one (.ptr 0 0)), (4, Sx.one (.ptr 1 0)), (35, Sx.one (.ro msgE (fun _ => L))), (36, Sx.one (.int .i64 (fun _ => (L.length : Int)))), (37, Sx.one (.int .i64 (fun _ => x.i)))], parC (fun _ => stP)⟩, fun x => (L.length - x.i).toNat, x0⟩, ?_, fun (x : LSt L) => ?_⟩
  · (try (conv in (LoopInv.inv _ _) => dsimp only)); (try (conv in (SS.mk _ _) => cbv; (try dsimp only [erpSpec, ercSpec, estSpec, erpF, estF, Ty.T, Ty.dflt, KT.T]); (try simp only [natCast_eq])))
    (with_reducible refine (?_ : T1 _ ?_) ?_; rotate_left 1; (conv => lhs; cbv; (try cbv); (try cbv)); intro hT; clear hT; with_reducible refine Sh.mk (by kernel_rfl) ?_)
    repeat' (first
      | with_reducible refine Ck.mk (C := tt) tt_intro ?_
      | with_reducible refine Ck.mk (show drawOk _ _ = true by kernel_rfl) ?_
      | with_reducible refine Ck.all_cons ?_
      | with_reducible refine Ck.all_nil ?_
      | with_reducible refine Ck.mk (by assumption) ?_
      | with_reducible refine Ck.mk (decide_eq_true (by assumption)) ?_
      | with_reducible refine Ck.mk (decide_eq_false (by assumption)) ?_
      | with_reducible refine Ck.mk ?_ ?_
      | (with_reducible refine Both.mk (fun h => ?_) (fun h => ?_) <;> (have hk := h) <;> (try simp only [decide_eq_true_eq, decide_eq_false_iff_not, Bool.not_eq_true', Bool.not_eq_false', Bool.not_eq_true, Bool.not_eq_false, Bool.not_true, Bool.not_false, ne_eq, Bool.false_eq_true, Bool.true_eq_false, reduceCtorEq, beq_iff_eq, beq_eq_false_iff_ne, not_true_eq_false, not_false_eq_true, pair_eta, map_idL] at h) <;> (try dsimp only [erpSpec, ercSpec, estSpec, erpF, estF, Ty.T, Ty.dflt, KT.T, getM, putM, delM] at h) <;> (try simp only [natCast_eq] at h) <;> (try simp only [pair_eta, e1] at h) <;> (try (exfalso; first | exact absurd rfl h | exact absurd stP_e0.2.1 h | omega)) <;> (try first | rw [if_pos h] at hr | rw [if_neg h] at hr | rw [ifF h] at hr | rw [ifN h] at hr) <;> (try (have hb : (_ : Bool) = _ := h; clear h; subst hb; (try first | rw [if_pos rfl] at hr | rw [if_neg Bool.false_ne_true] at hr))) <;> first | (exfalso; omega) | exact absurd (h.symm.trans (by assumption) : true = false) Bool.noConfusion | exact absurd (h.symm.trans (by assumption) : false = true) Bool.noConfusion | (with_reducible refine (?_ : T1 _ ?_) ?_; rotate_left 1; (conv => lhs; cbv; (try cbv); (try cbv)); intro hT; clear hT; with_reducible refine Sh.mk (by kernel_rfl) ?_))
      | (with_reducible refine Alt.mk (fun h => ?_) (fun h => ?_) <;> (have hk := h) <;> (try simp only [decide_eq_true_eq, decide_eq_false_iff_not, Bool.not_eq_true', Bool.not_eq_false', Bool.not_eq_true, Bool.not_eq_false, Bool.not_true, Bool.not_false, ne_eq, Bool.false_eq_true, Bool.true_eq_false, reduceCtorEq, beq_iff_eq, beq_eq_false_iff_ne, not_true_eq_false, not_false_eq_true, pair_eta, map_idL] at h) <;> (try dsimp only [erpSpec, ercSpec, estSpec, erpF, estF, Ty.T, Ty.dflt, KT.T, getM, putM, delM] at h) <;> (try simp only [natCast_eq] at h) <;> (try simp only [pair_eta, e1] at h) <;> (try (exfalso; first | exact absurd rfl h | exact absurd stP_e0.2.1 h | omega)) <;> (try first | rw [if_pos h] at hr | rw [if_neg h] at hr | rw [ifF h] at hr | rw [ifN h] at hr) <;> (try (have hb : (_ : Bool) = _ := h; clear h; subst hb; (try first | rw [if_pos rfl] at hr | rw [if_neg Bool.false_ne_true] at hr))) <;> first | (exfalso; omega) | exact absurd (h.symm.trans (by assumption) : true = false) Bool.noConfusion | exact absurd (h.symm.trans (by assumption) : false = true) Bool.noConfusion | (with_reducible refine (?_ : T1 _ ?_) ?_; rotate_left 1; (conv => lhs; cbv; (try cbv); (try cbv)); intro hT; clear hT; with_reducible refine Sh.mk (by kernel_rfl) ?_))
      | (with_reducible refine Pick.mk (fun h => ?_) (fun l1 x l2 h => ?_) <;> (with_reducible refine (?_ : T1 _ ?_) ?_; rotate_left 1; (conv => lhs; cbv; (try cbv); (try cbv)); intro hT; clear hT; with_reducible refine Sh.mk (by kernel_rfl) ?_))
      | ((with_reducible refine End.mk ?_); skip)
      | with_reducible exact True.intro)
    all_goals first
      | (fail_if_success (with_reducible refine Exists.intro ?_ ?_)
         first
           | with_reducible rfl
           | with_reducible assumption
           | (dsimp only [erpSpec, ercSpec, estSpec, erpF, estF, Ty.T, Ty.dflt, KT.T, getM, putM, delM, inI64, maxRow]; done)
           | (symm; with_reducible assumption)
           | (dsimp only [erpSpec, ercSpec, estSpec, erpF, estF, Ty.T, Ty.dflt, KT.T, getM, putM, delM, inI64, maxRow]; first | with_reducible rfl | with_reducible assumption | (symm; with_reducible assumption) | (simp only [natCast_eq]; with_reducible rfl) | omega)
           | omega
           | (dsimp only [erpSpec, ercSpec, estSpec, erpF, estF, Ty.T, Ty.dflt, KT.T, getM, putM, delM, inI64, maxRow]; (try simp only [natCast_eq, List.nil_append]); first | with_reducible rfl | exact take_cg (by omega) | exact drop_cg (by omega) | exact take_drop_cg (by omega) (by omega) | exact take_all (by omega) | exact take_drop_all (by omega) (by omega) | exact drop_take_cg (by omega) (by omega) (by omega))
           | first | exact hx0.symm | ((try dsimp only); (try simp only [pair_eta, map_idL]); rw [stP_eq]; rfl)
           | ((try dsimp only [erpSpec, ercSpec, estSpec, erpF, estF, Ty.T, Ty.dflt, KT.T, getM, putM, delM, inI64, maxRow]); simp only [decide_eq_true_eq, decide_eq_false_iff_not, Bool.not_eq_true', Bool.not_eq_false', Bool.not_eq_true, Bool.not_eq_false, Bool.not_true, Bool.not_false, ne_eq, Bool.false_eq_true, Bool.true_eq_false, reduceCtorEq, beq_iff_eq, beq_eq_false_iff_ne, not_true_eq_false, not_false_eq_true, pair_eta, map_idL, natCast_eq, inI64, maxRow]; first | done | with_reducible assumption | omega)
           | exact map_pair_id _
           | ((try dsimp only [erpSpec, ercSpec, estSpec, erpF, estF, Ty.T, Ty.dflt, KT.T, getM, putM, delM, inI64, maxRow]) <;> (try simp only [natCast_eq]) <;> omega)
           | ((try dsimp only [erpSpec, ercSpec, estSpec, erpF, estF, Ty.T, Ty.dflt, KT.T, getM, putM, delM, inI64, maxRow] at *) <;> (try simp only [natCast_eq] at *) <;> omega)
           | ((try dsimp only [erpSpec, ercSpec, estSpec, erpF, estF, Ty.T, Ty.dflt, KT.T, getM, putM, delM, inI64, maxRow] at *) <;> (try simp only [List.length_append, List.length_cons, List.length_nil, List.length_replicate, List.length_take, List.length_drop, natCast_eq] at *) <;> omega)
           | assumption
           | (symm; assumption)
           | (dsimp only; simp only [Bool.or_true, Bool.true_or, Bool.or_false, Bool.false_or, Bool.and_true, Bool.true_and, Bool.and_false, Bool.false_and, Bool.not_true, Bool.not_false, *]; done)
           | (simp; done)
           | (and_intros <;> first | trivial | with_reducible assumption | omega)
           | ((try dsimp only [erpSpec, ercSpec, estSpec, erpF, estF, Ty.T, Ty.dflt, KT.T, getM, putM, delM, inI64, maxRow] at *) <;> simp [*] <;> done))
      | skip
  obtain ⟨i, hlo, hhi⟩ := x
  by_cases hs : GoodSt (elM L i)
  · rcases st_cases hs with ⟨c, e1⟩ | ⟨c1, c2, e1⟩
    · skip
      (try (conv in (LoopInv.inv _ _) => dsimp only)); (try (conv in (SS.mk _ _) => cbv; (try dsimp only [erpSpec, ercSpec, estSpec, erpF, estF, Ty.T, Ty.dflt, KT.T]); (try simp only [natCast_eq])))
      (with_reducible refine (?_ : T1 _ ?_) ?_; rotate_left 1; (conv => lhs; cbv; (try cbv); (try cbv)); intro hT; clear hT; with_reducible refine Sh.mk (by kernel_rfl) ?_)
      repeat' (first
        | with_reducible refine Ck.mk (C := tt) tt_intro ?_
        | with_reducible refine Ck.mk (show drawOk _ _ = true by kernel_rfl) ?_
        | with_reducible refine Ck.all_cons ?_
        | with_reducible refine Ck.all_nil ?_
        | with_reducible refine Ck.mk (by assumption) ?_
        | with_reducible refine Ck.mk (decide_eq_true (by assumption)) ?_
        | with_reducible refine Ck.mk (decide_eq_false (by assumption)) ?_
        | with_reducible refine Ck.mk ?_ ?_
        | (with_reducible refine Both.mk (fun h => ?_) (fun h => ?_) <;> (have hk := h) <;> (try simp only [decide_eq_true_eq, decide_eq_false_iff_not, Bool.not_eq_true', Bool.not_eq_false', Bool.not_eq_true, Bool.not_eq_false, Bool.not_true, Bool.not_false, ne_eq, Bool.false_eq_true, Bool.true_eq_false, reduceCtorEq, beq_iff_eq, beq_eq_false_iff_ne, not_true_eq_false, not_false_eq_true, pair_eta, map_idL] at h) <;> (try dsimp only [erpSpec, ercSpec, estSpec, erpF, estF, Ty.T, Ty.dflt, KT.T, getM, putM, delM] at h) <;> (try simp only [natCast_eq] at h) <;> (try simp only [pair_eta, e1] at h) <;> (try (exfalso; first | exact absurd rfl h | exact absurd stP_e0.2.1 h | omega)) <;> (try first | rw [if_pos h] at hr | rw [if_neg h] at hr | rw [ifF h] at hr | rw [ifN h] at hr) <;> (try (have hb : (_ : Bool) = _ := h; clear h; subst hb; (try first | rw [if_pos rfl] at hr | rw [if_neg Bool.false_ne_true] at hr))) <;> first | (exfalso; omega) | exact absurd (h.symm.trans (by assumption) : true = false) Bool.noConfusion | exact absurd (h.symm.trans (by assumption) : false = true) Bool.noConfusion | (with_reducible refine (?_ : T1 _ ?_) ?_; rotate_left 1; (conv => lhs; cbv; (try cbv); (try cbv)); intro hT; clear hT; with_reducible refine Sh.mk (by kernel_rfl) ?_))
        | (with_reducible refine Alt.mk (fun h => ?_) (fun h => ?_) <;> (have hk := h) <;> (try simp only [decide_eq_true_eq, decide_eq_false_iff_not, Bool.not_eq_true', Bool.not_eq_false', Bool.not_eq_true, Bool.not_eq_false, Bool.not_true, Bool.not_false, ne_eq, Bool.false_eq_true, Bool.true_eq_false, reduceCtorEq, beq_iff_eq, beq_eq_false_iff_ne, not_true_eq_false, not_false_eq_true, pair_eta, map_idL] at h) <;> (try dsimp only [erpSpec, ercSpec, estSpec, erpF, estF, Ty.T, Ty.dflt, KT.T, getM, putM, delM] at h) <;> (try simp only [natCast_eq] at h) <;> (try simp only [pair_eta, e1] at h) <;> (try (exfalso; first | exact absurd rfl h | exact absurd stP_e0.2.1 h | omega)) <;> (try first | rw [if_pos h] at hr | rw [if_neg h] at hr | rw [ifF h] at hr | rw [ifN h] at hr) <;> (try (have hb : (_ : Bool) = _ := h; clear h; subst hb; (try first | rw [if_pos rfl] at hr | rw [if_neg Bool.false_ne_true] at hr))) <;> first | (exfalso; omega) | exact absurd (h.symm.trans (by assumption) : true = false) Bool.noConfusion | exact absurd (h.symm.trans (by assumption) : false = true) Bool.noConfusion | (with_reducible refine (?_ : T1 _ ?_) ?_; rotate_left 1; (conv => lhs; cbv; (try cbv); (try cbv)); intro hT; clear hT; with_reducible refine Sh.mk (by kernel_rfl) ?_))
        | (with_reducible refine Pick.mk (fun h => ?_) (fun l1 x l2 h => ?_) <;> (with_reducible refine (?_ : T1 _ ?_) ?_; rotate_left 1; (conv => lhs; cbv; (try cbv); (try cbv)); intro hT; clear hT; with_reducible refine Sh.mk (by kernel_rfl) ?_))
        | ((with_reducible refine End.mk ?_); (try ((repeat (first | rw [if_pos (by first | assumption | omega)] at hr | rw [if_neg (by first | assumption | omega | (simp only [Bool.false_eq_true, Bool.true_eq_false, reduceCtorEq, not_false_eq_true]; done) | (simp only [Bool.not_eq_true]; assumption) | (simp only [Bool.not_eq_false]; assumption))] at hr | rw [if_pos rfl] at hr)); subst hr)))
        | with_reducible exact True.intro)
      all_goals first
        | (fail_if_success (with_reducible refine Exists.intro ?_ ?_)
           first
             | with_reducible rfl
             | with_reducible assumption
             | (dsimp only [erpSpec, ercSpec, estSpec, erpF, estF, Ty.T, Ty.dflt, KT.T, getM, putM, delM, inI64, maxRow]; done)
             | (symm; with_reducible assumption)
             | (dsimp only [erpSpec, ercSpec, estSpec, erpF, estF, Ty.T, Ty.dflt, KT.T, getM, putM, delM, inI64, maxRow]; first | with_reducible rfl | with_reducible assumption | (symm; with_reducible assumption) | (simp only [natCast_eq]; with_reducible rfl) | omega)
             | omega
             | (dsimp only [erpSpec, ercSpec, estSpec, erpF, estF, Ty.T, Ty.dflt, KT.T, getM, putM, delM, inI64, maxRow]; (try simp only [natCast_eq, List.nil_append]); first | with_reducible rfl | exact take_cg (by omega) | exact drop_cg (by omega) | exact take_drop_cg (by omega) (by omega) | exact take_all (by omega) | exact take_drop_all (by omega) (by omega) | exact drop_take_cg (by omega) (by omega) (by omega))
             | first | exact ⟨stP_good.mono (by decide) (by decide), by decide, by decide⟩ | (show inBytes (calN 12 stP).r1 ∧ inBytes [1, 2, 3]; rw [stP_end]; exact ⟨b123, b123⟩) | (show decide ((calN 12 stP).r1 = [1, 2, 3]) = true; rw [stP_end]; rfl) | exact ⟨stP_good.e0.ok, Nat.le_trans hs.1.1 (by decide)⟩ | (show (0 : Int) ≤ 0 ∧ (0 : Int) < ((((ercF stP.e0 (elM L i)).1.1 : List Msg).length : Nat) : Int); rw [e1]; exact ⟨Int.le_refl _, by decide⟩) | (show inBytes (List.getD ((ercF stP.e0 (elM L i)).1.1 : List Msg) (0 : Int).toNat msg0).2.2.2.1.2.1 ∧ inBytes []; rw [e1]; exact ⟨fun y hy => absurd (show y ∈ ([] : List Int) from hy) List.not_mem_nil, fun y hy => absurd hy List.not_mem_nil⟩) | ((try dsimp only); (try simp only [pair_eta, map_idL, e1]); exact ⟨fun y hy => absurd (show y ∈ ([] : List Int) from hy) List.not_mem_nil, fun y hy => absurd (show y ∈ ([] : List Int) from hy) List.not_mem_nil⟩)
             | ((try dsimp only [erpSpec, ercSpec, estSpec, erpF, estF, Ty.T, Ty.dflt, KT.T, getM, putM, delM, inI64, maxRow]); simp only [decide_eq_true_eq, decide_eq_false_iff_not, Bool.not_eq_true', Bool.not_eq_false', Bool.not_eq_true, Bool.not_eq_false, Bool.not_true, Bool.not_false, ne_eq, Bool.false_eq_true, Bool.true_eq_false, reduceCtorEq, beq_iff_eq, beq_eq_false_iff_ne, not_true_eq_false, not_false_eq_true, pair_eta, map_idL, natCast_eq, inI64, maxRow]; first | done | with_reducible assumption | omega)
             | exact map_pair_id _
             | ((try dsimp only [erpSpec, ercSpec, estSpec, erpF, estF, Ty.T, Ty.dflt, KT.T, getM, putM, delM, inI64, maxRow]) <;> (try simp only [natCast_eq]) <;> omega)
             | ((try dsimp only [erpSpec, ercSpec, estSpec, erpF, estF, Ty.T, Ty.dflt, KT.T, getM, putM, delM, inI64, maxRow] at *) <;> (try simp only [natCast_eq] at *) <;> omega)
             | ((try dsimp only [erpSpec, ercSpec, estSpec, erpF, estF, Ty.T, Ty.dflt, KT.T, getM, putM, delM, inI64, maxRow] at *) <;> (try simp only [List.length_append, List.length_cons, List.length_nil, List.length_replicate, List.length_take, List.length_drop, natCast_eq] at *) <;> omega)
             | assumption
             | (symm; assumption)
             | (dsimp only; simp only [Bool.or_true, Bool.true_or, Bool.or_false, Bool.false_or, Bool.and_true, Bool.true_and, Bool.and_false, Bool.false_and, Bool.not_true, Bool.not_false, *]; done)
             | (simp; done)
             | (and_intros <;> first | trivial | with_reducible assumption | omega)
             | ((try dsimp only [erpSpec, ercSpec, estSpec, erpF, estF, Ty.T, Ty.dflt, KT.T, getM, putM, delM, inI64, maxRow] at *) <;> simp [*] <;> done))
        | skip
      all_goals first
        | (exfalso; exact absurd rfl h)
        | (exfalso; exact absurd stP_e0.2.1 h)
        | (exfalso; exact c.elim (fun k => absurd k (by assumption)) (fun k => absurd k (by assumption)))
        | (refine Exists.elim (LSt.next (L := L) hlo (by assumption)) ?_
           rintro y hy0
           refine ⟨y, by (try dsimp only); (try simp only [natCast_eq]); omega, ?_⟩
           (try (conv in (LoopInv.inv _ _) => dsimp only)); (try (conv in (SS.mk _ _) => cbv; (try dsimp only [erpSpec, ercSpec, estSpec, erpF, estF, Ty.T, Ty.dflt, KT.T]); (try simp only [natCast_eq])))
           (with_reducible refine (?_ : T1 _ ?_) ?_; rotate_left 1; (conv => lhs; cbv; (try cbv); (try cbv)); intro hT; clear hT; with_reducible refine Sh.mk (by kernel_rfl) ?_)
           repeat' (first
             | with_reducible refine Ck.mk (C := tt) tt_intro ?_
             | with_reducible refine Ck.mk (show drawOk _ _ = true by kernel_rfl) ?_
             | with_reducible refine Ck.all_cons ?_
             | with_reducible refine Ck.all_nil ?_
             | with_reducible refine Ck.mk (by assumption) ?_
             | with_reducible refine Ck.mk (decide_eq_true (by assumption)) ?_
             | with_reducible refine Ck.mk (decide_eq_false (by assumption)) ?_
             | with_reducible refine Ck.mk ?_ ?_
             | (with_reducible refine Both.mk (fun h => ?_) (fun h => ?_) <;> (have hk := h) <;> (try simp only [decide_eq_true_eq, decide_eq_false_iff_not, Bool.not_eq_true', Bool.not_eq_false', Bool.not_eq_true, Bool.not_eq_false, Bool.not_true, Bool.not_false, ne_eq, Bool.false_eq_true, Bool.true_eq_false, reduceCtorEq, beq_iff_eq, beq_eq_false_iff_ne, not_true_eq_false, not_false_eq_true, pair_eta, map_idL] at h) <;> (try dsimp only [erpSpec, ercSpec, estSpec, erpF, estF, Ty.T, Ty.dflt, KT.T, getM, putM, delM] at h) <;> (try simp only [natCast_eq] at h) <;> (try simp only [pair_eta, e1] at h) <;> (try (exfalso; first | exact absurd rfl h | exact absurd stP_e0.2.1 h | omega)) <;> (try first | rw [if_pos h] at hr | rw [if_neg h] at hr | rw [ifF h] at hr | rw [ifN h] at hr) <;> (try (have hb : (_ : Bool) = _ := h; clear h; subst hb; (try first | rw [if_pos rfl] at hr | rw [if_neg Bool.false_ne_true] at hr))) <;> first | (exfalso; omega) | exact absurd (h.symm.trans (by assumption) : true = false) Bool.noConfusion | exact absurd (h.symm.trans (by assumption) : false = true) Bool.noConfusion | (with_reducible refine (?_ : T1 _ ?_) ?_; rotate_left 1; (conv => lhs; cbv; (try cbv); (try cbv)); intro hT; clear hT; with_reducible refine Sh.mk (by kernel_rfl) ?_))
             | (with_reducible refine Alt.mk (fun h => ?_) (fun h => ?_) <;> (have hk := h) <;> (try simp only [decide_eq_true_eq, decide_eq_false_iff_not, Bool.not_eq_true', Bool.not_eq_false', Bool.not_eq_true, Bool.not_eq_false, Bool.not_true, Bool.not_false, ne_eq, Bool.false_eq_true, Bool.true_eq_false, reduceCtorEq, beq_iff_eq, beq_eq_false_iff_ne, not_true_eq_false, not_false_eq_true, pair_eta, map_idL] at h) <;> (try dsimp only [erpSpec, ercSpec, estSpec, erpF, estF, Ty.T, Ty.dflt, KT.T, getM, putM, delM] at h) <;> (try simp only [natCast_eq] at h) <;> (try simp only [pair_eta, e1] at h) <;> (try (exfalso; first | exact absurd rfl h | exact absurd stP_e0.2.1 h | omega)) <;> (try first | rw [if_pos h] at hr | rw [if_neg h] at hr | rw [ifF h] at hr | rw [ifN h] at hr) <;> (try (have hb : (_ : Bool) = _ := h; clear h; subst hb; (try first | rw [if_pos rfl] at hr | rw [if_neg Bool.false_ne_true] at hr))) <;> first | (exfalso; omega) | exact absurd (h.symm.trans (by assumption) : true = false) Bool.noConfusion | exact absurd (h.symm.trans (by assumption) : false = true) Bool.noConfusion | (with_reducible refine (?_ : T1 _ ?_) ?_; rotate_left 1; (conv => lhs; cbv; (try cbv); (try cbv)); intro hT; clear hT; with_reducible refine Sh.mk (by kernel_rfl) ?_))
             | (with_reducible refine Pick.mk (fun h => ?_) (fun l1 x l2 h => ?_) <;> (with_reducible refine (?_ : T1 _ ?_) ?_; rotate_left 1; (conv => lhs; cbv; (try cbv); (try cbv)); intro hT; clear hT; with_reducible refine Sh.mk (by kernel_rfl) ?_))
             | ((with_reducible refine End.mk ?_); skip)
             | with_reducible exact True.intro)
           all_goals first
             | (fail_if_success (with_reducible refine Exists.intro ?_ ?_)
                first
                  | with_reducible rfl
                  | with_reducible assumption
                  | (dsimp only [erpSpec, ercSpec, estSpec, erpF, estF, Ty.T, Ty.dflt, KT.T, getM, putM, delM, inI64, maxRow]; done)
                  | (symm; with_reducible assumption)
                  | (dsimp only [erpSpec, ercSpec, estSpec, erpF, estF, Ty.T, Ty.dflt, KT.T, getM, putM, delM, inI64, maxRow]; first | with_reducible rfl | with_reducible assumption | (symm; with_reducible assumption) | (simp only [natCast_eq]; with_reducible rfl) | omega)
                  | omega
                  | (dsimp only [erpSpec, ercSpec, estSpec, erpF, estF, Ty.T, Ty.dflt, KT.T, getM, putM, delM, inI64, maxRow]; (try simp only [natCast_eq, List.nil_append]); first | with_reducible rfl | exact take_cg (by omega) | exact drop_cg (by omega) | exact take_drop_cg (by omega) (by omega) | exact take_all (by omega) | exact take_drop_all (by omega) (by omega) | exact drop_take_cg (by omega) (by omega) (by omega))
                  | first | exact hy0.symm | ((try dsimp only); (try simp only [pair_eta, map_idL, e1]); done)
                  | ((try dsimp only [erpSpec, ercSpec, estSpec, erpF, estF, Ty.T, Ty.dflt, KT.T, getM, putM, delM, inI64, maxRow]); simp only [decide_eq_true_eq, decide_eq_false_iff_not, Bool.not_eq_true', Bool.not_eq_false', Bool.not_eq_true, Bool.not_eq_false, Bool.not_true, Bool.not_false, ne_eq, Bool.false_eq_true, Bool.true_eq_false, reduceCtorEq, beq_iff_eq, beq_eq_false_iff_ne, not_true_eq_false, not_false_eq_true, pair_eta, map_idL, natCast_eq, inI64, maxRow]; first | done | with_reducible assumption | omega)
                  | exact map_pair_id _
                  | ((try dsimp only [erpSpec, ercSpec, estSpec, erpF, estF, Ty.T, Ty.dflt, KT.T, getM, putM, delM, inI64, maxRow]) <;> (try simp only [natCast_eq]) <;> omega)
                  | ((try dsimp only [erpSpec, ercSpec, estSpec, erpF, estF, Ty.T, Ty.dflt, KT.T, getM, putM, delM, inI64, maxRow] at *) <;> (try simp only [natCast_eq] at *) <;> omega)
                  | ((try dsimp only [erpSpec, ercSpec, estSpec, erpF, estF, Ty.T, Ty.dflt, KT.T, getM, putM, delM, inI64, maxRow] at *) <;> (try simp only [List.length_append, List.length_cons, List.length_nil, List.length_replicate, List.length_take, List.length_drop, natCast_eq] at *) <;> omega)
                  | assumption
                  | (symm; assumption)
                  | (dsimp only; simp only [Bool.or_true, Bool.true_or, Bool.or_false, Bool.false_or, Bool.and_true, Bool.true_and, Bool.and_false, Bool.false_and, Bool.not_true, Bool.not_false, *]; done)
                  | (simp; done)
                  | (and_intros <;> first | trivial | with_reducible assumption | omega)
                  | ((try dsimp only [erpSpec, ercSpec, estSpec, erpF, estF, Ty.T, Ty.dflt, KT.T, getM, putM, delM, inI64, maxRow] at *) <;> simp [*] <;> done))
             | skip
           skip)
        | skip
    · skip
      (try (conv in (LoopInv.inv _ _) => dsimp only)); (try (conv in (SS.mk _ _) => cbv; (try dsimp only [erpSpec, ercSpec, estSpec, erpF, estF, Ty.T, Ty.dflt, KT.T]); (try simp only [natCast_eq])))
      (with_reducible refine (?_ : T1 _ ?_) ?_; rotate_left 1; (conv => lhs; cbv; (try cbv); (try cbv)); intro hT; clear hT; with_reducible refine Sh.mk (by kernel_rfl) ?_)
      repeat' (first
        | with_reducible refine Ck.mk (C := tt) tt_intro ?_
        | with_reducible refine Ck.mk (show drawOk _ _ = true by kernel_rfl) ?_
        | with_reducible refine Ck.all_cons ?_
        | with_reducible refine Ck.all_nil ?_
        | with_reducible refine Ck.mk (by assumption) ?_
        | with_reducible refine Ck.mk (decide_eq_true (by assumption)) ?_
        | with_reducible refine Ck.mk (decide_eq_false (by assumption)) ?_
        | with_reducible refine Ck.mk ?_ ?_
        | (with_reducible refine Both.mk (fun h => ?_) (fun h => ?_) <;> (have hk := h) <;> (try simp only [decide_eq_true_eq, decide_eq_false_iff_not, Bool.not_eq_true', Bool.not_eq_false', Bool.not_eq_true, Bool.not_eq_false, Bool.not_true, Bool.not_false, ne_eq, Bool.false_eq_true, Bool.true_eq_false, reduceCtorEq, beq_iff_eq, beq_eq_false_iff_ne, not_true_eq_false, not_false_eq_true, pair_eta, map_idL] at h) <;> (try dsimp only [erpSpec, ercSpec, estSpec, erpF, estF, Ty.T, Ty.dflt, KT.T, getM, putM, delM] at h) <;> (try simp only [natCast_eq] at h) <;> (try simp only [pair_eta, e1] at h) <;> (try (exfalso; first | exact absurd rfl h | exact absurd stP_e0.2.1 h | omega)) <;> (try first | rw [if_pos h] at hr | rw [if_neg h] at hr | rw [ifF h] at hr | rw [ifN h] at hr) <;> (try (have hb : (_ : Bool) = _ := h; clear h; subst hb; (try first | rw [if_pos rfl] at hr | rw [if_neg Bool.false_ne_true] at hr))) <;> first | (exfalso; omega) | exact absurd (h.symm.trans (by assumption) : true = false) Bool.noConfusion | exact absurd (h.symm.trans (by assumption) : false = true) Bool.noConfusion | (with_reducible refine (?_ : T1 _ ?_) ?_; rotate_left 1; (conv => lhs; cbv; (try cbv); (try cbv)); intro hT; clear hT; with_reducible refine Sh.mk (by kernel_rfl) ?_))
        | (with_reducible refine Alt.mk (fun h => ?_) (fun h => ?_) <;> (have hk := h) <;> (try simp only [decide_eq_true_eq, decide_eq_false_iff_not, Bool.not_eq_true', Bool.not_eq_false', Bool.not_eq_true, Bool.not_eq_false, Bool.not_true, Bool.not_false, ne_eq, Bool.false_eq_true, Bool.true_eq_false, reduceCtorEq, beq_iff_eq, beq_eq_false_iff_ne, not_true_eq_false, not_false_eq_true, pair_eta, map_idL] at h) <;> (try dsimp only [erpSpec, ercSpec, estSpec, erpF, estF, Ty.T, Ty.dflt, KT.T, getM, putM, delM] at h) <;> (try simp only [natCast_eq] at h) <;> (try simp only [pair_eta, e1] at h) <;> (try (exfalso; first | exact absurd rfl h | exact absurd stP_e0.2.1 h | omega)) <;> (try first | rw [if_pos h] at hr | rw [if_neg h] at hr | rw [ifF h] at hr | rw [ifN h] at hr) <;> (try (have hb : (_ : Bool) = _ := h; clear h; subst hb; (try first | rw [if_pos rfl] at hr | rw [if_neg Bool.false_ne_true] at hr))) <;> first | (exfalso; omega) | exact absurd (h.symm.trans (by assumption) : true = false) Bool.noConfusion | exact absurd (h.symm.trans (by assumption) : false = true) Bool.noConfusion | (with_reducible refine (?_ : T1 _ ?_) ?_; rotate_left 1; (conv => lhs; cbv; (try cbv); (try cbv)); intro hT; clear hT; with_reducible refine Sh.mk (by kernel_rfl) ?_))
        | (with_reducible refine Pick.mk (fun h => ?_) (fun l1 x l2 h => ?_) <;> (with_reducible refine (?_ : T1 _ ?_) ?_; rotate_left 1; (conv => lhs; cbv; (try cbv); (try cbv)); intro hT; clear hT; with_reducible refine Sh.mk (by kernel_rfl) ?_))
        | ((with_reducible refine End.mk ?_); (try ((repeat (first | rw [if_pos (by first | assumption | omega)] at hr | rw [if_neg (by first | assumption | omega | (simp only [Bool.false_eq_true, Bool.true_eq_false, reduceCtorEq, not_false_eq_true]; done) | (simp only [Bool.not_eq_true]; assumption) | (simp only [Bool.not_eq_false]; assumption))] at hr | rw [if_pos rfl] at hr)); subst hr)))
        | with_reducible exact True.intro)
      all_goals first
        | (fail_if_success (with_reducible refine Exists.intro ?_ ?_)
           first
             | with_reducible rfl
             | with_reducible assumption
             | (dsimp only [erpSpec, ercSpec, estSpec, erpF, estF, Ty.T, Ty.dflt, KT.T, getM, putM, delM, inI64, maxRow]; done)
             | (symm; with_reducible assumption)
             | (dsimp only [erpSpec, ercSpec, estSpec, erpF, estF, Ty.T, Ty.dflt, KT.T, getM, putM, delM, inI64, maxRow]; first | with_reducible rfl | with_reducible assumption | (symm; with_reducible assumption) | (simp only [natCast_eq]; with_reducible rfl) | omega)
             | omega
             | (dsimp only [erpSpec, ercSpec, estSpec, erpF, estF, Ty.T, Ty.dflt, KT.T, getM, putM, delM, inI64, maxRow]; (try simp only [natCast_eq, List.nil_append]); first | with_reducible rfl | exact take_cg (by omega) | exact drop_cg (by omega) | exact take_drop_cg (by omega) (by omega) | exact take_all (by omega) | exact take_drop_all (by omega) (by omega) | exact drop_take_cg (by omega) (by omega) (by omega))
             | first | exact ⟨stP_good.mono (by decide) (by decide), by decide, by decide⟩ | (show inBytes (calN 12 stP).r1 ∧ inBytes [1, 2, 3]; rw [stP_end]; exact ⟨b123, b123⟩) | (show decide ((calN 12 stP).r1 = [1, 2, 3]) = true; rw [stP_end]; rfl) | exact ⟨stP_good.e0.ok, Nat.le_trans hs.1.1 (by decide)⟩ | (show (0 : Int) ≤ 0 ∧ (0 : Int) < ((((ercF stP.e0 (elM L i)).1.1 : List Msg).length : Nat) : Int); rw [e1]; exact ⟨Int.le_refl _, by decide⟩) | (show inBytes (List.getD ((ercF stP.e0 (elM L i)).1.1 : List Msg) (0 : Int).toNat msg0).2.2.2.1.2.1 ∧ inBytes []; rw [e1]; exact ⟨fun y hy => absurd (show y ∈ ([] : List Int) from hy) List.not_mem_nil, fun y hy => absurd hy List.not_mem_nil⟩) | ((try dsimp only); (try simp only [pair_eta, map_idL, e1]); exact ⟨fun y hy => absurd (show y ∈ ([] : List Int) from hy) List.not_mem_nil, fun y hy => absurd (show y ∈ ([] : List Int) from hy) List.not_mem_nil⟩)
             | ((try dsimp only [erpSpec, ercSpec, estSpec, erpF, estF, Ty.T, Ty.dflt, KT.T, getM, putM, delM, inI64, maxRow]); simp only [decide_eq_true_eq, decide_eq_false_iff_not, Bool.not_eq_true', Bool.not_eq_false', Bool.not_eq_true, Bool.not_eq_false, Bool.not_true, Bool.not_false, ne_eq, Bool.false_eq_true, Bool.true_eq_false, reduceCtorEq, beq_iff_eq, beq_eq_false_iff_ne, not_true_eq_false, not_false_eq_true, pair_eta, map_idL, natCast_eq, inI64, maxRow]; first | done | with_reducible assumption | omega)
             | exact map_pair_id _
             | ((try dsimp only [erpSpec, ercSpec, estSpec, erpF, estF, Ty.T, Ty.dflt, KT.T, getM, putM, delM, inI64, maxRow]) <;> (try simp only [natCast_eq]) <;> omega)
             | ((try dsimp only [erpSpec, ercSpec, estSpec, erpF, estF, Ty.T, Ty.dflt, KT.T, getM, putM, delM, inI64, maxRow] at *) <;> (try simp only [natCast_eq] at *) <;> omega)
             | ((try dsimp only [erpSpec, ercSpec, estSpec, erpF, estF, Ty.T, Ty.dflt, KT.T, getM, putM, delM, inI64, maxRow] at *) <;> (try simp only [List.length_append, List.length_cons, List.length_nil, List.length_replicate, List.length_take, List.length_drop, natCast_eq] at *) <;> omega)
             | assumption
             | (symm; assumption)
             | (dsimp only; simp only [Bool.or_true, Bool.true_or, Bool.or_false, Bool.false_or, Bool.and_true, Bool.true_and, Bool.and_false, Bool.false_and, Bool.not_true, Bool.not_false, *]; done)
             | (simp; done)
             | (and_intros <;> first | trivial | with_reducible assumption | omega)
             | ((try dsimp only [erpSpec, ercSpec, estSpec, erpF, estF, Ty.T, Ty.dflt, KT.T, getM, putM, delM, inI64, maxRow] at *) <;> simp [*] <;> done))
        | skip
      all_goals first
        | (exfalso; exact absurd rfl h)
        | (exfalso; exact absurd stP_e0.2.1 h)
        | (exfalso; exact c1 (by assumption))
        | (exfalso; exact c2 (by assumption))
        | (refine Exists.elim (LSt.next (L := L) hlo (by assumption)) ?_
           rintro y hy0
           refine ⟨y, by (try dsimp only); (try simp only [natCast_eq]); omega, ?_⟩
           (try (conv in (LoopInv.inv _ _) => dsimp only)); (try (conv in (SS.mk _ _) => cbv; (try dsimp only [erpSpec, ercSpec, estSpec, erpF, estF, Ty.T, Ty.dflt, KT.T]); (try simp only [natCast_eq])))
           (with_reducible refine (?_ : T1 _ ?_) ?_; rotate_left 1; (conv => lhs; cbv; (try cbv); (try cbv)); intro hT; clear hT; with_reducible refine Sh.mk (by kernel_rfl) ?_)
           repeat' (first
             | with_reducible refine Ck.mk (C := tt) tt_intro ?_
             | with_reducible refine Ck.mk (show drawOk _ _ = true by kernel_rfl) ?_
             | with_reducible refine Ck.all_cons ?_
             | with_reducible refine Ck.all_nil ?_
             | with_reducible refine Ck.mk (by assumption) ?_
             | with_reducible refine Ck.mk (decide_eq_true (by assumption)) ?_
             | with_reducible refine Ck.mk (decide_eq_false (by assumption)) ?_
             | with_reducible refine Ck.mk ?_ ?_
             | (with_reducible refine Both.mk (fun h => ?_) (fun h => ?_) <;> (have hk := h) <;> (try simp only [decide_eq_true_eq, decide_eq_false_iff_not, Bool.not_eq_true', Bool.not_eq_false', Bool.not_eq_true, Bool.not_eq_false, Bool.not_true, Bool.not_false, ne_eq, Bool.false_eq_true, Bool.true_eq_false, reduceCtorEq, beq_iff_eq, beq_eq_false_iff_ne, not_true_eq_false, not_false_eq_true, pair_eta, map_idL] at h) <;> (try dsimp only [erpSpec, ercSpec, estSpec, erpF, estF, Ty.T, Ty.dflt, KT.T, getM, putM, delM] at h) <;> (try simp only [natCast_eq] at h) <;> (try simp only [pair_eta, e1] at h) <;> (try (exfalso; first | exact absurd rfl h | exact absurd stP_e0.2.1 h | omega)) <;> (try first | rw [if_pos h] at hr | rw [if_neg h] at hr | rw [ifF h] at hr | rw [ifN h] at hr) <;> (try (have hb : (_ : Bool) = _ := h; clear h; subst hb; (try first | rw [if_pos rfl] at hr | rw [if_neg Bool.false_ne_true] at hr))) <;> first | (exfalso; omega) | exact absurd (h.symm.trans (by assumption) : true = false) Bool.noConfusion | exact absurd (h.symm.trans (by assumption) : false = true) Bool.noConfusion | (with_reducible refine (?_ : T1 _ ?_) ?_; rotate_left 1; (conv => lhs; cbv; (try cbv); (try cbv)); intro hT; clear hT; with_reducible refine Sh.mk (by kernel_rfl) ?_))
             | (with_reducible refine Alt.mk (fun h => ?_) (fun h => ?_) <;> (have hk := h) <;> (try simp only [decide_eq_true_eq, decide_eq_false_iff_not, Bool.not_eq_true', Bool.not_eq_false', Bool.not_eq_true, Bool.not_eq_false, Bool.not_true, Bool.not_false, ne_eq, Bool.false_eq_true, Bool.true_eq_false, reduceCtorEq, beq_iff_eq, beq_eq_false_iff_ne, not_true_eq_false, not_false_eq_true, pair_eta, map_idL] at h) <;> (try dsimp only [erpSpec, ercSpec, estSpec, erpF, estF, Ty.T, Ty.dflt, KT.T, getM, putM, delM] at h) <;> (try simp only [natCast_eq] at h) <;> (try simp only [pair_eta, e1] at h) <;> (try (exfalso; first | exact absurd rfl h | exact absurd stP_e0.2.1 h | omega)) <;> (try first | rw [if_pos h] at hr | rw [if_neg h] at hr | rw [ifF h] at hr | rw [ifN h] at hr) <;> (try (have hb : (_ : Bool) = _ := h; clear h; subst hb; (try first | rw [if_pos rfl] at hr | rw [if_neg Bool.false_ne_true] at hr))) <;> first | (exfalso; omega) | exact absurd (h.symm.trans (by assumption) : true = false) Bool.noConfusion | exact absurd (h.symm.trans (by assumption) : false = true) Bool.noConfusion | (with_reducible refine (?_ : T1 _ ?_) ?_; rotate_left 1; (conv => lhs; cbv; (try cbv); (try cbv)); intro hT; clear hT; with_reducible refine Sh.mk (by kernel_rfl) ?_))
             | (with_reducible refine Pick.mk (fun h => ?_) (fun l1 x l2 h => ?_) <;> (with_reducible refine (?_ : T1 _ ?_) ?_; rotate_left 1; (conv => lhs; cbv; (try cbv); (try cbv)); intro hT; clear hT; with_reducible refine Sh.mk (by kernel_rfl) ?_))
             | ((with_reducible refine End.mk ?_); skip)
             | with_reducible exact True.intro)
           all_goals first
             | (fail_if_success (with_reducible refine Exists.intro ?_ ?_)
                first
                  | with_reducible rfl
                  | with_reducible assumption
                  | (dsimp only [erpSpec, ercSpec, estSpec, erpF, estF, Ty.T, Ty.dflt, KT.T, getM, putM, delM, inI64, maxRow]; done)
                  | (symm; with_reducible assumption)
                  | (dsimp only [erpSpec, ercSpec, estSpec, erpF, estF, Ty.T, Ty.dflt, KT.T, getM, putM, delM, inI64, maxRow]; first | with_reducible rfl | with_reducible assumption | (symm; with_reducible assumption) | (simp only [natCast_eq]; with_reducible rfl) | omega)
                  | omega
                  | (dsimp only [erpSpec, ercSpec, estSpec, erpF, estF, Ty.T, Ty.dflt, KT.T, getM, putM, delM, inI64, maxRow]; (try simp only [natCast_eq, List.nil_append]); first | with_reducible rfl | exact take_cg (by omega) | exact drop_cg (by omega) | exact take_drop_cg (by omega) (by omega) | exact take_all (by omega) | exact take_drop_all (by omega) (by omega) | exact drop_take_cg (by omega) (by omega) (by omega))
                  | first | exact hy0.symm | ((try dsimp only); (try simp only [pair_eta, map_idL, e1]); done)
                  | ((try dsimp only [erpSpec, ercSpec, estSpec, erpF, estF, Ty.T, Ty.dflt, KT.T, getM, putM, delM, inI64, maxRow]); simp only [decide_eq_true_eq, decide_eq_false_iff_not, Bool.not_eq_true', Bool.not_eq_false', Bool.not_eq_true, Bool.not_eq_false, Bool.not_true, Bool.not_false, ne_eq, Bool.false_eq_true, Bool.true_eq_false, reduceCtorEq, beq_iff_eq, beq_eq_false_iff_ne, not_true_eq_false, not_false_eq_true, pair_eta, map_idL, natCast_eq, inI64, maxRow]; first | done | with_reducible assumption | omega)
                  | exact map_pair_id _
                  | ((try dsimp only [erpSpec, ercSpec, estSpec, erpF, estF, Ty.T, Ty.dflt, KT.T, getM, putM, delM, inI64, maxRow]) <;> (try simp only [natCast_eq]) <;> omega)
                  | ((try dsimp only [erpSpec, ercSpec, estSpec, erpF, estF, Ty.T, Ty.dflt, KT.T, getM, putM, delM, inI64, maxRow] at *) <;> (try simp only [natCast_eq] at *) <;> omega)
                  | ((try dsimp only [erpSpec, ercSpec, estSpec, erpF, estF, Ty.T, Ty.dflt, KT.T, getM, putM, delM, inI64, maxRow] at *) <;> (try simp only [List.length_append, List.length_cons, List.length_nil, List.length_replicate, List.length_take, List.length_drop, natCast_eq] at *) <;> omega)
                  | assumption
                  | (symm; assumption)
                  | (dsimp only; simp only [Bool.or_true, Bool.true_or, Bool.or_false, Bool.false_or, Bool.and_true, Bool.true_and, Bool.and_false, Bool.false_and, Bool.not_true, Bool.not_false, *]; done)
                  | (simp; done)
                  | (and_intros <;> first | trivial | with_reducible assumption | omega)
                  | ((try dsimp only [erpSpec, ercSpec, estSpec, erpF, estF, Ty.T, Ty.dflt, KT.T, getM, putM, delM, inI64, maxRow] at *) <;> simp [*] <;> done))
             | skip
           skip)
        | skip
  · have e1 : True := trivial
    (try (conv in (LoopInv.inv _ _) => dsimp only)); (try (conv in (SS.mk _ _) => cbv; (try dsimp only [erpSpec, ercSpec, estSpec, erpF, estF, Ty.T, Ty.dflt, KT.T]); (try simp only [natCast_eq])))
    (with_reducible refine (?_ : T1 _ ?_) ?_; rotate_left 1; (conv => lhs; cbv; (try cbv); (try cbv)); intro hT; clear hT; with_reducible refine Sh.mk (by kernel_rfl) ?_)
    repeat' (first
      | with_reducible refine Ck.mk (C := tt) tt_intro ?_
      | with_reducible refine Ck.mk (show drawOk _ _ = true by kernel_rfl) ?_
      | with_reducible refine Ck.all_cons ?_
      | with_reducible refine Ck.all_nil ?_
      | with_reducible refine Ck.mk (by assumption) ?_
      | with_reducible refine Ck.mk (decide_eq_true (by assumption)) ?_
      | with_reducible refine Ck.mk (decide_eq_false (by assumption)) ?_
      | with_reducible refine Ck.mk ?_ ?_
      | (with_reducible refine Both.mk (fun h => ?_) (fun h => ?_) <;> (have hk := h) <;> (try simp only [decide_eq_true_eq, decide_eq_false_iff_not, Bool.not_eq_true', Bool.not_eq_false', Bool.not_eq_true, Bool.not_eq_false, Bool.not_true, Bool.not_false, ne_eq, Bool.false_eq_true, Bool.true_eq_false, reduceCtorEq, beq_iff_eq, beq_eq_false_iff_ne, not_true_eq_false, not_false_eq_true, pair_eta, map_idL] at h) <;> (try dsimp only [erpSpec, ercSpec, estSpec, erpF, estF, Ty.T, Ty.dflt, KT.T, getM, putM, delM] at h) <;> (try simp only [natCast_eq] at h) <;> (try simp only [pair_eta, e1] at h) <;> (try (exfalso; first | exact absurd rfl h | exact absurd stP_e0.2.1 h | omega)) <;> (try first | rw [if_pos h] at hr | rw [if_neg h] at hr | rw [ifF h] at hr | rw [ifN h] at hr) <;> (try (have hb : (_ : Bool) = _ := h; clear h; subst hb; (try first | rw [if_pos rfl] at hr | rw [if_neg Bool.false_ne_true] at hr))) <;> first | (exfalso; omega) | exact absurd (h.symm.trans (by assumption) : true = false) Bool.noConfusion | exact absurd (h.symm.trans (by assumption) : false = true) Bool.noConfusion | (with_reducible refine (?_ : T1 _ ?_) ?_; rotate_left 1; (conv => lhs; cbv; (try cbv); (try cbv)); intro hT; clear hT; with_reducible refine Sh.mk (by kernel_rfl) ?_))
      | (with_reducible refine Alt.mk (fun h => ?_) (fun h => ?_) <;> (have hk := h) <;> (try simp only [decide_eq_true_eq, decide_eq_false_iff_not, Bool.not_eq_true', Bool.not_eq_false', Bool.not_eq_true, Bool.not_eq_false, Bool.not_true, Bool.not_false, ne_eq, Bool.false_eq_true, Bool.true_eq_false, reduceCtorEq, beq_iff_eq, beq_eq_false_iff_ne, not_true_eq_false, not_false_eq_true, pair_eta, map_idL] at h) <;> (try dsimp only [erpSpec, ercSpec, estSpec, erpF, estF, Ty.T, Ty.dflt, KT.T, getM, putM, delM] at h) <;> (try simp only [natCast_eq] at h) <;> (try simp only [pair_eta, e1] at h) <;> (try (exfalso; first | exact absurd rfl h | exact absurd stP_e0.2.1 h | omega)) <;> (try first | rw [if_pos h] at hr | rw [if_neg h] at hr | rw [ifF h] at hr | rw [ifN h] at hr) <;> (try (have hb : (_ : Bool) = _ := h; clear h; subst hb; (try first | rw [if_pos rfl] at hr | rw [if_neg Bool.false_ne_true] at hr))) <;> first | (exfalso; omega) | exact absurd (h.symm.trans (by assumption) : true = false) Bool.noConfusion | exact absurd (h.symm.trans (by assumption) : false = true) Bool.noConfusion | (with_reducible refine (?_ : T1 _ ?_) ?_; rotate_left 1; (conv => lhs; cbv; (try cbv); (try cbv)); intro hT; clear hT; with_reducible refine Sh.mk (by kernel_rfl) ?_))
      | (with_reducible refine Pick.mk (fun h => ?_) (fun l1 x l2 h => ?_) <;> (with_reducible refine (?_ : T1 _ ?_) ?_; rotate_left 1; (conv => lhs; cbv; (try cbv); (try cbv)); intro hT; clear hT; with_reducible refine Sh.mk (by kernel_rfl) ?_))
      | ((with_reducible refine End.mk ?_); (try ((repeat (first | rw [if_pos (by first | assumption | omega)] at hr | rw [if_neg (by first | assumption | omega | (simp only [Bool.false_eq_true, Bool.true_eq_false, reduceCtorEq, not_false_eq_true]; done) | (simp only [Bool.not_eq_true]; assumption) | (simp only [Bool.not_eq_false]; assumption))] at hr | rw [if_pos rfl] at hr)); subst hr)))
      | with_reducible exact True.intro)
    all_goals first
      | (fail_if_success (with_reducible refine Exists.intro ?_ ?_)
         first
           | with_reducible rfl
           | with_reducible assumption
           | (dsimp only [erpSpec, ercSpec, estSpec, erpF, estF, Ty.T, Ty.dflt, KT.T, getM, putM, delM, inI64, maxRow]; done)
           | (symm; with_reducible assumption)
           | (dsimp only [erpSpec, ercSpec, estSpec, erpF, estF, Ty.T, Ty.dflt, KT.T, getM, putM, delM, inI64, maxRow]; first | with_reducible rfl | with_reducible assumption | (symm; with_reducible assumption) | (simp only [natCast_eq]; with_reducible rfl) | omega)
           | omega
           | (dsimp only [erpSpec, ercSpec, estSpec, erpF, estF, Ty.T, Ty.dflt, KT.T, getM, putM, delM, inI64, maxRow]; (try simp only [natCast_eq, List.nil_append]); first | with_reducible rfl | exact take_cg (by omega) | exact drop_cg (by omega) | exact take_drop_cg (by omega) (by omega) | exact take_all (by omega) | exact take_drop_all (by omega) (by omega) | exact drop_take_cg (by omega) (by omega) (by omega))
           | first | exact ⟨stP_good.mono (by decide) (by decide), by decide, by decide⟩ | (show inBytes (calN 12 stP).r1 ∧ inBytes [1, 2, 3]; rw [stP_end]; exact ⟨b123, b123⟩) | (show decide ((calN 12 stP).r1 = [1, 2, 3]) = true; rw [stP_end]; rfl)
           | ((try dsimp only [erpSpec, ercSpec, estSpec, erpF, estF, Ty.T, Ty.dflt, KT.T, getM, putM, delM, inI64, maxRow]); simp only [decide_eq_true_eq, decide_eq_false_iff_not, Bool.not_eq_true', Bool.not_eq_false', Bool.not_eq_true, Bool.not_eq_false, Bool.not_true, Bool.not_false, ne_eq, Bool.false_eq_true, Bool.true_eq_false, reduceCtorEq, beq_iff_eq, beq_eq_false_iff_ne, not_true_eq_false, not_false_eq_true, pair_eta, map_idL, natCast_eq, inI64, maxRow]; first | done | with_reducible assumption | omega)
           | exact map_pair_id _
           | ((try dsimp only [erpSpec, ercSpec, estSpec, erpF, estF, Ty.T, Ty.dflt, KT.T, getM, putM, delM, inI64, maxRow]) <;> (try simp only [natCast_eq]) <;> omega)
           | ((try dsimp only [erpSpec, ercSpec, estSpec, erpF, estF, Ty.T, Ty.dflt, KT.T, getM, putM, delM, inI64, maxRow] at *) <;> (try simp only [natCast_eq] at *) <;> omega)
           | ((try dsimp only [erpSpec, ercSpec, estSpec, erpF, estF, Ty.T, Ty.dflt, KT.T, getM, putM, delM, inI64, maxRow] at *) <;> (try simp only [List.length_append, List.length_cons, List.length_nil, List.length_replicate, List.length_take, List.length_drop, natCast_eq] at *) <;> omega)
           | assumption
           | (symm; assumption)
           | (dsimp only; simp only [Bool.or_true, Bool.true_or, Bool.or_false, Bool.false_or, Bool.and_true, Bool.true_and, Bool.and_false, Bool.false_and, Bool.not_true, Bool.not_false, *]; done)
           | (simp; done)
           | (and_intros <;> first | trivial | with_reducible assumption | omega)
           | ((try dsimp only [erpSpec, ercSpec, estSpec, erpF, estF, Ty.T, Ty.dflt, KT.T, getM, putM, delM, inI64, maxRow] at *) <;> simp [*] <;> done))
      | skip
    all_goals first
      | (exfalso; exact st_no1 hs (by assumption) (by assumption) (by assumption) (by assumption) (by assumption) (by assumption) (by assumption) (by assumption))
      | (exfalso; exact st_no2 hs (by assumption) (by assumption) (by assumption) (by assumption) (by assumption) (by assumption) (by assumption) (by assumption) (by assumption))
      | (refine Exists.elim (LSt.next (L := L) hlo (by assumption)) ?_
         rintro y hy0
         refine ⟨y, by (try dsimp only); (try simp only [natCast_eq]); omega, ?_⟩
         (try (conv in (LoopInv.inv _ _) => dsimp only)); (try (conv in (SS.mk _ _) => cbv; (try dsimp only [erpSpec, ercSpec, estSpec, erpF, estF, Ty.T, Ty.dflt, KT.T]); (try simp only [natCast_eq])))
         (with_reducible refine (?_ : T1 _ ?_) ?_; rotate_left 1; (conv => lhs; cbv; (try cbv); (try cbv)); intro hT; clear hT; with_reducible refine Sh.mk (by kernel_rfl) ?_)
         repeat' (first
           | with_reducible refine Ck.mk (C := tt) tt_intro ?_
           | with_reducible refine Ck.mk (show drawOk _ _ = true by kernel_rfl) ?_
           | with_reducible refine Ck.all_cons ?_
           | with_reducible refine Ck.all_nil ?_
           | with_reducible refine Ck.mk (by assumption) ?_
           | with_reducible refine Ck.mk (decide_eq_true (by assumption)) ?_
           | with_reducible refine Ck.mk (decide_eq_false (by assumption)) ?_
           | with_reducible refine Ck.mk ?_ ?_
           | (with_reducible refine Both.mk (fun h => ?_) (fun h => ?_) <;> (have hk := h) <;> (try simp only [decide_eq_true_eq, decide_eq_false_iff_not, Bool.not_eq_true', Bool.not_eq_false', Bool.not_eq_true, Bool.not_eq_false, Bool.not_true, Bool.not_false, ne_eq, Bool.false_eq_true, Bool.true_eq_false, reduceCtorEq, beq_iff_eq, beq_eq_false_iff_ne, not_true_eq_false, not_false_eq_true, pair_eta, map_idL] at h) <;> (try dsimp only [erpSpec, ercSpec, estSpec, erpF, estF, Ty.T, Ty.dflt, KT.T, getM, putM, delM] at h) <;> (try simp only [natCast_eq] at h) <;> (try simp only [pair_eta, e1] at h) <;> (try (exfalso; first | exact absurd rfl h | exact absurd stP_e0.2.1 h | omega)) <;> (try first | rw [if_pos h] at hr | rw [if_neg h] at hr | rw [ifF h] at hr | rw [ifN h] at hr) <;> (try (have hb : (_ : Bool) = _ := h; clear h; subst hb; (try first | rw [if_pos rfl] at hr | rw [if_neg Bool.false_ne_true] at hr))) <;> first | (exfalso; omega) | exact absurd (h.symm.trans (by assumption) : true = false) Bool.noConfusion | exact absurd (h.symm.trans (by assumption) : false = true) Bool.noConfusion | (with_reducible refine (?_ : T1 _ ?_) ?_; rotate_left 1; (conv => lhs; cbv; (try cbv); (try cbv)); intro hT; clear hT; with_reducible refine Sh.mk (by kernel_rfl) ?_))
           | (with_reducible refine Alt.mk (fun h => ?_) (fun h => ?_) <;> (have hk := h) <;> (try simp only [decide_eq_true_eq, decide_eq_false_iff_not, Bool.not_eq_true', Bool.not_eq_false', Bool.not_eq_true, Bool.not_eq_false, Bool.not_true, Bool.not_false, ne_eq, Bool.false_eq_true, Bool.true_eq_false, reduceCtorEq, beq_iff_eq, beq_eq_false_iff_ne, not_true_eq_false, not_false_eq_true, pair_eta, map_idL] at h) <;> (try dsimp only [erpSpec, ercSpec, estSpec, erpF, estF, Ty.T, Ty.dflt, KT.T, getM, putM, delM] at h) <;> (try simp only [natCast_eq] at h) <;> (try simp only [pair_eta, e1] at h) <;> (try (exfalso; first | exact absurd rfl h | exact absurd stP_e0.2.1 h | omega)) <;> (try first | rw [if_pos h] at hr | rw [if_neg h] at hr | rw [ifF h] at hr | rw [ifN h] at hr) <;> (try (have hb : (_ : Bool) = _ := h; clear h; subst hb; (try first | rw [if_pos rfl] at hr | rw [if_neg Bool.false_ne_true] at hr))) <;> first | (exfalso; omega) | exact absurd (h.symm.trans (by assumption) : true = false) Bool.noConfusion | exact absurd (h.symm.trans (by assumption) : false = true) Bool.noConfusion | (with_reducible refine (?_ : T1 _ ?_) ?_; rotate_left 1; (conv => lhs; cbv; (try cbv); (try cbv)); intro hT; clear hT; with_reducible refine Sh.mk (by kernel_rfl) ?_))
           | (with_reducible refine Pick.mk (fun h => ?_) (fun l1 x l2 h => ?_) <;> (with_reducible refine (?_ : T1 _ ?_) ?_; rotate_left 1; (conv => lhs; cbv; (try cbv); (try cbv)); intro hT; clear hT; with_reducible refine Sh.mk (by kernel_rfl) ?_))
           | ((with_reducible refine End.mk ?_); skip)
           | with_reducible exact True.intro)
         all_goals first
           | (fail_if_success (with_reducible refine Exists.intro ?_ ?_)
              first
                | with_reducible rfl
                | with_reducible assumption
                | (dsimp only [erpSpec, ercSpec, estSpec, erpF, estF, Ty.T, Ty.dflt, KT.T, getM, putM, delM, inI64, maxRow]; done)
                | (symm; with_reducible assumption)
                | (dsimp only [erpSpec, ercSpec, estSpec, erpF, estF, Ty.T, Ty.dflt, KT.T, getM, putM, delM, inI64, maxRow]; first | with_reducible rfl | with_reducible assumption | (symm; with_reducible assumption) | (simp only [natCast_eq]; with_reducible rfl) | omega)
                | omega
                | (dsimp only [erpSpec, ercSpec, estSpec, erpF, estF, Ty.T, Ty.dflt, KT.T, getM, putM, delM, inI64, maxRow]; (try simp only [natCast_eq, List.nil_append]); first | with_reducible rfl | exact take_cg (by omega) | exact drop_cg (by omega) | exact take_drop_cg (by omega) (by omega) | exact take_all (by omega) | exact take_drop_all (by omega) (by omega) | exact drop_take_cg (by omega) (by omega) (by omega))
                | exact hy0.symm
                | ((try dsimp only [erpSpec, ercSpec, estSpec, erpF, estF, Ty.T, Ty.dflt, KT.T, getM, putM, delM, inI64, maxRow]); simp only [decide_eq_true_eq, decide_eq_false_iff_not, Bool.not_eq_true', Bool.not_eq_false', Bool.not_eq_true, Bool.not_eq_false, Bool.not_true, Bool.not_false, ne_eq, Bool.false_eq_true, Bool.true_eq_false, reduceCtorEq, beq_iff_eq, beq_eq_false_iff_ne, not_true_eq_false, not_false_eq_true, pair_eta, map_idL, natCast_eq, inI64, maxRow]; first | done | with_reducible assumption | omega)
                | exact map_pair_id _
                | ((try dsimp only [erpSpec, ercSpec, estSpec, erpF, estF, Ty.T, Ty.dflt, KT.T, getM, putM, delM, inI64, maxRow]) <;> (try simp only [natCast_eq]) <;> omega)
                | ((try dsimp only [erpSpec, ercSpec, estSpec, erpF, estF, Ty.T, Ty.dflt, KT.T, getM, putM, delM, inI64, maxRow] at *) <;> (try simp only [natCast_eq] at *) <;> omega)
                | ((try dsimp only [erpSpec, ercSpec, estSpec, erpF, estF, Ty.T, Ty.dflt, KT.T, getM, putM, delM, inI64, maxRow] at *) <;> (try simp only [List.length_append, List.length_cons, List.length_nil, List.length_replicate, List.length_take, List.length_drop, natCast_eq] at *) <;> omega)
                | assumption
                | (symm; assumption)
                | (dsimp only; simp only [Bool.or_true, Bool.true_or, Bool.or_false, Bool.false_or, Bool.and_true, Bool.true_and, Bool.and_false, Bool.false_and, Bool.not_true, Bool.not_false, *]; done)
                | (simp; done)
                | (and_intros <;> first | trivial | with_reducible assumption | omega)
                | ((try dsimp only [erpSpec, ercSpec, estSpec, erpF, estF, Ty.T, Ty.dflt, KT.T, getM, putM, delM, inI64, maxRow] at *) <;> simp [*] <;> done))
           | skip
         skip)
      | skip
theorem sta_sound : ConSound Try.prog AI 5 staSpec.con := PureSpec.sound Try.call5 (fun x h => sta_ok x.1 h)
end Go.Proofs.Ytldabjgegpmmiaa
