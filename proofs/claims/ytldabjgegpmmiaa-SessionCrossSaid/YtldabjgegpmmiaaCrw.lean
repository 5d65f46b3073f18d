/-
  Layer 47: SessionCross, the walk.
-/
import Derived.Test.YtldabjgegpmmiaaCrs
import Derived.Test.YtldabjgegpmmiaaStl
import Derived.Test.YtldabjgegpmmiaaEng3
namespace Go.Proofs.Ytldabjgegpmmiaa
set_option linter.all false
set_option linter.unusedVariables false
set_option linter.unusedSimpArgs false
set_option linter.unusedSectionVars false
open Go.RowKit Go.Sx
set_option maxRecDepth 100000
set_option maxHeartbeats 16000000
/-- The kernel shall not look into calm. -/
noncomputable def pcalC (S : Pr) (t : Int) : T0 × Pr := Classical.choose (⟨pcalF S t, rfl⟩ : ∃ x, x = pcalF S t)
theorem pcalC_eq (S : Pr) (t : Int) : pcalC S t = pcalF S t := Classical.choose_spec (⟨pcalF S t, rfl⟩ : ∃ x, x = pcalF S t)
noncomputable def pcal2Spec : StepM Ab Pr := ⟨parL, [.cell (.int .i64)], fun S (x : Int × Unit) => GoodP S 100000 100000 ∧ 0 ≤ x.1 ∧ x.1 ≤ 400, [], fun S (x : Int × Unit) => (pcalC S x.1).1, fun S (x : Int × Unit) => (pcalC S x.1).2⟩
theorem pcal2_eq : pcal2Spec = pcalSpec := by unfold pcal2Spec pcalSpec; simp only [pcalC_eq]
theorem pcal2_sound : ConSound Try.prog AI 16 pcal2Spec.con := pcal2_eq ▸ pcal_sound
theorem beq_inl : ConSound Try.prog AI 18 (inl E0 Try.f18 0) := inl_sound e0Ok mixed (fn := Try.f18) (c := bodyOf Try.f18) Try.call18 (by kernel_rfl) (by kernel_rfl) (by kernel_rfl) 0
noncomputable abbrev Ecr : Env Ab := ⟨tis, [(17, estSpec.con), (15, frzCon pwrSpec.con), (16, pcal2Spec.con), (14, parSpec.con), (13, ptickSpec.con), (12, conSpec.con), (11, awakeSpec.con), (18, inl E0 Try.f18 0)] ++ E0.con⟩
theorem ecrOk : EnvOk Try.prog AI Ecr := ((((((((e0Ok.add beq_inl).add awake_sound).add con_sound).add ptick_sound).add par_sound).add pcal2_sound).add (frzCon_sound pwr_sound)).add est_sound)
structure LCr (L : List Int) (w : Int) where
  i : Int
  S : Pr
  lo : 0 ≤ i
  hi : i ≤ L.length
  xp : Xp (1 + w % 16) (1 + w / 16 % 16) S
  good : GoodP S (4 + i.toNat) 0
  wt : WT S ≤ 4 + i.toNat
theorem LCr.next {L : List Int} {w i : Int} {S : Pr} (lo : 0 ≤ i) (h : i < L.length) (hx : Xp (1 + w % 16) (1 + w / 16 % 16) S) (hg : GoodP S (4 + i.toNat) 0) (hw : WT S ≤ 4 + i.toNat) (j k : Int) (b : Bool) : ∃ y : LCr L w, y.i = i + 1 ∧ y.S = (paF S j k b).2 :=
  ⟨⟨i + 1, (paF S j k b).2, by omega, by omega, hx.arr j k b, (hg.arr j k b).mono (by split <;> omega) (Nat.le_refl _), by have := hx.pp.arr_wt j k b; revert this; split <;> omega⟩, rfl, rfl⟩
theorem byteOf {L : List Int} (hL : inBytes L) {i : Int} (h0 : 0 ≤ i) (hi : i < L.length) : 0 ≤ L.getD i.toNat 0 ∧ L.getD i.toNat 0 ≤ 255 := by
  have h : L.getD i.toNat 0 ∈ L := by
    rw [List.getD_eq_getElem?_getD, List.getElem?_eq_getElem (by omega)]
    exact List.getElem_mem _
  have := hL _ h
  omega
theorem pcal_N (S : Pr) (t : Int) (n : Nat) (h : t.toNat = n) : (pcalF S t).2 = calN n S := by rw [← h]; rfl
theorem LCr.fin {L : List Int} {w i : Int} {S : Pr} (hi : i ≤ 40) (hx : Xp (1 + w % 16) (1 + w / 16 % 16) S) (hg : GoodP S (4 + i.toNat) 0) (hw : WT S ≤ 4 + i.toNat) : ((pcalC (pwF (pwF S 0 [7]).2 1 [8]).2 12).2.e0.st = 2 ∧ (pcalC (pwF (pwF S 0 [7]).2 1 [8]).2 12).2.e1.st = 2) ∧ (pcalC (pwF (pwF S 0 [7]).2 1 [8]).2 12).2.r0 = [8] ∧ (pcalC (pwF (pwF S 0 [7]).2 1 [8]).2 12).2.r1 = [7] := by
  obtain ⟨h1, h2, h3, h4⟩ := crs_fin hx hg (by omega) (by omega)
  rw [← pcal_N _ 12 12 rfl, ← pcalC_eq] at h1 h2 h3 h4
  exact ⟨⟨h1, h2⟩, h3, h4⟩
def crwF (_ : Int) (_ : List Int) : Tup [DT.cell .bool] := (true, ())
def crwSpec : PureSpec := ⟨[.cell (.int .u8), .lst (.int .u8)], fun (x : Int × (List Int) × Unit) => (0 ≤ x.1 ∧ x.1 ≤ 255) ∧ inBytes x.2.1 ∧ x.2.1.length ≤ maxLen, [.cell .bool], fun (x : Int × (List Int) × Unit) => crwF x.1 x.2.1⟩
theorem crw_ok (w : Int) (L : List Int) (h : crwSpec.pre (w, L, ())) : TmplOk Try.prog AI 3 (argS crwSpec.ds (fun _ => (w, L, ()))) [] (resOf (svs crwSpec.rs (fun _ => crwSpec.f (w, L, ())))) [] := by
  dsimp only [crwSpec] at h ⊢
  generalize hr : crwF w L = r
  obtain ⟨hw, hL, hL0⟩ := h
  dsimp only [crwF] at hr
  refine tmpl_of_body ecrOk mixed (fn := Try.f3) (c := bodyOf Try.f3) (by kernel_rfl) (by kernel_rfl) (by kernel_rfl) (Nat.le_of_ble_eq_true (by kernel_rfl)) ?_
  (try (conv in (LoopInv.inv _ _) => dsimp only)); (try (conv in (SS.mk _ _) => cbv; (try dsimp only [conSpec, estSpec, estF, ptickSpec, parSpec, pwrSpec, pcal2Spec, Ty.T, Ty.dflt, KT.T]); (try simp only [natCast_eq])))
  (with_reducible refine (?_ : T1 _ ?_) ?_; rotate_left 1; (conv => lhs; cbv; (try cbv); (try cbv)); intro hT; clear hT; with_reducible refine Sh.mk (by kernel_rfl) ?_)
  repeat' (first
    | with_reducible (first | refine Ck.mk (C := tt) tt_intro ?_ | refine Ck.mk (show drawOk _ _ = true by kernel_rfl) ?_ | refine Ck.all_cons ?_ | refine Ck.all_nil ?_ | refine Ck.mk (by assumption) ?_ | refine Ck.mk (decide_eq_true (by assumption)) ?_ | refine Ck.mk (decide_eq_false (by assumption)) ?_ | refine Ck.mk ?_ ?_)
    | (with_reducible (first | refine Both.mk (fun h => ?_) (fun h => ?_) | refine Alt.mk (fun h => ?_) (fun h => ?_) | refine Pick.mk (fun h => ?_) (fun l1 x l2 h => ?_)) <;> (have hk := h) <;> (try simp only [nrm, reduceCtorEq, pair_eta, map_idL] at h) <;> (try dsimp only [conSpec, estSpec, estF, ptickSpec, parSpec, pwrSpec, pcal2Spec, Ty.T, Ty.dflt, KT.T, getM, putM, delM] at h) <;> (try simp only [natCast_eq] at h) <;> (try (exfalso; first | exact absurd rfl h | exact absurd fs0 h | exact absurd fs1 h)) <;> (try first | rw [if_pos h] at hr | rw [if_neg h] at hr | rw [ifF h] at hr | rw [ifN h] at hr) <;> (try (have hb : (_ : Bool) = _ := h; clear h; subst hb; (try first | rw [if_pos rfl] at hr | rw [if_neg Bool.false_ne_true] at hr))) <;> first | (exfalso; omega) | exact absurd (h.symm.trans (by assumption) : true = false) Bool.noConfusion | exact absurd (h.symm.trans (by assumption) : false = true) Bool.noConfusion | (with_reducible refine (?_ : T1 _ ?_) ?_; rotate_left 1; (conv => lhs; cbv; (try cbv); (try cbv)); intro hT; clear hT; with_reducible refine Sh.mk (by kernel_rfl) ?_))
    | ((with_reducible refine End.mk ?_); (try ((repeat (first | rw [if_pos (by first | assumption | omega)] at hr | rw [if_neg (by first | assumption | omega | (simp only [Bool.false_eq_true, Bool.true_eq_false, reduceCtorEq, not_false_eq_true]; done) | (simp only [Bool.not_eq_true]; assumption) | (simp only [Bool.not_eq_false]; assumption))] at hr | rw [if_pos rfl] at hr)); subst hr)))
    | with_reducible exact True.intro)
  all_goals first
    | (fail_if_success (with_reducible refine Exists.intro ?_ ?_)
       first
         | with_reducible rfl
         | with_reducible assumption
         | (symm; with_reducible assumption)
         | omega
         | ((try dsimp only [conSpec, estSpec, estF, ptickSpec, parSpec, pwrSpec, pcal2Spec, Ty.T, Ty.dflt, KT.T, getM, putM, delM, inI64, maxRow]); first | done | with_reducible rfl | with_reducible assumption | (symm; with_reducible assumption) | ((try simp only [natCast_eq, List.nil_append]); first | done | with_reducible rfl | omega | exact take_cg (by omega) | exact drop_cg (by omega) | exact take_drop_cg (by omega) (by omega) | exact take_all (by omega) | exact take_drop_all (by omega) (by omega) | exact drop_take_cg (by omega) (by omega) (by omega)))
         | first | exact (conP_good w 3).preT (by decide) 1 | exact ⟨hw, by decide, by decide⟩
         | ((try dsimp only [conSpec, estSpec, estF, ptickSpec, parSpec, pwrSpec, pcal2Spec, Ty.T, Ty.dflt, KT.T, getM, putM, delM, inI64, maxRow]); first | (simp only [nrm, reduceCtorEq, pair_eta, map_idL, natCast_eq, inI64, maxRow]; first | done | with_reducible assumption | omega) | exact map_pair_id _)
         | ((try dsimp only [conSpec, estSpec, estF, ptickSpec, parSpec, pwrSpec, pcal2Spec, Ty.T, Ty.dflt, KT.T, getM, putM, delM, inI64, maxRow] at *); first | ((try simp only [natCast_eq] at *) <;> omega) | ((try simp only [lens, natCast_eq] at *) <;> omega))
         | assumption
         | (symm; assumption)
         | (dsimp only; simp only [nrb, *]; done)
         | (simp; done)
         | (and_intros <;> first | trivial | with_reducible assumption | omega)
         | ((try dsimp only [conSpec, estSpec, estF, ptickSpec, parSpec, pwrSpec, pcal2Spec, Ty.T, Ty.dflt, KT.T, getM, putM, delM, inI64, maxRow] at *) <;> simp [*] <;> done))
    | skip
  obtain ⟨x0, hx0, hx1⟩ : ∃ x : LCr L w, x.i = 0 ∧ x.S = (ptickF (conP w 3) 1).2 := ⟨⟨0, crP w, Int.le_refl _, by omega, crP_x w, (conP_good w 3).tick 1, crP_wt w⟩, rfl, rfl⟩
  refine ⟨⟨LCr L w, fun x => ⟨[(5, Sx.one (.ptr 0 0)), (19, Sx.one (.ro (.int .u8) (fun _ => L))), (20, Sx.one (.int .i64 (fun _ => (L.length : Int)))), (21, Sx.one (.int .i64 (fun _ => x.i)))], parC (fun _ => x.S)⟩, fun x => (L.length - x.i).toNat, x0⟩, ?_, fun (x : LCr L w) => ?_⟩
  · (try (conv in (LoopInv.inv _ _) => dsimp only)); (try (conv in (SS.mk _ _) => cbv; (try dsimp only [conSpec, estSpec, estF, ptickSpec, parSpec, pwrSpec, pcal2Spec, Ty.T, Ty.dflt, KT.T]); (try simp only [natCast_eq])))
    (with_reducible refine (?_ : T1 _ ?_) ?_; rotate_left 1; (conv => lhs; cbv; (try cbv); (try cbv)); intro hT; clear hT; with_reducible refine Sh.mk (by kernel_rfl) ?_)
    repeat' (first
      | with_reducible (first | refine Ck.mk (C := tt) tt_intro ?_ | refine Ck.mk (show drawOk _ _ = true by kernel_rfl) ?_ | refine Ck.all_cons ?_ | refine Ck.all_nil ?_ | refine Ck.mk (by assumption) ?_ | refine Ck.mk (decide_eq_true (by assumption)) ?_ | refine Ck.mk (decide_eq_false (by assumption)) ?_ | refine Ck.mk ?_ ?_)
      | (with_reducible (first | refine Both.mk (fun h => ?_) (fun h => ?_) | refine Alt.mk (fun h => ?_) (fun h => ?_) | refine Pick.mk (fun h => ?_) (fun l1 x l2 h => ?_)) <;> (have hk := h) <;> (try simp only [nrm, reduceCtorEq, pair_eta, map_idL] at h) <;> (try dsimp only [conSpec, estSpec, estF, ptickSpec, parSpec, pwrSpec, pcal2Spec, Ty.T, Ty.dflt, KT.T, getM, putM, delM] at h) <;> (try simp only [natCast_eq] at h) <;> (try (exfalso; first | exact absurd rfl h | exact absurd fs0 h | exact absurd fs1 h)) <;> (try first | rw [if_pos h] at hr | rw [if_neg h] at hr | rw [ifF h] at hr | rw [ifN h] at hr) <;> (try (have hb : (_ : Bool) = _ := h; clear h; subst hb; (try first | rw [if_pos rfl] at hr | rw [if_neg Bool.false_ne_true] at hr))) <;> first | (exfalso; omega) | exact absurd (h.symm.trans (by assumption) : true = false) Bool.noConfusion | exact absurd (h.symm.trans (by assumption) : false = true) Bool.noConfusion | (with_reducible refine (?_ : T1 _ ?_) ?_; rotate_left 1; (conv => lhs; cbv; (try cbv); (try cbv)); intro hT; clear hT; with_reducible refine Sh.mk (by kernel_rfl) ?_))
      | ((with_reducible refine End.mk ?_); skip)
      | with_reducible exact True.intro)
    all_goals first
      | (fail_if_success (with_reducible refine Exists.intro ?_ ?_)
         first
           | with_reducible rfl
           | with_reducible assumption
           | (symm; with_reducible assumption)
           | omega
           | ((try dsimp only [conSpec, estSpec, estF, ptickSpec, parSpec, pwrSpec, pcal2Spec, Ty.T, Ty.dflt, KT.T, getM, putM, delM, inI64, maxRow]); first | done | with_reducible rfl | with_reducible assumption | (symm; with_reducible assumption) | ((try simp only [natCast_eq, List.nil_append]); first | done | with_reducible rfl | omega | exact take_cg (by omega) | exact drop_cg (by omega) | exact take_drop_cg (by omega) (by omega) | exact take_all (by omega) | exact take_drop_all (by omega) (by omega) | exact drop_take_cg (by omega) (by omega) (by omega)))
           | first | exact hx0.symm | ((try dsimp only); (try simp only [pair_eta, map_idL]); rw [hx1]; done)
           | ((try dsimp only [conSpec, estSpec, estF, ptickSpec, parSpec, pwrSpec, pcal2Spec, Ty.T, Ty.dflt, KT.T, getM, putM, delM, inI64, maxRow]); first | (simp only [nrm, reduceCtorEq, pair_eta, map_idL, natCast_eq, inI64, maxRow]; first | done | with_reducible assumption | omega) | exact map_pair_id _)
           | ((try dsimp only [conSpec, estSpec, estF, ptickSpec, parSpec, pwrSpec, pcal2Spec, Ty.T, Ty.dflt, KT.T, getM, putM, delM, inI64, maxRow] at *); first | ((try simp only [natCast_eq] at *) <;> omega) | ((try simp only [lens, natCast_eq] at *) <;> omega))
           | assumption
           | (symm; assumption)
           | (dsimp only; simp only [nrb, *]; done)
           | (simp; done)
           | (and_intros <;> first | trivial | with_reducible assumption | omega)
           | ((try dsimp only [conSpec, estSpec, estF, ptickSpec, parSpec, pwrSpec, pcal2Spec, Ty.T, Ty.dflt, KT.T, getM, putM, delM, inI64, maxRow] at *) <;> simp [*] <;> done))
      | skip
  obtain ⟨i, S, hlo, hhi, hxp, hgd, hwt⟩ := x
  by_cases hin : i < L.length
  · have hb := byteOf hL hlo hin
    have ha := andI_of hb.1 hb.2
    have hi : andI (L.getD i.toNat 0) 1 = 0 ∨ andI (L.getD i.toNat 0) 1 = 1 := by omega
    have e2 : L.getD i.toNat 0 / 2 ^ (2 : Int).toNat = L.getD i.toNat 0 / 4 := rfl
    (try (conv in (LoopInv.inv _ _) => dsimp only)); (try (conv in (SS.mk _ _) => cbv; (try dsimp only [conSpec, estSpec, estF, ptickSpec, parSpec, pwrSpec, pcal2Spec, Ty.T, Ty.dflt, KT.T]); (try simp only [natCast_eq])))
    (with_reducible refine (?_ : T1 _ ?_) ?_; rotate_left 1; (conv => lhs; cbv; (try cbv); (try cbv)); intro hT; clear hT; with_reducible refine Sh.mk (by kernel_rfl) ?_)
    repeat' (first
      | with_reducible (first | refine Ck.mk (C := tt) tt_intro ?_ | refine Ck.mk (show drawOk _ _ = true by kernel_rfl) ?_ | refine Ck.all_cons ?_ | refine Ck.all_nil ?_ | refine Ck.mk (by assumption) ?_ | refine Ck.mk (decide_eq_true (by assumption)) ?_ | refine Ck.mk (decide_eq_false (by assumption)) ?_ | refine Ck.mk ?_ ?_)
      | (with_reducible (first | refine Both.mk (fun h => ?_) (fun h => ?_) | refine Alt.mk (fun h => ?_) (fun h => ?_) | refine Pick.mk (fun h => ?_) (fun l1 x l2 h => ?_)) <;> (have hk := h) <;> (try simp only [nrm, reduceCtorEq, pair_eta, map_idL] at h) <;> (try dsimp only [conSpec, estSpec, estF, ptickSpec, parSpec, pwrSpec, pcal2Spec, Ty.T, Ty.dflt, KT.T, getM, putM, delM] at h) <;> (try simp only [natCast_eq] at h) <;> (try (exfalso; first | exact absurd rfl h | exact absurd fs0 h | exact absurd fs1 h)) <;> (try first | rw [if_pos h] at hr | rw [if_neg h] at hr | rw [ifF h] at hr | rw [ifN h] at hr) <;> (try (have hb : (_ : Bool) = _ := h; clear h; subst hb; (try first | rw [if_pos rfl] at hr | rw [if_neg Bool.false_ne_true] at hr))) <;> first | (exfalso; omega) | exact absurd (h.symm.trans (by assumption) : true = false) Bool.noConfusion | exact absurd (h.symm.trans (by assumption) : false = true) Bool.noConfusion | (with_reducible refine (?_ : T1 _ ?_) ?_; rotate_left 1; (conv => lhs; cbv; (try cbv); (try cbv)); intro hT; clear hT; with_reducible refine Sh.mk (by kernel_rfl) ?_))
      | ((with_reducible refine End.mk ?_); skip)
      | with_reducible exact True.intro)
    all_goals first
      | (fail_if_success (with_reducible refine Exists.intro ?_ ?_)
         first
           | with_reducible rfl
           | with_reducible assumption
           | (symm; with_reducible assumption)
           | omega
           | ((try dsimp only [conSpec, estSpec, estF, ptickSpec, parSpec, pwrSpec, pcal2Spec, Ty.T, Ty.dflt, KT.T, getM, putM, delM, inI64, maxRow]); first | done | with_reducible rfl | with_reducible assumption | (symm; with_reducible assumption) | ((try simp only [natCast_eq, List.nil_append]); first | done | with_reducible rfl | omega | exact take_cg (by omega) | exact drop_cg (by omega) | exact take_drop_cg (by omega) (by omega) | exact take_all (by omega) | exact take_drop_all (by omega) (by omega) | exact drop_take_cg (by omega) (by omega) (by omega)))
           | first | exact hgd.preA (i := andI (L.getD i.toNat 0) 1) (a := L.getD i.toNat 0 / 2 ^ (2 : Int).toNat) (by omega) hi (by rw [e2]; omega) _
           | ((try dsimp only [conSpec, estSpec, estF, ptickSpec, parSpec, pwrSpec, pcal2Spec, Ty.T, Ty.dflt, KT.T, getM, putM, delM, inI64, maxRow]); first | (simp only [nrm, reduceCtorEq, pair_eta, map_idL, natCast_eq, inI64, maxRow]; first | done | with_reducible assumption | omega) | exact map_pair_id _)
           | ((try dsimp only [conSpec, estSpec, estF, ptickSpec, parSpec, pwrSpec, pcal2Spec, Ty.T, Ty.dflt, KT.T, getM, putM, delM, inI64, maxRow] at *); first | ((try simp only [natCast_eq] at *) <;> omega) | ((try simp only [lens, natCast_eq] at *) <;> omega))
           | assumption
           | (symm; assumption)
           | (dsimp only; simp only [nrb, *]; done)
           | (simp; done)
           | (and_intros <;> first | trivial | with_reducible assumption | omega)
           | ((try dsimp only [conSpec, estSpec, estF, ptickSpec, parSpec, pwrSpec, pcal2Spec, Ty.T, Ty.dflt, KT.T, getM, putM, delM, inI64, maxRow] at *) <;> simp [*] <;> done))
      | skip
    all_goals
      (refine Exists.elim (LCr.next hlo hin hxp hgd hwt (andI (L.getD i.toNat 0) 1) (L.getD i.toNat 0 / 2 ^ (2 : Int).toNat) (!decide (andI (L.getD i.toNat 0) 2 = 0))) ?_
       rintro y ⟨hy0, hy1⟩
       refine ⟨y, by (try dsimp only); (try simp only [natCast_eq]); omega, ?_⟩
       (try (conv in (LoopInv.inv _ _) => dsimp only)); (try (conv in (SS.mk _ _) => cbv; (try dsimp only [conSpec, estSpec, estF, ptickSpec, parSpec, pwrSpec, pcal2Spec, Ty.T, Ty.dflt, KT.T]); (try simp only [natCast_eq])))
       (with_reducible refine (?_ : T1 _ ?_) ?_; rotate_left 1; (conv => lhs; cbv; (try cbv); (try cbv)); intro hT; clear hT; with_reducible refine Sh.mk (by kernel_rfl) ?_)
       repeat' (first
         | with_reducible (first | refine Ck.mk (C := tt) tt_intro ?_ | refine Ck.mk (show drawOk _ _ = true by kernel_rfl) ?_ | refine Ck.all_cons ?_ | refine Ck.all_nil ?_ | refine Ck.mk (by assumption) ?_ | refine Ck.mk (decide_eq_true (by assumption)) ?_ | refine Ck.mk (decide_eq_false (by assumption)) ?_ | refine Ck.mk ?_ ?_)
         | (with_reducible (first | refine Both.mk (fun h => ?_) (fun h => ?_) | refine Alt.mk (fun h => ?_) (fun h => ?_) | refine Pick.mk (fun h => ?_) (fun l1 x l2 h => ?_)) <;> (have hk := h) <;> (try simp only [nrm, reduceCtorEq, pair_eta, map_idL] at h) <;> (try dsimp only [conSpec, estSpec, estF, ptickSpec, parSpec, pwrSpec, pcal2Spec, Ty.T, Ty.dflt, KT.T, getM, putM, delM] at h) <;> (try simp only [natCast_eq] at h) <;> (try (exfalso; first | exact absurd rfl h | exact absurd fs0 h | exact absurd fs1 h)) <;> (try first | rw [if_pos h] at hr | rw [if_neg h] at hr | rw [ifF h] at hr | rw [ifN h] at hr) <;> (try (have hb : (_ : Bool) = _ := h; clear h; subst hb; (try first | rw [if_pos rfl] at hr | rw [if_neg Bool.false_ne_true] at hr))) <;> first | (exfalso; omega) | exact absurd (h.symm.trans (by assumption) : true = false) Bool.noConfusion | exact absurd (h.symm.trans (by assumption) : false = true) Bool.noConfusion | (with_reducible refine (?_ : T1 _ ?_) ?_; rotate_left 1; (conv => lhs; cbv; (try cbv); (try cbv)); intro hT; clear hT; with_reducible refine Sh.mk (by kernel_rfl) ?_))
         | ((with_reducible refine End.mk ?_); skip)
         | with_reducible exact True.intro)
       all_goals first
         | (fail_if_success (with_reducible refine Exists.intro ?_ ?_)
            first
              | with_reducible rfl
              | with_reducible assumption
              | (symm; with_reducible assumption)
              | omega
              | ((try dsimp only [conSpec, estSpec, estF, ptickSpec, parSpec, pwrSpec, pcal2Spec, Ty.T, Ty.dflt, KT.T, getM, putM, delM, inI64, maxRow]); first | done | with_reducible rfl | with_reducible assumption | (symm; with_reducible assumption) | ((try simp only [natCast_eq, List.nil_append]); first | done | with_reducible rfl | omega | exact take_cg (by omega) | exact drop_cg (by omega) | exact take_drop_cg (by omega) (by omega) | exact take_all (by omega) | exact take_drop_all (by omega) (by omega) | exact drop_take_cg (by omega) (by omega) (by omega)))
              | first | exact hy0.symm | ((try dsimp only); (try simp only [pair_eta, map_idL]); rw [hy1]; done)
              | ((try dsimp only [conSpec, estSpec, estF, ptickSpec, parSpec, pwrSpec, pcal2Spec, Ty.T, Ty.dflt, KT.T, getM, putM, delM, inI64, maxRow]); first | (simp only [nrm, reduceCtorEq, pair_eta, map_idL, natCast_eq, inI64, maxRow]; first | done | with_reducible assumption | omega) | exact map_pair_id _)
              | ((try dsimp only [conSpec, estSpec, estF, ptickSpec, parSpec, pwrSpec, pcal2Spec, Ty.T, Ty.dflt, KT.T, getM, putM, delM, inI64, maxRow] at *); first | ((try simp only [natCast_eq] at *) <;> omega) | ((try simp only [lens, natCast_eq] at *) <;> omega))
              | assumption
              | (symm; assumption)
              | (dsimp only; simp only [nrb, *]; done)
              | (simp; done)
              | (and_intros <;> first | trivial | with_reducible assumption | omega)
              | ((try dsimp only [conSpec, estSpec, estF, ptickSpec, parSpec, pwrSpec, pcal2Spec, Ty.T, Ty.dflt, KT.T, getM, putM, delM, inI64, maxRow] at *) <;> simp [*] <;> done))
         | skip
       skip)
  · have b7 : inBytes [7] := fun x hx => by simp at hx; omega
    have b8 : inBytes [8] := fun x hx => by simp at hx; omega
    have hg1 := (hgd.wr 0 b7).1
    have hg2 := (hg1.wr 1 b8).1
    obtain ⟨⟨fs0, fs1⟩, fr0, fr1⟩ := LCr.fin (L := L) (by omega) hxp hgd hwt
    (try (conv in (LoopInv.inv _ _) => dsimp only)); (try (conv in (SS.mk _ _) => cbv; (try dsimp only [conSpec, estSpec, estF, ptickSpec, parSpec, pwrSpec, pcal2Spec, Ty.T, Ty.dflt, KT.T]); (try simp only [natCast_eq])))
    (with_reducible refine (?_ : T1 _ ?_) ?_; rotate_left 1; (conv => lhs; cbv; (try cbv); (try cbv)); intro hT; clear hT; with_reducible refine Sh.mk (by kernel_rfl) ?_)
    repeat' (first
      | with_reducible (first | refine Ck.mk (C := tt) tt_intro ?_ | refine Ck.mk (show drawOk _ _ = true by kernel_rfl) ?_ | refine Ck.all_cons ?_ | refine Ck.all_nil ?_ | refine Ck.mk (by assumption) ?_ | refine Ck.mk (decide_eq_true (by assumption)) ?_ | refine Ck.mk (decide_eq_false (by assumption)) ?_ | refine Ck.mk ?_ ?_)
      | (with_reducible (first | refine Both.mk (fun h => ?_) (fun h => ?_) | refine Alt.mk (fun h => ?_) (fun h => ?_) | refine Pick.mk (fun h => ?_) (fun l1 x l2 h => ?_)) <;> (have hk := h) <;> (try simp only [nrm, reduceCtorEq, pair_eta, map_idL] at h) <;> (try dsimp only [conSpec, estSpec, estF, ptickSpec, parSpec, pwrSpec, pcal2Spec, Ty.T, Ty.dflt, KT.T, getM, putM, delM] at h) <;> (try simp only [natCast_eq] at h) <;> (try (exfalso; first | exact absurd rfl h | exact absurd fs0 h | exact absurd fs1 h)) <;> (try first | rw [if_pos h] at hr | rw [if_neg h] at hr | rw [ifF h] at hr | rw [ifN h] at hr) <;> (try (have hb : (_ : Bool) = _ := h; clear h; subst hb; (try first | rw [if_pos rfl] at hr | rw [if_neg Bool.false_ne_true] at hr))) <;> first | (exfalso; omega) | exact absurd (h.symm.trans (by assumption) : true = false) Bool.noConfusion | exact absurd (h.symm.trans (by assumption) : false = true) Bool.noConfusion | (with_reducible refine (?_ : T1 _ ?_) ?_; rotate_left 1; (conv => lhs; cbv; (try cbv); (try cbv)); intro hT; clear hT; with_reducible refine Sh.mk (by kernel_rfl) ?_))
      | ((with_reducible refine End.mk ?_); (try ((repeat (first | rw [if_pos (by first | assumption | omega)] at hr | rw [if_neg (by first | assumption | omega | (simp only [Bool.false_eq_true, Bool.true_eq_false, reduceCtorEq, not_false_eq_true]; done) | (simp only [Bool.not_eq_true]; assumption) | (simp only [Bool.not_eq_false]; assumption))] at hr | rw [if_pos rfl] at hr)); subst hr)))
      | with_reducible exact True.intro)
    all_goals first
      | (fail_if_success (with_reducible refine Exists.intro ?_ ?_)
         first
           | with_reducible rfl
           | with_reducible assumption
           | (symm; with_reducible assumption)
           | omega
           | ((try dsimp only [conSpec, estSpec, estF, ptickSpec, parSpec, pwrSpec, pcal2Spec, Ty.T, Ty.dflt, KT.T, getM, putM, delM, inI64, maxRow]); first | done | with_reducible rfl | with_reducible assumption | (symm; with_reducible assumption) | ((try simp only [natCast_eq, List.nil_append]); first | done | with_reducible rfl | omega | exact take_cg (by omega) | exact drop_cg (by omega) | exact take_drop_cg (by omega) (by omega) | exact take_all (by omega) | exact take_drop_all (by omega) (by omega) | exact drop_take_cg (by omega) (by omega) (by omega)))
           | first | (show (1 : Nat) * 1 ≤ 16777216; decide) | exact hgd.preW (i := 0) (l := [7]) (.inl rfl) (Nat.le_of_ble_eq_true rfl) | exact hg1.preW (i := 1) (l := [8]) (.inr rfl) (Nat.le_of_ble_eq_true rfl) | exact ⟨hg2.mono (by omega) (by omega), by decide, by decide⟩ | ((try dsimp only); (try simp only [pair_eta, map_idL]); first | (rw [fr0]; exact ⟨b8, b8⟩) | (rw [fr1]; exact ⟨b7, b7⟩) | (rw [fr0]; exact b8) | (rw [fr1]; exact b7))
           | ((try dsimp only [conSpec, estSpec, estF, ptickSpec, parSpec, pwrSpec, pcal2Spec, Ty.T, Ty.dflt, KT.T, getM, putM, delM, inI64, maxRow]); first | (simp only [nrm, reduceCtorEq, pair_eta, map_idL, natCast_eq, inI64, maxRow]; first | done | with_reducible assumption | omega) | exact map_pair_id _)
           | ((try dsimp only [conSpec, estSpec, estF, ptickSpec, parSpec, pwrSpec, pcal2Spec, Ty.T, Ty.dflt, KT.T, getM, putM, delM, inI64, maxRow] at *); first | ((try simp only [natCast_eq] at *) <;> omega) | ((try simp only [lens, natCast_eq] at *) <;> omega))
           | assumption
           | (symm; assumption)
           | (dsimp only; simp only [nrb, *]; done)
           | (simp; done)
           | (and_intros <;> first | trivial | with_reducible assumption | omega)
           | ((try dsimp only [conSpec, estSpec, estF, ptickSpec, parSpec, pwrSpec, pcal2Spec, Ty.T, Ty.dflt, KT.T, getM, putM, delM, inI64, maxRow] at *) <;> simp [*] <;> done))
      | skip
    all_goals skip
theorem crw_sound : ConSound Try.prog AI 3 crwSpec.con := PureSpec.sound Try.call3 (fun x h => crw_ok x.1 x.2.1 h)
end Go.Proofs.Ytldabjgegpmmiaa
