/-
  Layer 48: do (an act is performed).
-/
import Derived.Test.YtgdiepbjdpmfbaaMsz
import Derived.Test.YtgdiepbjdpmfbaaAwk
import Derived.Test.YtgdiepbjdpmfbaaEng3
namespace Go.Proofs.Ytgdiepbjdpmfbaa
set_option linter.all false
set_option linter.unusedVariables false
set_option linter.unusedSimpArgs false
set_option linter.unusedSectionVars false
open Go.RowKit Go.Sx
set_option maxRecDepth 100000
set_option maxHeartbeats 16000000

abbrev actE : Ty := .pair (.int .i64) (.pair (.int .i64) (.pair (.int .i64) segE))
abbrev TA := Int × Int × Int × Seg
def doN (M : Mov) (x : TA) : Mov :=
  if x.1 = 0 then (rcvM M x.2.1 x.2.2.2).2
  else if x.1 = 1 then (startM M).2
  else if x.1 = 2 then (handM M).2
  else if x.1 = 3 then (finM M).2
  else (readM M x.2.2.1).2
def doM (M : Mov) (x : TA) : Unit × Mov := ((), doN M x)
theorem sz_do {M : Mov} {w n : Int} {x : TA} (h : SzM M w n) (hn : n + w ≤ 1000000) (hb : inBytes x.2.2.2.2.1) (hl : x.2.2.2.2.1.length ≤ 1048576) : SzM (doN M x) w (n + w) := by
  have hw := h.w1
  unfold doN
  split
  · exact (sz_rcv h hb hl).mono (by omega) hn
  · split
    · exact (sz_start h).mono (by omega) hn
    · split
      · exact (sz_hand h).mono (by omega) hn
      · split
        · exact (sz_fin h).mono (by omega) hn
        · exact sz_read h hn _
noncomputable abbrev Ed : Env Ab := ⟨tis, [(20, mfinSpec.con), (17, mhandSpec.con), (16, mstartSpec.con), (15, mreadSpec.con), (13, mrcvSpec.con)] ++ E0.con⟩
theorem edOk : EnvOk Try.prog AI Ed := (((((e0Ok.add mrcv_sound).add mread_sound).add mstart_sound).add mhand_sound).add mfin_sound)
def mdoSpec : MethSpec Ab := ⟨Mov, selM, .mov, false, [.cell actE], fun S (x : TA × Unit) => (∃ w n, SzM S w n) ∧ x.1.2.2.2.2.1.length ≤ 1048576, [], fun S (x : TA × Unit) => (doM S x.1).1, fun S (x : TA × Unit) => (doM S x.1).2⟩
theorem mdo_ok (S : Mov) (x : TA) (h : mdoSpec.pre S (x, ())) : TmplOk Try.prog AI 24 (Sx.one (.ptr 0 0) :: argS mdoSpec.ds (fun _ => (x, ()))) [.abs (mdoSpec.put (fun _ => S))] (resOf (svs mdoSpec.rs (fun _ => mdoSpec.f S (x, ())))) [.abs (mdoSpec.put (fun _ => mdoSpec.next S (x, ())))] := by
  dsimp only [mdoSpec] at h ⊢
  generalize hr : doM S x = r
  obtain ⟨⟨w, n, hM⟩, hl⟩ := h
  dsimp only [doM, doN] at hr
  refine tmpl_of_body edOk mixed (fn := Try.f24) (c := bodyOf Try.f24) (by kernel_rfl) (by kernel_rfl) (by kernel_rfl) (Nat.le_of_ble_eq_true (by kernel_rfl)) ?_
  (try (conv in (LoopInv.inv _ _) => dsimp only)); (try (conv in (SS.mk _ _) => cbv; (try dsimp only [mrcvSpec, mreadSpec, mstartSpec, mhandSpec, mfinSpec, Ty.T, Ty.dflt, KT.T]); (try simp only [natCast_eq])))
  (refine (?_ : T1 _ ?_) ?_; rotate_left 1; (conv => lhs; cbv; (try cbv); (try cbv)); intro hT; clear hT; refine Sh.mk (by kernel_rfl) ?_)
  repeat' (first
    | with_reducible refine Ck.mk (C := tt) tt_intro ?_
    | with_reducible refine Ck.mk (show drawOk _ _ = true by kernel_rfl) ?_
    | with_reducible refine Ck.all_cons ?_
    | with_reducible refine Ck.all_nil ?_
    | with_reducible refine Ck.mk (by assumption) ?_
    | with_reducible refine Ck.mk (decide_eq_true (by assumption)) ?_
    | with_reducible refine Ck.mk (decide_eq_false (by assumption)) ?_
    | with_reducible refine Ck.mk ?_ ?_
    | (with_reducible refine Both.mk (fun h => ?_) (fun h => ?_) <;> (have hk := h) <;> (try simp only [decide_eq_true_eq, decide_eq_false_iff_not, Bool.not_eq_true', Bool.not_eq_false', Bool.not_eq_true, Bool.not_eq_false, Bool.not_true, Bool.not_false, ne_eq, Bool.false_eq_true, Bool.true_eq_false, reduceCtorEq, beq_iff_eq, beq_eq_false_iff_ne, not_true_eq_false, not_false_eq_true, pair_eta, map_idL] at h) <;> (try dsimp only [mrcvSpec, mreadSpec, mstartSpec, mhandSpec, mfinSpec, Ty.T, Ty.dflt, KT.T, getM, putM, delM] at h) <;> (try simp only [natCast_eq] at h) <;> skip <;> (try first | rw [if_pos h] at hr | rw [if_neg h] at hr | rw [ifF h] at hr | rw [ifN h] at hr) <;> (try (have hb : (_ : Bool) = _ := h; clear h; subst hb; (try first | rw [if_pos rfl] at hr | rw [if_neg Bool.false_ne_true] at hr))) <;> first | (exfalso; omega) | exact absurd (h.symm.trans (by assumption) : true = false) Bool.noConfusion | exact absurd (h.symm.trans (by assumption) : false = true) Bool.noConfusion | (refine (?_ : T1 _ ?_) ?_; rotate_left 1; (conv => lhs; cbv; (try cbv); (try cbv)); intro hT; clear hT; refine Sh.mk (by kernel_rfl) ?_))
    | (with_reducible refine Alt.mk (fun h => ?_) (fun h => ?_) <;> (have hk := h) <;> (try simp only [decide_eq_true_eq, decide_eq_false_iff_not, Bool.not_eq_true', Bool.not_eq_false', Bool.not_eq_true, Bool.not_eq_false, Bool.not_true, Bool.not_false, ne_eq, Bool.false_eq_true, Bool.true_eq_false, reduceCtorEq, beq_iff_eq, beq_eq_false_iff_ne, not_true_eq_false, not_false_eq_true, pair_eta, map_idL] at h) <;> (try dsimp only [mrcvSpec, mreadSpec, mstartSpec, mhandSpec, mfinSpec, Ty.T, Ty.dflt, KT.T, getM, putM, delM] at h) <;> (try simp only [natCast_eq] at h) <;> skip <;> (try first | rw [if_pos h] at hr | rw [if_neg h] at hr | rw [ifF h] at hr | rw [ifN h] at hr) <;> (try (have hb : (_ : Bool) = _ := h; clear h; subst hb; (try first | rw [if_pos rfl] at hr | rw [if_neg Bool.false_ne_true] at hr))) <;> first | (exfalso; omega) | exact absurd (h.symm.trans (by assumption) : true = false) Bool.noConfusion | exact absurd (h.symm.trans (by assumption) : false = true) Bool.noConfusion | (refine (?_ : T1 _ ?_) ?_; rotate_left 1; (conv => lhs; cbv; (try cbv); (try cbv)); intro hT; clear hT; refine Sh.mk (by kernel_rfl) ?_))
    | (with_reducible refine Pick.mk (fun h => ?_) (fun l1 x l2 h => ?_) <;> (refine (?_ : T1 _ ?_) ?_; rotate_left 1; (conv => lhs; cbv; (try cbv); (try cbv)); intro hT; clear hT; refine Sh.mk (by kernel_rfl) ?_))
    | ((with_reducible refine End.mk ?_); (try ((repeat (first | rw [if_pos (by first | assumption | omega)] at hr | rw [if_neg (by first | assumption | omega | (simp only [Bool.false_eq_true, Bool.true_eq_false, reduceCtorEq, not_false_eq_true]; done) | (simp only [Bool.not_eq_true]; assumption) | (simp only [Bool.not_eq_false]; assumption))] at hr | rw [if_pos rfl] at hr)); subst hr)))
    | with_reducible exact True.intro)
  all_goals first
    | (fail_if_success (with_reducible refine Exists.intro ?_ ?_)
       first
         | with_reducible rfl
         | with_reducible assumption
         | (dsimp only [mrcvSpec, mreadSpec, mstartSpec, mhandSpec, mfinSpec, Ty.T, Ty.dflt, KT.T, getM, putM, delM, inI64, maxRow]; done)
         | (symm; with_reducible assumption)
         | (dsimp only [mrcvSpec, mreadSpec, mstartSpec, mhandSpec, mfinSpec, Ty.T, Ty.dflt, KT.T, getM, putM, delM, inI64, maxRow]; first | with_reducible rfl | with_reducible assumption | (symm; with_reducible assumption) | (simp only [natCast_eq]; with_reducible rfl) | omega)
         | omega
         | (dsimp only [mrcvSpec, mreadSpec, mstartSpec, mhandSpec, mfinSpec, Ty.T, Ty.dflt, KT.T, getM, putM, delM, inI64, maxRow]; (try simp only [natCast_eq, List.nil_append]); first | with_reducible rfl | exact take_cg (by omega) | exact drop_cg (by omega) | exact take_drop_cg (by omega) (by omega) | exact take_all (by omega) | exact take_drop_all (by omega) (by omega) | exact drop_take_cg (by omega) (by omega) (by omega))
         | first | exact ⟨hM.ok, hl⟩ | exact hM.pS | exact hM.pH | exact hM.ok
         | ((try dsimp only [mrcvSpec, mreadSpec, mstartSpec, mhandSpec, mfinSpec, Ty.T, Ty.dflt, KT.T, getM, putM, delM, inI64, maxRow]); simp only [decide_eq_true_eq, decide_eq_false_iff_not, Bool.not_eq_true', Bool.not_eq_false', Bool.not_eq_true, Bool.not_eq_false, Bool.not_true, Bool.not_false, ne_eq, Bool.false_eq_true, Bool.true_eq_false, reduceCtorEq, beq_iff_eq, beq_eq_false_iff_ne, not_true_eq_false, not_false_eq_true, pair_eta, map_idL, natCast_eq, inI64, maxRow]; first | done | with_reducible assumption | omega)
         | exact map_pair_id _
         | ((try dsimp only [mrcvSpec, mreadSpec, mstartSpec, mhandSpec, mfinSpec, Ty.T, Ty.dflt, KT.T, getM, putM, delM, inI64, maxRow]) <;> (try simp only [natCast_eq]) <;> omega)
         | ((try dsimp only [mrcvSpec, mreadSpec, mstartSpec, mhandSpec, mfinSpec, Ty.T, Ty.dflt, KT.T, getM, putM, delM, inI64, maxRow] at *) <;> (try simp only [natCast_eq] at *) <;> omega)
         | ((try dsimp only [mrcvSpec, mreadSpec, mstartSpec, mhandSpec, mfinSpec, Ty.T, Ty.dflt, KT.T, getM, putM, delM, inI64, maxRow] at *) <;> (try simp only [List.length_append, List.length_cons, List.length_nil, List.length_replicate, List.length_take, List.length_drop, natCast_eq] at *) <;> omega)
         | assumption
         | (symm; assumption)
         | (dsimp only; simp only [Bool.or_true, Bool.true_or, Bool.or_false, Bool.false_or, Bool.and_true, Bool.true_and, Bool.and_false, Bool.false_and, Bool.not_true, Bool.not_false, *]; done)
         | (simp; done)
         | (and_intros <;> first | trivial | with_reducible assumption | omega)
         | ((try dsimp only [mrcvSpec, mreadSpec, mstartSpec, mhandSpec, mfinSpec, Ty.T, Ty.dflt, KT.T, getM, putM, delM, inI64, maxRow] at *) <;> simp [*] <;> done))
    | skip
theorem mdo_sound : ConSound Try.prog AI 24 mdoSpec.con := MethSpec.sound Try.call24 ⟨fun a W h => by cases a <;> cases h; rfl, (fun h => by cases h), fun W x h => mdo_ok W x.1 h⟩
end Go.Proofs.Ytgdiepbjdpmfbaa
