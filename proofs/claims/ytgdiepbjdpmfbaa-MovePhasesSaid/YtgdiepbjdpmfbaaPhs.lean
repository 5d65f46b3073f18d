/-
  Layer 48: MovePhases, the walk.
-/
import Derived.Test.YtgdiepbjdpmfbaaAwk
import Derived.Test.YtgdiepbjdpmfbaaEng3
namespace Go.Proofs.Ytgdiepbjdpmfbaa
set_option linter.all false
set_option linter.unusedVariables false
set_option linter.unusedSimpArgs false
set_option linter.unusedSectionVars false
open Go.RowKit Go.Sx
set_option maxRecDepth 100000
set_option maxHeartbeats 16000000
noncomputable abbrev Ep : Env Ab := ⟨tis, [(22, maccSpec.con), (21, mphaseSpec.con), (20, mfinSpec.con), (17, mhandSpec.con), (16, mstartSpec.con), (12, newMovSpec.con), (11, awakeSpec.con)] ++ E0.con⟩
theorem epOk : EnvOk Try.prog AI Ep := (((((((e0Ok.add awake_sound).add newMov_sound).add mstart_sound).add mhand_sound).add mfin_sound).add mphase_sound).add macc_sound)
theorem bytes_of {d : List Int} (h : ∀ x ∈ d, (Ty.int .u8).ok x) : inBytes d := fun x hx => by have := inRange_u8 (h x hx); omega
def mvP : Ph → Mov
  | .old => newM 10
  | .drain => ⟨10, .drain, eS 10 0, eS 10 0⟩
  | .moved => ⟨10, .moved, eS 10 0, eS 10 0⟩
theorem runs_nul : runsF (eS 10 0) = ([], eS 10 0) := Prod.ext (List.eq_nil_of_length_eq_zero (by decide +kernel)) (by rfl)
theorem handL_nul : handL (eS 10 0) = [] := by unfold handL; rw [runs_nul]; rfl
theorem st_old : startM (mvP .old) = ((0, 0, ()), mvP .drain) := rfl
theorem st_drain : startM (mvP .drain) = ((0, 6, ()), mvP .drain) := rfl
theorem st_moved : startM (mvP .moved) = ((0, 6, ()), mvP .moved) := rfl
theorem hd_old : handM (mvP .old) = (([], 6, ()), mvP .old) := rfl
theorem hd_drain : handM (mvP .drain) = (([], 0, ()), mvP .drain) := by
  dsimp only [handM, mvP]
  rw [handL_nul]; rfl
theorem hd_moved : handM (mvP .moved) = (([], 6, ()), mvP .moved) := rfl
theorem fn_old : finM (mvP .old) = ((6, ()), mvP .old) := rfl
theorem fn_drain : finM (mvP .drain) = ((0, ()), mvP .moved) := rfl
theorem fn_moved : finM (mvP .moved) = ((6, ()), mvP .moved) := rfl
theorem ph_old : phaseM (mvP .old) = (0, ()) := rfl
theorem ph_drain : phaseM (mvP .drain) = (1, ()) := rfl
theorem ph_moved : phaseM (mvP .moved) = (2, ()) := rfl
theorem ac_a0 : accM (mvP .old) 0 = (true, ()) := rfl
theorem ac_a1 : accM (mvP .old) 1 = (false, ()) := rfl
theorem ac_a2 : accM (mvP .old) 2 = (false, ()) := rfl
theorem ac_am : accM (mvP .old) (-1) = (false, ()) := rfl
theorem ac_b0 : accM (mvP .drain) 0 = (true, ()) := rfl
theorem ac_b1 : accM (mvP .drain) 1 = (true, ()) := rfl
theorem ac_b2 : accM (mvP .drain) 2 = (false, ()) := rfl
theorem ac_bm : accM (mvP .drain) (-1) = (false, ()) := rfl
theorem ac_c0 : accM (mvP .moved) 0 = (false, ()) := rfl
theorem ac_c1 : accM (mvP .moved) 1 = (true, ()) := rfl
theorem ac_c2 : accM (mvP .moved) 2 = (false, ()) := rfl
theorem ac_cm : accM (mvP .moved) (-1) = (false, ()) := rfl
theorem okP (p : Ph) : OkM (mvP p) := by
  have he : StO (eS 10 0) := eS_ok (by decide) (by decide) (by decide) (by decide)
  cases p
  · exact ⟨by decide, fun _ => ⟨he, rfl⟩, fun h => absurd rfl h⟩
  · exact ⟨by decide, fun _ => ⟨he, rfl⟩, fun _ => ⟨he, rfl⟩⟩
  · exact ⟨by decide, fun h => absurd rfl h, fun _ => ⟨he, rfl⟩⟩
theorem preSt (p : Ph) : OkM (mvP p) ∧ (mvP p).a.off ≤ 1099511627776 := ⟨okP p, by cases p <;> decide⟩
theorem preHd (p : Ph) : OkM (mvP p) ∧ ((mvP p).ph = .drain → (mvP p).a.off + (mvP p).win ≤ 1099511627776 ∧ ((mvP p).a.known = true → (mvP p).a.fin ≤ 1099512676352)) := ⟨okP p, fun _ => ⟨by cases p <;> decide, by cases p <;> decide⟩⟩
structure LPh (n : Nat) where
  i : Int
  ph : Ph
  lo : 0 ≤ i
  hi : i ≤ n
theorem next_LPh {n : Nat} {i : Int} (p : Ph) (h0 : 0 ≤ i) (h : i < (n : Int)) : ∃ y : LPh n, y.i = i + 1 ∧ y.ph = p := ⟨⟨i + 1, p, by omega, by omega⟩, rfl, rfl⟩
theorem byt4 {l : List Int} {i : Int} (hl : inBytes l) (h0 : 0 ≤ i) (h : i < (l.length : Int)) : 0 ≤ l.getD i.toNat 0 ∧ (0 : Int) < 4 ∧ l.getD i.toNat 0 < 256 := by
  have hlt : i.toNat < l.length := by omega
  have := hl (l.getD i.toNat 0) (by rw [List.getD_eq_getElem?_getD, List.getElem?_eq_getElem hlt]; exact List.getElem_mem hlt)
  omega
def phsF (_ : List Int) : Tup [DT.cell .bool] := (true, ())
def phsSpec : PureSpec := ⟨[.lst (.int .u8)], fun (x : (List Int) × Unit) => x.1.length ≤ maxLen ∧ inBytes x.1, [.cell .bool], fun (x : (List Int) × Unit) => phsF x.1⟩
theorem phs_ok (l : List Int) (h : phsSpec.pre (l, ())) : TmplOk Try.prog AI 4 (argS phsSpec.ds (fun _ => (l, ()))) [] (resOf (svs phsSpec.rs (fun _ => phsSpec.f (l, ())))) [] := by
  dsimp only [phsSpec] at h ⊢
  generalize hr : phsF l = r
  obtain ⟨hl0, hl⟩ := h
  dsimp only [phsF] at hr
  refine tmpl_of_body epOk mixed (fn := Try.f4) (c := bodyOf Try.f4) (by kernel_rfl) (by kernel_rfl) (by kernel_rfl) (Nat.le_of_ble_eq_true (by kernel_rfl)) ?_
  (try (conv in (LoopInv.inv _ _) => dsimp only)); (try (conv in (SS.mk _ _) => cbv; (try dsimp only [newMovSpec, mstartSpec, mhandSpec, mfinSpec, mphaseSpec, maccSpec, Ty.T, Ty.dflt, KT.T]); (try simp only [natCast_eq])))
  (refine (?_ : T1 _ ?_) ?_; rotate_left 1; (conv => lhs; cbv; (try cbv); (try cbv)); intro hT; clear hT; refine Sh.mk (by kernel_rfl) ?_)
  repeat' (first
    | with_reducible refine Ck.mk (C := tt) tt_intro ?_
    | with_reducible refine Ck.mk (show drawOk _ _ = true by kernel_rfl) ?_
    | with_reducible refine Ck.all_cons ?_
    | with_reducible refine Ck.all_nil ?_
    | with_reducible refine Ck.mk (by assumption) ?_
    | with_reducible refine Ck.mk (decide_eq_true (by assumption)) ?_
    | with_reducible refine Ck.mk (decide_eq_false (by assumption)) ?_
    | with_reducible refine Ck.mk ?_ ?_
    | (with_reducible refine Both.mk (fun h => ?_) (fun h => ?_) <;> (have hk := h) <;> (try simp only [decide_eq_true_eq, decide_eq_false_iff_not, Bool.not_eq_true', Bool.not_eq_false', Bool.not_eq_true, Bool.not_eq_false, Bool.not_true, Bool.not_false, ne_eq, Bool.false_eq_true, Bool.true_eq_false, reduceCtorEq, beq_iff_eq, beq_eq_false_iff_ne, not_true_eq_false, not_false_eq_true, pair_eta, map_idL] at h) <;> (try dsimp only [newMovSpec, mstartSpec, mhandSpec, mfinSpec, mphaseSpec, maccSpec, Ty.T, Ty.dflt, KT.T, getM, putM, delM] at h) <;> (try simp only [natCast_eq] at h) <;> (try simp only [st_old, st_drain, st_moved, hd_old, hd_drain, hd_moved, fn_old, fn_drain, fn_moved, ph_old, ph_drain, ph_moved, phN, ac_a0, ac_a1, ac_a2, ac_am, ac_b0, ac_b1, ac_b2, ac_bm, ac_c0, ac_c1, ac_c2, ac_cm] at h) <;> (try (exfalso; exact absurd rfl h)) <;> (try (exfalso; revert h; decide)) <;> (try first | rw [if_pos h] at hr | rw [if_neg h] at hr | rw [ifF h] at hr | rw [ifN h] at hr) <;> (try (have hb : (_ : Bool) = _ := h; clear h; subst hb; (try first | rw [if_pos rfl] at hr | rw [if_neg Bool.false_ne_true] at hr))) <;> first | (exfalso; omega) | exact absurd (h.symm.trans (by assumption) : true = false) Bool.noConfusion | exact absurd (h.symm.trans (by assumption) : false = true) Bool.noConfusion | (refine (?_ : T1 _ ?_) ?_; rotate_left 1; (conv => lhs; cbv; (try cbv); (try cbv)); intro hT; clear hT; refine Sh.mk (by kernel_rfl) ?_))
    | (with_reducible refine Alt.mk (fun h => ?_) (fun h => ?_) <;> (have hk := h) <;> (try simp only [decide_eq_true_eq, decide_eq_false_iff_not, Bool.not_eq_true', Bool.not_eq_false', Bool.not_eq_true, Bool.not_eq_false, Bool.not_true, Bool.not_false, ne_eq, Bool.false_eq_true, Bool.true_eq_false, reduceCtorEq, beq_iff_eq, beq_eq_false_iff_ne, not_true_eq_false, not_false_eq_true, pair_eta, map_idL] at h) <;> (try dsimp only [newMovSpec, mstartSpec, mhandSpec, mfinSpec, mphaseSpec, maccSpec, Ty.T, Ty.dflt, KT.T, getM, putM, delM] at h) <;> (try simp only [natCast_eq] at h) <;> (try simp only [st_old, st_drain, st_moved, hd_old, hd_drain, hd_moved, fn_old, fn_drain, fn_moved, ph_old, ph_drain, ph_moved, phN, ac_a0, ac_a1, ac_a2, ac_am, ac_b0, ac_b1, ac_b2, ac_bm, ac_c0, ac_c1, ac_c2, ac_cm] at h) <;> (try (exfalso; exact absurd rfl h)) <;> (try (exfalso; revert h; decide)) <;> (try first | rw [if_pos h] at hr | rw [if_neg h] at hr | rw [ifF h] at hr | rw [ifN h] at hr) <;> (try (have hb : (_ : Bool) = _ := h; clear h; subst hb; (try first | rw [if_pos rfl] at hr | rw [if_neg Bool.false_ne_true] at hr))) <;> first | (exfalso; omega) | exact absurd (h.symm.trans (by assumption) : true = false) Bool.noConfusion | exact absurd (h.symm.trans (by assumption) : false = true) Bool.noConfusion | (refine (?_ : T1 _ ?_) ?_; rotate_left 1; (conv => lhs; cbv; (try cbv); (try cbv)); intro hT; clear hT; refine Sh.mk (by kernel_rfl) ?_))
    | (with_reducible refine Pick.mk (fun h => ?_) (fun l1 x l2 h => ?_) <;> (refine (?_ : T1 _ ?_) ?_; rotate_left 1; (conv => lhs; cbv; (try cbv); (try cbv)); intro hT; clear hT; refine Sh.mk (by kernel_rfl) ?_))
    | ((with_reducible refine End.mk ?_); (try ((repeat (first | rw [if_pos (by first | assumption | omega)] at hr | rw [if_neg (by first | assumption | omega | (simp only [Bool.false_eq_true, Bool.true_eq_false, reduceCtorEq, not_false_eq_true]; done) | (simp only [Bool.not_eq_true]; assumption) | (simp only [Bool.not_eq_false]; assumption))] at hr | rw [if_pos rfl] at hr)); subst hr)))
    | with_reducible exact True.intro)
  all_goals first
    | (fail_if_success (with_reducible refine Exists.intro ?_ ?_)
       first
         | with_reducible rfl
         | with_reducible assumption
         | (dsimp only [newMovSpec, mstartSpec, mhandSpec, mfinSpec, mphaseSpec, maccSpec, Ty.T, Ty.dflt, KT.T, getM, putM, delM, inI64, maxRow]; done)
         | (symm; with_reducible assumption)
         | (dsimp only [newMovSpec, mstartSpec, mhandSpec, mfinSpec, mphaseSpec, maccSpec, Ty.T, Ty.dflt, KT.T, getM, putM, delM, inI64, maxRow]; first | with_reducible rfl | with_reducible assumption | (symm; with_reducible assumption) | (simp only [natCast_eq]; with_reducible rfl) | omega)
         | omega
         | (dsimp only [newMovSpec, mstartSpec, mhandSpec, mfinSpec, mphaseSpec, maccSpec, Ty.T, Ty.dflt, KT.T, getM, putM, delM, inI64, maxRow]; (try simp only [natCast_eq, List.nil_append]); first | with_reducible rfl | exact take_cg (by omega) | exact drop_cg (by omega) | exact take_drop_cg (by omega) (by omega) | exact take_all (by omega) | exact take_drop_all (by omega) (by omega) | exact drop_take_cg (by omega) (by omega) (by omega))
         | ((try dsimp only [newMovSpec, mstartSpec, mhandSpec, mfinSpec, mphaseSpec, maccSpec, Ty.T, Ty.dflt, KT.T, getM, putM, delM, inI64, maxRow]); simp only [decide_eq_true_eq, decide_eq_false_iff_not, Bool.not_eq_true', Bool.not_eq_false', Bool.not_eq_true, Bool.not_eq_false, Bool.not_true, Bool.not_false, ne_eq, Bool.false_eq_true, Bool.true_eq_false, reduceCtorEq, beq_iff_eq, beq_eq_false_iff_ne, not_true_eq_false, not_false_eq_true, pair_eta, map_idL, natCast_eq, inI64, maxRow]; first | done | with_reducible assumption | omega)
         | exact map_pair_id _
         | ((try dsimp only [newMovSpec, mstartSpec, mhandSpec, mfinSpec, mphaseSpec, maccSpec, Ty.T, Ty.dflt, KT.T, getM, putM, delM, inI64, maxRow]) <;> (try simp only [natCast_eq]) <;> omega)
         | ((try dsimp only [newMovSpec, mstartSpec, mhandSpec, mfinSpec, mphaseSpec, maccSpec, Ty.T, Ty.dflt, KT.T, getM, putM, delM, inI64, maxRow] at *) <;> (try simp only [natCast_eq] at *) <;> omega)
         | ((try dsimp only [newMovSpec, mstartSpec, mhandSpec, mfinSpec, mphaseSpec, maccSpec, Ty.T, Ty.dflt, KT.T, getM, putM, delM, inI64, maxRow] at *) <;> (try simp only [List.length_append, List.length_cons, List.length_nil, List.length_replicate, List.length_take, List.length_drop, natCast_eq] at *) <;> omega)
         | assumption
         | (symm; assumption)
         | (dsimp only; simp only [Bool.or_true, Bool.true_or, Bool.or_false, Bool.false_or, Bool.and_true, Bool.true_and, Bool.and_false, Bool.false_and, Bool.not_true, Bool.not_false, *]; done)
         | (simp; done)
         | (and_intros <;> first | trivial | with_reducible assumption | omega)
         | ((try dsimp only [newMovSpec, mstartSpec, mhandSpec, mfinSpec, mphaseSpec, maccSpec, Ty.T, Ty.dflt, KT.T, getM, putM, delM, inI64, maxRow] at *) <;> simp [*] <;> done))
    | skip
  refine ⟨⟨LPh l.length, fun x => ⟨[(3, Sx.one (.ptr 0 0)), (5, Sx.one (.int .i64 (fun _ => phN x.ph))), (28, Sx.one (.ro (.int .u8) (fun _ => l))), (29, Sx.one (.int .i64 (fun _ => l.length))), (30, Sx.one (.int .i64 (fun _ => x.i)))], [.abs (.mov (fun _ => mvP x.ph))]⟩, fun x => (l.length - x.i).toNat, ⟨0, .old, by omega, by omega⟩⟩, ?_, fun (x : LPh l.length) => ?_⟩
  · (try (conv in (LoopInv.inv _ _) => dsimp only)); (try (conv in (SS.mk _ _) => cbv; (try dsimp only [newMovSpec, mstartSpec, mhandSpec, mfinSpec, mphaseSpec, maccSpec, Ty.T, Ty.dflt, KT.T]); (try simp only [natCast_eq])))
    (refine (?_ : T1 _ ?_) ?_; rotate_left 1; (conv => lhs; cbv; (try cbv); (try cbv)); intro hT; clear hT; refine Sh.mk (by kernel_rfl) ?_)
    repeat' (first
      | with_reducible refine Ck.mk (C := tt) tt_intro ?_
      | with_reducible refine Ck.mk (show drawOk _ _ = true by kernel_rfl) ?_
      | with_reducible refine Ck.all_cons ?_
      | with_reducible refine Ck.all_nil ?_
      | with_reducible refine Ck.mk (by assumption) ?_
      | with_reducible refine Ck.mk (decide_eq_true (by assumption)) ?_
      | with_reducible refine Ck.mk (decide_eq_false (by assumption)) ?_
      | with_reducible refine Ck.mk ?_ ?_
      | (with_reducible refine Both.mk (fun h => ?_) (fun h => ?_) <;> (have hk := h) <;> (try simp only [decide_eq_true_eq, decide_eq_false_iff_not, Bool.not_eq_true', Bool.not_eq_false', Bool.not_eq_true, Bool.not_eq_false, Bool.not_true, Bool.not_false, ne_eq, Bool.false_eq_true, Bool.true_eq_false, reduceCtorEq, beq_iff_eq, beq_eq_false_iff_ne, not_true_eq_false, not_false_eq_true, pair_eta, map_idL] at h) <;> (try dsimp only [newMovSpec, mstartSpec, mhandSpec, mfinSpec, mphaseSpec, maccSpec, Ty.T, Ty.dflt, KT.T, getM, putM, delM] at h) <;> (try simp only [natCast_eq] at h) <;> (try simp only [st_old, st_drain, st_moved, hd_old, hd_drain, hd_moved, fn_old, fn_drain, fn_moved, ph_old, ph_drain, ph_moved, phN, ac_a0, ac_a1, ac_a2, ac_am, ac_b0, ac_b1, ac_b2, ac_bm, ac_c0, ac_c1, ac_c2, ac_cm] at h) <;> (try (exfalso; exact absurd rfl h)) <;> (try (exfalso; revert h; decide)) <;> (try first | rw [if_pos h] at hr | rw [if_neg h] at hr | rw [ifF h] at hr | rw [ifN h] at hr) <;> (try (have hb : (_ : Bool) = _ := h; clear h; subst hb; (try first | rw [if_pos rfl] at hr | rw [if_neg Bool.false_ne_true] at hr))) <;> first | (exfalso; omega) | exact absurd (h.symm.trans (by assumption) : true = false) Bool.noConfusion | exact absurd (h.symm.trans (by assumption) : false = true) Bool.noConfusion | (refine (?_ : T1 _ ?_) ?_; rotate_left 1; (conv => lhs; cbv; (try cbv); (try cbv)); intro hT; clear hT; refine Sh.mk (by kernel_rfl) ?_))
      | (with_reducible refine Alt.mk (fun h => ?_) (fun h => ?_) <;> (have hk := h) <;> (try simp only [decide_eq_true_eq, decide_eq_false_iff_not, Bool.not_eq_true', Bool.not_eq_false', Bool.not_eq_true, Bool.not_eq_false, Bool.not_true, Bool.not_false, ne_eq, Bool.false_eq_true, Bool.true_eq_false, reduceCtorEq, beq_iff_eq, beq_eq_false_iff_ne, not_true_eq_false, not_false_eq_true, pair_eta, map_idL] at h) <;> (try dsimp only [newMovSpec, mstartSpec, mhandSpec, mfinSpec, mphaseSpec, maccSpec, Ty.T, Ty.dflt, KT.T, getM, putM, delM] at h) <;> (try simp only [natCast_eq] at h) <;> (try simp only [st_old, st_drain, st_moved, hd_old, hd_drain, hd_moved, fn_old, fn_drain, fn_moved, ph_old, ph_drain, ph_moved, phN, ac_a0, ac_a1, ac_a2, ac_am, ac_b0, ac_b1, ac_b2, ac_bm, ac_c0, ac_c1, ac_c2, ac_cm] at h) <;> (try (exfalso; exact absurd rfl h)) <;> (try (exfalso; revert h; decide)) <;> (try first | rw [if_pos h] at hr | rw [if_neg h] at hr | rw [ifF h] at hr | rw [ifN h] at hr) <;> (try (have hb : (_ : Bool) = _ := h; clear h; subst hb; (try first | rw [if_pos rfl] at hr | rw [if_neg Bool.false_ne_true] at hr))) <;> first | (exfalso; omega) | exact absurd (h.symm.trans (by assumption) : true = false) Bool.noConfusion | exact absurd (h.symm.trans (by assumption) : false = true) Bool.noConfusion | (refine (?_ : T1 _ ?_) ?_; rotate_left 1; (conv => lhs; cbv; (try cbv); (try cbv)); intro hT; clear hT; refine Sh.mk (by kernel_rfl) ?_))
      | (with_reducible refine Pick.mk (fun h => ?_) (fun l1 x l2 h => ?_) <;> (refine (?_ : T1 _ ?_) ?_; rotate_left 1; (conv => lhs; cbv; (try cbv); (try cbv)); intro hT; clear hT; refine Sh.mk (by kernel_rfl) ?_))
      | ((with_reducible refine End.mk ?_); skip)
      | with_reducible exact True.intro)
    all_goals first
      | (fail_if_success (with_reducible refine Exists.intro ?_ ?_)
         first
           | with_reducible rfl
           | with_reducible assumption
           | (dsimp only [newMovSpec, mstartSpec, mhandSpec, mfinSpec, mphaseSpec, maccSpec, Ty.T, Ty.dflt, KT.T, getM, putM, delM, inI64, maxRow]; done)
           | (symm; with_reducible assumption)
           | (dsimp only [newMovSpec, mstartSpec, mhandSpec, mfinSpec, mphaseSpec, maccSpec, Ty.T, Ty.dflt, KT.T, getM, putM, delM, inI64, maxRow]; first | with_reducible rfl | with_reducible assumption | (symm; with_reducible assumption) | (simp only [natCast_eq]; with_reducible rfl) | omega)
           | omega
           | (dsimp only [newMovSpec, mstartSpec, mhandSpec, mfinSpec, mphaseSpec, maccSpec, Ty.T, Ty.dflt, KT.T, getM, putM, delM, inI64, maxRow]; (try simp only [natCast_eq, List.nil_append]); first | with_reducible rfl | exact take_cg (by omega) | exact drop_cg (by omega) | exact take_drop_cg (by omega) (by omega) | exact take_all (by omega) | exact take_drop_all (by omega) (by omega) | exact drop_take_cg (by omega) (by omega) (by omega))
           | ((try dsimp only [newMovSpec, mstartSpec, mhandSpec, mfinSpec, mphaseSpec, maccSpec, Ty.T, Ty.dflt, KT.T, getM, putM, delM, inI64, maxRow]); simp only [decide_eq_true_eq, decide_eq_false_iff_not, Bool.not_eq_true', Bool.not_eq_false', Bool.not_eq_true, Bool.not_eq_false, Bool.not_true, Bool.not_false, ne_eq, Bool.false_eq_true, Bool.true_eq_false, reduceCtorEq, beq_iff_eq, beq_eq_false_iff_ne, not_true_eq_false, not_false_eq_true, pair_eta, map_idL, natCast_eq, inI64, maxRow]; first | done | with_reducible assumption | omega)
           | exact map_pair_id _
           | ((try dsimp only [newMovSpec, mstartSpec, mhandSpec, mfinSpec, mphaseSpec, maccSpec, Ty.T, Ty.dflt, KT.T, getM, putM, delM, inI64, maxRow]) <;> (try simp only [natCast_eq]) <;> omega)
           | ((try dsimp only [newMovSpec, mstartSpec, mhandSpec, mfinSpec, mphaseSpec, maccSpec, Ty.T, Ty.dflt, KT.T, getM, putM, delM, inI64, maxRow] at *) <;> (try simp only [natCast_eq] at *) <;> omega)
           | ((try dsimp only [newMovSpec, mstartSpec, mhandSpec, mfinSpec, mphaseSpec, maccSpec, Ty.T, Ty.dflt, KT.T, getM, putM, delM, inI64, maxRow] at *) <;> (try simp only [List.length_append, List.length_cons, List.length_nil, List.length_replicate, List.length_take, List.length_drop, natCast_eq] at *) <;> omega)
           | assumption
           | (symm; assumption)
           | (dsimp only; simp only [Bool.or_true, Bool.true_or, Bool.or_false, Bool.false_or, Bool.and_true, Bool.true_and, Bool.and_false, Bool.false_and, Bool.not_true, Bool.not_false, *]; done)
           | (simp; done)
           | (and_intros <;> first | trivial | with_reducible assumption | omega)
           | ((try dsimp only [newMovSpec, mstartSpec, mhandSpec, mfinSpec, mphaseSpec, maccSpec, Ty.T, Ty.dflt, KT.T, getM, putM, delM, inI64, maxRow] at *) <;> simp [*] <;> done))
      | skip
  obtain ⟨i, ph, hlo, hhi⟩ := x
  cases ph
  all_goals
    (skip
     (try (conv in (LoopInv.inv _ _) => dsimp only)); (try (conv in (SS.mk _ _) => cbv; (try dsimp only [newMovSpec, mstartSpec, mhandSpec, mfinSpec, mphaseSpec, maccSpec, Ty.T, Ty.dflt, KT.T]); (try simp only [natCast_eq])))
     (refine (?_ : T1 _ ?_) ?_; rotate_left 1; (conv => lhs; cbv; (try cbv); (try cbv)); intro hT; clear hT; refine Sh.mk (by kernel_rfl) ?_)
     repeat' (first
       | with_reducible refine Ck.mk (C := tt) tt_intro ?_
       | with_reducible refine Ck.mk (show drawOk _ _ = true by kernel_rfl) ?_
       | with_reducible refine Ck.all_cons ?_
       | with_reducible refine Ck.all_nil ?_
       | with_reducible refine Ck.mk (by assumption) ?_
       | with_reducible refine Ck.mk (decide_eq_true (by assumption)) ?_
       | with_reducible refine Ck.mk (decide_eq_false (by assumption)) ?_
       | with_reducible refine Ck.mk ?_ ?_
       | (with_reducible refine Both.mk (fun h => ?_) (fun h => ?_) <;> (have hk := h) <;> (try simp only [decide_eq_true_eq, decide_eq_false_iff_not, Bool.not_eq_true', Bool.not_eq_false', Bool.not_eq_true, Bool.not_eq_false, Bool.not_true, Bool.not_false, ne_eq, Bool.false_eq_true, Bool.true_eq_false, reduceCtorEq, beq_iff_eq, beq_eq_false_iff_ne, not_true_eq_false, not_false_eq_true, pair_eta, map_idL] at h) <;> (try dsimp only [newMovSpec, mstartSpec, mhandSpec, mfinSpec, mphaseSpec, maccSpec, Ty.T, Ty.dflt, KT.T, getM, putM, delM] at h) <;> (try simp only [natCast_eq] at h) <;> (try simp only [st_old, st_drain, st_moved, hd_old, hd_drain, hd_moved, fn_old, fn_drain, fn_moved, ph_old, ph_drain, ph_moved, phN, ac_a0, ac_a1, ac_a2, ac_am, ac_b0, ac_b1, ac_b2, ac_bm, ac_c0, ac_c1, ac_c2, ac_cm] at h) <;> (try (exfalso; exact absurd rfl h)) <;> (try (exfalso; revert h; decide)) <;> (try first | rw [if_pos h] at hr | rw [if_neg h] at hr | rw [ifF h] at hr | rw [ifN h] at hr) <;> (try (have hb : (_ : Bool) = _ := h; clear h; subst hb; (try first | rw [if_pos rfl] at hr | rw [if_neg Bool.false_ne_true] at hr))) <;> first | (exfalso; omega) | exact absurd (h.symm.trans (by assumption) : true = false) Bool.noConfusion | exact absurd (h.symm.trans (by assumption) : false = true) Bool.noConfusion | (refine (?_ : T1 _ ?_) ?_; rotate_left 1; (conv => lhs; cbv; (try cbv); (try cbv)); intro hT; clear hT; refine Sh.mk (by kernel_rfl) ?_))
       | (with_reducible refine Alt.mk (fun h => ?_) (fun h => ?_) <;> (have hk := h) <;> (try simp only [decide_eq_true_eq, decide_eq_false_iff_not, Bool.not_eq_true', Bool.not_eq_false', Bool.not_eq_true, Bool.not_eq_false, Bool.not_true, Bool.not_false, ne_eq, Bool.false_eq_true, Bool.true_eq_false, reduceCtorEq, beq_iff_eq, beq_eq_false_iff_ne, not_true_eq_false, not_false_eq_true, pair_eta, map_idL] at h) <;> (try dsimp only [newMovSpec, mstartSpec, mhandSpec, mfinSpec, mphaseSpec, maccSpec, Ty.T, Ty.dflt, KT.T, getM, putM, delM] at h) <;> (try simp only [natCast_eq] at h) <;> (try simp only [st_old, st_drain, st_moved, hd_old, hd_drain, hd_moved, fn_old, fn_drain, fn_moved, ph_old, ph_drain, ph_moved, phN, ac_a0, ac_a1, ac_a2, ac_am, ac_b0, ac_b1, ac_b2, ac_bm, ac_c0, ac_c1, ac_c2, ac_cm] at h) <;> (try (exfalso; exact absurd rfl h)) <;> (try (exfalso; revert h; decide)) <;> (try first | rw [if_pos h] at hr | rw [if_neg h] at hr | rw [ifF h] at hr | rw [ifN h] at hr) <;> (try (have hb : (_ : Bool) = _ := h; clear h; subst hb; (try first | rw [if_pos rfl] at hr | rw [if_neg Bool.false_ne_true] at hr))) <;> first | (exfalso; omega) | exact absurd (h.symm.trans (by assumption) : true = false) Bool.noConfusion | exact absurd (h.symm.trans (by assumption) : false = true) Bool.noConfusion | (refine (?_ : T1 _ ?_) ?_; rotate_left 1; (conv => lhs; cbv; (try cbv); (try cbv)); intro hT; clear hT; refine Sh.mk (by kernel_rfl) ?_))
       | (with_reducible refine Pick.mk (fun h => ?_) (fun l1 x l2 h => ?_) <;> (refine (?_ : T1 _ ?_) ?_; rotate_left 1; (conv => lhs; cbv; (try cbv); (try cbv)); intro hT; clear hT; refine Sh.mk (by kernel_rfl) ?_))
       | ((with_reducible refine End.mk ?_); skip)
       | with_reducible exact True.intro)
     all_goals first
       | (fail_if_success (with_reducible refine Exists.intro ?_ ?_)
          first
            | with_reducible rfl
            | with_reducible assumption
            | (dsimp only [newMovSpec, mstartSpec, mhandSpec, mfinSpec, mphaseSpec, maccSpec, Ty.T, Ty.dflt, KT.T, getM, putM, delM, inI64, maxRow]; done)
            | (symm; with_reducible assumption)
            | (dsimp only [newMovSpec, mstartSpec, mhandSpec, mfinSpec, mphaseSpec, maccSpec, Ty.T, Ty.dflt, KT.T, getM, putM, delM, inI64, maxRow]; first | with_reducible rfl | with_reducible assumption | (symm; with_reducible assumption) | (simp only [natCast_eq]; with_reducible rfl) | omega)
            | omega
            | (dsimp only [newMovSpec, mstartSpec, mhandSpec, mfinSpec, mphaseSpec, maccSpec, Ty.T, Ty.dflt, KT.T, getM, putM, delM, inI64, maxRow]; (try simp only [natCast_eq, List.nil_append]); first | with_reducible rfl | exact take_cg (by omega) | exact drop_cg (by omega) | exact take_drop_cg (by omega) (by omega) | exact take_all (by omega) | exact take_drop_all (by omega) (by omega) | exact drop_take_cg (by omega) (by omega) (by omega))
            | first | exact congrArg Prod.fst hr | exact byt4 hl hlo h | exact okP _ | exact preSt _ | exact preHd _
            | ((try dsimp only [newMovSpec, mstartSpec, mhandSpec, mfinSpec, mphaseSpec, maccSpec, Ty.T, Ty.dflt, KT.T, getM, putM, delM, inI64, maxRow]); simp only [decide_eq_true_eq, decide_eq_false_iff_not, Bool.not_eq_true', Bool.not_eq_false', Bool.not_eq_true, Bool.not_eq_false, Bool.not_true, Bool.not_false, ne_eq, Bool.false_eq_true, Bool.true_eq_false, reduceCtorEq, beq_iff_eq, beq_eq_false_iff_ne, not_true_eq_false, not_false_eq_true, pair_eta, map_idL, natCast_eq, inI64, maxRow]; first | done | with_reducible assumption | omega)
            | exact map_pair_id _
            | ((try dsimp only [newMovSpec, mstartSpec, mhandSpec, mfinSpec, mphaseSpec, maccSpec, Ty.T, Ty.dflt, KT.T, getM, putM, delM, inI64, maxRow]) <;> (try simp only [natCast_eq]) <;> omega)
            | ((try dsimp only [newMovSpec, mstartSpec, mhandSpec, mfinSpec, mphaseSpec, maccSpec, Ty.T, Ty.dflt, KT.T, getM, putM, delM, inI64, maxRow] at *) <;> (try simp only [natCast_eq] at *) <;> omega)
            | ((try dsimp only [newMovSpec, mstartSpec, mhandSpec, mfinSpec, mphaseSpec, maccSpec, Ty.T, Ty.dflt, KT.T, getM, putM, delM, inI64, maxRow] at *) <;> (try simp only [List.length_append, List.length_cons, List.length_nil, List.length_replicate, List.length_take, List.length_drop, natCast_eq] at *) <;> omega)
            | assumption
            | (symm; assumption)
            | (dsimp only; simp only [Bool.or_true, Bool.true_or, Bool.or_false, Bool.false_or, Bool.and_true, Bool.true_and, Bool.and_false, Bool.false_and, Bool.not_true, Bool.not_false, *]; done)
            | (simp; done)
            | (and_intros <;> first | trivial | with_reducible assumption | omega)
            | ((try dsimp only [newMovSpec, mstartSpec, mhandSpec, mfinSpec, mphaseSpec, maccSpec, Ty.T, Ty.dflt, KT.T, getM, putM, delM, inI64, maxRow] at *) <;> simp [*] <;> done))
       | skip
     all_goals
      first
      | (obtain ⟨y, hy, hp⟩ := next_LPh (n := l.length) .old hlo (by assumption)
         refine ⟨y, by dsimp only; (try simp only [natCast_eq]); omega, ?_⟩
         (try (conv in (LoopInv.inv _ _) => dsimp only)); (try (conv in (SS.mk _ _) => cbv; (try dsimp only [newMovSpec, mstartSpec, mhandSpec, mfinSpec, mphaseSpec, maccSpec, Ty.T, Ty.dflt, KT.T]); (try simp only [natCast_eq])))
         (refine (?_ : T1 _ ?_) ?_; rotate_left 1; (conv => lhs; cbv; (try cbv); (try cbv)); intro hT; clear hT; refine Sh.mk (by kernel_rfl) ?_)
         repeat' (first
           | with_reducible refine Ck.mk (C := tt) tt_intro ?_
           | with_reducible refine Ck.mk (show drawOk _ _ = true by kernel_rfl) ?_
           | with_reducible refine Ck.all_cons ?_
           | with_reducible refine Ck.all_nil ?_
           | with_reducible refine Ck.mk (by assumption) ?_
           | with_reducible refine Ck.mk (decide_eq_true (by assumption)) ?_
           | with_reducible refine Ck.mk (decide_eq_false (by assumption)) ?_
           | with_reducible refine Ck.mk ?_ ?_
           | (with_reducible refine Both.mk (fun h => ?_) (fun h => ?_) <;> (have hk := h) <;> (try simp only [decide_eq_true_eq, decide_eq_false_iff_not, Bool.not_eq_true', Bool.not_eq_false', Bool.not_eq_true, Bool.not_eq_false, Bool.not_true, Bool.not_false, ne_eq, Bool.false_eq_true, Bool.true_eq_false, reduceCtorEq, beq_iff_eq, beq_eq_false_iff_ne, not_true_eq_false, not_false_eq_true, pair_eta, map_idL] at h) <;> (try dsimp only [newMovSpec, mstartSpec, mhandSpec, mfinSpec, mphaseSpec, maccSpec, Ty.T, Ty.dflt, KT.T, getM, putM, delM] at h) <;> (try simp only [natCast_eq] at h) <;> (try simp only [st_old, st_drain, st_moved, hd_old, hd_drain, hd_moved, fn_old, fn_drain, fn_moved, ph_old, ph_drain, ph_moved, phN, ac_a0, ac_a1, ac_a2, ac_am, ac_b0, ac_b1, ac_b2, ac_bm, ac_c0, ac_c1, ac_c2, ac_cm] at h) <;> (try (exfalso; exact absurd rfl h)) <;> (try (exfalso; revert h; decide)) <;> (try first | rw [if_pos h] at hr | rw [if_neg h] at hr | rw [ifF h] at hr | rw [ifN h] at hr) <;> (try (have hb : (_ : Bool) = _ := h; clear h; subst hb; (try first | rw [if_pos rfl] at hr | rw [if_neg Bool.false_ne_true] at hr))) <;> first | (exfalso; omega) | exact absurd (h.symm.trans (by assumption) : true = false) Bool.noConfusion | exact absurd (h.symm.trans (by assumption) : false = true) Bool.noConfusion | (refine (?_ : T1 _ ?_) ?_; rotate_left 1; (conv => lhs; cbv; (try cbv); (try cbv)); intro hT; clear hT; refine Sh.mk (by kernel_rfl) ?_))
           | (with_reducible refine Alt.mk (fun h => ?_) (fun h => ?_) <;> (have hk := h) <;> (try simp only [decide_eq_true_eq, decide_eq_false_iff_not, Bool.not_eq_true', Bool.not_eq_false', Bool.not_eq_true, Bool.not_eq_false, Bool.not_true, Bool.not_false, ne_eq, Bool.false_eq_true, Bool.true_eq_false, reduceCtorEq, beq_iff_eq, beq_eq_false_iff_ne, not_true_eq_false, not_false_eq_true, pair_eta, map_idL] at h) <;> (try dsimp only [newMovSpec, mstartSpec, mhandSpec, mfinSpec, mphaseSpec, maccSpec, Ty.T, Ty.dflt, KT.T, getM, putM, delM] at h) <;> (try simp only [natCast_eq] at h) <;> (try simp only [st_old, st_drain, st_moved, hd_old, hd_drain, hd_moved, fn_old, fn_drain, fn_moved, ph_old, ph_drain, ph_moved, phN, ac_a0, ac_a1, ac_a2, ac_am, ac_b0, ac_b1, ac_b2, ac_bm, ac_c0, ac_c1, ac_c2, ac_cm] at h) <;> (try (exfalso; exact absurd rfl h)) <;> (try (exfalso; revert h; decide)) <;> (try first | rw [if_pos h] at hr | rw [if_neg h] at hr | rw [ifF h] at hr | rw [ifN h] at hr) <;> (try (have hb : (_ : Bool) = _ := h; clear h; subst hb; (try first | rw [if_pos rfl] at hr | rw [if_neg Bool.false_ne_true] at hr))) <;> first | (exfalso; omega) | exact absurd (h.symm.trans (by assumption) : true = false) Bool.noConfusion | exact absurd (h.symm.trans (by assumption) : false = true) Bool.noConfusion | (refine (?_ : T1 _ ?_) ?_; rotate_left 1; (conv => lhs; cbv; (try cbv); (try cbv)); intro hT; clear hT; refine Sh.mk (by kernel_rfl) ?_))
           | (with_reducible refine Pick.mk (fun h => ?_) (fun l1 x l2 h => ?_) <;> (refine (?_ : T1 _ ?_) ?_; rotate_left 1; (conv => lhs; cbv; (try cbv); (try cbv)); intro hT; clear hT; refine Sh.mk (by kernel_rfl) ?_))
           | ((with_reducible refine End.mk ?_); skip)
           | with_reducible exact True.intro)
         all_goals first
           | (fail_if_success (with_reducible refine Exists.intro ?_ ?_)
              first
                | with_reducible rfl
                | with_reducible assumption
                | (dsimp only [newMovSpec, mstartSpec, mhandSpec, mfinSpec, mphaseSpec, maccSpec, Ty.T, Ty.dflt, KT.T, getM, putM, delM, inI64, maxRow]; done)
                | (symm; with_reducible assumption)
                | (dsimp only [newMovSpec, mstartSpec, mhandSpec, mfinSpec, mphaseSpec, maccSpec, Ty.T, Ty.dflt, KT.T, getM, putM, delM, inI64, maxRow]; first | with_reducible rfl | with_reducible assumption | (symm; with_reducible assumption) | (simp only [natCast_eq]; with_reducible rfl) | omega)
                | omega
                | (dsimp only [newMovSpec, mstartSpec, mhandSpec, mfinSpec, mphaseSpec, maccSpec, Ty.T, Ty.dflt, KT.T, getM, putM, delM, inI64, maxRow]; (try simp only [natCast_eq, List.nil_append]); first | with_reducible rfl | exact take_cg (by omega) | exact drop_cg (by omega) | exact take_drop_cg (by omega) (by omega) | exact take_all (by omega) | exact take_drop_all (by omega) (by omega) | exact drop_take_cg (by omega) (by omega) (by omega))
                | first | (show _ = mvP y.ph; rw [hp]; first | rfl | exact congrArg Prod.snd st_old | exact congrArg Prod.snd hd_drain | exact congrArg Prod.snd fn_drain) | (show _ = phN y.ph; rw [hp])
                | ((try dsimp only [newMovSpec, mstartSpec, mhandSpec, mfinSpec, mphaseSpec, maccSpec, Ty.T, Ty.dflt, KT.T, getM, putM, delM, inI64, maxRow]); simp only [decide_eq_true_eq, decide_eq_false_iff_not, Bool.not_eq_true', Bool.not_eq_false', Bool.not_eq_true, Bool.not_eq_false, Bool.not_true, Bool.not_false, ne_eq, Bool.false_eq_true, Bool.true_eq_false, reduceCtorEq, beq_iff_eq, beq_eq_false_iff_ne, not_true_eq_false, not_false_eq_true, pair_eta, map_idL, natCast_eq, inI64, maxRow]; first | done | with_reducible assumption | omega)
                | exact map_pair_id _
                | ((try dsimp only [newMovSpec, mstartSpec, mhandSpec, mfinSpec, mphaseSpec, maccSpec, Ty.T, Ty.dflt, KT.T, getM, putM, delM, inI64, maxRow]) <;> (try simp only [natCast_eq]) <;> omega)
                | ((try dsimp only [newMovSpec, mstartSpec, mhandSpec, mfinSpec, mphaseSpec, maccSpec, Ty.T, Ty.dflt, KT.T, getM, putM, delM, inI64, maxRow] at *) <;> (try simp only [natCast_eq] at *) <;> omega)
                | ((try dsimp only [newMovSpec, mstartSpec, mhandSpec, mfinSpec, mphaseSpec, maccSpec, Ty.T, Ty.dflt, KT.T, getM, putM, delM, inI64, maxRow] at *) <;> (try simp only [List.length_append, List.length_cons, List.length_nil, List.length_replicate, List.length_take, List.length_drop, natCast_eq] at *) <;> omega)
                | assumption
                | (symm; assumption)
                | (dsimp only; simp only [Bool.or_true, Bool.true_or, Bool.or_false, Bool.false_or, Bool.and_true, Bool.true_and, Bool.and_false, Bool.false_and, Bool.not_true, Bool.not_false, *]; done)
                | (simp; done)
                | (and_intros <;> first | trivial | with_reducible assumption | omega)
                | ((try dsimp only [newMovSpec, mstartSpec, mhandSpec, mfinSpec, mphaseSpec, maccSpec, Ty.T, Ty.dflt, KT.T, getM, putM, delM, inI64, maxRow] at *) <;> simp [*] <;> done))
           | skip
         done)
      | (obtain ⟨y, hy, hp⟩ := next_LPh (n := l.length) .drain hlo (by assumption)
         refine ⟨y, by dsimp only; (try simp only [natCast_eq]); omega, ?_⟩
         (try (conv in (LoopInv.inv _ _) => dsimp only)); (try (conv in (SS.mk _ _) => cbv; (try dsimp only [newMovSpec, mstartSpec, mhandSpec, mfinSpec, mphaseSpec, maccSpec, Ty.T, Ty.dflt, KT.T]); (try simp only [natCast_eq])))
         (refine (?_ : T1 _ ?_) ?_; rotate_left 1; (conv => lhs; cbv; (try cbv); (try cbv)); intro hT; clear hT; refine Sh.mk (by kernel_rfl) ?_)
         repeat' (first
           | with_reducible refine Ck.mk (C := tt) tt_intro ?_
           | with_reducible refine Ck.mk (show drawOk _ _ = true by kernel_rfl) ?_
           | with_reducible refine Ck.all_cons ?_
           | with_reducible refine Ck.all_nil ?_
           | with_reducible refine Ck.mk (by assumption) ?_
           | with_reducible refine Ck.mk (decide_eq_true (by assumption)) ?_
           | with_reducible refine Ck.mk (decide_eq_false (by assumption)) ?_
           | with_reducible refine Ck.mk ?_ ?_
           | (with_reducible refine Both.mk (fun h => ?_) (fun h => ?_) <;> (have hk := h) <;> (try simp only [decide_eq_true_eq, decide_eq_false_iff_not, Bool.not_eq_true', Bool.not_eq_false', Bool.not_eq_true, Bool.not_eq_false, Bool.not_true, Bool.not_false, ne_eq, Bool.false_eq_true, Bool.true_eq_false, reduceCtorEq, beq_iff_eq, beq_eq_false_iff_ne, not_true_eq_false, not_false_eq_true, pair_eta, map_idL] at h) <;> (try dsimp only [newMovSpec, mstartSpec, mhandSpec, mfinSpec, mphaseSpec, maccSpec, Ty.T, Ty.dflt, KT.T, getM, putM, delM] at h) <;> (try simp only [natCast_eq] at h) <;> (try simp only [st_old, st_drain, st_moved, hd_old, hd_drain, hd_moved, fn_old, fn_drain, fn_moved, ph_old, ph_drain, ph_moved, phN, ac_a0, ac_a1, ac_a2, ac_am, ac_b0, ac_b1, ac_b2, ac_bm, ac_c0, ac_c1, ac_c2, ac_cm] at h) <;> (try (exfalso; exact absurd rfl h)) <;> (try (exfalso; revert h; decide)) <;> (try first | rw [if_pos h] at hr | rw [if_neg h] at hr | rw [ifF h] at hr | rw [ifN h] at hr) <;> (try (have hb : (_ : Bool) = _ := h; clear h; subst hb; (try first | rw [if_pos rfl] at hr | rw [if_neg Bool.false_ne_true] at hr))) <;> first | (exfalso; omega) | exact absurd (h.symm.trans (by assumption) : true = false) Bool.noConfusion | exact absurd (h.symm.trans (by assumption) : false = true) Bool.noConfusion | (refine (?_ : T1 _ ?_) ?_; rotate_left 1; (conv => lhs; cbv; (try cbv); (try cbv)); intro hT; clear hT; refine Sh.mk (by kernel_rfl) ?_))
           | (with_reducible refine Alt.mk (fun h => ?_) (fun h => ?_) <;> (have hk := h) <;> (try simp only [decide_eq_true_eq, decide_eq_false_iff_not, Bool.not_eq_true', Bool.not_eq_false', Bool.not_eq_true, Bool.not_eq_false, Bool.not_true, Bool.not_false, ne_eq, Bool.false_eq_true, Bool.true_eq_false, reduceCtorEq, beq_iff_eq, beq_eq_false_iff_ne, not_true_eq_false, not_false_eq_true, pair_eta, map_idL] at h) <;> (try dsimp only [newMovSpec, mstartSpec, mhandSpec, mfinSpec, mphaseSpec, maccSpec, Ty.T, Ty.dflt, KT.T, getM, putM, delM] at h) <;> (try simp only [natCast_eq] at h) <;> (try simp only [st_old, st_drain, st_moved, hd_old, hd_drain, hd_moved, fn_old, fn_drain, fn_moved, ph_old, ph_drain, ph_moved, phN, ac_a0, ac_a1, ac_a2, ac_am, ac_b0, ac_b1, ac_b2, ac_bm, ac_c0, ac_c1, ac_c2, ac_cm] at h) <;> (try (exfalso; exact absurd rfl h)) <;> (try (exfalso; revert h; decide)) <;> (try first | rw [if_pos h] at hr | rw [if_neg h] at hr | rw [ifF h] at hr | rw [ifN h] at hr) <;> (try (have hb : (_ : Bool) = _ := h; clear h; subst hb; (try first | rw [if_pos rfl] at hr | rw [if_neg Bool.false_ne_true] at hr))) <;> first | (exfalso; omega) | exact absurd (h.symm.trans (by assumption) : true = false) Bool.noConfusion | exact absurd (h.symm.trans (by assumption) : false = true) Bool.noConfusion | (refine (?_ : T1 _ ?_) ?_; rotate_left 1; (conv => lhs; cbv; (try cbv); (try cbv)); intro hT; clear hT; refine Sh.mk (by kernel_rfl) ?_))
           | (with_reducible refine Pick.mk (fun h => ?_) (fun l1 x l2 h => ?_) <;> (refine (?_ : T1 _ ?_) ?_; rotate_left 1; (conv => lhs; cbv; (try cbv); (try cbv)); intro hT; clear hT; refine Sh.mk (by kernel_rfl) ?_))
           | ((with_reducible refine End.mk ?_); skip)
           | with_reducible exact True.intro)
         all_goals first
           | (fail_if_success (with_reducible refine Exists.intro ?_ ?_)
              first
                | with_reducible rfl
                | with_reducible assumption
                | (dsimp only [newMovSpec, mstartSpec, mhandSpec, mfinSpec, mphaseSpec, maccSpec, Ty.T, Ty.dflt, KT.T, getM, putM, delM, inI64, maxRow]; done)
                | (symm; with_reducible assumption)
                | (dsimp only [newMovSpec, mstartSpec, mhandSpec, mfinSpec, mphaseSpec, maccSpec, Ty.T, Ty.dflt, KT.T, getM, putM, delM, inI64, maxRow]; first | with_reducible rfl | with_reducible assumption | (symm; with_reducible assumption) | (simp only [natCast_eq]; with_reducible rfl) | omega)
                | omega
                | (dsimp only [newMovSpec, mstartSpec, mhandSpec, mfinSpec, mphaseSpec, maccSpec, Ty.T, Ty.dflt, KT.T, getM, putM, delM, inI64, maxRow]; (try simp only [natCast_eq, List.nil_append]); first | with_reducible rfl | exact take_cg (by omega) | exact drop_cg (by omega) | exact take_drop_cg (by omega) (by omega) | exact take_all (by omega) | exact take_drop_all (by omega) (by omega) | exact drop_take_cg (by omega) (by omega) (by omega))
                | first | (show _ = mvP y.ph; rw [hp]; first | rfl | exact congrArg Prod.snd st_old | exact congrArg Prod.snd hd_drain | exact congrArg Prod.snd fn_drain) | (show _ = phN y.ph; rw [hp])
                | ((try dsimp only [newMovSpec, mstartSpec, mhandSpec, mfinSpec, mphaseSpec, maccSpec, Ty.T, Ty.dflt, KT.T, getM, putM, delM, inI64, maxRow]); simp only [decide_eq_true_eq, decide_eq_false_iff_not, Bool.not_eq_true', Bool.not_eq_false', Bool.not_eq_true, Bool.not_eq_false, Bool.not_true, Bool.not_false, ne_eq, Bool.false_eq_true, Bool.true_eq_false, reduceCtorEq, beq_iff_eq, beq_eq_false_iff_ne, not_true_eq_false, not_false_eq_true, pair_eta, map_idL, natCast_eq, inI64, maxRow]; first | done | with_reducible assumption | omega)
                | exact map_pair_id _
                | ((try dsimp only [newMovSpec, mstartSpec, mhandSpec, mfinSpec, mphaseSpec, maccSpec, Ty.T, Ty.dflt, KT.T, getM, putM, delM, inI64, maxRow]) <;> (try simp only [natCast_eq]) <;> omega)
                | ((try dsimp only [newMovSpec, mstartSpec, mhandSpec, mfinSpec, mphaseSpec, maccSpec, Ty.T, Ty.dflt, KT.T, getM, putM, delM, inI64, maxRow] at *) <;> (try simp only [natCast_eq] at *) <;> omega)
                | ((try dsimp only [newMovSpec, mstartSpec, mhandSpec, mfinSpec, mphaseSpec, maccSpec, Ty.T, Ty.dflt, KT.T, getM, putM, delM, inI64, maxRow] at *) <;> (try simp only [List.length_append, List.length_cons, List.length_nil, List.length_replicate, List.length_take, List.length_drop, natCast_eq] at *) <;> omega)
                | assumption
                | (symm; assumption)
                | (dsimp only; simp only [Bool.or_true, Bool.true_or, Bool.or_false, Bool.false_or, Bool.and_true, Bool.true_and, Bool.and_false, Bool.false_and, Bool.not_true, Bool.not_false, *]; done)
                | (simp; done)
                | (and_intros <;> first | trivial | with_reducible assumption | omega)
                | ((try dsimp only [newMovSpec, mstartSpec, mhandSpec, mfinSpec, mphaseSpec, maccSpec, Ty.T, Ty.dflt, KT.T, getM, putM, delM, inI64, maxRow] at *) <;> simp [*] <;> done))
           | skip
         done)
      | (obtain ⟨y, hy, hp⟩ := next_LPh (n := l.length) .moved hlo (by assumption)
         refine ⟨y, by dsimp only; (try simp only [natCast_eq]); omega, ?_⟩
         (try (conv in (LoopInv.inv _ _) => dsimp only)); (try (conv in (SS.mk _ _) => cbv; (try dsimp only [newMovSpec, mstartSpec, mhandSpec, mfinSpec, mphaseSpec, maccSpec, Ty.T, Ty.dflt, KT.T]); (try simp only [natCast_eq])))
         (refine (?_ : T1 _ ?_) ?_; rotate_left 1; (conv => lhs; cbv; (try cbv); (try cbv)); intro hT; clear hT; refine Sh.mk (by kernel_rfl) ?_)
         repeat' (first
           | with_reducible refine Ck.mk (C := tt) tt_intro ?_
           | with_reducible refine Ck.mk (show drawOk _ _ = true by kernel_rfl) ?_
           | with_reducible refine Ck.all_cons ?_
           | with_reducible refine Ck.all_nil ?_
           | with_reducible refine Ck.mk (by assumption) ?_
           | with_reducible refine Ck.mk (decide_eq_true (by assumption)) ?_
           | with_reducible refine Ck.mk (decide_eq_false (by assumption)) ?_
           | with_reducible refine Ck.mk ?_ ?_
           | (with_reducible refine Both.mk (fun h => ?_) (fun h => ?_) <;> (have hk := h) <;> (try simp only [decide_eq_true_eq, decide_eq_false_iff_not, Bool.not_eq_true', Bool.not_eq_false', Bool.not_eq_true, Bool.not_eq_false, Bool.not_true, Bool.not_false, ne_eq, Bool.false_eq_true, Bool.true_eq_false, reduceCtorEq, beq_iff_eq, beq_eq_false_iff_ne, not_true_eq_false, not_false_eq_true, pair_eta, map_idL] at h) <;> (try dsimp only [newMovSpec, mstartSpec, mhandSpec, mfinSpec, mphaseSpec, maccSpec, Ty.T, Ty.dflt, KT.T, getM, putM, delM] at h) <;> (try simp only [natCast_eq] at h) <;> (try simp only [st_old, st_drain, st_moved, hd_old, hd_drain, hd_moved, fn_old, fn_drain, fn_moved, ph_old, ph_drain, ph_moved, phN, ac_a0, ac_a1, ac_a2, ac_am, ac_b0, ac_b1, ac_b2, ac_bm, ac_c0, ac_c1, ac_c2, ac_cm] at h) <;> (try (exfalso; exact absurd rfl h)) <;> (try (exfalso; revert h; decide)) <;> (try first | rw [if_pos h] at hr | rw [if_neg h] at hr | rw [ifF h] at hr | rw [ifN h] at hr) <;> (try (have hb : (_ : Bool) = _ := h; clear h; subst hb; (try first | rw [if_pos rfl] at hr | rw [if_neg Bool.false_ne_true] at hr))) <;> first | (exfalso; omega) | exact absurd (h.symm.trans (by assumption) : true = false) Bool.noConfusion | exact absurd (h.symm.trans (by assumption) : false = true) Bool.noConfusion | (refine (?_ : T1 _ ?_) ?_; rotate_left 1; (conv => lhs; cbv; (try cbv); (try cbv)); intro hT; clear hT; refine Sh.mk (by kernel_rfl) ?_))
           | (with_reducible refine Alt.mk (fun h => ?_) (fun h => ?_) <;> (have hk := h) <;> (try simp only [decide_eq_true_eq, decide_eq_false_iff_not, Bool.not_eq_true', Bool.not_eq_false', Bool.not_eq_true, Bool.not_eq_false, Bool.not_true, Bool.not_false, ne_eq, Bool.false_eq_true, Bool.true_eq_false, reduceCtorEq, beq_iff_eq, beq_eq_false_iff_ne, not_true_eq_false, not_false_eq_true, pair_eta, map_idL] at h) <;> (try dsimp only [newMovSpec, mstartSpec, mhandSpec, mfinSpec, mphaseSpec, maccSpec, Ty.T, Ty.dflt, KT.T, getM, putM, delM] at h) <;> (try simp only [natCast_eq] at h) <;> (try simp only [st_old, st_drain, st_moved, hd_old, hd_drain, hd_moved, fn_old, fn_drain, fn_moved, ph_old, ph_drain, ph_moved, phN, ac_a0, ac_a1, ac_a2, ac_am, ac_b0, ac_b1, ac_b2, ac_bm, ac_c0, ac_c1, ac_c2, ac_cm] at h) <;> (try (exfalso; exact absurd rfl h)) <;> (try (exfalso; revert h; decide)) <;> (try first | rw [if_pos h] at hr | rw [if_neg h] at hr | rw [ifF h] at hr | rw [ifN h] at hr) <;> (try (have hb : (_ : Bool) = _ := h; clear h; subst hb; (try first | rw [if_pos rfl] at hr | rw [if_neg Bool.false_ne_true] at hr))) <;> first | (exfalso; omega) | exact absurd (h.symm.trans (by assumption) : true = false) Bool.noConfusion | exact absurd (h.symm.trans (by assumption) : false = true) Bool.noConfusion | (refine (?_ : T1 _ ?_) ?_; rotate_left 1; (conv => lhs; cbv; (try cbv); (try cbv)); intro hT; clear hT; refine Sh.mk (by kernel_rfl) ?_))
           | (with_reducible refine Pick.mk (fun h => ?_) (fun l1 x l2 h => ?_) <;> (refine (?_ : T1 _ ?_) ?_; rotate_left 1; (conv => lhs; cbv; (try cbv); (try cbv)); intro hT; clear hT; refine Sh.mk (by kernel_rfl) ?_))
           | ((with_reducible refine End.mk ?_); skip)
           | with_reducible exact True.intro)
         all_goals first
           | (fail_if_success (with_reducible refine Exists.intro ?_ ?_)
              first
                | with_reducible rfl
                | with_reducible assumption
                | (dsimp only [newMovSpec, mstartSpec, mhandSpec, mfinSpec, mphaseSpec, maccSpec, Ty.T, Ty.dflt, KT.T, getM, putM, delM, inI64, maxRow]; done)
                | (symm; with_reducible assumption)
                | (dsimp only [newMovSpec, mstartSpec, mhandSpec, mfinSpec, mphaseSpec, maccSpec, Ty.T, Ty.dflt, KT.T, getM, putM, delM, inI64, maxRow]; first | with_reducible rfl | with_reducible assumption | (symm; with_reducible assumption) | (simp only [natCast_eq]; with_reducible rfl) | omega)
                | omega
                | (dsimp only [newMovSpec, mstartSpec, mhandSpec, mfinSpec, mphaseSpec, maccSpec, Ty.T, Ty.dflt, KT.T, getM, putM, delM, inI64, maxRow]; (try simp only [natCast_eq, List.nil_append]); first | with_reducible rfl | exact take_cg (by omega) | exact drop_cg (by omega) | exact take_drop_cg (by omega) (by omega) | exact take_all (by omega) | exact take_drop_all (by omega) (by omega) | exact drop_take_cg (by omega) (by omega) (by omega))
                | first | (show _ = mvP y.ph; rw [hp]; first | rfl | exact congrArg Prod.snd st_old | exact congrArg Prod.snd hd_drain | exact congrArg Prod.snd fn_drain) | (show _ = phN y.ph; rw [hp])
                | ((try dsimp only [newMovSpec, mstartSpec, mhandSpec, mfinSpec, mphaseSpec, maccSpec, Ty.T, Ty.dflt, KT.T, getM, putM, delM, inI64, maxRow]); simp only [decide_eq_true_eq, decide_eq_false_iff_not, Bool.not_eq_true', Bool.not_eq_false', Bool.not_eq_true, Bool.not_eq_false, Bool.not_true, Bool.not_false, ne_eq, Bool.false_eq_true, Bool.true_eq_false, reduceCtorEq, beq_iff_eq, beq_eq_false_iff_ne, not_true_eq_false, not_false_eq_true, pair_eta, map_idL, natCast_eq, inI64, maxRow]; first | done | with_reducible assumption | omega)
                | exact map_pair_id _
                | ((try dsimp only [newMovSpec, mstartSpec, mhandSpec, mfinSpec, mphaseSpec, maccSpec, Ty.T, Ty.dflt, KT.T, getM, putM, delM, inI64, maxRow]) <;> (try simp only [natCast_eq]) <;> omega)
                | ((try dsimp only [newMovSpec, mstartSpec, mhandSpec, mfinSpec, mphaseSpec, maccSpec, Ty.T, Ty.dflt, KT.T, getM, putM, delM, inI64, maxRow] at *) <;> (try simp only [natCast_eq] at *) <;> omega)
                | ((try dsimp only [newMovSpec, mstartSpec, mhandSpec, mfinSpec, mphaseSpec, maccSpec, Ty.T, Ty.dflt, KT.T, getM, putM, delM, inI64, maxRow] at *) <;> (try simp only [List.length_append, List.length_cons, List.length_nil, List.length_replicate, List.length_take, List.length_drop, natCast_eq] at *) <;> omega)
                | assumption
                | (symm; assumption)
                | (dsimp only; simp only [Bool.or_true, Bool.true_or, Bool.or_false, Bool.false_or, Bool.and_true, Bool.true_and, Bool.and_false, Bool.false_and, Bool.not_true, Bool.not_false, *]; done)
                | (simp; done)
                | (and_intros <;> first | trivial | with_reducible assumption | omega)
                | ((try dsimp only [newMovSpec, mstartSpec, mhandSpec, mfinSpec, mphaseSpec, maccSpec, Ty.T, Ty.dflt, KT.T, getM, putM, delM, inI64, maxRow] at *) <;> simp [*] <;> done))
           | skip
         done)
      | skip)
theorem phs_sound : ConSound Try.prog AI 4 phsSpec.con := PureSpec.sound Try.call4 (fun x h => phs_ok x.1 h)
end Go.Proofs.Ytgdiepbjdpmfbaa
