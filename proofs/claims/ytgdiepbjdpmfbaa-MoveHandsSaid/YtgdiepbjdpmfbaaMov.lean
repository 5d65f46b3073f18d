/-
  Layer 48: a moving end: New, Receive, Start, Finish, Phase, Read, Accepts.
-/
import Derived.Test.YtgdiepbjdpmfbaaRun
namespace Go.Proofs.Ytgdiepbjdpmfbaa
set_option linter.all false
set_option linter.unusedVariables false
set_option linter.unusedSimpArgs false
set_option linter.unusedSectionVars false
open Go.RowKit Go.Sx
set_option maxRecDepth 100000
set_option maxHeartbeats 16000000

/-! ### what the methods do -/
structure OkM (M : Mov) : Prop where
  win : 1 ≤ M.win ∧ M.win ≤ 1048576
  a : M.ph ≠ .moved → StO M.a ∧ M.a.win = M.win
  b : M.ph ≠ .old → StO M.b ∧ M.b.win = M.win
abbrev nilS : Sto := ⟨0, 0, 0, [], 0, false⟩
def newM (w : Int) : Mov := ⟨w, .old, newS w, nilS⟩
abbrev I1 := Tup [DT.cell (.int .i64)]
def rcvM (M : Mov) (p : Int) (s : Seg) : I1 × Mov :=
  match M.ph with
  | .old => if p = 0 then (((putF M.a s.1 s.2.1 s.2.2).1.2.1, ()), ⟨M.win, .old, (putF M.a s.1 s.2.1 s.2.2).2, M.b⟩) else if p = 1 then ((6, ()), ⟨M.win, .old, M.a, M.b⟩) else ((2, ()), ⟨M.win, .old, M.a, M.b⟩)
  | .drain => if p = 0 then (((putF M.a s.1 s.2.1 s.2.2).1.2.1, ()), ⟨M.win, .drain, (putF M.a s.1 s.2.1 s.2.2).2, M.b⟩) else if p = 1 then (((putF M.b s.1 s.2.1 s.2.2).1.2.1, ()), ⟨M.win, .drain, M.a, (putF M.b s.1 s.2.1 s.2.2).2⟩) else ((2, ()), ⟨M.win, .drain, M.a, M.b⟩)
  | .moved => if p = 0 then ((6, ()), ⟨M.win, .moved, M.a, M.b⟩) else if p = 1 then (((putF M.b s.1 s.2.1 s.2.2).1.2.1, ()), ⟨M.win, .moved, M.a, (putF M.b s.1 s.2.1 s.2.2).2⟩) else ((2, ()), ⟨M.win, .moved, M.a, M.b⟩)
def readM (M : Mov) (m : Int) : IL × Mov :=
  match M.ph with
  | .old => ((readF M.a m).1, ⟨M.win, .old, (readF M.a m).2, M.b⟩)
  | .drain => ((readF M.b m).1, ⟨M.win, .drain, M.a, (readF M.b m).2⟩)
  | .moved => ((readF M.b m).1, ⟨M.win, .moved, M.a, (readF M.b m).2⟩)
abbrev phN : Ph → Int
  | .old => 0
  | .drain => 1
  | .moved => 2
def phaseM (M : Mov) : Tup [DT.cell (.int .i64)] := (phN M.ph, ())
def accB (M : Mov) (p : Int) : Bool :=
  match M.ph with
  | .old => decide (p = 0)
  | .drain => decide (p = 0 ∨ p = 1)
  | .moved => decide (p = 1)
def accM (M : Mov) (p : Int) : Tup [DT.cell .bool] := (accB M p, ())
theorem acc_d0 {w p : Int} {a b : Sto} (h : p = 0) : accB ⟨w, .drain, a, b⟩ p = true := by subst h; rfl
theorem acc_d1 {w p : Int} {a b : Sto} (h : p = 1) : accB ⟨w, .drain, a, b⟩ p = true := by subst h; rfl
theorem acc_dn {w p : Int} {a b : Sto} (h : ¬ p = 0 ∧ ¬ p = 1) : accB ⟨w, .drain, a, b⟩ p = false := decide_eq_false (fun e => e.elim h.1 h.2)
theorem acc_m0 {w p : Int} {a b : Sto} (h : p = 0) : accB ⟨w, .moved, a, b⟩ p = false := by subst h; rfl
def startM (M : Mov) : II × Mov :=
  match M.ph with
  | .old => ((M.a.off, 0, ()), ⟨M.win, .drain, M.a, eS M.win M.a.off⟩)
  | .drain => ((0, 6, ()), ⟨M.win, .drain, M.a, M.b⟩)
  | .moved => ((0, 6, ()), ⟨M.win, .moved, M.a, M.b⟩)
def finM (M : Mov) : I1 × Mov :=
  match M.ph with
  | .old => ((6, ()), ⟨M.win, .old, M.a, M.b⟩)
  | .drain => ((0, ()), ⟨M.win, .moved, M.a, M.b⟩)
  | .moved => ((6, ()), ⟨M.win, .moved, M.a, M.b⟩)
theorem three (p : Int) : p = 0 ∨ p = 1 ∨ (¬ p = 0 ∧ ¬ p = 1) := by omega

theorem acc0_inl : ConSound Try.prog AI 22 (inl E0 Try.f22 0) := inl_sound e0Ok mixed (fn := Try.f22) (c := bodyOf Try.f22) Try.call22 (by kernel_rfl) (by kernel_rfl) (by kernel_rfl) 0
noncomputable abbrev Em : Env Ab := ⟨tis, [(22, inl E0 Try.f22 0), (42, runsSpec.con), (40, empSpec.con), (41, endSpec.con), (39, offSpec.con), (38, readSpec.con), (37, putSpec.con), (36, newStoSpec.con)] ++ E0.con⟩
theorem emOk : EnvOk Try.prog AI Em := ((((((((e0Ok.add newSto_sound).add put_sound).add read_sound).add off_sound).add end_sound).add emp_sound).add runs_sound).add acc0_inl)
def newMovSpec : NewSpec Ab := ⟨[.cell (.int .i64)], fun (x : Int × Unit) => decide (1 ≤ x.1 ∧ x.1 ≤ 1048576), [.cell (.int .i64)], fun (x : Int × Unit) => (if 1 ≤ x.1 ∧ x.1 ≤ 1048576 then 0 else 2, ()), fun x => .mov (fun _ => newM (x ()).1)⟩
theorem newMov_no (w : Int) (h : newMovSpec.c (w, ()) = false) : TmplOk Try.prog AI 12 (argS newMovSpec.ds (fun _ => (w, ()))) [] (resOf (.one .nilP :: svs newMovSpec.rs (fun _ => newMovSpec.f (w, ())))) [] := by
  dsimp only [newMovSpec] at h ⊢
  simp only [decide_eq_false_iff_not] at h
  refine tmpl_of_body emOk mixed (fn := Try.f12) (c := bodyOf Try.f12) (by kernel_rfl) (by kernel_rfl) (by kernel_rfl) (Nat.le_of_ble_eq_true (by kernel_rfl)) ?_
  (try (conv in (LoopInv.inv _ _) => dsimp only)); (try (conv in (SS.mk _ _) => cbv; (try dsimp only [newStoSpec, Ty.T, Ty.dflt, KT.T]); (try simp only [natCast_eq])))
  (with_reducible refine (?_ : T1 _ ?_) ?_; rotate_left 1; (conv => lhs; cbv; (try cbv); (try cbv)); intro hT; clear hT; with_reducible refine Sh.mk (by kernel_rfl) ?_)
  repeat' (first
    | with_reducible (first | refine Ck.mk (C := tt) tt_intro ?_ | refine Ck.mk (show drawOk _ _ = true by kernel_rfl) ?_ | refine Ck.all_cons ?_ | refine Ck.all_nil ?_ | refine Ck.mk (by assumption) ?_ | refine Ck.mk (decide_eq_true (by assumption)) ?_ | refine Ck.mk (decide_eq_false (by assumption)) ?_ | refine Ck.mk ?_ ?_)
    | (with_reducible (first | refine Both.mk (fun h => ?_) (fun h => ?_) | refine Alt.mk (fun h => ?_) (fun h => ?_) | refine Pick.mk (fun h => ?_) (fun l1 x l2 h => ?_)) <;> (have hk := h) <;> (try simp only [nrm, reduceCtorEq, pair_eta, map_idL] at h) <;> (try dsimp only [newStoSpec, Ty.T, Ty.dflt, KT.T, getM, putM, delM] at h) <;> (try simp only [natCast_eq] at h) <;> skip <;> (try first | rw [if_pos h] at hr | rw [if_neg h] at hr | rw [ifF h] at hr | rw [ifN h] at hr) <;> (try (have hb : (_ : Bool) = _ := h; clear h; subst hb; (try first | rw [if_pos rfl] at hr | rw [if_neg Bool.false_ne_true] at hr))) <;> first | (exfalso; omega) | exact absurd (h.symm.trans (by assumption) : true = false) Bool.noConfusion | exact absurd (h.symm.trans (by assumption) : false = true) Bool.noConfusion | (with_reducible refine (?_ : T1 _ ?_) ?_; rotate_left 1; (conv => lhs; cbv; (try cbv); (try cbv)); intro hT; clear hT; with_reducible refine Sh.mk (by kernel_rfl) ?_))
    | ((with_reducible refine End.mk ?_); skip)
    | with_reducible exact True.intro)
  all_goals first
    | (fail_if_success (with_reducible refine Exists.intro ?_ ?_)
       first
         | with_reducible rfl
         | with_reducible assumption
         | (symm; with_reducible assumption)
         | omega
         | ((try dsimp only [newStoSpec, Ty.T, Ty.dflt, KT.T, getM, putM, delM, inI64, maxRow]); first | done | with_reducible rfl | with_reducible assumption | (symm; with_reducible assumption) | ((try simp only [natCast_eq, List.nil_append]); first | done | with_reducible rfl | omega | exact take_cg (by omega) | exact drop_cg (by omega) | exact take_drop_cg (by omega) (by omega) | exact take_all (by omega) | exact take_drop_all (by omega) (by omega) | exact drop_take_cg (by omega) (by omega) (by omega)))
         | first | (exfalso; omega) | (rw [if_neg (by omega)]; done)
         | ((try dsimp only [newStoSpec, Ty.T, Ty.dflt, KT.T, getM, putM, delM, inI64, maxRow]); first | (simp only [nrm, reduceCtorEq, pair_eta, map_idL, natCast_eq, inI64, maxRow]; first | done | with_reducible assumption | omega) | exact map_pair_id _)
         | ((try dsimp only [newStoSpec, Ty.T, Ty.dflt, KT.T, getM, putM, delM, inI64, maxRow] at *); first | ((try simp only [natCast_eq] at *) <;> omega) | ((try simp only [lens, natCast_eq] at *) <;> omega))
         | assumption
         | (symm; assumption)
         | (dsimp only; simp only [nrb, *]; done)
         | (simp; done)
         | (and_intros <;> first | trivial | with_reducible assumption | omega)
         | ((try dsimp only [newStoSpec, Ty.T, Ty.dflt, KT.T, getM, putM, delM, inI64, maxRow] at *) <;> simp [*] <;> done))
    | skip
theorem newMov_yes (w : Int) (h : newMovSpec.c (w, ()) = true) : TmplOk Try.prog AI 12 (argS newMovSpec.ds (fun _ => (w, ()))) [] (resOf (.one (.ptr 0 0) :: svs newMovSpec.rs (fun _ => newMovSpec.f (w, ())))) [.abs (newMovSpec.put (fun _ => (w, ())))] := by
  dsimp only [newMovSpec] at h ⊢
  simp only [decide_eq_true_eq] at h
  refine tmpl_new emOk mixed (fn := Try.f12) (c := bodyOf Try.f12) (by kernel_rfl) (by kernel_rfl) (by kernel_rfl) (Nat.le_of_ble_eq_true (by kernel_rfl)) (layOk _) (svs_closed _ _) ?_
  (try (conv in (LoopInv.inv _ _) => dsimp only)); (try (conv in (SS.mk _ _) => cbv; (try dsimp only [newStoSpec, Ty.T, Ty.dflt, KT.T]); (try simp only [natCast_eq])))
  (with_reducible refine (?_ : T1 _ ?_) ?_; rotate_left 1; (conv => lhs; cbv; (try cbv); (try cbv)); intro hT; clear hT; with_reducible refine Sh.mk (by kernel_rfl) ?_)
  repeat' (first
    | with_reducible (first | refine Ck.mk (C := tt) tt_intro ?_ | refine Ck.mk (show drawOk _ _ = true by kernel_rfl) ?_ | refine Ck.all_cons ?_ | refine Ck.all_nil ?_ | refine Ck.mk (by assumption) ?_ | refine Ck.mk (decide_eq_true (by assumption)) ?_ | refine Ck.mk (decide_eq_false (by assumption)) ?_ | refine Ck.mk ?_ ?_)
    | (with_reducible (first | refine Both.mk (fun h => ?_) (fun h => ?_) | refine Alt.mk (fun h => ?_) (fun h => ?_) | refine Pick.mk (fun h => ?_) (fun l1 x l2 h => ?_)) <;> (have hk := h) <;> (try simp only [nrm, reduceCtorEq, pair_eta, map_idL] at h) <;> (try dsimp only [newStoSpec, Ty.T, Ty.dflt, KT.T, getM, putM, delM] at h) <;> (try simp only [natCast_eq] at h) <;> skip <;> (try first | rw [if_pos h] at hr | rw [if_neg h] at hr | rw [ifF h] at hr | rw [ifN h] at hr) <;> (try (have hb : (_ : Bool) = _ := h; clear h; subst hb; (try first | rw [if_pos rfl] at hr | rw [if_neg Bool.false_ne_true] at hr))) <;> first | (exfalso; omega) | exact absurd (h.symm.trans (by assumption) : true = false) Bool.noConfusion | exact absurd (h.symm.trans (by assumption) : false = true) Bool.noConfusion | (with_reducible refine (?_ : T1 _ ?_) ?_; rotate_left 1; (conv => lhs; cbv; (try cbv); (try cbv)); intro hT; clear hT; with_reducible refine Sh.mk (by kernel_rfl) ?_))
    | ((with_reducible refine End.mk ?_); skip)
    | with_reducible exact True.intro)
  all_goals (try simp only [decide_eq_true_eq, decide_eq_false_iff_not] at *)
  all_goals first
    | (exfalso; omega)
    | (refine ⟨[1, 0], by decide, ?_⟩; cbv)
    | skip
  repeat' (first | refine Ck.mk trivial ?_ | refine Ck.mk (by assumption) ?_ | refine Ck.mk ?_ ?_ | refine End.mk ?_ | exact trivial)
  all_goals first
    | (fail_if_success (with_reducible refine Exists.intro ?_ ?_)
       first
         | with_reducible rfl
         | with_reducible assumption
         | (symm; with_reducible assumption)
         | omega
         | ((try dsimp only [newStoSpec, Ty.T, Ty.dflt, KT.T, getM, putM, delM, inI64, maxRow]); first | done | with_reducible rfl | with_reducible assumption | (symm; with_reducible assumption) | ((try simp only [natCast_eq, List.nil_append]); first | done | with_reducible rfl | omega | exact take_cg (by omega) | exact drop_cg (by omega) | exact take_drop_cg (by omega) (by omega) | exact take_all (by omega) | exact take_drop_all (by omega) (by omega) | exact drop_take_cg (by omega) (by omega) (by omega)))
         | first | (rw [if_pos (by omega)]; done)
         | ((try dsimp only [newStoSpec, Ty.T, Ty.dflt, KT.T, getM, putM, delM, inI64, maxRow]); first | (simp only [nrm, reduceCtorEq, pair_eta, map_idL, natCast_eq, inI64, maxRow]; first | done | with_reducible assumption | omega) | exact map_pair_id _)
         | ((try dsimp only [newStoSpec, Ty.T, Ty.dflt, KT.T, getM, putM, delM, inI64, maxRow] at *); first | ((try simp only [natCast_eq] at *) <;> omega) | ((try simp only [lens, natCast_eq] at *) <;> omega))
         | assumption
         | (symm; assumption)
         | (dsimp only; simp only [nrb, *]; done)
         | (simp; done)
         | (and_intros <;> first | trivial | with_reducible assumption | omega)
         | ((try dsimp only [newStoSpec, Ty.T, Ty.dflt, KT.T, getM, putM, delM, inI64, maxRow] at *) <;> simp [*] <;> done))
    | skip
theorem newMov_sound : ConSound Try.prog AI 12 newMovSpec.con := NewSpec.sound Try.call12 ⟨fun _ => rfl, fun x h => newMov_yes x.1 h, fun x h => newMov_no x.1 h⟩
def mphaseSpec : MethSpec Ab := ⟨Mov, selM, .mov, true, [], fun S (x : Unit) => True, [.cell (.int .i64)], fun S (x : Unit) => phaseM S , fun S _ => S⟩
theorem mphase_ok (S : Mov)  (h : mphaseSpec.pre S (())) : TmplOk Try.prog AI 21 (Sx.one (.ptr 0 0) :: argS mphaseSpec.ds (fun _ => (()))) [.abs (mphaseSpec.put (fun _ => S))] (resOf (svs mphaseSpec.rs (fun _ => mphaseSpec.f S (())))) [.abs (mphaseSpec.put (fun _ => mphaseSpec.next S (())))] := by
  dsimp only [mphaseSpec] at h ⊢
  obtain ⟨w, ph, a, b⟩ := S
  cases ph
  all_goals
    (refine tmpl_obj e0Ok mixed (fn := Try.f21) (c := bodyOf Try.f21) (by kernel_rfl) (by kernel_rfl) (by kernel_rfl) (Nat.le_of_ble_eq_true (by kernel_rfl)) (layOk _) (layOk _) rfl rfl (resOf_closed (svs_closed _ _)) ?_
     (try (conv in (LoopInv.inv _ _) => dsimp only)); (try (conv in (SS.mk _ _) => cbv; (try dsimp only [Ty.T, Ty.dflt, KT.T]); (try simp only [natCast_eq])))
     (with_reducible refine (?_ : T1 _ ?_) ?_; rotate_left 1; (conv => lhs; cbv; (try cbv); (try cbv)); intro hT; clear hT; with_reducible refine Sh.mk (by kernel_rfl) ?_)
     repeat' (first
       | with_reducible (first | refine Ck.mk (C := tt) tt_intro ?_ | refine Ck.mk (show drawOk _ _ = true by kernel_rfl) ?_ | refine Ck.all_cons ?_ | refine Ck.all_nil ?_ | refine Ck.mk (by assumption) ?_ | refine Ck.mk (decide_eq_true (by assumption)) ?_ | refine Ck.mk (decide_eq_false (by assumption)) ?_ | refine Ck.mk ?_ ?_)
       | (with_reducible (first | refine Both.mk (fun h => ?_) (fun h => ?_) | refine Alt.mk (fun h => ?_) (fun h => ?_) | refine Pick.mk (fun h => ?_) (fun l1 x l2 h => ?_)) <;> (have hk := h) <;> (try simp only [nrm, reduceCtorEq, pair_eta, map_idL] at h) <;> (try dsimp only [Ty.T, Ty.dflt, KT.T, getM, putM, delM] at h) <;> (try simp only [natCast_eq] at h) <;> skip <;> (try first | rw [if_pos h] at hr | rw [if_neg h] at hr | rw [ifF h] at hr | rw [ifN h] at hr) <;> (try (have hb : (_ : Bool) = _ := h; clear h; subst hb; (try first | rw [if_pos rfl] at hr | rw [if_neg Bool.false_ne_true] at hr))) <;> first | (exfalso; omega) | exact absurd (h.symm.trans (by assumption) : true = false) Bool.noConfusion | exact absurd (h.symm.trans (by assumption) : false = true) Bool.noConfusion | (with_reducible refine (?_ : T1 _ ?_) ?_; rotate_left 1; (conv => lhs; cbv; (try cbv); (try cbv)); intro hT; clear hT; with_reducible refine Sh.mk (by kernel_rfl) ?_))
       | ((with_reducible refine End.mk ?_); skip)
       | with_reducible exact True.intro)
     all_goals first
       | (fail_if_success (with_reducible refine Exists.intro ?_ ?_)
          first
            | with_reducible rfl
            | with_reducible assumption
            | (symm; with_reducible assumption)
            | omega
            | ((try dsimp only [Ty.T, Ty.dflt, KT.T, getM, putM, delM, inI64, maxRow]); first | done | with_reducible rfl | with_reducible assumption | (symm; with_reducible assumption) | ((try simp only [natCast_eq, List.nil_append]); first | done | with_reducible rfl | omega | exact take_cg (by omega) | exact drop_cg (by omega) | exact take_drop_cg (by omega) (by omega) | exact take_all (by omega) | exact take_drop_all (by omega) (by omega) | exact drop_take_cg (by omega) (by omega) (by omega)))
            | ((try dsimp only [Ty.T, Ty.dflt, KT.T, getM, putM, delM, inI64, maxRow]); first | (simp only [nrm, reduceCtorEq, pair_eta, map_idL, natCast_eq, inI64, maxRow]; first | done | with_reducible assumption | omega) | exact map_pair_id _)
            | ((try dsimp only [Ty.T, Ty.dflt, KT.T, getM, putM, delM, inI64, maxRow] at *); first | ((try simp only [natCast_eq] at *) <;> omega) | ((try simp only [lens, natCast_eq] at *) <;> omega))
            | assumption
            | (symm; assumption)
            | (dsimp only; simp only [nrb, *]; done)
            | (simp; done)
            | (and_intros <;> first | trivial | with_reducible assumption | omega)
            | ((try dsimp only [Ty.T, Ty.dflt, KT.T, getM, putM, delM, inI64, maxRow] at *) <;> simp [*] <;> done))
       | skip)
theorem mphase_sound : ConSound Try.prog AI 21 mphaseSpec.con := MethSpec.sound Try.call21 ⟨fun a W h => by cases a <;> cases h; rfl, fun _ _ _ => rfl, fun W x h => mphase_ok W  h⟩
def maccSpec : MethSpec Ab := ⟨Mov, selM, .mov, true, [.cell (.int .i64)], fun S (x : Int × Unit) => True, [.cell .bool], fun S (x : Int × Unit) => accM S x.1, fun S _ => S⟩
theorem macc_ok (S : Mov) (p : Int) (h : maccSpec.pre S (p, ())) : TmplOk Try.prog AI 22 (Sx.one (.ptr 0 0) :: argS maccSpec.ds (fun _ => (p, ()))) [.abs (maccSpec.put (fun _ => S))] (resOf (svs maccSpec.rs (fun _ => maccSpec.f S (p, ())))) [.abs (maccSpec.put (fun _ => maccSpec.next S (p, ())))] := by
  dsimp only [maccSpec] at h ⊢
  obtain ⟨w, ph, a, b⟩ := S
  cases ph <;> rcases three p with hp | hp | hp
  all_goals
    (refine tmpl_obj e0Ok mixed (fn := Try.f22) (c := bodyOf Try.f22) (by kernel_rfl) (by kernel_rfl) (by kernel_rfl) (Nat.le_of_ble_eq_true (by kernel_rfl)) (layOk _) (layOk _) rfl rfl (resOf_closed (svs_closed _ _)) ?_
     (try (conv in (LoopInv.inv _ _) => dsimp only)); (try (conv in (SS.mk _ _) => cbv; (try dsimp only [Ty.T, Ty.dflt, KT.T]); (try simp only [natCast_eq])))
     (with_reducible refine (?_ : T1 _ ?_) ?_; rotate_left 1; (conv => lhs; cbv; (try cbv); (try cbv)); intro hT; clear hT; with_reducible refine Sh.mk (by kernel_rfl) ?_)
     repeat' (first
       | with_reducible (first | refine Ck.mk (C := tt) tt_intro ?_ | refine Ck.mk (show drawOk _ _ = true by kernel_rfl) ?_ | refine Ck.all_cons ?_ | refine Ck.all_nil ?_ | refine Ck.mk (by assumption) ?_ | refine Ck.mk (decide_eq_true (by assumption)) ?_ | refine Ck.mk (decide_eq_false (by assumption)) ?_ | refine Ck.mk ?_ ?_)
       | (with_reducible (first | refine Both.mk (fun h => ?_) (fun h => ?_) | refine Alt.mk (fun h => ?_) (fun h => ?_) | refine Pick.mk (fun h => ?_) (fun l1 x l2 h => ?_)) <;> (have hk := h) <;> (try simp only [nrm, reduceCtorEq, pair_eta, map_idL] at h) <;> (try dsimp only [Ty.T, Ty.dflt, KT.T, getM, putM, delM] at h) <;> (try simp only [natCast_eq] at h) <;> skip <;> (try first | rw [if_pos h] at hr | rw [if_neg h] at hr | rw [ifF h] at hr | rw [ifN h] at hr) <;> (try (have hb : (_ : Bool) = _ := h; clear h; subst hb; (try first | rw [if_pos rfl] at hr | rw [if_neg Bool.false_ne_true] at hr))) <;> first | (exfalso; omega) | exact absurd (h.symm.trans (by assumption) : true = false) Bool.noConfusion | exact absurd (h.symm.trans (by assumption) : false = true) Bool.noConfusion | (with_reducible refine (?_ : T1 _ ?_) ?_; rotate_left 1; (conv => lhs; cbv; (try cbv); (try cbv)); intro hT; clear hT; with_reducible refine Sh.mk (by kernel_rfl) ?_))
       | ((with_reducible refine End.mk ?_); skip)
       | with_reducible exact True.intro)
     all_goals first
       | (fail_if_success (with_reducible refine Exists.intro ?_ ?_)
          first
            | with_reducible rfl
            | with_reducible assumption
            | (symm; with_reducible assumption)
            | omega
            | ((try dsimp only [Ty.T, Ty.dflt, KT.T, getM, putM, delM, inI64, maxRow]); first | done | with_reducible rfl | with_reducible assumption | (symm; with_reducible assumption) | ((try simp only [natCast_eq, List.nil_append]); first | done | with_reducible rfl | omega | exact take_cg (by omega) | exact drop_cg (by omega) | exact take_drop_cg (by omega) (by omega) | exact take_all (by omega) | exact take_drop_all (by omega) (by omega) | exact drop_take_cg (by omega) (by omega) (by omega)))
            | first | exact (acc_d0 (w := w) (a := a) (b := b) hp).symm | exact (acc_d1 (w := w) (a := a) (b := b) hp).symm | exact (acc_dn (w := w) (a := a) (b := b) hp).symm | exact (acc_m0 (w := w) (a := a) (b := b) hp).symm
            | ((try dsimp only [Ty.T, Ty.dflt, KT.T, getM, putM, delM, inI64, maxRow]); first | (simp only [nrm, reduceCtorEq, pair_eta, map_idL, natCast_eq, inI64, maxRow]; first | done | with_reducible assumption | omega) | exact map_pair_id _)
            | ((try dsimp only [Ty.T, Ty.dflt, KT.T, getM, putM, delM, inI64, maxRow] at *); first | ((try simp only [natCast_eq] at *) <;> omega) | ((try simp only [lens, natCast_eq] at *) <;> omega))
            | assumption
            | (symm; assumption)
            | (dsimp only; simp only [nrb, *]; done)
            | (simp; done)
            | (and_intros <;> first | trivial | with_reducible assumption | omega)
            | ((try dsimp only [Ty.T, Ty.dflt, KT.T, getM, putM, delM, inI64, maxRow] at *) <;> simp [*] <;> done))
       | skip)
theorem macc_sound : ConSound Try.prog AI 22 maccSpec.con := MethSpec.sound Try.call22 ⟨fun a W h => by cases a <;> cases h; rfl, fun _ _ _ => rfl, fun W x h => macc_ok W x.1 h⟩
def mreadSpec : MethSpec Ab := ⟨Mov, selM, .mov, false, [.cell (.int .i64)], fun S (x : Int × Unit) => OkM S, [.lst (.int .u8)], fun S (x : Int × Unit) => (readM S x.1).1, fun S (x : Int × Unit) => (readM S x.1).2⟩
theorem mread_ok (S : Mov) (m : Int) (h : mreadSpec.pre S (m, ())) : TmplOk Try.prog AI 15 (Sx.one (.ptr 0 0) :: argS mreadSpec.ds (fun _ => (m, ()))) [.abs (mreadSpec.put (fun _ => S))] (resOf (svs mreadSpec.rs (fun _ => mreadSpec.f S (m, ())))) [.abs (mreadSpec.put (fun _ => mreadSpec.next S (m, ())))] := by
  dsimp only [mreadSpec] at h ⊢
  have hM := h
  obtain ⟨w, ph, a, b⟩ := S
  cases ph <;> dsimp only [readM] <;> generalize hqa : readF a m = qa <;> generalize hqb : readF b m = qb
  all_goals
    (refine tmpl_obj emOk mixed (fn := Try.f15) (c := bodyOf Try.f15) (by kernel_rfl) (by kernel_rfl) (by kernel_rfl) (Nat.le_of_ble_eq_true (by kernel_rfl)) (layOk _) (layOk _) rfl rfl (resOf_closed (svs_closed _ _)) ?_
     (try (conv in (LoopInv.inv _ _) => dsimp only)); (try (conv in (SS.mk _ _) => cbv; (try dsimp only [readSpec, Ty.T, Ty.dflt, KT.T]); (try simp only [natCast_eq])))
     (with_reducible refine (?_ : T1 _ ?_) ?_; rotate_left 1; (conv => lhs; cbv; (try cbv); (try cbv)); intro hT; clear hT; with_reducible refine Sh.mk (by kernel_rfl) ?_)
     repeat' (first
       | with_reducible (first | refine Ck.mk (C := tt) tt_intro ?_ | refine Ck.mk (show drawOk _ _ = true by kernel_rfl) ?_ | refine Ck.all_cons ?_ | refine Ck.all_nil ?_ | refine Ck.mk (by assumption) ?_ | refine Ck.mk (decide_eq_true (by assumption)) ?_ | refine Ck.mk (decide_eq_false (by assumption)) ?_ | refine Ck.mk ?_ ?_)
       | (with_reducible (first | refine Both.mk (fun h => ?_) (fun h => ?_) | refine Alt.mk (fun h => ?_) (fun h => ?_) | refine Pick.mk (fun h => ?_) (fun l1 x l2 h => ?_)) <;> (have hk := h) <;> (try simp only [nrm, reduceCtorEq, pair_eta, map_idL] at h) <;> (try dsimp only [readSpec, Ty.T, Ty.dflt, KT.T, getM, putM, delM] at h) <;> (try simp only [natCast_eq] at h) <;> skip <;> (try first | rw [if_pos h] at hr | rw [if_neg h] at hr | rw [ifF h] at hr | rw [ifN h] at hr) <;> (try (have hb : (_ : Bool) = _ := h; clear h; subst hb; (try first | rw [if_pos rfl] at hr | rw [if_neg Bool.false_ne_true] at hr))) <;> first | (exfalso; omega) | exact absurd (h.symm.trans (by assumption) : true = false) Bool.noConfusion | exact absurd (h.symm.trans (by assumption) : false = true) Bool.noConfusion | (with_reducible refine (?_ : T1 _ ?_) ?_; rotate_left 1; (conv => lhs; cbv; (try cbv); (try cbv)); intro hT; clear hT; with_reducible refine Sh.mk (by kernel_rfl) ?_))
       | ((with_reducible refine End.mk ?_); skip)
       | with_reducible exact True.intro)
     all_goals first
       | (fail_if_success (with_reducible refine Exists.intro ?_ ?_)
          first
            | with_reducible rfl
            | with_reducible assumption
            | (symm; with_reducible assumption)
            | omega
            | ((try dsimp only [readSpec, Ty.T, Ty.dflt, KT.T, getM, putM, delM, inI64, maxRow]); first | done | with_reducible rfl | with_reducible assumption | (symm; with_reducible assumption) | ((try simp only [natCast_eq, List.nil_append]); first | done | with_reducible rfl | omega | exact take_cg (by omega) | exact drop_cg (by omega) | exact take_drop_cg (by omega) (by omega) | exact take_all (by omega) | exact take_drop_all (by omega) (by omega) | exact drop_take_cg (by omega) (by omega) (by omega)))
            | first | exact (hM.a (fun e => by cases e)).1.pre | exact (hM.b (fun e => by cases e)).1.pre | exact congrArg Prod.snd hqa | exact congrArg Prod.snd hqb | exact congrArg (fun q => q.1.1) hqa | exact congrArg (fun q => q.1.1) hqb
            | ((try dsimp only [readSpec, Ty.T, Ty.dflt, KT.T, getM, putM, delM, inI64, maxRow]); first | (simp only [nrm, reduceCtorEq, pair_eta, map_idL, natCast_eq, inI64, maxRow]; first | done | with_reducible assumption | omega) | exact map_pair_id _)
            | ((try dsimp only [readSpec, Ty.T, Ty.dflt, KT.T, getM, putM, delM, inI64, maxRow] at *); first | ((try simp only [natCast_eq] at *) <;> omega) | ((try simp only [lens, natCast_eq] at *) <;> omega))
            | assumption
            | (symm; assumption)
            | (dsimp only; simp only [nrb, *]; done)
            | (simp; done)
            | (and_intros <;> first | trivial | with_reducible assumption | omega)
            | ((try dsimp only [readSpec, Ty.T, Ty.dflt, KT.T, getM, putM, delM, inI64, maxRow] at *) <;> simp [*] <;> done))
       | skip)
theorem mread_sound : ConSound Try.prog AI 15 mreadSpec.con := MethSpec.sound Try.call15 ⟨fun a W h => by cases a <;> cases h; rfl, (fun h => by cases h), fun W x h => mread_ok W x.1 h⟩
def mstartSpec : MethSpec Ab := ⟨Mov, selM, .mov, false, [], fun S (x : Unit) => OkM S ∧ (S.ph = .old → S.a.off ≤ 1099511627776), [.cell (.int .i64), .cell (.int .i64)], fun S (x : Unit) => (startM S ).1, fun S (x : Unit) => (startM S ).2⟩
theorem mstart_ok (S : Mov)  (h : mstartSpec.pre S (())) : TmplOk Try.prog AI 16 (Sx.one (.ptr 0 0) :: argS mstartSpec.ds (fun _ => (()))) [.abs (mstartSpec.put (fun _ => S))] (resOf (svs mstartSpec.rs (fun _ => mstartSpec.f S (())))) [.abs (mstartSpec.put (fun _ => mstartSpec.next S (())))] := by
  dsimp only [mstartSpec] at h ⊢
  obtain ⟨hM, h40⟩ := h
  obtain ⟨w, ph, a, b⟩ := S
  cases ph <;> dsimp only [startM]
  all_goals
    (refine tmpl_obj emOk mixed (fn := Try.f16) (c := bodyOf Try.f16) (by kernel_rfl) (by kernel_rfl) (by kernel_rfl) (Nat.le_of_ble_eq_true (by kernel_rfl)) (layOk _) (layOk _) rfl rfl (resOf_closed (svs_closed _ _)) ?_
     (try (conv in (LoopInv.inv _ _) => dsimp only)); (try (conv in (SS.mk _ _) => cbv; (try dsimp only [offSpec, offF, empSpec, Ty.T, Ty.dflt, KT.T]); (try simp only [natCast_eq])))
     (with_reducible refine (?_ : T1 _ ?_) ?_; rotate_left 1; (conv => lhs; cbv; (try cbv); (try cbv)); intro hT; clear hT; with_reducible refine Sh.mk (by kernel_rfl) ?_)
     repeat' (first
       | with_reducible (first | refine Ck.mk (C := tt) tt_intro ?_ | refine Ck.mk (show drawOk _ _ = true by kernel_rfl) ?_ | refine Ck.all_cons ?_ | refine Ck.all_nil ?_ | refine Ck.mk (by assumption) ?_ | refine Ck.mk (decide_eq_true (by assumption)) ?_ | refine Ck.mk (decide_eq_false (by assumption)) ?_ | refine Ck.mk ?_ ?_)
       | (with_reducible (first | refine Both.mk (fun h => ?_) (fun h => ?_) | refine Alt.mk (fun h => ?_) (fun h => ?_) | refine Pick.mk (fun h => ?_) (fun l1 x l2 h => ?_)) <;> (have hk := h) <;> (try simp only [nrm, reduceCtorEq, pair_eta, map_idL] at h) <;> (try dsimp only [offSpec, offF, empSpec, Ty.T, Ty.dflt, KT.T, getM, putM, delM] at h) <;> (try simp only [natCast_eq] at h) <;> skip <;> (try first | rw [if_pos h] at hr | rw [if_neg h] at hr | rw [ifF h] at hr | rw [ifN h] at hr) <;> (try (have hb : (_ : Bool) = _ := h; clear h; subst hb; (try first | rw [if_pos rfl] at hr | rw [if_neg Bool.false_ne_true] at hr))) <;> first | (exfalso; omega) | exact absurd (h.symm.trans (by assumption) : true = false) Bool.noConfusion | exact absurd (h.symm.trans (by assumption) : false = true) Bool.noConfusion | (with_reducible refine (?_ : T1 _ ?_) ?_; rotate_left 1; (conv => lhs; cbv; (try cbv); (try cbv)); intro hT; clear hT; with_reducible refine Sh.mk (by kernel_rfl) ?_))
       | ((with_reducible refine End.mk ?_); skip)
       | with_reducible exact True.intro)
     all_goals first
       | (fail_if_success (with_reducible refine Exists.intro ?_ ?_)
          first
            | with_reducible rfl
            | with_reducible assumption
            | (symm; with_reducible assumption)
            | omega
            | ((try dsimp only [offSpec, offF, empSpec, Ty.T, Ty.dflt, KT.T, getM, putM, delM, inI64, maxRow]); first | done | with_reducible rfl | with_reducible assumption | (symm; with_reducible assumption) | ((try simp only [natCast_eq, List.nil_append]); first | done | with_reducible rfl | omega | exact take_cg (by omega) | exact drop_cg (by omega) | exact take_drop_cg (by omega) (by omega) | exact take_all (by omega) | exact take_drop_all (by omega) (by omega) | exact drop_take_cg (by omega) (by omega) (by omega)))
            | exact ⟨hM.win, (hM.a (fun e => by cases e)).1.off.1, h40 rfl⟩
            | ((try dsimp only [offSpec, offF, empSpec, Ty.T, Ty.dflt, KT.T, getM, putM, delM, inI64, maxRow]); first | (simp only [nrm, reduceCtorEq, pair_eta, map_idL, natCast_eq, inI64, maxRow]; first | done | with_reducible assumption | omega) | exact map_pair_id _)
            | ((try dsimp only [offSpec, offF, empSpec, Ty.T, Ty.dflt, KT.T, getM, putM, delM, inI64, maxRow] at *); first | ((try simp only [natCast_eq] at *) <;> omega) | ((try simp only [lens, natCast_eq] at *) <;> omega))
            | assumption
            | (symm; assumption)
            | (dsimp only; simp only [nrb, *]; done)
            | (simp; done)
            | (and_intros <;> first | trivial | with_reducible assumption | omega)
            | ((try dsimp only [offSpec, offF, empSpec, Ty.T, Ty.dflt, KT.T, getM, putM, delM, inI64, maxRow] at *) <;> simp [*] <;> done))
       | skip)
theorem mstart_sound : ConSound Try.prog AI 16 mstartSpec.con := MethSpec.sound Try.call16 ⟨fun a W h => by cases a <;> cases h; rfl, (fun h => by cases h), fun W x h => mstart_ok W  h⟩
def mrcvSpec : MethSpec Ab := ⟨Mov, selM, .mov, false, [.cell (.int .i64), SegT], fun S (x : Int × (Int × List Int × Bool) × Unit) => OkM S ∧ x.2.1.2.1.length ≤ 1048576, [.cell (.int .i64)], fun S (x : Int × (Int × List Int × Bool) × Unit) => (rcvM S x.1 x.2.1).1, fun S (x : Int × (Int × List Int × Bool) × Unit) => (rcvM S x.1 x.2.1).2⟩
theorem mrcv_ok (S : Mov) (p : Int) (s : Int × List Int × Bool) (h : mrcvSpec.pre S (p, s, ())) : TmplOk Try.prog AI 13 (Sx.one (.ptr 0 0) :: argS mrcvSpec.ds (fun _ => (p, s, ()))) [.abs (mrcvSpec.put (fun _ => S))] (resOf (svs mrcvSpec.rs (fun _ => mrcvSpec.f S (p, s, ())))) [.abs (mrcvSpec.put (fun _ => mrcvSpec.next S (p, s, ())))] := by
  dsimp only [mrcvSpec] at h ⊢
  obtain ⟨h9, hl⟩ := h
  obtain ⟨w, ph, a, b⟩ := S
  obtain ⟨so, sd, sl⟩ := s
  cases ph <;> rcases three p with hp | hp | hp <;> dsimp only [rcvM] <;> (repeat (first | rw [if_pos hp] | rw [if_neg (show ¬ p = 0 by omega)] | rw [if_neg (show ¬ p = 1 by omega)])) <;> dsimp only <;> generalize hqa : putF a so sd sl = qa <;> generalize hqb : putF b so sd sl = qb
  all_goals
    (refine tmpl_obj emOk mixed (fn := Try.f13) (c := bodyOf Try.f13) (by kernel_rfl) (by kernel_rfl) (by kernel_rfl) (Nat.le_of_ble_eq_true (by kernel_rfl)) (layOk _) (layOk _) rfl rfl (resOf_closed (svs_closed _ _)) ?_
     (try (conv in (LoopInv.inv _ _) => dsimp only)); (try (conv in (SS.mk _ _) => cbv; (try dsimp only [putSpec, Ty.T, Ty.dflt, KT.T]); (try simp only [natCast_eq])))
     (with_reducible refine (?_ : T1 _ ?_) ?_; rotate_left 1; (conv => lhs; cbv; (try cbv); (try cbv)); intro hT; clear hT; with_reducible refine Sh.mk (by kernel_rfl) ?_)
     repeat' (first
       | with_reducible (first | refine Ck.mk (C := tt) tt_intro ?_ | refine Ck.mk (show drawOk _ _ = true by kernel_rfl) ?_ | refine Ck.all_cons ?_ | refine Ck.all_nil ?_ | refine Ck.mk (by assumption) ?_ | refine Ck.mk (decide_eq_true (by assumption)) ?_ | refine Ck.mk (decide_eq_false (by assumption)) ?_ | refine Ck.mk ?_ ?_)
       | (with_reducible (first | refine Both.mk (fun h => ?_) (fun h => ?_) | refine Alt.mk (fun h => ?_) (fun h => ?_) | refine Pick.mk (fun h => ?_) (fun l1 x l2 h => ?_)) <;> (have hk := h) <;> (try simp only [nrm, reduceCtorEq, pair_eta, map_idL] at h) <;> (try dsimp only [putSpec, Ty.T, Ty.dflt, KT.T, getM, putM, delM] at h) <;> (try simp only [natCast_eq] at h) <;> skip <;> (try first | rw [if_pos h] at hr | rw [if_neg h] at hr | rw [ifF h] at hr | rw [ifN h] at hr) <;> (try (have hb : (_ : Bool) = _ := h; clear h; subst hb; (try first | rw [if_pos rfl] at hr | rw [if_neg Bool.false_ne_true] at hr))) <;> first | (exfalso; omega) | exact absurd (h.symm.trans (by assumption) : true = false) Bool.noConfusion | exact absurd (h.symm.trans (by assumption) : false = true) Bool.noConfusion | (with_reducible refine (?_ : T1 _ ?_) ?_; rotate_left 1; (conv => lhs; cbv; (try cbv); (try cbv)); intro hT; clear hT; with_reducible refine Sh.mk (by kernel_rfl) ?_))
       | ((with_reducible refine End.mk ?_); skip)
       | with_reducible exact True.intro)
     all_goals first
       | (fail_if_success (with_reducible refine Exists.intro ?_ ?_)
          first
            | with_reducible rfl
            | with_reducible assumption
            | (symm; with_reducible assumption)
            | omega
            | ((try dsimp only [putSpec, Ty.T, Ty.dflt, KT.T, getM, putM, delM, inI64, maxRow]); first | done | with_reducible rfl | with_reducible assumption | (symm; with_reducible assumption) | ((try simp only [natCast_eq, List.nil_append]); first | done | with_reducible rfl | omega | exact take_cg (by omega) | exact drop_cg (by omega) | exact take_drop_cg (by omega) (by omega) | exact take_all (by omega) | exact take_drop_all (by omega) (by omega) | exact drop_take_cg (by omega) (by omega) (by omega)))
            | first | exact ⟨(h9.a (fun e => by cases e)).1.pre, hl⟩ | exact ⟨(h9.b (fun e => by cases e)).1.pre, hl⟩ | exact congrArg Prod.snd hqa | exact congrArg Prod.snd hqb | exact congrArg (fun q => q.1.2.1) hqa | exact congrArg (fun q => q.1.2.1) hqb
            | ((try dsimp only [putSpec, Ty.T, Ty.dflt, KT.T, getM, putM, delM, inI64, maxRow]); first | (simp only [nrm, reduceCtorEq, pair_eta, map_idL, natCast_eq, inI64, maxRow]; first | done | with_reducible assumption | omega) | exact map_pair_id _)
            | ((try dsimp only [putSpec, Ty.T, Ty.dflt, KT.T, getM, putM, delM, inI64, maxRow] at *); first | ((try simp only [natCast_eq] at *) <;> omega) | ((try simp only [lens, natCast_eq] at *) <;> omega))
            | assumption
            | (symm; assumption)
            | (dsimp only; simp only [nrb, *]; done)
            | (simp; done)
            | (and_intros <;> first | trivial | with_reducible assumption | omega)
            | ((try dsimp only [putSpec, Ty.T, Ty.dflt, KT.T, getM, putM, delM, inI64, maxRow] at *) <;> simp [*] <;> done))
       | skip)
theorem mrcv_sound : ConSound Try.prog AI 13 mrcvSpec.con := MethSpec.sound Try.call13 ⟨fun a W h => by cases a <;> cases h; rfl, (fun h => by cases h), fun W x h => mrcv_ok W x.1 x.2.1 h⟩
end Go.Proofs.Ytgdiepbjdpmfbaa
