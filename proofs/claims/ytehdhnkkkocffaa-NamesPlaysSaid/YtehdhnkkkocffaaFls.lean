/-
  Layer 40: what an act does; the view of a directory.
-/
import Derived.Test.YtehdhnkkkocffaaSeq
namespace Go.Proofs.Ytehdhnkkkocffaa
set_option linter.all false
set_option linter.unusedVariables false
set_option linter.unusedSimpArgs false
set_option linter.unusedSectionVars false
open Go.RowKit Go.Sx
set_option maxRecDepth 100000
set_option maxHeartbeats 16000000
abbrev I64 : Ty := .int .i64
abbrev actE : Ty := .pair I64 (.pair .str (.pair I64 (.pair I64 (.pair I64 (.pair I64 I64)))))
abbrev TA := Int × List Int × Int × Int × Int × Int × Int
def doF (D : DirL) (a : TA) : PlI × DirL :=
  if a.1 = 0 then bindF D a.2.1 a.2.2.1 a.2.2.2.1 a.2.2.2.2.2.1 a.2.2.2.2.2.2
  else if a.1 = 1 then (plR (0, 0, 0) (renewF D a.2.1 a.2.2.2.2.1 a.2.2.2.2.2.1).1.1, (renewF D a.2.1 a.2.2.2.2.1 a.2.2.2.2.2.1).2)
  else if a.1 = 2 then moveF D a.2.1 a.2.2.2.2.1 a.2.2.1 a.2.2.2.1 a.2.2.2.2.2.1
  else if a.1 = 3 then (plR (0, 0, 0) (dropF D a.2.1 a.2.2.2.2.1).1.1, (dropF D a.2.1 a.2.2.2.2.1).2)
  else (lookF D a.2.1 a.2.2.2.2.2.1, D)
noncomputable abbrev Eq0 : Env Ab := ⟨tis, [(16, dropSpec.con), (18, moveSpec.con), (19, renewSpec.con), (17, lookSpec.con), (15, bindSpec.con)] ++ E0.con⟩
theorem eq0Ok : EnvOk Try.prog AI Eq0 := (((((e0Ok.add bind_sound).add look_sound).add renew_sound).add move_sound).add drop_sound)
def mdoSpec : MethSpec Ab := ⟨DirL, selD, .dir, false, [.cell actE], fun S (x : TA × Unit) => OkD S ∧ inBytes x.1.2.1, [.cell PlE, .cell (.int .i64)], fun S (x : TA × Unit) => (doF S x.1).1, fun S (x : TA × Unit) => (doF S x.1).2⟩
theorem mdo_ok (S : DirL) (a : TA) (h : mdoSpec.pre S (a, ())) : TmplOk Try.prog AI 14 (Sx.one (.ptr 0 0) :: argS mdoSpec.ds (fun _ => (a, ()))) [.abs (mdoSpec.put (fun _ => S))] (resOf (svs mdoSpec.rs (fun _ => mdoSpec.f S (a, ())))) [.abs (mdoSpec.put (fun _ => mdoSpec.next S (a, ())))] := by
  dsimp only [mdoSpec] at h ⊢
  generalize hr : doF S a = r
  have hP := h
  dsimp only [doF] at hr
  refine tmpl_of_body eq0Ok mixed (fn := Try.f14) (c := bodyOf Try.f14) (by kernel_rfl) (by kernel_rfl) (by kernel_rfl) (Nat.le_of_ble_eq_true (by kernel_rfl)) ?_
  (try (conv in (LoopInv.inv _ _) => dsimp only)); (try (conv in (SS.mk _ _) => cbv; (try dsimp only [bindSpec, lookSpec, renewSpec, moveSpec, dropSpec, Ty.T, Ty.dflt, KT.T]); (try simp only [natCast_eq])))
  (with_reducible refine (?_ : T1 _ ?_) ?_; rotate_left 1; (conv => lhs; cbv; (try cbv); (try cbv)); intro hT; clear hT; with_reducible refine Sh.mk (by kernel_rfl) ?_)
  repeat' (first
    | with_reducible refine Ck.mk (C := tt) tt_intro ?_
    | with_reducible refine Ck.mk (show drawOk _ _ = true by kernel_rfl) ?_
    | with_reducible refine Ck.all_cons ?_
    | with_reducible refine Ck.all_nil ?_
    | with_reducible refine Ck.mk (by assumption) ?_
    | with_reducible refine Ck.mk (decide_eq_true (by assumption)) ?_
    | with_reducible refine Ck.mk (decide_eq_false (by assumption)) ?_
    | with_reducible refine Ck.mk ?_ ?_
    | (with_reducible refine Both.mk (fun h => ?_) (fun h => ?_) <;> (have hk := h) <;> (try simp only [decide_eq_true_eq, decide_eq_false_iff_not, Bool.not_eq_true', Bool.not_eq_false', Bool.not_eq_true, Bool.not_eq_false, Bool.not_true, Bool.not_false, ne_eq, Bool.false_eq_true, Bool.true_eq_false, reduceCtorEq, beq_iff_eq, beq_eq_false_iff_ne, not_true_eq_false, not_false_eq_true, pair_eta, map_idL] at h) <;> (try dsimp only [bindSpec, lookSpec, renewSpec, moveSpec, dropSpec, Ty.T, Ty.dflt, KT.T, getM, putM, delM] at h) <;> (try simp only [natCast_eq] at h) <;> skip <;> (try first | rw [if_pos h] at hr | rw [if_neg h] at hr | rw [ifF h] at hr | rw [ifN h] at hr) <;> (try (have hb : (_ : Bool) = _ := h; clear h; subst hb; (try first | rw [if_pos rfl] at hr | rw [if_neg Bool.false_ne_true] at hr))) <;> first | (exfalso; omega) | exact absurd (h.symm.trans (by assumption) : true = false) Bool.noConfusion | exact absurd (h.symm.trans (by assumption) : false = true) Bool.noConfusion | (with_reducible refine (?_ : T1 _ ?_) ?_; rotate_left 1; (conv => lhs; cbv; (try cbv); (try cbv)); intro hT; clear hT; with_reducible refine Sh.mk (by kernel_rfl) ?_))
    | (with_reducible refine Alt.mk (fun h => ?_) (fun h => ?_) <;> (have hk := h) <;> (try simp only [decide_eq_true_eq, decide_eq_false_iff_not, Bool.not_eq_true', Bool.not_eq_false', Bool.not_eq_true, Bool.not_eq_false, Bool.not_true, Bool.not_false, ne_eq, Bool.false_eq_true, Bool.true_eq_false, reduceCtorEq, beq_iff_eq, beq_eq_false_iff_ne, not_true_eq_false, not_false_eq_true, pair_eta, map_idL] at h) <;> (try dsimp only [bindSpec, lookSpec, renewSpec, moveSpec, dropSpec, Ty.T, Ty.dflt, KT.T, getM, putM, delM] at h) <;> (try simp only [natCast_eq] at h) <;> skip <;> (try first | rw [if_pos h] at hr | rw [if_neg h] at hr | rw [ifF h] at hr | rw [ifN h] at hr) <;> (try (have hb : (_ : Bool) = _ := h; clear h; subst hb; (try first | rw [if_pos rfl] at hr | rw [if_neg Bool.false_ne_true] at hr))) <;> first | (exfalso; omega) | exact absurd (h.symm.trans (by assumption) : true = false) Bool.noConfusion | exact absurd (h.symm.trans (by assumption) : false = true) Bool.noConfusion | (with_reducible refine (?_ : T1 _ ?_) ?_; rotate_left 1; (conv => lhs; cbv; (try cbv); (try cbv)); intro hT; clear hT; with_reducible refine Sh.mk (by kernel_rfl) ?_))
    | (with_reducible refine Pick.mk (fun h => ?_) (fun l1 x l2 h => ?_) <;> (with_reducible refine (?_ : T1 _ ?_) ?_; rotate_left 1; (conv => lhs; cbv; (try cbv); (try cbv)); intro hT; clear hT; with_reducible refine Sh.mk (by kernel_rfl) ?_))
    | ((with_reducible refine End.mk ?_); (try ((repeat (first | rw [if_pos (by first | assumption | omega)] at hr | rw [if_neg (by first | assumption | omega | (simp only [Bool.false_eq_true, Bool.true_eq_false, reduceCtorEq, not_false_eq_true]; done) | (simp only [Bool.not_eq_true]; assumption) | (simp only [Bool.not_eq_false]; assumption))] at hr | rw [if_pos rfl] at hr)); subst hr)))
    | with_reducible exact True.intro)
  all_goals first
    | (fail_if_success (with_reducible refine Exists.intro ?_ ?_)
       first
         | with_reducible rfl
         | with_reducible assumption
         | (dsimp only [bindSpec, lookSpec, renewSpec, moveSpec, dropSpec, Ty.T, Ty.dflt, KT.T, getM, putM, delM, inI64, maxRow]; done)
         | (symm; with_reducible assumption)
         | (dsimp only [bindSpec, lookSpec, renewSpec, moveSpec, dropSpec, Ty.T, Ty.dflt, KT.T, getM, putM, delM, inI64, maxRow]; first | with_reducible rfl | with_reducible assumption | (symm; with_reducible assumption) | (simp only [natCast_eq]; with_reducible rfl) | omega)
         | omega
         | (dsimp only [bindSpec, lookSpec, renewSpec, moveSpec, dropSpec, Ty.T, Ty.dflt, KT.T, getM, putM, delM, inI64, maxRow]; (try simp only [natCast_eq, List.nil_append]); first | with_reducible rfl | exact take_cg (by omega) | exact drop_cg (by omega) | exact take_drop_cg (by omega) (by omega) | exact take_all (by omega) | exact take_drop_all (by omega) (by omega) | exact drop_take_cg (by omega) (by omega) (by omega))
         | exact hP
         | ((try dsimp only [bindSpec, lookSpec, renewSpec, moveSpec, dropSpec, Ty.T, Ty.dflt, KT.T, getM, putM, delM, inI64, maxRow]); simp only [decide_eq_true_eq, decide_eq_false_iff_not, Bool.not_eq_true', Bool.not_eq_false', Bool.not_eq_true, Bool.not_eq_false, Bool.not_true, Bool.not_false, ne_eq, Bool.false_eq_true, Bool.true_eq_false, reduceCtorEq, beq_iff_eq, beq_eq_false_iff_ne, not_true_eq_false, not_false_eq_true, pair_eta, map_idL, natCast_eq, inI64, maxRow]; first | done | with_reducible assumption | omega)
         | exact map_pair_id _
         | ((try dsimp only [bindSpec, lookSpec, renewSpec, moveSpec, dropSpec, Ty.T, Ty.dflt, KT.T, getM, putM, delM, inI64, maxRow]) <;> (try simp only [natCast_eq]) <;> omega)
         | ((try dsimp only [bindSpec, lookSpec, renewSpec, moveSpec, dropSpec, Ty.T, Ty.dflt, KT.T, getM, putM, delM, inI64, maxRow] at *) <;> (try simp only [natCast_eq] at *) <;> omega)
         | ((try dsimp only [bindSpec, lookSpec, renewSpec, moveSpec, dropSpec, Ty.T, Ty.dflt, KT.T, getM, putM, delM, inI64, maxRow] at *) <;> (try simp only [List.length_append, List.length_cons, List.length_nil, List.length_replicate, List.length_take, List.length_drop, natCast_eq] at *) <;> omega)
         | assumption
         | (symm; assumption)
         | (dsimp only; simp only [Bool.or_true, Bool.true_or, Bool.or_false, Bool.false_or, Bool.and_true, Bool.true_and, Bool.and_false, Bool.false_and, Bool.not_true, Bool.not_false, *]; done)
         | (simp; done)
         | (and_intros <;> first | trivial | with_reducible assumption | omega)
         | ((try dsimp only [bindSpec, lookSpec, renewSpec, moveSpec, dropSpec, Ty.T, Ty.dflt, KT.T, getM, putM, delM, inI64, maxRow] at *) <;> simp [*] <;> done))
    | skip
theorem mdo_sound : ConSound Try.prog AI 14 mdoSpec.con := MethSpec.sound Try.call14 ⟨fun a W h => by cases a <;> cases h; rfl, (fun h => by cases h), fun W x h => mdo_ok W x.1 h⟩
/-! ### what calls change -/
theorem bindN_no {D : DirL} {n : List Int} {nd pt t ls : Int} (h : ¬ (bindN D n nd pt t ls).1.2.1 = (0 : Int)) : (bindN D n nd pt t ls).2 = D := by
  unfold bindN at h ⊢
  split
  · rename_i h1; rw [if_pos h1] at h; exact absurd rfl h
  · rename_i h1
    rw [if_neg h1] at h
    split
    · rfl
    · rename_i h2; rw [if_neg h2] at h; exact absurd rfl h
theorem bind_no {D : DirL} {n : List Int} {nd pt t ls : Int} (h : ¬ (bindF D n nd pt t ls).1.2.1 = (0 : Int)) : (bindF D n nd pt t ls).2 = D := by
  unfold bindF at h ⊢
  by_cases h1 : vldF n = true
  · rw [if_pos h1] at h ⊢
    by_cases h2 : 0 ≤ nd ∧ nd < 16 ∧ 0 ≤ pt ∧ pt < 8 ∧ 0 ≤ t ∧ t ≤ 1073741824 ∧ 1 ≤ ls ∧ ls ≤ 1073741824
    · rw [if_pos h2] at h ⊢
      by_cases h3 : (entAt D n).2.1 = true
      · rw [if_pos h3] at h ⊢
        by_cases h4 : t < (entAt D n).2.2.2
        · rw [if_pos h4]
        · rw [if_neg h4] at h ⊢; exact bindN_no h
      · rw [if_neg h3] at h ⊢; exact bindN_no h
    · rw [if_neg h2]
  · rw [if_neg h1]
theorem renew_no {D : DirL} {n : List Int} {v t : Int} (h : ¬ (renewF D n v t).1.1 = (0 : Int)) : (renewF D n v t).2 = D := by
  unfold renewF at h ⊢
  repeat' split
  all_goals first | rfl | (exfalso; simp_all; done)
theorem move_no {D : DirL} {n : List Int} {v nd pt t : Int} (h : ¬ (moveF D n v nd pt t).1.2.1 = (0 : Int)) : (moveF D n v nd pt t).2 = D := by
  unfold moveF at h ⊢
  repeat' split
  all_goals first | rfl | (exfalso; simp_all; done)
theorem drop_no {D : DirL} {n : List Int} {v : Int} (h : ¬ (dropF D n v).1.1 = (0 : Int)) : (dropF D n v).2 = D := by
  unfold dropF at h ⊢
  repeat' split
  all_goals first | rfl | (exfalso; simp_all; done)
theorem do_no {D : DirL} {a : TA} (h : ¬ (doF D a).1.2.1 = (0 : Int)) : (doF D a).2 = D := by
  unfold doF at h ⊢
  by_cases h0 : a.1 = 0
  · rw [if_pos h0] at h ⊢; exact bind_no h
  rw [if_neg h0] at h ⊢
  by_cases h1 : a.1 = 1
  · rw [if_pos h1] at h ⊢; exact renew_no h
  rw [if_neg h1] at h ⊢
  by_cases h2 : a.1 = 2
  · rw [if_pos h2] at h ⊢; exact move_no h
  rw [if_neg h2] at h ⊢
  by_cases h3 : a.1 = 3
  · rw [if_pos h3] at h ⊢; exact drop_no h
  rw [if_neg h3]
end Go.Proofs.Ytehdhnkkkocffaa
