/-
  Layer 50: the reference's Conns, the walk.
-/
import Derived.Test.YtfgfcbncnngniaaDoorCnp
namespace Go.Proofs.YtfgfcbncnngniaaDoor
set_option linter.all false
set_option linter.unusedVariables false
set_option linter.unusedSimpArgs false
set_option linter.unusedSectionVars false
open Go.RowKit Go.Sx
set_option maxRecDepth 100000
set_option maxHeartbeats 16000000
def connsR (l : List Fv) : List Int := connsTo l 1000
theorem LCo.doneR {l : List Fv} (x : LCo l) (h : ¬ x.c < 1000) : x.o = connsR l := by
  unfold connsR; exact x.done h
theorem conns_eqR {S : Led} (h : OkB S) : connsR S.ents = keysL S := by
  unfold connsR; exact conns_eq h
theorem connsR_len (l : List Fv) : (connsR l).length ≤ 1000 := by
  unfold connsR; exact connsTo_len l 1000
attribute [irreducible] connsR
def rconnsF (l : List Fv) : Tup [DT.lst I64] := (connsR l, ())
def rconnsSpec : PureSpec := ⟨[.lst fvE], fun (x : (List Fv) × Unit) => x.1.length ≤ 1048576, [.lst (.int .i64)], fun (x : (List Fv) × Unit) => rconnsF x.1⟩
theorem rconns_ok (l : List Fv) (h : rconnsSpec.pre (l, ())) : TmplOk Tryd.prog AI 25 (argS rconnsSpec.ds (fun _ => (l, ()))) [] (resOf (svs rconnsSpec.rs (fun _ => rconnsSpec.f (l, ())))) [] := by
  dsimp only [rconnsSpec] at h ⊢
  generalize hr : rconnsF l = r
  dsimp only [rconnsF] at hr
  refine tmpl_of_body e0Ok mixed (fn := Tryd.f25) (c := bodyOf Tryd.f25) (by kernel_rfl) (by kernel_rfl) (by kernel_rfl) (Nat.le_of_ble_eq_true (by kernel_rfl)) ?_
  (try (conv in (LoopInv.inv _ _) => dsimp only)); (try (conv in (SS.mk _ _) => cbv; (try dsimp only [Ty.T, Ty.dflt, KT.T]); (try simp only [natCast_eq])))
  (with_reducible refine (?_ : T1 _ ?_) ?_; rotate_left 1; (conv => lhs; cbv; (try cbv); (try cbv)); intro hT; clear hT; with_reducible refine Sh.mk (by kernel_rfl) ?_)
  repeat' (first
    | with_reducible (first | refine Ck.mk (C := tt) tt_intro ?_ | refine Ck.mk (show drawOk _ _ = true by kernel_rfl) ?_ | refine Ck.all_cons ?_ | refine Ck.all_nil ?_ | refine Ck.mk (by assumption) ?_ | refine Ck.mk (decide_eq_true (by assumption)) ?_ | refine Ck.mk (decide_eq_false (by assumption)) ?_ | refine Ck.mk ?_ ?_)
    | (with_reducible (first | refine Both.mk (fun h => ?_) (fun h => ?_) | refine Alt.mk (fun h => ?_) (fun h => ?_) | refine Pick.mk (fun h => ?_) (fun l1 x l2 h => ?_)) <;> (have hk := h) <;> (try simp only [nrm, reduceCtorEq, pair_eta, map_idL] at h) <;> (try dsimp only [Ty.T, Ty.dflt, KT.T, getM, putM, delM] at h) <;> (try simp only [natCast_eq] at h) <;> (try (refine Exists.elim (z.step h) ?_; rintro e ⟨y, e1, hy0, hy1⟩)) <;> (try simp only [pair_eta, map_idL, e1] at h) <;> (try first | rw [if_pos h] at hr | rw [if_neg h] at hr | rw [ifF h] at hr | rw [ifN h] at hr) <;> (try (have hb : (_ : Bool) = _ := h; clear h; subst hb; (try first | rw [if_pos rfl] at hr | rw [if_neg Bool.false_ne_true] at hr))) <;> first | (exfalso; omega) | exact absurd (h.symm.trans (by assumption) : true = false) Bool.noConfusion | exact absurd (h.symm.trans (by assumption) : false = true) Bool.noConfusion | (with_reducible refine (?_ : T1 _ ?_) ?_; rotate_left 1; (conv => lhs; cbv; (try cbv); (try cbv)); intro hT; clear hT; with_reducible refine Sh.mk (by kernel_rfl) ?_))
    | ((with_reducible refine End.mk ?_); (try ((repeat (first | rw [if_pos (by first | assumption | omega)] at hr | rw [if_neg (by first | assumption | omega | (simp only [Bool.false_eq_true, Bool.true_eq_false, reduceCtorEq, not_false_eq_true]; done) | (simp only [Bool.not_eq_true]; assumption) | (simp only [Bool.not_eq_false]; assumption))] at hr | rw [if_pos rfl] at hr)); subst hr)))
    | with_reducible exact True.intro)
  all_goals first
    | (fail_if_success (with_reducible refine Exists.intro ?_ ?_)
       first
         | with_reducible rfl
         | with_reducible assumption
         | (symm; with_reducible assumption)
         | omega
         | ((try dsimp only [Ty.T, Ty.dflt, KT.T, getM, putM, delM, inI64, maxRow]); first | done | with_reducible rfl | with_reducible assumption | (symm; with_reducible assumption) | ((try simp only [natCast_eq, List.nil_append]); first | done | with_reducible rfl | omega | exact take_cg (by omega) | exact drop_cg (by omega) | exact take_drop_cg (by omega) (by omega) | exact take_all (by omega) | exact take_drop_all (by omega) (by omega) | exact drop_take_cg (by omega) (by omega) (by omega)))
         | ((try dsimp only [Ty.T, Ty.dflt, KT.T, getM, putM, delM, inI64, maxRow]); first | (simp only [nrm, reduceCtorEq, pair_eta, map_idL, natCast_eq, inI64, maxRow]; first | done | with_reducible assumption | omega) | exact map_pair_id _)
         | ((try dsimp only [Ty.T, Ty.dflt, KT.T, getM, putM, delM, inI64, maxRow] at *); first | ((try simp only [natCast_eq] at *) <;> omega) | ((try simp only [lens, natCast_eq] at *) <;> omega))
         | assumption
         | (symm; assumption)
         | (dsimp only; simp only [nrb, *]; done)
         | (simp; done)
         | (and_intros <;> first | trivial | with_reducible assumption | omega)
         | ((try dsimp only [Ty.T, Ty.dflt, KT.T, getM, putM, delM, inI64, maxRow] at *) <;> simp [*] <;> done))
    | skip
  obtain ⟨x0, hx0, hx1⟩ : ∃ x : LCo l, x.c = 0 ∧ x.o = [] := ⟨⟨0, [], Int.le_refl _, by decide, rfl⟩, rfl, rfl⟩
  refine ⟨⟨LCo l, fun x => ⟨[(0, Sx.one (.ro fvE (fun _ => l))), (3, Sx.one (.hd 0 0)), (4, Sx.one (.int .i64 (fun _ => x.c)))], [.row 3 (.int .i64) 0 (fun _ => x.o)]⟩, fun x => (1000 - x.c).toNat, x0⟩, ?_, fun (x : LCo l) => ?_⟩
  · (try (conv in (LoopInv.inv _ _) => dsimp only)); (try (conv in (SS.mk _ _) => cbv; (try dsimp only [Ty.T, Ty.dflt, KT.T]); (try simp only [natCast_eq])))
    (with_reducible refine (?_ : T1 _ ?_) ?_; rotate_left 1; (conv => lhs; cbv; (try cbv); (try cbv)); intro hT; clear hT; with_reducible refine Sh.mk (by kernel_rfl) ?_)
    repeat' (first
      | with_reducible (first | refine Ck.mk (C := tt) tt_intro ?_ | refine Ck.mk (show drawOk _ _ = true by kernel_rfl) ?_ | refine Ck.all_cons ?_ | refine Ck.all_nil ?_ | refine Ck.mk (by assumption) ?_ | refine Ck.mk (decide_eq_true (by assumption)) ?_ | refine Ck.mk (decide_eq_false (by assumption)) ?_ | refine Ck.mk ?_ ?_)
      | (with_reducible (first | refine Both.mk (fun h => ?_) (fun h => ?_) | refine Alt.mk (fun h => ?_) (fun h => ?_) | refine Pick.mk (fun h => ?_) (fun l1 x l2 h => ?_)) <;> (have hk := h) <;> (try simp only [nrm, reduceCtorEq, pair_eta, map_idL] at h) <;> (try dsimp only [Ty.T, Ty.dflt, KT.T, getM, putM, delM] at h) <;> (try simp only [natCast_eq] at h) <;> (try (refine Exists.elim (z.step h) ?_; rintro e ⟨y, e1, hy0, hy1⟩)) <;> (try simp only [pair_eta, map_idL, e1] at h) <;> (try first | rw [if_pos h] at hr | rw [if_neg h] at hr | rw [ifF h] at hr | rw [ifN h] at hr) <;> (try (have hb : (_ : Bool) = _ := h; clear h; subst hb; (try first | rw [if_pos rfl] at hr | rw [if_neg Bool.false_ne_true] at hr))) <;> first | (exfalso; omega) | exact absurd (h.symm.trans (by assumption) : true = false) Bool.noConfusion | exact absurd (h.symm.trans (by assumption) : false = true) Bool.noConfusion | (with_reducible refine (?_ : T1 _ ?_) ?_; rotate_left 1; (conv => lhs; cbv; (try cbv); (try cbv)); intro hT; clear hT; with_reducible refine Sh.mk (by kernel_rfl) ?_))
      | ((with_reducible refine End.mk ?_); skip)
      | with_reducible exact True.intro)
    all_goals first
      | (fail_if_success (with_reducible refine Exists.intro ?_ ?_)
         first
           | with_reducible rfl
           | with_reducible assumption
           | (symm; with_reducible assumption)
           | omega
           | ((try dsimp only [Ty.T, Ty.dflt, KT.T, getM, putM, delM, inI64, maxRow]); first | done | with_reducible rfl | with_reducible assumption | (symm; with_reducible assumption) | ((try simp only [natCast_eq, List.nil_append]); first | done | with_reducible rfl | omega | exact take_cg (by omega) | exact drop_cg (by omega) | exact take_drop_cg (by omega) (by omega) | exact take_all (by omega) | exact take_drop_all (by omega) (by omega) | exact drop_take_cg (by omega) (by omega) (by omega)))
           | first | exact hx0.symm | exact hx1.symm | (rw [hx1]; done)
           | ((try dsimp only [Ty.T, Ty.dflt, KT.T, getM, putM, delM, inI64, maxRow]); first | (simp only [nrm, reduceCtorEq, pair_eta, map_idL, natCast_eq, inI64, maxRow]; first | done | with_reducible assumption | omega) | exact map_pair_id _)
           | ((try dsimp only [Ty.T, Ty.dflt, KT.T, getM, putM, delM, inI64, maxRow] at *); first | ((try simp only [natCast_eq] at *) <;> omega) | ((try simp only [lens, natCast_eq] at *) <;> omega))
           | assumption
           | (symm; assumption)
           | (dsimp only; simp only [nrb, *]; done)
           | (simp; done)
           | (and_intros <;> first | trivial | with_reducible assumption | omega)
           | ((try dsimp only [Ty.T, Ty.dflt, KT.T, getM, putM, delM, inI64, maxRow] at *) <;> simp [*] <;> done))
      | skip
  have hlo := x.lo
  have hhi := x.hi
  have hln := x.len
  (try (conv in (LoopInv.inv _ _) => dsimp only)); (try (conv in (SS.mk _ _) => cbv; (try dsimp only [Ty.T, Ty.dflt, KT.T]); (try simp only [natCast_eq])))
  (with_reducible refine (?_ : T1 _ ?_) ?_; rotate_left 1; (conv => lhs; cbv; (try cbv); (try cbv)); intro hT; clear hT; with_reducible refine Sh.mk (by kernel_rfl) ?_)
  repeat' (first
    | with_reducible (first | refine Ck.mk (C := tt) tt_intro ?_ | refine Ck.mk (show drawOk _ _ = true by kernel_rfl) ?_ | refine Ck.all_cons ?_ | refine Ck.all_nil ?_ | refine Ck.mk (by assumption) ?_ | refine Ck.mk (decide_eq_true (by assumption)) ?_ | refine Ck.mk (decide_eq_false (by assumption)) ?_ | refine Ck.mk ?_ ?_)
    | (with_reducible (first | refine Both.mk (fun h => ?_) (fun h => ?_) | refine Alt.mk (fun h => ?_) (fun h => ?_) | refine Pick.mk (fun h => ?_) (fun l1 x l2 h => ?_)) <;> (have hk := h) <;> (try simp only [nrm, reduceCtorEq, pair_eta, map_idL] at h) <;> (try dsimp only [Ty.T, Ty.dflt, KT.T, getM, putM, delM] at h) <;> (try simp only [natCast_eq] at h) <;> (try (refine Exists.elim (z.step h) ?_; rintro e ⟨y, e1, hy0, hy1⟩)) <;> (try simp only [pair_eta, map_idL, e1] at h) <;> (try first | rw [if_pos h] at hr | rw [if_neg h] at hr | rw [ifF h] at hr | rw [ifN h] at hr) <;> (try (have hb : (_ : Bool) = _ := h; clear h; subst hb; (try first | rw [if_pos rfl] at hr | rw [if_neg Bool.false_ne_true] at hr))) <;> first | (exfalso; omega) | exact absurd (h.symm.trans (by assumption) : true = false) Bool.noConfusion | exact absurd (h.symm.trans (by assumption) : false = true) Bool.noConfusion | (with_reducible refine (?_ : T1 _ ?_) ?_; rotate_left 1; (conv => lhs; cbv; (try cbv); (try cbv)); intro hT; clear hT; with_reducible refine Sh.mk (by kernel_rfl) ?_))
    | ((with_reducible refine End.mk ?_); skip)
    | with_reducible exact True.intro)
  all_goals first
    | (fail_if_success (with_reducible refine Exists.intro ?_ ?_)
       first
         | with_reducible rfl
         | with_reducible assumption
         | (symm; with_reducible assumption)
         | omega
         | ((try dsimp only [Ty.T, Ty.dflt, KT.T, getM, putM, delM, inI64, maxRow]); first | done | with_reducible rfl | with_reducible assumption | (symm; with_reducible assumption) | ((try simp only [natCast_eq, List.nil_append]); first | done | with_reducible rfl | omega | exact take_cg (by omega) | exact drop_cg (by omega) | exact take_drop_cg (by omega) (by omega) | exact take_all (by omega) | exact take_drop_all (by omega) (by omega) | exact drop_take_cg (by omega) (by omega) (by omega)))
         | exact (x.doneR (by assumption)).trans (congrArg Prod.fst hr)
         | ((try dsimp only [Ty.T, Ty.dflt, KT.T, getM, putM, delM, inI64, maxRow]); first | (simp only [nrm, reduceCtorEq, pair_eta, map_idL, natCast_eq, inI64, maxRow]; first | done | with_reducible assumption | omega) | exact map_pair_id _)
         | ((try dsimp only [Ty.T, Ty.dflt, KT.T, getM, putM, delM, inI64, maxRow] at *); first | ((try simp only [natCast_eq] at *) <;> omega) | ((try simp only [lens, natCast_eq] at *) <;> omega))
         | assumption
         | (symm; assumption)
         | (dsimp only; simp only [nrb, *]; done)
         | (simp; done)
         | (and_intros <;> first | trivial | with_reducible assumption | omega)
         | ((try dsimp only [Ty.T, Ty.dflt, KT.T, getM, putM, delM, inI64, maxRow] at *) <;> simp [*] <;> done))
    | skip
  all_goals
    (obtain ⟨z0, hz0, hz1⟩ : ∃ z : LCi l x.c, z.i = 0 ∧ z.f = false := ⟨⟨0, false, Int.le_refl _, by omega, rfl⟩, rfl, rfl⟩
     dsimp only
     refine ⟨⟨LCi l x.c, fun z => ⟨[(0, Sx.one (.ro fvE (fun _ => l))), (3, Sx.one (.hd 0 0)), (4, Sx.one (.int .i64 (fun _ => x.c))), (5, Sx.one (.sb (fun _ => z.f))), (6, Sx.one (.int .i64 (fun _ => z.i)))], [.row 3 (.int .i64) 0 (fun _ => x.o)]⟩, fun z => (l.length - z.i).toNat, z0⟩, ?_, fun (z : LCi l x.c) => ?_⟩
     · (try (conv in (LoopInv.inv _ _) => dsimp only)); (try (conv in (SS.mk _ _) => cbv; (try dsimp only [Ty.T, Ty.dflt, KT.T]); (try simp only [natCast_eq])))
       (with_reducible refine (?_ : T1 _ ?_) ?_; rotate_left 1; (conv => lhs; cbv; (try cbv); (try cbv)); intro hT; clear hT; with_reducible refine Sh.mk (by kernel_rfl) ?_)
       repeat' (first
         | with_reducible (first | refine Ck.mk (C := tt) tt_intro ?_ | refine Ck.mk (show drawOk _ _ = true by kernel_rfl) ?_ | refine Ck.all_cons ?_ | refine Ck.all_nil ?_ | refine Ck.mk (by assumption) ?_ | refine Ck.mk (decide_eq_true (by assumption)) ?_ | refine Ck.mk (decide_eq_false (by assumption)) ?_ | refine Ck.mk ?_ ?_)
         | (with_reducible (first | refine Both.mk (fun h => ?_) (fun h => ?_) | refine Alt.mk (fun h => ?_) (fun h => ?_) | refine Pick.mk (fun h => ?_) (fun l1 x l2 h => ?_)) <;> (have hk := h) <;> (try simp only [nrm, reduceCtorEq, pair_eta, map_idL] at h) <;> (try dsimp only [Ty.T, Ty.dflt, KT.T, getM, putM, delM] at h) <;> (try simp only [natCast_eq] at h) <;> (try (refine Exists.elim (z.step h) ?_; rintro e ⟨y, e1, hy0, hy1⟩)) <;> (try simp only [pair_eta, map_idL, e1] at h) <;> (try first | rw [if_pos h] at hr | rw [if_neg h] at hr | rw [ifF h] at hr | rw [ifN h] at hr) <;> (try (have hb : (_ : Bool) = _ := h; clear h; subst hb; (try first | rw [if_pos rfl] at hr | rw [if_neg Bool.false_ne_true] at hr))) <;> first | (exfalso; omega) | exact absurd (h.symm.trans (by assumption) : true = false) Bool.noConfusion | exact absurd (h.symm.trans (by assumption) : false = true) Bool.noConfusion | (with_reducible refine (?_ : T1 _ ?_) ?_; rotate_left 1; (conv => lhs; cbv; (try cbv); (try cbv)); intro hT; clear hT; with_reducible refine Sh.mk (by kernel_rfl) ?_))
         | ((with_reducible refine End.mk ?_); skip)
         | with_reducible exact True.intro)
       all_goals first
         | (fail_if_success (with_reducible refine Exists.intro ?_ ?_)
            first
              | with_reducible rfl
              | with_reducible assumption
              | (symm; with_reducible assumption)
              | omega
              | ((try dsimp only [Ty.T, Ty.dflt, KT.T, getM, putM, delM, inI64, maxRow]); first | done | with_reducible rfl | with_reducible assumption | (symm; with_reducible assumption) | ((try simp only [natCast_eq, List.nil_append]); first | done | with_reducible rfl | omega | exact take_cg (by omega) | exact drop_cg (by omega) | exact take_drop_cg (by omega) (by omega) | exact take_all (by omega) | exact take_drop_all (by omega) (by omega) | exact drop_take_cg (by omega) (by omega) (by omega)))
              | first | exact hz0.symm | exact hz1.symm
              | ((try dsimp only [Ty.T, Ty.dflt, KT.T, getM, putM, delM, inI64, maxRow]); first | (simp only [nrm, reduceCtorEq, pair_eta, map_idL, natCast_eq, inI64, maxRow]; first | done | with_reducible assumption | omega) | exact map_pair_id _)
              | ((try dsimp only [Ty.T, Ty.dflt, KT.T, getM, putM, delM, inI64, maxRow] at *); first | ((try simp only [natCast_eq] at *) <;> omega) | ((try simp only [lens, natCast_eq] at *) <;> omega))
              | assumption
              | (symm; assumption)
              | (dsimp only; simp only [nrb, *]; done)
              | (simp; done)
              | (and_intros <;> first | trivial | with_reducible assumption | omega)
              | ((try dsimp only [Ty.T, Ty.dflt, KT.T, getM, putM, delM, inI64, maxRow] at *) <;> simp [*] <;> done))
         | skip
     have hzlo := z.lo
     have hzhi := z.hi
     (try (conv in (LoopInv.inv _ _) => dsimp only)); (try (conv in (SS.mk _ _) => cbv; (try dsimp only [Ty.T, Ty.dflt, KT.T]); (try simp only [natCast_eq])))
     (with_reducible refine (?_ : T1 _ ?_) ?_; rotate_left 1; (conv => lhs; cbv; (try cbv); (try cbv)); intro hT; clear hT; with_reducible refine Sh.mk (by kernel_rfl) ?_)
     repeat' (first
       | with_reducible (first | refine Ck.mk (C := tt) tt_intro ?_ | refine Ck.mk (show drawOk _ _ = true by kernel_rfl) ?_ | refine Ck.all_cons ?_ | refine Ck.all_nil ?_ | refine Ck.mk (by assumption) ?_ | refine Ck.mk (decide_eq_true (by assumption)) ?_ | refine Ck.mk (decide_eq_false (by assumption)) ?_ | refine Ck.mk ?_ ?_)
       | (with_reducible (first | refine Both.mk (fun h => ?_) (fun h => ?_) | refine Alt.mk (fun h => ?_) (fun h => ?_) | refine Pick.mk (fun h => ?_) (fun l1 x l2 h => ?_)) <;> (have hk := h) <;> (try simp only [nrm, reduceCtorEq, pair_eta, map_idL] at h) <;> (try dsimp only [Ty.T, Ty.dflt, KT.T, getM, putM, delM] at h) <;> (try simp only [natCast_eq] at h) <;> (try (refine Exists.elim (z.step h) ?_; rintro e ⟨y, e1, hy0, hy1⟩)) <;> (try simp only [pair_eta, map_idL, e1] at h) <;> (try first | rw [if_pos h] at hr | rw [if_neg h] at hr | rw [ifF h] at hr | rw [ifN h] at hr) <;> (try (have hb : (_ : Bool) = _ := h; clear h; subst hb; (try first | rw [if_pos rfl] at hr | rw [if_neg Bool.false_ne_true] at hr))) <;> first | (exfalso; omega) | exact absurd (h.symm.trans (by assumption) : true = false) Bool.noConfusion | exact absurd (h.symm.trans (by assumption) : false = true) Bool.noConfusion | (with_reducible refine (?_ : T1 _ ?_) ?_; rotate_left 1; (conv => lhs; cbv; (try cbv); (try cbv)); intro hT; clear hT; with_reducible refine Sh.mk (by kernel_rfl) ?_))
       | ((with_reducible refine End.mk ?_); skip)
       | with_reducible exact True.intro)
     all_goals first
       | (fail_if_success (with_reducible refine Exists.intro ?_ ?_)
          first
            | with_reducible rfl
            | with_reducible assumption
            | (symm; with_reducible assumption)
            | omega
            | ((try dsimp only [Ty.T, Ty.dflt, KT.T, getM, putM, delM, inI64, maxRow]); first | done | with_reducible rfl | with_reducible assumption | (symm; with_reducible assumption) | ((try simp only [natCast_eq, List.nil_append]); first | done | with_reducible rfl | omega | exact take_cg (by omega) | exact drop_cg (by omega) | exact take_drop_cg (by omega) (by omega) | exact take_all (by omega) | exact take_drop_all (by omega) (by omega) | exact drop_take_cg (by omega) (by omega) (by omega)))
            | (dsimp only; simp only [List.length_map, List.length_cons, List.length_nil, maxRow]; omega)
            | ((try dsimp only [Ty.T, Ty.dflt, KT.T, getM, putM, delM, inI64, maxRow]); first | (simp only [nrm, reduceCtorEq, pair_eta, map_idL, natCast_eq, inI64, maxRow]; first | done | with_reducible assumption | omega) | exact map_pair_id _)
            | ((try dsimp only [Ty.T, Ty.dflt, KT.T, getM, putM, delM, inI64, maxRow] at *); first | ((try simp only [natCast_eq] at *) <;> omega) | ((try simp only [lens, natCast_eq] at *) <;> omega))
            | assumption
            | (symm; assumption)
            | (dsimp only; simp only [nrb, *]; done)
            | (simp; done)
            | (and_intros <;> first | trivial | with_reducible assumption | omega)
            | ((try dsimp only [Ty.T, Ty.dflt, KT.T, getM, putM, delM, inI64, maxRow] at *) <;> simp [*] <;> done))
       | skip
     all_goals
       (first
         | (refine ⟨y, by (try dsimp only); (try simp only [natCast_eq]); omega, ?_⟩
            (try (conv in (LoopInv.inv _ _) => dsimp only)); (try (conv in (SS.mk _ _) => cbv; (try dsimp only [Ty.T, Ty.dflt, KT.T]); (try simp only [natCast_eq])))
            (with_reducible refine (?_ : T1 _ ?_) ?_; rotate_left 1; (conv => lhs; cbv; (try cbv); (try cbv)); intro hT; clear hT; with_reducible refine Sh.mk (by kernel_rfl) ?_)
            repeat' (first
              | with_reducible (first | refine Ck.mk (C := tt) tt_intro ?_ | refine Ck.mk (show drawOk _ _ = true by kernel_rfl) ?_ | refine Ck.all_cons ?_ | refine Ck.all_nil ?_ | refine Ck.mk (by assumption) ?_ | refine Ck.mk (decide_eq_true (by assumption)) ?_ | refine Ck.mk (decide_eq_false (by assumption)) ?_ | refine Ck.mk ?_ ?_)
              | (with_reducible (first | refine Both.mk (fun h => ?_) (fun h => ?_) | refine Alt.mk (fun h => ?_) (fun h => ?_) | refine Pick.mk (fun h => ?_) (fun l1 x l2 h => ?_)) <;> (have hk := h) <;> (try simp only [nrm, reduceCtorEq, pair_eta, map_idL] at h) <;> (try dsimp only [Ty.T, Ty.dflt, KT.T, getM, putM, delM] at h) <;> (try simp only [natCast_eq] at h) <;> (try (refine Exists.elim (z.step h) ?_; rintro e ⟨y, e1, hy0, hy1⟩)) <;> (try simp only [pair_eta, map_idL, e1] at h) <;> (try first | rw [if_pos h] at hr | rw [if_neg h] at hr | rw [ifF h] at hr | rw [ifN h] at hr) <;> (try (have hb : (_ : Bool) = _ := h; clear h; subst hb; (try first | rw [if_pos rfl] at hr | rw [if_neg Bool.false_ne_true] at hr))) <;> first | (exfalso; omega) | exact absurd (h.symm.trans (by assumption) : true = false) Bool.noConfusion | exact absurd (h.symm.trans (by assumption) : false = true) Bool.noConfusion | (with_reducible refine (?_ : T1 _ ?_) ?_; rotate_left 1; (conv => lhs; cbv; (try cbv); (try cbv)); intro hT; clear hT; with_reducible refine Sh.mk (by kernel_rfl) ?_))
              | ((with_reducible refine End.mk ?_); skip)
              | with_reducible exact True.intro)
            all_goals first
              | (fail_if_success (with_reducible refine Exists.intro ?_ ?_)
                 first
                   | with_reducible rfl
                   | with_reducible assumption
                   | (symm; with_reducible assumption)
                   | omega
                   | ((try dsimp only [Ty.T, Ty.dflt, KT.T, getM, putM, delM, inI64, maxRow]); first | done | with_reducible rfl | with_reducible assumption | (symm; with_reducible assumption) | ((try simp only [natCast_eq, List.nil_append]); first | done | with_reducible rfl | omega | exact take_cg (by omega) | exact drop_cg (by omega) | exact take_drop_cg (by omega) (by omega) | exact take_all (by omega) | exact take_drop_all (by omega) (by omega) | exact drop_take_cg (by omega) (by omega) (by omega)))
                   | first | exact hy0.symm | (rw [hy1, h]; rfl) | ((try dsimp only [Ty.T, Ty.dflt, KT.T]); (try simp only [e1]); rw [hy1, h]; rfl)
                   | ((try dsimp only [Ty.T, Ty.dflt, KT.T, getM, putM, delM, inI64, maxRow]); first | (simp only [nrm, reduceCtorEq, pair_eta, map_idL, natCast_eq, inI64, maxRow]; first | done | with_reducible assumption | omega) | exact map_pair_id _)
                   | ((try dsimp only [Ty.T, Ty.dflt, KT.T, getM, putM, delM, inI64, maxRow] at *); first | ((try simp only [natCast_eq] at *) <;> omega) | ((try simp only [lens, natCast_eq] at *) <;> omega))
                   | assumption
                   | (symm; assumption)
                   | (dsimp only; simp only [nrb, *]; done)
                   | (simp; done)
                   | (and_intros <;> first | trivial | with_reducible assumption | omega)
                   | ((try dsimp only [Ty.T, Ty.dflt, KT.T, getM, putM, delM, inI64, maxRow] at *) <;> simp [*] <;> done))
              | skip
            skip)
         | (refine Exists.elim (x.next1 (by assumption) z (by assumption) h) ?_
            rintro y ⟨hy0, hy1⟩
            refine ⟨y, by (try dsimp only); (try simp only [natCast_eq]); omega, ?_⟩
            (try (conv in (LoopInv.inv _ _) => dsimp only)); (try (conv in (SS.mk _ _) => cbv; (try dsimp only [Ty.T, Ty.dflt, KT.T]); (try simp only [natCast_eq])))
            (with_reducible refine (?_ : T1 _ ?_) ?_; rotate_left 1; (conv => lhs; cbv; (try cbv); (try cbv)); intro hT; clear hT; with_reducible refine Sh.mk (by kernel_rfl) ?_)
            repeat' (first
              | with_reducible (first | refine Ck.mk (C := tt) tt_intro ?_ | refine Ck.mk (show drawOk _ _ = true by kernel_rfl) ?_ | refine Ck.all_cons ?_ | refine Ck.all_nil ?_ | refine Ck.mk (by assumption) ?_ | refine Ck.mk (decide_eq_true (by assumption)) ?_ | refine Ck.mk (decide_eq_false (by assumption)) ?_ | refine Ck.mk ?_ ?_)
              | (with_reducible (first | refine Both.mk (fun h => ?_) (fun h => ?_) | refine Alt.mk (fun h => ?_) (fun h => ?_) | refine Pick.mk (fun h => ?_) (fun l1 x l2 h => ?_)) <;> (have hk := h) <;> (try simp only [nrm, reduceCtorEq, pair_eta, map_idL] at h) <;> (try dsimp only [Ty.T, Ty.dflt, KT.T, getM, putM, delM] at h) <;> (try simp only [natCast_eq] at h) <;> (try (refine Exists.elim (z.step h) ?_; rintro e ⟨y, e1, hy0, hy1⟩)) <;> (try simp only [pair_eta, map_idL, e1] at h) <;> (try first | rw [if_pos h] at hr | rw [if_neg h] at hr | rw [ifF h] at hr | rw [ifN h] at hr) <;> (try (have hb : (_ : Bool) = _ := h; clear h; subst hb; (try first | rw [if_pos rfl] at hr | rw [if_neg Bool.false_ne_true] at hr))) <;> first | (exfalso; omega) | exact absurd (h.symm.trans (by assumption) : true = false) Bool.noConfusion | exact absurd (h.symm.trans (by assumption) : false = true) Bool.noConfusion | (with_reducible refine (?_ : T1 _ ?_) ?_; rotate_left 1; (conv => lhs; cbv; (try cbv); (try cbv)); intro hT; clear hT; with_reducible refine Sh.mk (by kernel_rfl) ?_))
              | ((with_reducible refine End.mk ?_); skip)
              | with_reducible exact True.intro)
            all_goals first
              | (fail_if_success (with_reducible refine Exists.intro ?_ ?_)
                 first
                   | with_reducible rfl
                   | with_reducible assumption
                   | (symm; with_reducible assumption)
                   | omega
                   | ((try dsimp only [Ty.T, Ty.dflt, KT.T, getM, putM, delM, inI64, maxRow]); first | done | with_reducible rfl | with_reducible assumption | (symm; with_reducible assumption) | ((try simp only [natCast_eq, List.nil_append]); first | done | with_reducible rfl | omega | exact take_cg (by omega) | exact drop_cg (by omega) | exact take_drop_cg (by omega) (by omega) | exact take_all (by omega) | exact take_drop_all (by omega) (by omega) | exact drop_take_cg (by omega) (by omega) (by omega)))
                   | first | exact hy0.symm | exact hy1.symm | ((try dsimp only [Ty.T, Ty.dflt, KT.T]); exact hy1.symm)
                   | ((try dsimp only [Ty.T, Ty.dflt, KT.T, getM, putM, delM, inI64, maxRow]); first | (simp only [nrm, reduceCtorEq, pair_eta, map_idL, natCast_eq, inI64, maxRow]; first | done | with_reducible assumption | omega) | exact map_pair_id _)
                   | ((try dsimp only [Ty.T, Ty.dflt, KT.T, getM, putM, delM, inI64, maxRow] at *); first | ((try simp only [natCast_eq] at *) <;> omega) | ((try simp only [lens, natCast_eq] at *) <;> omega))
                   | assumption
                   | (symm; assumption)
                   | (dsimp only; simp only [nrb, *]; done)
                   | (simp; done)
                   | (and_intros <;> first | trivial | with_reducible assumption | omega)
                   | ((try dsimp only [Ty.T, Ty.dflt, KT.T, getM, putM, delM, inI64, maxRow] at *) <;> simp [*] <;> done))
              | skip
            skip)
         | (refine Exists.elim (x.next2 (by assumption) z (by assumption) h) ?_
            rintro y ⟨hy0, hy1⟩
            refine ⟨y, by (try dsimp only); (try simp only [natCast_eq]); omega, ?_⟩
            (try (conv in (LoopInv.inv _ _) => dsimp only)); (try (conv in (SS.mk _ _) => cbv; (try dsimp only [Ty.T, Ty.dflt, KT.T]); (try simp only [natCast_eq])))
            (with_reducible refine (?_ : T1 _ ?_) ?_; rotate_left 1; (conv => lhs; cbv; (try cbv); (try cbv)); intro hT; clear hT; with_reducible refine Sh.mk (by kernel_rfl) ?_)
            repeat' (first
              | with_reducible (first | refine Ck.mk (C := tt) tt_intro ?_ | refine Ck.mk (show drawOk _ _ = true by kernel_rfl) ?_ | refine Ck.all_cons ?_ | refine Ck.all_nil ?_ | refine Ck.mk (by assumption) ?_ | refine Ck.mk (decide_eq_true (by assumption)) ?_ | refine Ck.mk (decide_eq_false (by assumption)) ?_ | refine Ck.mk ?_ ?_)
              | (with_reducible (first | refine Both.mk (fun h => ?_) (fun h => ?_) | refine Alt.mk (fun h => ?_) (fun h => ?_) | refine Pick.mk (fun h => ?_) (fun l1 x l2 h => ?_)) <;> (have hk := h) <;> (try simp only [nrm, reduceCtorEq, pair_eta, map_idL] at h) <;> (try dsimp only [Ty.T, Ty.dflt, KT.T, getM, putM, delM] at h) <;> (try simp only [natCast_eq] at h) <;> (try (refine Exists.elim (z.step h) ?_; rintro e ⟨y, e1, hy0, hy1⟩)) <;> (try simp only [pair_eta, map_idL, e1] at h) <;> (try first | rw [if_pos h] at hr | rw [if_neg h] at hr | rw [ifF h] at hr | rw [ifN h] at hr) <;> (try (have hb : (_ : Bool) = _ := h; clear h; subst hb; (try first | rw [if_pos rfl] at hr | rw [if_neg Bool.false_ne_true] at hr))) <;> first | (exfalso; omega) | exact absurd (h.symm.trans (by assumption) : true = false) Bool.noConfusion | exact absurd (h.symm.trans (by assumption) : false = true) Bool.noConfusion | (with_reducible refine (?_ : T1 _ ?_) ?_; rotate_left 1; (conv => lhs; cbv; (try cbv); (try cbv)); intro hT; clear hT; with_reducible refine Sh.mk (by kernel_rfl) ?_))
              | ((with_reducible refine End.mk ?_); skip)
              | with_reducible exact True.intro)
            all_goals first
              | (fail_if_success (with_reducible refine Exists.intro ?_ ?_)
                 first
                   | with_reducible rfl
                   | with_reducible assumption
                   | (symm; with_reducible assumption)
                   | omega
                   | ((try dsimp only [Ty.T, Ty.dflt, KT.T, getM, putM, delM, inI64, maxRow]); first | done | with_reducible rfl | with_reducible assumption | (symm; with_reducible assumption) | ((try simp only [natCast_eq, List.nil_append]); first | done | with_reducible rfl | omega | exact take_cg (by omega) | exact drop_cg (by omega) | exact take_drop_cg (by omega) (by omega) | exact take_all (by omega) | exact take_drop_all (by omega) (by omega) | exact drop_take_cg (by omega) (by omega) (by omega)))
                   | first | exact hy0.symm | exact hy1.symm
                   | ((try dsimp only [Ty.T, Ty.dflt, KT.T, getM, putM, delM, inI64, maxRow]); first | (simp only [nrm, reduceCtorEq, pair_eta, map_idL, natCast_eq, inI64, maxRow]; first | done | with_reducible assumption | omega) | exact map_pair_id _)
                   | ((try dsimp only [Ty.T, Ty.dflt, KT.T, getM, putM, delM, inI64, maxRow] at *); first | ((try simp only [natCast_eq] at *) <;> omega) | ((try simp only [lens, natCast_eq] at *) <;> omega))
                   | assumption
                   | (symm; assumption)
                   | (dsimp only; simp only [nrb, *]; done)
                   | (simp; done)
                   | (and_intros <;> first | trivial | with_reducible assumption | omega)
                   | ((try dsimp only [Ty.T, Ty.dflt, KT.T, getM, putM, delM, inI64, maxRow] at *) <;> simp [*] <;> done))
              | skip
            skip)
         | skip))
theorem rconns_sound : ConSound Tryd.prog AI 25 rconnsSpec.con := PureSpec.sound Tryd.call25 (fun x h => rconns_ok x.1 h)
end Go.Proofs.YtfgfcbncnngniaaDoor
