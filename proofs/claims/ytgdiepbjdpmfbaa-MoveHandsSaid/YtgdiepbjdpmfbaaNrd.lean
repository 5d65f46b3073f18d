/-
  Layer 48: Read of a store and of a moving end, the bytes being a new row.
-/
import Derived.Test.YtgdiepbjdpmfbaaHan
import Derived.Test.YtgdiepbjdpmfbaaEng4
namespace Go.Proofs.Ytgdiepbjdpmfbaa
set_option linter.all false
set_option linter.unusedVariables false
set_option linter.unusedSimpArgs false
set_option linter.unusedSectionVars false
open Go.RowKit Go.Sx
set_option maxRecDepth 100000
set_option maxHeartbeats 16000000

def rdnF (S : Sto) (m : Int) : List Int × Sto :=
  if m < 1 then ([], S)
  else (rdB S.kept S.off (rdN S m).toNat, { S with kept := rdK S.kept S.off (rdN S m).toNat, off := S.off + rdN S m })
theorem rdnF_eq (S : Sto) (m : Int) : rdnF S m = ((readF S m).1.1, (readF S m).2) := by
  unfold rdnF readF
  split <;> rfl
def readnSpec : RowMeth Ab := ⟨Sto, selS, .sto, [.cell (.int .i64)], fun S (x : Int × Unit) => PreS S, 5, .int .u8, fun S (x : Int × Unit) => (readF S x.1).1.1, fun S (x : Int × Unit) => (readF S x.1).2⟩
theorem readn_ok (S : Sto) (m : Int) (h : readnSpec.pre S (m, ())) : TmplOk Try.prog AI 38 (Sx.one (.ptr 0 0) :: argS readnSpec.ds (fun _ => (m, ()))) [.abs (readnSpec.put (fun _ => S))] (Sx.one (.hd 1 0)) [.abs (readnSpec.put (fun _ => readnSpec.next S (m, ()))), .row readnSpec.et readnSpec.e 0 (fun _ => readnSpec.f S (m, ()))] := by
  dsimp only [readnSpec] at h ⊢
  have e1 : (readF S m).1.1 = (rdnF S m).1 := by rw [rdnF_eq]
  have e2 : (readF S m).2 = (rdnF S m).2 := by rw [rdnF_eq]
  simp only [e1, e2]
  clear e1 e2
  generalize hr : rdnF S m = r
  obtain ⟨⟨h1, h2⟩, ⟨h3, h4⟩, ⟨h5, h6⟩, h7, h8⟩ := h
  dsimp only [rdnF] at hr
  refine tmpl_objN e1Ok mixed (fn := Try.f38) (c := bodyOf Try.f38) (by kernel_rfl) (by kernel_rfl) (by kernel_rfl) (Nat.le_of_ble_eq_true (by kernel_rfl)) (layOk _) (layOk _) ?_
  (try (conv in (LoopInv.inv _ _) => dsimp only)); (try (conv in (SS.mk _ _) => cbv; (try dsimp only [Ty.T, Ty.dflt, KT.T]); (try simp only [natCast_eq])))
  (with_reducible refine (?_ : T1 _ ?_) ?_; rotate_left 1; (conv => lhs; cbv; (try cbv); (try cbv)); intro hT; clear hT; with_reducible refine Sh.mk (by kernel_rfl) ?_)
  repeat' (first
    | with_reducible (first | refine Ck.mk (C := tt) tt_intro ?_ | refine Ck.mk (show drawOk _ _ = true by kernel_rfl) ?_ | refine Ck.all_cons ?_ | refine Ck.all_nil ?_ | refine Ck.mk (by assumption) ?_ | refine Ck.mk (decide_eq_true (by assumption)) ?_ | refine Ck.mk (decide_eq_false (by assumption)) ?_ | refine Ck.mk ?_ ?_)
    | (with_reducible (first | refine Both.mk (fun h => ?_) (fun h => ?_) | refine Alt.mk (fun h => ?_) (fun h => ?_) | refine Pick.mk (fun h => ?_) (fun l1 x l2 h => ?_)) <;> (have hk := h) <;> (try simp only [nrm, reduceCtorEq, pair_eta, map_idL] at h) <;> (try dsimp only [Ty.T, Ty.dflt, KT.T, getM, putM, delM] at h) <;> (try simp only [natCast_eq] at h) <;> skip <;> (try first | rw [if_pos h] at hr | rw [if_neg h] at hr | rw [ifF h] at hr | rw [ifN h] at hr) <;> (try (have hb : (_ : Bool) = _ := h; clear h; subst hb; (try first | rw [if_pos rfl] at hr | rw [if_neg Bool.false_ne_true] at hr))) <;> first | (exfalso; omega) | exact absurd (h.symm.trans (by assumption) : true = false) Bool.noConfusion | exact absurd (h.symm.trans (by assumption) : false = true) Bool.noConfusion | (with_reducible refine (?_ : T1 _ ?_) ?_; rotate_left 1; (conv => lhs; cbv; (try cbv); (try cbv)); intro hT; clear hT; with_reducible refine Sh.mk (by kernel_rfl) ?_))
    | ((with_reducible refine End.mk ?_); (try ((repeat (first | rw [if_pos (by first | assumption | omega)] at hr | rw [if_neg (by first | assumption | omega | (simp only [Bool.false_eq_true, Bool.true_eq_false, reduceCtorEq, not_false_eq_true]; done) | (simp only [Bool.not_eq_true]; assumption) | (simp only [Bool.not_eq_false]; assumption))] at hr | rw [if_pos rfl] at hr)); subst hr)))
    | with_reducible exact True.intro)
  all_goals first
    | (fail_if_success (with_reducible refine Exists.intro ?_ ?_)
       first
         | with_reducible rfl
         | with_reducible assumption
         | (symm; with_reducible assumption)
         | omega
         | ((try dsimp only [Ty.T, Ty.dflt, KT.T, getM, putM, delM, inI64, maxRow]); first | done | with_reducible rfl | with_reducible assumption | (symm; with_reducible assumption) | ((try simp only [natCast_eq, List.nil_append]); first | done | with_reducible rfl | omega | exact take_cg (by omega) | exact drop_cg (by omega) | exact take_drop_cg (by omega) (by omega) | exact take_all (by omega) | exact take_drop_all (by omega) (by omega) | exact drop_take_cg (by omega) (by omega) (by omega)))
         | ((try dsimp only [Ty.T, Ty.dflt, KT.T, getM, putM, delM, inI64, maxRow]); first | (simp only [nrm, reduceCtorEq, pair_eta, map_idL, natCast_eq, inI64, maxRow]; first | done | with_reducible assumption | omega) | exact map_pair_id _)
         | ((try dsimp only [Ty.T, Ty.dflt, KT.T, getM, putM, delM, inI64, maxRow] at *); first | ((try simp only [natCast_eq] at *) <;> omega) | ((try simp only [lens, natCast_eq] at *) <;> omega))
         | assumption
         | (symm; assumption)
         | (dsimp only; simp only [nrb, *]; done)
         | (simp; done)
         | (and_intros <;> first | trivial | with_reducible assumption | omega)
         | ((try dsimp only [Ty.T, Ty.dflt, KT.T, getM, putM, delM, inI64, maxRow] at *) <;> simp [*] <;> done))
    | skip
  · refine ⟨[0, 2, 1], by decide, ?_⟩; cbv
    repeat' (first | refine Ck.mk trivial ?_ | refine Ck.mk (by assumption) ?_ | refine Ck.mk ?_ ?_ | refine End.mk ?_ | exact trivial)
    all_goals (try subst hr)
    all_goals first
      | (fail_if_success (with_reducible refine Exists.intro ?_ ?_)
         first
           | with_reducible rfl
           | with_reducible assumption
           | (symm; with_reducible assumption)
           | omega
           | ((try dsimp only [Ty.T, Ty.dflt, KT.T, getM, putM, delM, inI64, maxRow]); first | done | with_reducible rfl | with_reducible assumption | (symm; with_reducible assumption) | ((try simp only [natCast_eq, List.nil_append]); first | done | with_reducible rfl | omega | exact take_cg (by omega) | exact drop_cg (by omega) | exact take_drop_cg (by omega) (by omega) | exact take_all (by omega) | exact take_drop_all (by omega) (by omega) | exact drop_take_cg (by omega) (by omega) (by omega)))
           | ((try dsimp only [Ty.T, Ty.dflt, KT.T, getM, putM, delM, inI64, maxRow]); first | (simp only [nrm, reduceCtorEq, pair_eta, map_idL, natCast_eq, inI64, maxRow]; first | done | with_reducible assumption | omega) | exact map_pair_id _)
           | ((try dsimp only [Ty.T, Ty.dflt, KT.T, getM, putM, delM, inI64, maxRow] at *); first | ((try simp only [natCast_eq] at *) <;> omega) | ((try simp only [lens, natCast_eq] at *) <;> omega))
           | assumption
           | (symm; assumption)
           | (dsimp only; simp only [nrb, *]; done)
           | (simp; done)
           | (and_intros <;> first | trivial | with_reducible assumption | omega)
           | ((try dsimp only [Ty.T, Ty.dflt, KT.T, getM, putM, delM, inI64, maxRow] at *) <;> simp [*] <;> done))
      | skip
  obtain ⟨x0, hx0, hx1, hx2⟩ : ∃ x : L4 S m, x.i = 0 ∧ x.K = S.kept ∧ x.B = [] := ⟨⟨0, S.kept, [], by omega, by dsimp only [rdN]; omega, rfl, by simp, by simp⟩, rfl, rfl, rfl⟩
  refine ⟨⟨L4 S m, fun x => ⟨[(0, Sx.one (.ptr 0 0)), (6, Sx.one (.hd 2 0)), (26, Sx.one (.int .i64 (fun _ => rdN S m))), (27, Sx.one (.int .i64 (fun _ => x.i)))],
      lay (.sto (fun _ => { S with kept := x.K, off := S.off + x.i })) ++ [.row 5 (.int .u8) 0 (fun _ => x.B)]⟩, fun x => (rdN S m - x.i).toNat, x0⟩, ?_, fun (x : L4 S m) => ?_⟩
  · (try (conv in (LoopInv.inv _ _) => dsimp only)); (try (conv in (SS.mk _ _) => cbv; (try dsimp only [Ty.T, Ty.dflt, KT.T]); (try simp only [natCast_eq])))
    (with_reducible refine (?_ : T1 _ ?_) ?_; rotate_left 1; (conv => lhs; cbv; (try cbv); (try cbv)); intro hT; clear hT; with_reducible refine Sh.mk (by kernel_rfl) ?_)
    repeat' (first
      | with_reducible (first | refine Ck.mk (C := tt) tt_intro ?_ | refine Ck.mk (show drawOk _ _ = true by kernel_rfl) ?_ | refine Ck.all_cons ?_ | refine Ck.all_nil ?_ | refine Ck.mk (by assumption) ?_ | refine Ck.mk (decide_eq_true (by assumption)) ?_ | refine Ck.mk (decide_eq_false (by assumption)) ?_ | refine Ck.mk ?_ ?_)
      | (with_reducible (first | refine Both.mk (fun h => ?_) (fun h => ?_) | refine Alt.mk (fun h => ?_) (fun h => ?_) | refine Pick.mk (fun h => ?_) (fun l1 x l2 h => ?_)) <;> (have hk := h) <;> (try simp only [nrm, reduceCtorEq, pair_eta, map_idL] at h) <;> (try dsimp only [Ty.T, Ty.dflt, KT.T, getM, putM, delM] at h) <;> (try simp only [natCast_eq] at h) <;> skip <;> (try first | rw [if_pos h] at hr | rw [if_neg h] at hr | rw [ifF h] at hr | rw [ifN h] at hr) <;> (try (have hb : (_ : Bool) = _ := h; clear h; subst hb; (try first | rw [if_pos rfl] at hr | rw [if_neg Bool.false_ne_true] at hr))) <;> first | (exfalso; omega) | exact absurd (h.symm.trans (by assumption) : true = false) Bool.noConfusion | exact absurd (h.symm.trans (by assumption) : false = true) Bool.noConfusion | (with_reducible refine (?_ : T1 _ ?_) ?_; rotate_left 1; (conv => lhs; cbv; (try cbv); (try cbv)); intro hT; clear hT; with_reducible refine Sh.mk (by kernel_rfl) ?_))
      | ((with_reducible refine End.mk ?_); skip)
      | with_reducible exact True.intro)
    all_goals first
      | (fail_if_success (with_reducible refine Exists.intro ?_ ?_)
         first
           | with_reducible rfl
           | with_reducible assumption
           | (symm; with_reducible assumption)
           | omega
           | ((try dsimp only [Ty.T, Ty.dflt, KT.T, getM, putM, delM, inI64, maxRow]); first | done | with_reducible rfl | with_reducible assumption | (symm; with_reducible assumption) | ((try simp only [natCast_eq, List.nil_append]); first | done | with_reducible rfl | omega | exact take_cg (by omega) | exact drop_cg (by omega) | exact take_drop_cg (by omega) (by omega) | exact take_all (by omega) | exact take_drop_all (by omega) (by omega) | exact drop_take_cg (by omega) (by omega) (by omega)))
           | (dsimp only; rw [hx1]; exact map_pair_id _)
           | ((try dsimp only [Ty.T, Ty.dflt, KT.T, getM, putM, delM, inI64, maxRow]); first | (simp only [nrm, reduceCtorEq, pair_eta, map_idL, natCast_eq, inI64, maxRow]; first | done | with_reducible assumption | omega) | exact map_pair_id _)
           | ((try dsimp only [Ty.T, Ty.dflt, KT.T, getM, putM, delM, inI64, maxRow] at *); first | ((try simp only [natCast_eq] at *) <;> omega) | ((try simp only [lens, natCast_eq] at *) <;> omega))
           | assumption
           | (symm; assumption)
           | (dsimp only; simp only [nrb, *]; done)
           | (simp; done)
           | (and_intros <;> first | trivial | with_reducible assumption | omega)
           | ((try dsimp only [Ty.T, Ty.dflt, KT.T, getM, putM, delM, inI64, maxRow] at *) <;> simp [*] <;> done))
      | skip
    all_goals (dsimp only; rw [hx2]; rfl)
  have hlo := x.lo
  have hhi := x.hi
  have hlen := x.len
  dsimp only [rdN] at hlo hhi hlen
  (try (conv in (LoopInv.inv _ _) => dsimp only)); (try (conv in (SS.mk _ _) => cbv; (try dsimp only [Ty.T, Ty.dflt, KT.T]); (try simp only [natCast_eq])))
  (with_reducible refine (?_ : T1 _ ?_) ?_; rotate_left 1; (conv => lhs; cbv; (try cbv); (try cbv)); intro hT; clear hT; with_reducible refine Sh.mk (by kernel_rfl) ?_)
  repeat' (first
    | with_reducible (first | refine Ck.mk (C := tt) tt_intro ?_ | refine Ck.mk (show drawOk _ _ = true by kernel_rfl) ?_ | refine Ck.all_cons ?_ | refine Ck.all_nil ?_ | refine Ck.mk (by assumption) ?_ | refine Ck.mk (decide_eq_true (by assumption)) ?_ | refine Ck.mk (decide_eq_false (by assumption)) ?_ | refine Ck.mk ?_ ?_)
    | (with_reducible (first | refine Both.mk (fun h => ?_) (fun h => ?_) | refine Alt.mk (fun h => ?_) (fun h => ?_) | refine Pick.mk (fun h => ?_) (fun l1 x l2 h => ?_)) <;> (have hk := h) <;> (try simp only [nrm, reduceCtorEq, pair_eta, map_idL] at h) <;> (try dsimp only [Ty.T, Ty.dflt, KT.T, getM, putM, delM] at h) <;> (try simp only [natCast_eq] at h) <;> skip <;> (try first | rw [if_pos h] at hr | rw [if_neg h] at hr | rw [ifF h] at hr | rw [ifN h] at hr) <;> (try (have hb : (_ : Bool) = _ := h; clear h; subst hb; (try first | rw [if_pos rfl] at hr | rw [if_neg Bool.false_ne_true] at hr))) <;> first | (exfalso; omega) | exact absurd (h.symm.trans (by assumption) : true = false) Bool.noConfusion | exact absurd (h.symm.trans (by assumption) : false = true) Bool.noConfusion | (with_reducible refine (?_ : T1 _ ?_) ?_; rotate_left 1; (conv => lhs; cbv; (try cbv); (try cbv)); intro hT; clear hT; with_reducible refine Sh.mk (by kernel_rfl) ?_))
    | ((with_reducible refine End.mk ?_); skip)
    | with_reducible exact True.intro)
  all_goals first
    | (fail_if_success (with_reducible refine Exists.intro ?_ ?_)
       first
         | with_reducible rfl
         | with_reducible assumption
         | (symm; with_reducible assumption)
         | omega
         | ((try dsimp only [Ty.T, Ty.dflt, KT.T, getM, putM, delM, inI64, maxRow]); first | done | with_reducible rfl | with_reducible assumption | (symm; with_reducible assumption) | ((try simp only [natCast_eq, List.nil_append]); first | done | with_reducible rfl | omega | exact take_cg (by omega) | exact drop_cg (by omega) | exact take_drop_cg (by omega) (by omega) | exact take_all (by omega) | exact take_drop_all (by omega) (by omega) | exact drop_take_cg (by omega) (by omega) (by omega)))
         | (dsimp only; simp only [List.length_cons, List.length_nil, maxRow]; omega)
         | ((try dsimp only [Ty.T, Ty.dflt, KT.T, getM, putM, delM, inI64, maxRow]); first | (simp only [nrm, reduceCtorEq, pair_eta, map_idL, natCast_eq, inI64, maxRow]; first | done | with_reducible assumption | omega) | exact map_pair_id _)
         | ((try dsimp only [Ty.T, Ty.dflt, KT.T, getM, putM, delM, inI64, maxRow] at *); first | ((try simp only [natCast_eq] at *) <;> omega) | ((try simp only [lens, natCast_eq] at *) <;> omega))
         | assumption
         | (symm; assumption)
         | (dsimp only; simp only [nrb, *]; done)
         | (simp; done)
         | (and_intros <;> first | trivial | with_reducible assumption | omega)
         | ((try dsimp only [Ty.T, Ty.dflt, KT.T, getM, putM, delM, inI64, maxRow] at *) <;> simp [*] <;> done))
    | skip
  rotate_left
  · obtain ⟨h10, h11, h12⟩ := x.done (by assumption)
    refine ⟨[0, 2, 1], by decide, ?_⟩; cbv
    repeat' (first | refine Ck.mk trivial ?_ | refine Ck.mk (by assumption) ?_ | refine Ck.mk ?_ ?_ | refine End.mk ?_ | exact trivial)
    all_goals (try subst hr)
    all_goals first
      | (fail_if_success (with_reducible refine Exists.intro ?_ ?_)
         first
           | with_reducible rfl
           | with_reducible assumption
           | (symm; with_reducible assumption)
           | omega
           | ((try dsimp only [Ty.T, Ty.dflt, KT.T, getM, putM, delM, inI64, maxRow]); first | done | with_reducible rfl | with_reducible assumption | (symm; with_reducible assumption) | ((try simp only [natCast_eq, List.nil_append]); first | done | with_reducible rfl | omega | exact take_cg (by omega) | exact drop_cg (by omega) | exact take_drop_cg (by omega) (by omega) | exact take_all (by omega) | exact take_drop_all (by omega) (by omega) | exact drop_take_cg (by omega) (by omega) (by omega)))
           | first | exact h12 | (rw [← h10]; done) | (rw [h11]; exact map_pair_id _) | (dsimp only; rw [h10]; done) | (exact (map_pair_id _).trans h11)
           | ((try dsimp only [Ty.T, Ty.dflt, KT.T, getM, putM, delM, inI64, maxRow]); first | (simp only [nrm, reduceCtorEq, pair_eta, map_idL, natCast_eq, inI64, maxRow]; first | done | with_reducible assumption | omega) | exact map_pair_id _)
           | ((try dsimp only [Ty.T, Ty.dflt, KT.T, getM, putM, delM, inI64, maxRow] at *); first | ((try simp only [natCast_eq] at *) <;> omega) | ((try simp only [lens, natCast_eq] at *) <;> omega))
           | assumption
           | (symm; assumption)
           | (dsimp only; simp only [nrb, *]; done)
           | (simp; done)
           | (and_intros <;> first | trivial | with_reducible assumption | omega)
           | ((try dsimp only [Ty.T, Ty.dflt, KT.T, getM, putM, delM, inI64, maxRow] at *) <;> simp [*] <;> done))
      | skip
  obtain ⟨y, hy, hy1, hy2⟩ := x.step (by assumption)
  refine ⟨y, by dsimp only; (try simp only [natCast_eq]); omega, ?_⟩
  (try (conv in (LoopInv.inv _ _) => dsimp only)); (try (conv in (SS.mk _ _) => cbv; (try dsimp only [Ty.T, Ty.dflt, KT.T]); (try simp only [natCast_eq])))
  (with_reducible refine (?_ : T1 _ ?_) ?_; rotate_left 1; (conv => lhs; cbv; (try cbv); (try cbv)); intro hT; clear hT; with_reducible refine Sh.mk (by kernel_rfl) ?_)
  repeat' (first
    | with_reducible (first | refine Ck.mk (C := tt) tt_intro ?_ | refine Ck.mk (show drawOk _ _ = true by kernel_rfl) ?_ | refine Ck.all_cons ?_ | refine Ck.all_nil ?_ | refine Ck.mk (by assumption) ?_ | refine Ck.mk (decide_eq_true (by assumption)) ?_ | refine Ck.mk (decide_eq_false (by assumption)) ?_ | refine Ck.mk ?_ ?_)
    | (with_reducible (first | refine Both.mk (fun h => ?_) (fun h => ?_) | refine Alt.mk (fun h => ?_) (fun h => ?_) | refine Pick.mk (fun h => ?_) (fun l1 x l2 h => ?_)) <;> (have hk := h) <;> (try simp only [nrm, reduceCtorEq, pair_eta, map_idL] at h) <;> (try dsimp only [Ty.T, Ty.dflt, KT.T, getM, putM, delM] at h) <;> (try simp only [natCast_eq] at h) <;> skip <;> (try first | rw [if_pos h] at hr | rw [if_neg h] at hr | rw [ifF h] at hr | rw [ifN h] at hr) <;> (try (have hb : (_ : Bool) = _ := h; clear h; subst hb; (try first | rw [if_pos rfl] at hr | rw [if_neg Bool.false_ne_true] at hr))) <;> first | (exfalso; omega) | exact absurd (h.symm.trans (by assumption) : true = false) Bool.noConfusion | exact absurd (h.symm.trans (by assumption) : false = true) Bool.noConfusion | (with_reducible refine (?_ : T1 _ ?_) ?_; rotate_left 1; (conv => lhs; cbv; (try cbv); (try cbv)); intro hT; clear hT; with_reducible refine Sh.mk (by kernel_rfl) ?_))
    | ((with_reducible refine End.mk ?_); skip)
    | with_reducible exact True.intro)
  all_goals first
    | (fail_if_success (with_reducible refine Exists.intro ?_ ?_)
       first
         | with_reducible rfl
         | with_reducible assumption
         | (symm; with_reducible assumption)
         | omega
         | ((try dsimp only [Ty.T, Ty.dflt, KT.T, getM, putM, delM, inI64, maxRow]); first | done | with_reducible rfl | with_reducible assumption | (symm; with_reducible assumption) | ((try simp only [natCast_eq, List.nil_append]); first | done | with_reducible rfl | omega | exact take_cg (by omega) | exact drop_cg (by omega) | exact take_drop_cg (by omega) (by omega) | exact take_all (by omega) | exact take_drop_all (by omega) (by omega) | exact drop_take_cg (by omega) (by omega) (by omega)))
         | (dsimp only; rw [hy1]; exact map_pair_id _)
         | ((try dsimp only [Ty.T, Ty.dflt, KT.T, getM, putM, delM, inI64, maxRow]); first | (simp only [nrm, reduceCtorEq, pair_eta, map_idL, natCast_eq, inI64, maxRow]; first | done | with_reducible assumption | omega) | exact map_pair_id _)
         | ((try dsimp only [Ty.T, Ty.dflt, KT.T, getM, putM, delM, inI64, maxRow] at *); first | ((try simp only [natCast_eq] at *) <;> omega) | ((try simp only [lens, natCast_eq] at *) <;> omega))
         | assumption
         | (symm; assumption)
         | (dsimp only; simp only [nrb, *]; done)
         | (simp; done)
         | (and_intros <;> first | trivial | with_reducible assumption | omega)
         | ((try dsimp only [Ty.T, Ty.dflt, KT.T, getM, putM, delM, inI64, maxRow] at *) <;> simp [*] <;> done))
    | skip
theorem readn_sound : ConSound Try.prog AI 38 readnSpec.con := RowMeth.sound Try.call38 ⟨fun a W h => by cases a <;> cases h; rfl, fun W x h => readn_ok W x.1 h⟩
theorem lay_free (x : Ab) (j : Nat) (hj : j < (lay x).length) : freeC (getC (lay x) j) = true := by
  cases x with
  | sto S =>
    simp [lay] at hj
    obtain rfl | rfl : j = 0 ∨ j = 1 := by omega
    · rfl
    · rfl
  | mov M =>
    show freeC (getC (layM M (M ()).ph) j) = true
    have hj : j < (layM M (M ()).ph).length := hj
    cases h : (M ()).ph <;> rw [h] at hj <;> simp [layM] at hj
    · obtain rfl | rfl : j = 0 ∨ j = 1 := by omega
      · rfl
      · rfl
    · obtain rfl | rfl | rfl : j = 0 ∨ j = 1 ∨ j = 2 := by omega
      · rfl
      · rfl
      · rfl
    · obtain rfl | rfl : j = 0 ∨ j = 1 := by omega
      · rfl
      · rfl
theorem putW_sound : ConSound Try.prog AI 37 putSpec.conW := MethSpec.soundW Try.call37 ⟨fun a W h => by cases a <;> cases h; rfl, (fun h => by cases h), fun W x h => put_ok W x.1.1 x.1.2.1 x.1.2.2 h⟩ (fun _ => rfl) (fun W => absOf_free lay_free _)
noncomputable abbrev Emn : Env Ab := ⟨tis, [(38, readnSpec.con)] ++ E0.con⟩
theorem emnOk : EnvOk Try.prog AI Emn := (e0Ok.add readn_sound)
def mreadnSpec : RowMeth Ab := ⟨Mov, selM, .mov, [.cell (.int .i64)], fun S (x : Int × Unit) => OkM S, 5, .int .u8, fun S (x : Int × Unit) => (readM S x.1).1.1, fun S (x : Int × Unit) => (readM S x.1).2⟩
theorem mreadn_ok (S : Mov) (m : Int) (h : mreadnSpec.pre S (m, ())) : TmplOk Try.prog AI 15 (Sx.one (.ptr 0 0) :: argS mreadnSpec.ds (fun _ => (m, ()))) [.abs (mreadnSpec.put (fun _ => S))] (Sx.one (.hd 1 0)) [.abs (mreadnSpec.put (fun _ => mreadnSpec.next S (m, ()))), .row mreadnSpec.et mreadnSpec.e 0 (fun _ => mreadnSpec.f S (m, ()))] := by
  dsimp only [mreadnSpec] at h ⊢
  have hM := h
  obtain ⟨w, ph, a, b⟩ := S
  cases ph
  · dsimp only [readM]
    generalize hqa : readF a m = qa
    generalize hqb : readF b m = qb
    refine tmpl_objN emnOk mixed (fn := Try.f15) (c := bodyOf Try.f15) (by kernel_rfl) (by kernel_rfl) (by kernel_rfl) (Nat.le_of_ble_eq_true (by kernel_rfl)) (layOk _) (layOk _) ?_
    (try (conv in (LoopInv.inv _ _) => dsimp only)); (try (conv in (SS.mk _ _) => cbv; (try dsimp only [readnSpec, Ty.T, Ty.dflt, KT.T]); (try simp only [natCast_eq])))
    (with_reducible refine (?_ : T1 _ ?_) ?_; rotate_left 1; (conv => lhs; cbv; (try cbv); (try cbv)); intro hT; clear hT; with_reducible refine Sh.mk (by kernel_rfl) ?_)
    repeat' (first
      | with_reducible (first | refine Ck.mk (C := tt) tt_intro ?_ | refine Ck.mk (show drawOk _ _ = true by kernel_rfl) ?_ | refine Ck.all_cons ?_ | refine Ck.all_nil ?_ | refine Ck.mk (by assumption) ?_ | refine Ck.mk (decide_eq_true (by assumption)) ?_ | refine Ck.mk (decide_eq_false (by assumption)) ?_ | refine Ck.mk ?_ ?_)
      | (with_reducible (first | refine Both.mk (fun h => ?_) (fun h => ?_) | refine Alt.mk (fun h => ?_) (fun h => ?_) | refine Pick.mk (fun h => ?_) (fun l1 x l2 h => ?_)) <;> (have hk := h) <;> (try simp only [nrm, reduceCtorEq, pair_eta, map_idL] at h) <;> (try dsimp only [readnSpec, Ty.T, Ty.dflt, KT.T, getM, putM, delM] at h) <;> (try simp only [natCast_eq] at h) <;> skip <;> (try first | rw [if_pos h] at hr | rw [if_neg h] at hr | rw [ifF h] at hr | rw [ifN h] at hr) <;> (try (have hb : (_ : Bool) = _ := h; clear h; subst hb; (try first | rw [if_pos rfl] at hr | rw [if_neg Bool.false_ne_true] at hr))) <;> first | (exfalso; omega) | exact absurd (h.symm.trans (by assumption) : true = false) Bool.noConfusion | exact absurd (h.symm.trans (by assumption) : false = true) Bool.noConfusion | (with_reducible refine (?_ : T1 _ ?_) ?_; rotate_left 1; (conv => lhs; cbv; (try cbv); (try cbv)); intro hT; clear hT; with_reducible refine Sh.mk (by kernel_rfl) ?_))
      | ((with_reducible refine End.mk ?_); skip)
      | with_reducible exact True.intro)
    all_goals first
      | (fail_if_success (with_reducible refine Exists.intro ?_ ?_)
         first
           | with_reducible rfl
           | with_reducible assumption
           | (symm; with_reducible assumption)
           | omega
           | ((try dsimp only [readnSpec, Ty.T, Ty.dflt, KT.T, getM, putM, delM, inI64, maxRow]); first | done | with_reducible rfl | with_reducible assumption | (symm; with_reducible assumption) | ((try simp only [natCast_eq, List.nil_append]); first | done | with_reducible rfl | omega | exact take_cg (by omega) | exact drop_cg (by omega) | exact take_drop_cg (by omega) (by omega) | exact take_all (by omega) | exact take_drop_all (by omega) (by omega) | exact drop_take_cg (by omega) (by omega) (by omega)))
           | exact (hM.a (fun e => by cases e)).1.pre
           | ((try dsimp only [readnSpec, Ty.T, Ty.dflt, KT.T, getM, putM, delM, inI64, maxRow]); first | (simp only [nrm, reduceCtorEq, pair_eta, map_idL, natCast_eq, inI64, maxRow]; first | done | with_reducible assumption | omega) | exact map_pair_id _)
           | ((try dsimp only [readnSpec, Ty.T, Ty.dflt, KT.T, getM, putM, delM, inI64, maxRow] at *); first | ((try simp only [natCast_eq] at *) <;> omega) | ((try simp only [lens, natCast_eq] at *) <;> omega))
           | assumption
           | (symm; assumption)
           | (dsimp only; simp only [nrb, *]; done)
           | (simp; done)
           | (and_intros <;> first | trivial | with_reducible assumption | omega)
           | ((try dsimp only [readnSpec, Ty.T, Ty.dflt, KT.T, getM, putM, delM, inI64, maxRow] at *) <;> simp [*] <;> done))
      | skip
    refine ⟨[0, 2, 1], by decide, ?_⟩; cbv
    repeat' (first | refine Ck.mk trivial ?_ | refine Ck.mk (by assumption) ?_ | refine Ck.mk ?_ ?_ | refine End.mk ?_ | exact trivial)
    all_goals first
      | (fail_if_success (with_reducible refine Exists.intro ?_ ?_)
         first
           | with_reducible rfl
           | with_reducible assumption
           | (symm; with_reducible assumption)
           | omega
           | ((try dsimp only [readnSpec, Ty.T, Ty.dflt, KT.T, getM, putM, delM, inI64, maxRow]); first | done | with_reducible rfl | with_reducible assumption | (symm; with_reducible assumption) | ((try simp only [natCast_eq, List.nil_append]); first | done | with_reducible rfl | omega | exact take_cg (by omega) | exact drop_cg (by omega) | exact take_drop_cg (by omega) (by omega) | exact take_all (by omega) | exact take_drop_all (by omega) (by omega) | exact drop_take_cg (by omega) (by omega) (by omega)))
           | first | exact congrArg Prod.snd hqa | exact congrArg (fun q => q.1.1) hqa
           | ((try dsimp only [readnSpec, Ty.T, Ty.dflt, KT.T, getM, putM, delM, inI64, maxRow]); first | (simp only [nrm, reduceCtorEq, pair_eta, map_idL, natCast_eq, inI64, maxRow]; first | done | with_reducible assumption | omega) | exact map_pair_id _)
           | ((try dsimp only [readnSpec, Ty.T, Ty.dflt, KT.T, getM, putM, delM, inI64, maxRow] at *); first | ((try simp only [natCast_eq] at *) <;> omega) | ((try simp only [lens, natCast_eq] at *) <;> omega))
           | assumption
           | (symm; assumption)
           | (dsimp only; simp only [nrb, *]; done)
           | (simp; done)
           | (and_intros <;> first | trivial | with_reducible assumption | omega)
           | ((try dsimp only [readnSpec, Ty.T, Ty.dflt, KT.T, getM, putM, delM, inI64, maxRow] at *) <;> simp [*] <;> done))
      | skip
  · dsimp only [readM]
    generalize hqa : readF a m = qa
    generalize hqb : readF b m = qb
    refine tmpl_objN emnOk mixed (fn := Try.f15) (c := bodyOf Try.f15) (by kernel_rfl) (by kernel_rfl) (by kernel_rfl) (Nat.le_of_ble_eq_true (by kernel_rfl)) (layOk _) (layOk _) ?_
    (try (conv in (LoopInv.inv _ _) => dsimp only)); (try (conv in (SS.mk _ _) => cbv; (try dsimp only [readnSpec, Ty.T, Ty.dflt, KT.T]); (try simp only [natCast_eq])))
    (with_reducible refine (?_ : T1 _ ?_) ?_; rotate_left 1; (conv => lhs; cbv; (try cbv); (try cbv)); intro hT; clear hT; with_reducible refine Sh.mk (by kernel_rfl) ?_)
    repeat' (first
      | with_reducible (first | refine Ck.mk (C := tt) tt_intro ?_ | refine Ck.mk (show drawOk _ _ = true by kernel_rfl) ?_ | refine Ck.all_cons ?_ | refine Ck.all_nil ?_ | refine Ck.mk (by assumption) ?_ | refine Ck.mk (decide_eq_true (by assumption)) ?_ | refine Ck.mk (decide_eq_false (by assumption)) ?_ | refine Ck.mk ?_ ?_)
      | (with_reducible (first | refine Both.mk (fun h => ?_) (fun h => ?_) | refine Alt.mk (fun h => ?_) (fun h => ?_) | refine Pick.mk (fun h => ?_) (fun l1 x l2 h => ?_)) <;> (have hk := h) <;> (try simp only [nrm, reduceCtorEq, pair_eta, map_idL] at h) <;> (try dsimp only [readnSpec, Ty.T, Ty.dflt, KT.T, getM, putM, delM] at h) <;> (try simp only [natCast_eq] at h) <;> skip <;> (try first | rw [if_pos h] at hr | rw [if_neg h] at hr | rw [ifF h] at hr | rw [ifN h] at hr) <;> (try (have hb : (_ : Bool) = _ := h; clear h; subst hb; (try first | rw [if_pos rfl] at hr | rw [if_neg Bool.false_ne_true] at hr))) <;> first | (exfalso; omega) | exact absurd (h.symm.trans (by assumption) : true = false) Bool.noConfusion | exact absurd (h.symm.trans (by assumption) : false = true) Bool.noConfusion | (with_reducible refine (?_ : T1 _ ?_) ?_; rotate_left 1; (conv => lhs; cbv; (try cbv); (try cbv)); intro hT; clear hT; with_reducible refine Sh.mk (by kernel_rfl) ?_))
      | ((with_reducible refine End.mk ?_); skip)
      | with_reducible exact True.intro)
    all_goals first
      | (fail_if_success (with_reducible refine Exists.intro ?_ ?_)
         first
           | with_reducible rfl
           | with_reducible assumption
           | (symm; with_reducible assumption)
           | omega
           | ((try dsimp only [readnSpec, Ty.T, Ty.dflt, KT.T, getM, putM, delM, inI64, maxRow]); first | done | with_reducible rfl | with_reducible assumption | (symm; with_reducible assumption) | ((try simp only [natCast_eq, List.nil_append]); first | done | with_reducible rfl | omega | exact take_cg (by omega) | exact drop_cg (by omega) | exact take_drop_cg (by omega) (by omega) | exact take_all (by omega) | exact take_drop_all (by omega) (by omega) | exact drop_take_cg (by omega) (by omega) (by omega)))
           | exact (hM.b (fun e => by cases e)).1.pre
           | ((try dsimp only [readnSpec, Ty.T, Ty.dflt, KT.T, getM, putM, delM, inI64, maxRow]); first | (simp only [nrm, reduceCtorEq, pair_eta, map_idL, natCast_eq, inI64, maxRow]; first | done | with_reducible assumption | omega) | exact map_pair_id _)
           | ((try dsimp only [readnSpec, Ty.T, Ty.dflt, KT.T, getM, putM, delM, inI64, maxRow] at *); first | ((try simp only [natCast_eq] at *) <;> omega) | ((try simp only [lens, natCast_eq] at *) <;> omega))
           | assumption
           | (symm; assumption)
           | (dsimp only; simp only [nrb, *]; done)
           | (simp; done)
           | (and_intros <;> first | trivial | with_reducible assumption | omega)
           | ((try dsimp only [readnSpec, Ty.T, Ty.dflt, KT.T, getM, putM, delM, inI64, maxRow] at *) <;> simp [*] <;> done))
      | skip
    refine ⟨[0, 3, 1, 2], by decide, ?_⟩; cbv
    repeat' (first | refine Ck.mk trivial ?_ | refine Ck.mk (by assumption) ?_ | refine Ck.mk ?_ ?_ | refine End.mk ?_ | exact trivial)
    all_goals first
      | (fail_if_success (with_reducible refine Exists.intro ?_ ?_)
         first
           | with_reducible rfl
           | with_reducible assumption
           | (symm; with_reducible assumption)
           | omega
           | ((try dsimp only [readnSpec, Ty.T, Ty.dflt, KT.T, getM, putM, delM, inI64, maxRow]); first | done | with_reducible rfl | with_reducible assumption | (symm; with_reducible assumption) | ((try simp only [natCast_eq, List.nil_append]); first | done | with_reducible rfl | omega | exact take_cg (by omega) | exact drop_cg (by omega) | exact take_drop_cg (by omega) (by omega) | exact take_all (by omega) | exact take_drop_all (by omega) (by omega) | exact drop_take_cg (by omega) (by omega) (by omega)))
           | first | exact congrArg Prod.snd hqb | exact congrArg (fun q => q.1.1) hqb
           | ((try dsimp only [readnSpec, Ty.T, Ty.dflt, KT.T, getM, putM, delM, inI64, maxRow]); first | (simp only [nrm, reduceCtorEq, pair_eta, map_idL, natCast_eq, inI64, maxRow]; first | done | with_reducible assumption | omega) | exact map_pair_id _)
           | ((try dsimp only [readnSpec, Ty.T, Ty.dflt, KT.T, getM, putM, delM, inI64, maxRow] at *); first | ((try simp only [natCast_eq] at *) <;> omega) | ((try simp only [lens, natCast_eq] at *) <;> omega))
           | assumption
           | (symm; assumption)
           | (dsimp only; simp only [nrb, *]; done)
           | (simp; done)
           | (and_intros <;> first | trivial | with_reducible assumption | omega)
           | ((try dsimp only [readnSpec, Ty.T, Ty.dflt, KT.T, getM, putM, delM, inI64, maxRow] at *) <;> simp [*] <;> done))
      | skip
  · dsimp only [readM]
    generalize hqa : readF a m = qa
    generalize hqb : readF b m = qb
    refine tmpl_objN emnOk mixed (fn := Try.f15) (c := bodyOf Try.f15) (by kernel_rfl) (by kernel_rfl) (by kernel_rfl) (Nat.le_of_ble_eq_true (by kernel_rfl)) (layOk _) (layOk _) ?_
    (try (conv in (LoopInv.inv _ _) => dsimp only)); (try (conv in (SS.mk _ _) => cbv; (try dsimp only [readnSpec, Ty.T, Ty.dflt, KT.T]); (try simp only [natCast_eq])))
    (with_reducible refine (?_ : T1 _ ?_) ?_; rotate_left 1; (conv => lhs; cbv; (try cbv); (try cbv)); intro hT; clear hT; with_reducible refine Sh.mk (by kernel_rfl) ?_)
    repeat' (first
      | with_reducible (first | refine Ck.mk (C := tt) tt_intro ?_ | refine Ck.mk (show drawOk _ _ = true by kernel_rfl) ?_ | refine Ck.all_cons ?_ | refine Ck.all_nil ?_ | refine Ck.mk (by assumption) ?_ | refine Ck.mk (decide_eq_true (by assumption)) ?_ | refine Ck.mk (decide_eq_false (by assumption)) ?_ | refine Ck.mk ?_ ?_)
      | (with_reducible (first | refine Both.mk (fun h => ?_) (fun h => ?_) | refine Alt.mk (fun h => ?_) (fun h => ?_) | refine Pick.mk (fun h => ?_) (fun l1 x l2 h => ?_)) <;> (have hk := h) <;> (try simp only [nrm, reduceCtorEq, pair_eta, map_idL] at h) <;> (try dsimp only [readnSpec, Ty.T, Ty.dflt, KT.T, getM, putM, delM] at h) <;> (try simp only [natCast_eq] at h) <;> skip <;> (try first | rw [if_pos h] at hr | rw [if_neg h] at hr | rw [ifF h] at hr | rw [ifN h] at hr) <;> (try (have hb : (_ : Bool) = _ := h; clear h; subst hb; (try first | rw [if_pos rfl] at hr | rw [if_neg Bool.false_ne_true] at hr))) <;> first | (exfalso; omega) | exact absurd (h.symm.trans (by assumption) : true = false) Bool.noConfusion | exact absurd (h.symm.trans (by assumption) : false = true) Bool.noConfusion | (with_reducible refine (?_ : T1 _ ?_) ?_; rotate_left 1; (conv => lhs; cbv; (try cbv); (try cbv)); intro hT; clear hT; with_reducible refine Sh.mk (by kernel_rfl) ?_))
      | ((with_reducible refine End.mk ?_); skip)
      | with_reducible exact True.intro)
    all_goals first
      | (fail_if_success (with_reducible refine Exists.intro ?_ ?_)
         first
           | with_reducible rfl
           | with_reducible assumption
           | (symm; with_reducible assumption)
           | omega
           | ((try dsimp only [readnSpec, Ty.T, Ty.dflt, KT.T, getM, putM, delM, inI64, maxRow]); first | done | with_reducible rfl | with_reducible assumption | (symm; with_reducible assumption) | ((try simp only [natCast_eq, List.nil_append]); first | done | with_reducible rfl | omega | exact take_cg (by omega) | exact drop_cg (by omega) | exact take_drop_cg (by omega) (by omega) | exact take_all (by omega) | exact take_drop_all (by omega) (by omega) | exact drop_take_cg (by omega) (by omega) (by omega)))
           | exact (hM.b (fun e => by cases e)).1.pre
           | ((try dsimp only [readnSpec, Ty.T, Ty.dflt, KT.T, getM, putM, delM, inI64, maxRow]); first | (simp only [nrm, reduceCtorEq, pair_eta, map_idL, natCast_eq, inI64, maxRow]; first | done | with_reducible assumption | omega) | exact map_pair_id _)
           | ((try dsimp only [readnSpec, Ty.T, Ty.dflt, KT.T, getM, putM, delM, inI64, maxRow] at *); first | ((try simp only [natCast_eq] at *) <;> omega) | ((try simp only [lens, natCast_eq] at *) <;> omega))
           | assumption
           | (symm; assumption)
           | (dsimp only; simp only [nrb, *]; done)
           | (simp; done)
           | (and_intros <;> first | trivial | with_reducible assumption | omega)
           | ((try dsimp only [readnSpec, Ty.T, Ty.dflt, KT.T, getM, putM, delM, inI64, maxRow] at *) <;> simp [*] <;> done))
      | skip
    refine ⟨[0, 2, 1], by decide, ?_⟩; cbv
    repeat' (first | refine Ck.mk trivial ?_ | refine Ck.mk (by assumption) ?_ | refine Ck.mk ?_ ?_ | refine End.mk ?_ | exact trivial)
    all_goals first
      | (fail_if_success (with_reducible refine Exists.intro ?_ ?_)
         first
           | with_reducible rfl
           | with_reducible assumption
           | (symm; with_reducible assumption)
           | omega
           | ((try dsimp only [readnSpec, Ty.T, Ty.dflt, KT.T, getM, putM, delM, inI64, maxRow]); first | done | with_reducible rfl | with_reducible assumption | (symm; with_reducible assumption) | ((try simp only [natCast_eq, List.nil_append]); first | done | with_reducible rfl | omega | exact take_cg (by omega) | exact drop_cg (by omega) | exact take_drop_cg (by omega) (by omega) | exact take_all (by omega) | exact take_drop_all (by omega) (by omega) | exact drop_take_cg (by omega) (by omega) (by omega)))
           | first | exact congrArg Prod.snd hqb | exact congrArg (fun q => q.1.1) hqb
           | ((try dsimp only [readnSpec, Ty.T, Ty.dflt, KT.T, getM, putM, delM, inI64, maxRow]); first | (simp only [nrm, reduceCtorEq, pair_eta, map_idL, natCast_eq, inI64, maxRow]; first | done | with_reducible assumption | omega) | exact map_pair_id _)
           | ((try dsimp only [readnSpec, Ty.T, Ty.dflt, KT.T, getM, putM, delM, inI64, maxRow] at *); first | ((try simp only [natCast_eq] at *) <;> omega) | ((try simp only [lens, natCast_eq] at *) <;> omega))
           | assumption
           | (symm; assumption)
           | (dsimp only; simp only [nrb, *]; done)
           | (simp; done)
           | (and_intros <;> first | trivial | with_reducible assumption | omega)
           | ((try dsimp only [readnSpec, Ty.T, Ty.dflt, KT.T, getM, putM, delM, inI64, maxRow] at *) <;> simp [*] <;> done))
      | skip
theorem mreadn_sound : ConSound Try.prog AI 15 mreadnSpec.con := RowMeth.sound Try.call15 ⟨fun a W h => by cases a <;> cases h; rfl, fun W x h => mreadn_ok W x.1 h⟩
end Go.Proofs.Ytgdiepbjdpmfbaa
