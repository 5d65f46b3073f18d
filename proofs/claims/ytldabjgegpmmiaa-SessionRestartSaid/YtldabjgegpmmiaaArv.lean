/-
  Layer 47: the method arrive of a pair.
-/
import Derived.Test.YtldabjgegpmmiaaPai
namespace Go.Proofs.Ytldabjgegpmmiaa
set_option linter.all false
set_option linter.unusedVariables false
set_option linter.unusedSimpArgs false
set_option linter.unusedSectionVars false
open Go.RowKit Go.Sx
set_option maxRecDepth 100000
set_option maxHeartbeats 16000000
theorem ite_P {α : Type} {P : α → Prop} {c : Prop} [Decidable c] {a b : α} (ha : P a) (hb : P b) : P (if c then a else b) := by split <;> assumption
theorem erc_len (E : Edd) (m : Msg) : ((ercF E m).1.1 : List Msg).length ≤ 1 := by
  show (fun x : TLI × Edd => (x.1.1 : List Msg).length ≤ 1) (ercF E m)
  unfold ercF erc1 refuL refu erc2 takE setA noM
  repeat' (refine ite_P (P := fun x : TLI × Edd => (x.1.1 : List Msg).length ≤ 1) ?_ ?_)
  all_goals first | exact Nat.zero_le _ | exact Nat.le_refl 1
abbrev msg0 : Msg := (0, 0, 0, (0, [], false), 0, 0, false)
abbrev atM (l : List Msg) (k : Int) : Msg := l.getD (k % (l.length : Int)).toNat msg0
abbrev cutM (l : List Msg) (k : Int) : List Msg := l.take (k % (l.length : Int)).toNat ++ l.drop (k % (l.length : Int) + 1).toNat
def paF0 (S : Pr) (k : Int) (keep : Bool) : T0 × Pr :=
  if (S.f0.length : Int) = 0 then ((), S)
  else if keep = true then ((), { S with e0 := (ercF S.e0 (atM S.f0 k)).2, f1 := S.f1 ++ (ercF S.e0 (atM S.f0 k)).1.1 })
  else ((), { S with e0 := (ercF S.e0 (atM S.f0 k)).2, f0 := cutM S.f0 k, f1 := S.f1 ++ (ercF S.e0 (atM S.f0 k)).1.1 })
def paF1 (S : Pr) (k : Int) (keep : Bool) : T0 × Pr :=
  if (S.f1.length : Int) = 0 then ((), S)
  else if keep = true then ((), { S with e1 := (ercF S.e1 (atM S.f1 k)).2, f0 := S.f0 ++ (ercF S.e1 (atM S.f1 k)).1.1 })
  else ((), { S with e1 := (ercF S.e1 (atM S.f1 k)).2, f1 := cutM S.f1 k, f0 := S.f0 ++ (ercF S.e1 (atM S.f1 k)).1.1 })
def paF (S : Pr) (i k : Int) (keep : Bool) : T0 × Pr := if i = 0 then paF0 S k keep else paF1 S k keep
theorem modAt_lt {k n : Int} (h : 0 < n) : 0 ≤ k % n ∧ k % n < n := ⟨Int.emod_nonneg k (by omega), Int.emod_lt_of_pos k h⟩
theorem atM_mem {l : List Msg} {k : Int} (h : ¬ (l.length : Int) = 0) : atM l k ∈ l := by
  have h0 : 0 < (l.length : Int) := by omega
  have h1 := Int.emod_nonneg k (show (l.length : Int) ≠ 0 by omega)
  have h2 := Int.emod_lt_of_pos k h0
  unfold atM
  rw [List.getD_eq_getElem?_getD, List.getElem?_eq_getElem (by omega)]
  exact List.getElem_mem _
theorem mod_f {l : List Msg} {k : Int} (h : ¬ (l.length : Int) = 0) : 0 ≤ k % (l.length : Int) ∧ k % (l.length : Int) < l.length := modAt_lt (by omega)
theorem cut_eq {l : List Msg} {k : Int} (h : ¬ (l.length : Int) = 0) : l.take (k % (l.length : Int)).toNat ++ ((l.drop (k % (l.length : Int) + 1).toNat).take ((l.length : Int) - (k % (l.length : Int) + 1)).toNat) = cutM l k := by
  have := mod_f (k := k) h
  unfold cutM
  rw [List.take_of_length_le (l := l.drop _) (by rw [List.length_drop]; omega)]
def parSpec : StepM Ab Pr := ⟨parL, [.cell (.int .i64), .cell (.int .i64), .cell .bool], fun S (x : Int × Int × Bool × Unit) => (x.1 = 0 ∨ x.1 = 1) ∧ (OkE S.e0 ∧ OkE S.e1) ∧ (S.f0.length ≤ 1000000 ∧ S.f1.length ≤ 1000000) ∧ (0 ≤ x.2.1 ∧ x.2.1 ≤ 1000000) ∧ (∀ m ∈ S.f0, m.2.2.2.1.2.1.length ≤ 1048576) ∧ (∀ m ∈ S.f1, m.2.2.2.1.2.1.length ≤ 1048576), [], fun S (x : Int × Int × Bool × Unit) => (paF S x.1 x.2.1 x.2.2.1).1, fun S (x : Int × Int × Bool × Unit) => (paF S x.1 x.2.1 x.2.2.1).2⟩
theorem par_ok (S : Pr) (i : Int) (k : Int) (keep : Bool) (h : parSpec.pre S (i, k, keep, ())) : ∃ args : List SV, args.length + 1 ≤ Try.f14.ntmps ∧ args.all (belV (parL).k) = true ∧ (∀ (ρ : Ev) us, All2 (Den ρ) (argS [.cell (.int .i64), .cell (.int .i64), .cell .bool] (fun _ => (i, k, keep, ()))) us → All2 (Den ρ) args us) ∧ (svc Ept (parL).k (bodyOf Try.f14) ⟨argT 0 (Sx.one (.ptr 0 0) :: args), (parL).opn (fun _ => S)⟩ (finP Ept.ti (parL).k Try.f14.results.toList (resOf (svs parSpec.rs (fun _ => parSpec.f S (i, k, keep, ())))) ((parL).opn (fun _ => parSpec.next S (i, k, keep, ())))) ∨ svc Ept (parL).k (bodyOf Try.f14) ⟨argT 0 (Sx.one (.ptr 0 0) :: args), (parL).opn (fun _ => S)⟩ (finR Ept.ti (parL).k Try.f14.results.toList (resOf (svs parSpec.rs (fun _ => parSpec.f S (i, k, keep, ())))) ((parL).opn (fun _ => parSpec.next S (i, k, keep, ()))))) := by
  dsimp only [parSpec, parL] at h ⊢
  obtain ⟨hi, ⟨h1, h2⟩, ⟨h3, h4⟩, ⟨h5, h6⟩, h7, h8⟩ := h
  have hq0 := erc_len S.e0 (atM S.f0 k)
  have hq1 := erc_len S.e1 (atM S.f1 k)
  rcases hi with rfl | rfl
  · refine ⟨[Sx.one (.li .i64 0), Sx.one (.int .i64 (fun _ => k)), Sx.one (.sb (fun _ => keep))], Nat.le_of_ble_eq_true (by kernel_rfl), rfl, (fun ρ us hd => by rcases hd with _ | ⟨h1, h2⟩; exact .cons h1 h2), .inr ?_⟩
    generalize hr : paF S 0 k keep = r
    dsimp only [paF, paF0, paF1] at hr
    (try (conv in (LoopInv.inv _ _) => dsimp only)); (try (conv in (SS.mk _ _) => cbv; (try dsimp only [ercSpec, Ty.T, Ty.dflt, KT.T]); (try simp only [natCast_eq])))
    (with_reducible refine (?_ : T1 _ ?_) ?_; rotate_left 1; (conv => lhs; cbv; (try cbv); (try cbv)); intro hT; clear hT; with_reducible refine Sh.mk (by kernel_rfl) ?_)
    repeat' (first
      | with_reducible (first | refine Ck.mk (C := tt) tt_intro ?_ | refine Ck.mk (show drawOk _ _ = true by kernel_rfl) ?_ | refine Ck.all_cons ?_ | refine Ck.all_nil ?_ | refine Ck.mk (by assumption) ?_ | refine Ck.mk (decide_eq_true (by assumption)) ?_ | refine Ck.mk (decide_eq_false (by assumption)) ?_ | refine Ck.mk ?_ ?_)
      | (with_reducible (first | refine Both.mk (fun h => ?_) (fun h => ?_) | refine Alt.mk (fun h => ?_) (fun h => ?_) | refine Pick.mk (fun h => ?_) (fun l1 x l2 h => ?_)) <;> (have hk := h) <;> (try simp only [nrm, reduceCtorEq, pair_eta, map_idL] at h) <;> (try dsimp only [ercSpec, Ty.T, Ty.dflt, KT.T, getM, putM, delM] at h) <;> (try simp only [natCast_eq] at h) <;> (try (have hm := mod_f (k := k) h)) <;> (try first | rw [if_pos h] at hr | rw [if_neg h] at hr | rw [ifF h] at hr | rw [ifN h] at hr) <;> (try (have hb : (_ : Bool) = _ := h; clear h; subst hb; (try first | rw [if_pos rfl] at hr | rw [if_neg Bool.false_ne_true] at hr))) <;> first | (exfalso; omega) | exact absurd (h.symm.trans (by assumption) : true = false) Bool.noConfusion | exact absurd (h.symm.trans (by assumption) : false = true) Bool.noConfusion | (with_reducible refine (?_ : T1 _ ?_) ?_; rotate_left 1; (conv => lhs; cbv; (try cbv); (try cbv)); intro hT; clear hT; with_reducible refine Sh.mk (by kernel_rfl) ?_))
      | ((with_reducible refine End.mk ?_); (try ((repeat (first | rw [if_pos (by first | assumption | omega)] at hr | rw [if_neg (by first | assumption | omega | (simp only [Bool.false_eq_true, Bool.true_eq_false, reduceCtorEq, not_false_eq_true]; done) | (simp only [Bool.not_eq_true]; assumption) | (simp only [Bool.not_eq_false]; assumption))] at hr | rw [if_pos rfl] at hr)); subst hr)))
      | with_reducible exact True.intro)
    all_goals first
      | (fail_if_success (with_reducible refine Exists.intro ?_ ?_)
         first
           | with_reducible rfl
           | with_reducible assumption
           | (symm; with_reducible assumption)
           | omega
           | ((try dsimp only [ercSpec, Ty.T, Ty.dflt, KT.T, getM, putM, delM, inI64, maxRow]); first | done | with_reducible rfl | with_reducible assumption | (symm; with_reducible assumption) | ((try simp only [natCast_eq, List.nil_append]); first | done | with_reducible rfl | omega | exact take_cg (by omega) | exact drop_cg (by omega) | exact take_drop_cg (by omega) (by omega) | exact take_all (by omega) | exact take_drop_all (by omega) (by omega) | exact drop_take_cg (by omega) (by omega) (by omega)))
           | first | exact ⟨h1, h7 _ (atM_mem (by assumption))⟩ | exact ⟨h2, h8 _ (atM_mem (by assumption))⟩
           | (simp only [List.length_map, List.length_append, List.length_take, List.length_drop, List.length_nil]; unfold maxRow; omega)
           | (refine Nat.le_trans (Nat.add_le_add_left (Nat.le_trans (Nat.le_of_eq (List.length_map _)) (erc_len _ _)) _) ?_; dsimp only; unfold maxRow; omega)
           | ((try dsimp only [ercSpec, Ty.T, Ty.dflt, KT.T, getM, putM, delM, inI64, maxRow]); first | (simp only [nrm, reduceCtorEq, pair_eta, map_idL, natCast_eq, inI64, maxRow]; first | done | with_reducible assumption | omega) | exact map_pair_id _)
           | ((try dsimp only [ercSpec, Ty.T, Ty.dflt, KT.T, getM, putM, delM, inI64, maxRow] at *); first | ((try simp only [natCast_eq] at *) <;> omega) | ((try simp only [lens, natCast_eq] at *) <;> omega))
           | assumption
           | (symm; assumption)
           | (dsimp only; simp only [nrb, *]; done)
           | (simp; done)
           | (and_intros <;> first | trivial | with_reducible assumption | omega)
           | ((try dsimp only [ercSpec, Ty.T, Ty.dflt, KT.T, getM, putM, delM, inI64, maxRow] at *) <;> simp [*] <;> done))
      | skip
    all_goals (try (repeat (first | rw [if_pos (by first | assumption | omega)] at hr | rw [if_neg (by first | assumption | omega | (simp only [Bool.false_eq_true, Bool.true_eq_false, reduceCtorEq, not_false_eq_true]; done) | (simp only [Bool.not_eq_true]; assumption) | (simp only [Bool.not_eq_false]; assumption))] at hr | rw [if_pos rfl] at hr)); subst hr)
    all_goals first
      | (refine ⟨[0, 1, 2, 3, 4, 5, 6, 7, 8], by decide, ?_⟩; cbv; first | with_reducible refine Ck.mk trivial ?_ | with_reducible refine Ck.mk ?_ ?_ | with_reducible refine End.mk ?_)
      | (refine ⟨[0, 1, 2, 10, 4, 5, 6, 7, 8], by decide, ?_⟩; cbv; first | with_reducible refine Ck.mk trivial ?_ | with_reducible refine Ck.mk ?_ ?_ | with_reducible refine End.mk ?_)
      | (refine ⟨[0, 1, 2, 3, 10, 5, 6, 7, 8], by decide, ?_⟩; cbv; first | with_reducible refine Ck.mk trivial ?_ | with_reducible refine Ck.mk ?_ ?_ | with_reducible refine End.mk ?_)
    repeat' (first | refine Ck.mk trivial ?_ | refine Ck.mk (by assumption) ?_ | refine Ck.mk ?_ ?_ | refine End.mk ?_ | exact trivial)
    all_goals first
      | (fail_if_success (with_reducible refine Exists.intro ?_ ?_)
         first
           | with_reducible rfl
           | with_reducible assumption
           | (symm; with_reducible assumption)
           | omega
           | ((try dsimp only [ercSpec, Ty.T, Ty.dflt, KT.T, getM, putM, delM, inI64, maxRow]); first | done | with_reducible rfl | with_reducible assumption | (symm; with_reducible assumption) | ((try simp only [natCast_eq, List.nil_append]); first | done | with_reducible rfl | omega | exact take_cg (by omega) | exact drop_cg (by omega) | exact take_drop_cg (by omega) (by omega) | exact take_all (by omega) | exact take_drop_all (by omega) (by omega) | exact drop_take_cg (by omega) (by omega) (by omega)))
           | ((try dsimp only); (try simp only [pair_eta, map_idL, List.nil_append, Int.sub_zero, Int.toNat_zero, List.drop_zero]); exact cut_eq (by assumption))
           | ((try dsimp only [ercSpec, Ty.T, Ty.dflt, KT.T, getM, putM, delM, inI64, maxRow]); first | (simp only [nrm, reduceCtorEq, pair_eta, map_idL, natCast_eq, inI64, maxRow]; first | done | with_reducible assumption | omega) | exact map_pair_id _)
           | ((try dsimp only [ercSpec, Ty.T, Ty.dflt, KT.T, getM, putM, delM, inI64, maxRow] at *); first | ((try simp only [natCast_eq] at *) <;> omega) | ((try simp only [lens, natCast_eq] at *) <;> omega))
           | assumption
           | (symm; assumption)
           | (dsimp only; simp only [nrb, *]; done)
           | (simp; done)
           | (and_intros <;> first | trivial | with_reducible assumption | omega)
           | ((try dsimp only [ercSpec, Ty.T, Ty.dflt, KT.T, getM, putM, delM, inI64, maxRow] at *) <;> simp [*] <;> done))
      | skip
  · refine ⟨[Sx.one (.li .i64 1), Sx.one (.int .i64 (fun _ => k)), Sx.one (.sb (fun _ => keep))], Nat.le_of_ble_eq_true (by kernel_rfl), rfl, (fun ρ us hd => by rcases hd with _ | ⟨h1, h2⟩; exact .cons h1 h2), .inr ?_⟩
    generalize hr : paF S 1 k keep = r
    dsimp only [paF, paF0, paF1] at hr
    (try (conv in (LoopInv.inv _ _) => dsimp only)); (try (conv in (SS.mk _ _) => cbv; (try dsimp only [ercSpec, Ty.T, Ty.dflt, KT.T]); (try simp only [natCast_eq])))
    (with_reducible refine (?_ : T1 _ ?_) ?_; rotate_left 1; (conv => lhs; cbv; (try cbv); (try cbv)); intro hT; clear hT; with_reducible refine Sh.mk (by kernel_rfl) ?_)
    repeat' (first
      | with_reducible (first | refine Ck.mk (C := tt) tt_intro ?_ | refine Ck.mk (show drawOk _ _ = true by kernel_rfl) ?_ | refine Ck.all_cons ?_ | refine Ck.all_nil ?_ | refine Ck.mk (by assumption) ?_ | refine Ck.mk (decide_eq_true (by assumption)) ?_ | refine Ck.mk (decide_eq_false (by assumption)) ?_ | refine Ck.mk ?_ ?_)
      | (with_reducible (first | refine Both.mk (fun h => ?_) (fun h => ?_) | refine Alt.mk (fun h => ?_) (fun h => ?_) | refine Pick.mk (fun h => ?_) (fun l1 x l2 h => ?_)) <;> (have hk := h) <;> (try simp only [nrm, reduceCtorEq, pair_eta, map_idL] at h) <;> (try dsimp only [ercSpec, Ty.T, Ty.dflt, KT.T, getM, putM, delM] at h) <;> (try simp only [natCast_eq] at h) <;> (try (have hm := mod_f (k := k) h)) <;> (try first | rw [if_pos h] at hr | rw [if_neg h] at hr | rw [ifF h] at hr | rw [ifN h] at hr) <;> (try (have hb : (_ : Bool) = _ := h; clear h; subst hb; (try first | rw [if_pos rfl] at hr | rw [if_neg Bool.false_ne_true] at hr))) <;> first | (exfalso; omega) | exact absurd (h.symm.trans (by assumption) : true = false) Bool.noConfusion | exact absurd (h.symm.trans (by assumption) : false = true) Bool.noConfusion | (with_reducible refine (?_ : T1 _ ?_) ?_; rotate_left 1; (conv => lhs; cbv; (try cbv); (try cbv)); intro hT; clear hT; with_reducible refine Sh.mk (by kernel_rfl) ?_))
      | ((with_reducible refine End.mk ?_); (try ((repeat (first | rw [if_pos (by first | assumption | omega)] at hr | rw [if_neg (by first | assumption | omega | (simp only [Bool.false_eq_true, Bool.true_eq_false, reduceCtorEq, not_false_eq_true]; done) | (simp only [Bool.not_eq_true]; assumption) | (simp only [Bool.not_eq_false]; assumption))] at hr | rw [if_pos rfl] at hr)); subst hr)))
      | with_reducible exact True.intro)
    all_goals first
      | (fail_if_success (with_reducible refine Exists.intro ?_ ?_)
         first
           | with_reducible rfl
           | with_reducible assumption
           | (symm; with_reducible assumption)
           | omega
           | ((try dsimp only [ercSpec, Ty.T, Ty.dflt, KT.T, getM, putM, delM, inI64, maxRow]); first | done | with_reducible rfl | with_reducible assumption | (symm; with_reducible assumption) | ((try simp only [natCast_eq, List.nil_append]); first | done | with_reducible rfl | omega | exact take_cg (by omega) | exact drop_cg (by omega) | exact take_drop_cg (by omega) (by omega) | exact take_all (by omega) | exact take_drop_all (by omega) (by omega) | exact drop_take_cg (by omega) (by omega) (by omega)))
           | first | exact ⟨h1, h7 _ (atM_mem (by assumption))⟩ | exact ⟨h2, h8 _ (atM_mem (by assumption))⟩
           | (simp only [List.length_map, List.length_append, List.length_take, List.length_drop, List.length_nil]; unfold maxRow; omega)
           | (refine Nat.le_trans (Nat.add_le_add_left (Nat.le_trans (Nat.le_of_eq (List.length_map _)) (erc_len _ _)) _) ?_; dsimp only; unfold maxRow; omega)
           | ((try dsimp only [ercSpec, Ty.T, Ty.dflt, KT.T, getM, putM, delM, inI64, maxRow]); first | (simp only [nrm, reduceCtorEq, pair_eta, map_idL, natCast_eq, inI64, maxRow]; first | done | with_reducible assumption | omega) | exact map_pair_id _)
           | ((try dsimp only [ercSpec, Ty.T, Ty.dflt, KT.T, getM, putM, delM, inI64, maxRow] at *); first | ((try simp only [natCast_eq] at *) <;> omega) | ((try simp only [lens, natCast_eq] at *) <;> omega))
           | assumption
           | (symm; assumption)
           | (dsimp only; simp only [nrb, *]; done)
           | (simp; done)
           | (and_intros <;> first | trivial | with_reducible assumption | omega)
           | ((try dsimp only [ercSpec, Ty.T, Ty.dflt, KT.T, getM, putM, delM, inI64, maxRow] at *) <;> simp [*] <;> done))
      | skip
    all_goals (try (repeat (first | rw [if_pos (by first | assumption | omega)] at hr | rw [if_neg (by first | assumption | omega | (simp only [Bool.false_eq_true, Bool.true_eq_false, reduceCtorEq, not_false_eq_true]; done) | (simp only [Bool.not_eq_true]; assumption) | (simp only [Bool.not_eq_false]; assumption))] at hr | rw [if_pos rfl] at hr)); subst hr)
    all_goals first
      | (refine ⟨[0, 1, 2, 3, 4, 5, 6, 7, 8], by decide, ?_⟩; cbv; first | with_reducible refine Ck.mk trivial ?_ | with_reducible refine Ck.mk ?_ ?_ | with_reducible refine End.mk ?_)
      | (refine ⟨[0, 1, 2, 10, 4, 5, 6, 7, 8], by decide, ?_⟩; cbv; first | with_reducible refine Ck.mk trivial ?_ | with_reducible refine Ck.mk ?_ ?_ | with_reducible refine End.mk ?_)
      | (refine ⟨[0, 1, 2, 3, 10, 5, 6, 7, 8], by decide, ?_⟩; cbv; first | with_reducible refine Ck.mk trivial ?_ | with_reducible refine Ck.mk ?_ ?_ | with_reducible refine End.mk ?_)
    repeat' (first | refine Ck.mk trivial ?_ | refine Ck.mk (by assumption) ?_ | refine Ck.mk ?_ ?_ | refine End.mk ?_ | exact trivial)
    all_goals first
      | (fail_if_success (with_reducible refine Exists.intro ?_ ?_)
         first
           | with_reducible rfl
           | with_reducible assumption
           | (symm; with_reducible assumption)
           | omega
           | ((try dsimp only [ercSpec, Ty.T, Ty.dflt, KT.T, getM, putM, delM, inI64, maxRow]); first | done | with_reducible rfl | with_reducible assumption | (symm; with_reducible assumption) | ((try simp only [natCast_eq, List.nil_append]); first | done | with_reducible rfl | omega | exact take_cg (by omega) | exact drop_cg (by omega) | exact take_drop_cg (by omega) (by omega) | exact take_all (by omega) | exact take_drop_all (by omega) (by omega) | exact drop_take_cg (by omega) (by omega) (by omega)))
           | ((try dsimp only); (try simp only [pair_eta, map_idL, List.nil_append, Int.sub_zero, Int.toNat_zero, List.drop_zero]); exact cut_eq (by assumption))
           | ((try dsimp only [ercSpec, Ty.T, Ty.dflt, KT.T, getM, putM, delM, inI64, maxRow]); first | (simp only [nrm, reduceCtorEq, pair_eta, map_idL, natCast_eq, inI64, maxRow]; first | done | with_reducible assumption | omega) | exact map_pair_id _)
           | ((try dsimp only [ercSpec, Ty.T, Ty.dflt, KT.T, getM, putM, delM, inI64, maxRow] at *); first | ((try simp only [natCast_eq] at *) <;> omega) | ((try simp only [lens, natCast_eq] at *) <;> omega))
           | assumption
           | (symm; assumption)
           | (dsimp only; simp only [nrb, *]; done)
           | (simp; done)
           | (and_intros <;> first | trivial | with_reducible assumption | omega)
           | ((try dsimp only [ercSpec, Ty.T, Ty.dflt, KT.T, getM, putM, delM, inI64, maxRow] at *) <;> simp [*] <;> done))
      | skip
theorem par_sound : ConSound Try.prog AI 14 parSpec.con := StepM.sound eptOk mixed (fn := Try.f14) (c := bodyOf Try.f14) Try.call14 (by kernel_rfl) (by kernel_rfl) (by kernel_rfl) fun S x h => par_ok S x.1 x.2.1 x.2.2.1 h
end Go.Proofs.Ytldabjgegpmmiaa
