/-
  The reference of layer 43: Contiguous, Read.
-/
import Derived.Test.YtgdiepbjdpmfbaaRft
namespace Go.Proofs.Ytgdiepbjdpmfbaa
set_option linter.all false
set_option linter.unusedVariables false
set_option linter.unusedSimpArgs false
set_option linter.unusedSectionVars false
open Go.RowKit Go.Sx
set_option maxRecDepth 100000
set_option maxHeartbeats 16000000

abbrev rctg (M : TS) : Int := adv M.2.2.2 M.2.1 M.1.toNat
def rctgF (M : TS) : Tup [DT.cell (.int .i64)] := (rctg M, ())
structure LC (M : TS) where
  x : Int
  lo : M.2.1 ≤ x
  hi : x ≤ M.2.1 + M.1
  eq : adv M.2.2.2 x (M.2.1 + M.1 - x).toNat = rctg M
theorem LC.step {M : TS} (hK : ∀ p ∈ M.2.2.2, p.1 < M.2.1 + M.1) (y : LC M) (h : 0 ≤ fnd M.2.2.2 y.x 0) : y.x < M.2.1 + M.1 ∧ ∃ z : LC M, z.x = y.x + 1 := by
  have h := (fnd_some (Int.le_refl 0)).1 h
  have hlt : y.x < M.2.1 + M.1 := by
    refine Int.not_le.1 fun hle => ?_
    rw [getI_none hK hle] at h; cases h
  refine ⟨hlt, ⟨y.x + 1, by have := y.lo; omega, by omega, ?_⟩, rfl⟩
  rw [← y.eq]
  obtain ⟨n, hn⟩ : ∃ n, (M.2.1 + M.1 - y.x).toNat = n + 1 := ⟨(M.2.1 + M.1 - y.x).toNat - 1, by omega⟩
  rw [hn, adv, if_pos h]
  congr 1; omega
theorem LC.done {M : TS} (y : LC M) (h : ¬ 0 ≤ fnd M.2.2.2 y.x 0) : rctg M = y.x := by
  have h : ¬ (getI M.2.2.2 y.x).isSome = true := fun hh => h ((fnd_some (Int.le_refl 0)).2 hh)
  rw [← y.eq]
  cases hn : (M.2.1 + M.1 - y.x).toNat with
  | zero => rfl
  | succ n => rw [adv, if_neg h]
def rctgcSpec : PureSpec := ⟨[.cell eT], fun (x : TS × Unit) => PreT x.1, [.cell (.int .i64)], fun (x : TS × Unit) => rctgF x.1⟩
theorem rctgc_ok (M : TS) (h : rctgcSpec.pre (M, ())) : TmplOk Try.prog AI 53 (argS rctgcSpec.ds (fun _ => (M, ()))) [] (resOf (svs rctgcSpec.rs (fun _ => rctgcSpec.f (M, ())))) [] := by
  dsimp only [rctgcSpec] at h ⊢
  generalize hr : rctgF M = r
  obtain ⟨⟨h1, h2⟩, ⟨h3, h4⟩, ⟨h5, h6⟩, h7, h8⟩ := h
  dsimp only [rctgF] at hr
  refine tmpl_of_body efOk mixed (fn := Try.f53) (c := bodyOf Try.f53) (by kernel_rfl) (by kernel_rfl) (by kernel_rfl) (Nat.le_of_ble_eq_true (by kernel_rfl)) ?_
  (try (conv in (LoopInv.inv _ _) => dsimp only)); (try (conv in (SS.mk _ _) => cbv; (try dsimp only [rfindSpec, fndF, Ty.T, Ty.dflt, KT.T]); (try simp only [natCast_eq])))
  (with_reducible refine (?_ : T1 _ ?_) ?_; rotate_left 1; (conv => lhs; cbv; (try cbv); (try cbv)); intro hT; clear hT; with_reducible refine Sh.mk (by kernel_rfl) ?_)
  repeat' (first
    | with_reducible (first | refine Ck.mk (C := tt) tt_intro ?_ | refine Ck.mk (show drawOk _ _ = true by kernel_rfl) ?_ | refine Ck.all_cons ?_ | refine Ck.all_nil ?_ | refine Ck.mk (by assumption) ?_ | refine Ck.mk (decide_eq_true (by assumption)) ?_ | refine Ck.mk (decide_eq_false (by assumption)) ?_ | refine Ck.mk ?_ ?_)
    | (with_reducible (first | refine Both.mk (fun h => ?_) (fun h => ?_) | refine Alt.mk (fun h => ?_) (fun h => ?_) | refine Pick.mk (fun h => ?_) (fun l1 x l2 h => ?_)) <;> (have hk := h) <;> (try simp only [nrm, reduceCtorEq, pair_eta, map_idL] at h) <;> (try dsimp only [rfindSpec, fndF, Ty.T, Ty.dflt, KT.T, getM, putM, delM] at h) <;> (try simp only [natCast_eq] at h) <;> skip <;> (try first | rw [if_pos h] at hr | rw [if_neg h] at hr | rw [ifF h] at hr | rw [ifN h] at hr) <;> (try (have hb : (_ : Bool) = _ := h; clear h; subst hb; (try first | rw [if_pos rfl] at hr | rw [if_neg Bool.false_ne_true] at hr))) <;> first | (exfalso; omega) | exact absurd (h.symm.trans (by assumption) : true = false) Bool.noConfusion | exact absurd (h.symm.trans (by assumption) : false = true) Bool.noConfusion | (with_reducible refine (?_ : T1 _ ?_) ?_; rotate_left 1; (conv => lhs; cbv; (try cbv); (try cbv)); intro hT; clear hT; with_reducible refine Sh.mk (by kernel_rfl) ?_))
    | ((with_reducible refine End.mk ?_); (try ((repeat (first | rw [if_pos (by first | assumption | omega)] at hr | rw [if_neg (by first | assumption | omega | (simp only [Bool.false_eq_true, Bool.true_eq_false, reduceCtorEq, not_false_eq_true]; done) | (simp only [Bool.not_eq_true]; assumption) | (simp only [Bool.not_eq_false]; assumption))] at hr | rw [if_pos rfl] at hr)); subst hr)))
    | with_reducible exact True.intro)
  all_goals first
    | (fail_if_success (with_reducible refine Exists.intro ?_ ?_)
       first
         | with_reducible rfl
         | with_reducible assumption
         | (symm; with_reducible assumption)
         | omega
         | ((try dsimp only [rfindSpec, fndF, Ty.T, Ty.dflt, KT.T, getM, putM, delM, inI64, maxRow]); first | done | with_reducible rfl | with_reducible assumption | (symm; with_reducible assumption) | ((try simp only [natCast_eq, List.nil_append]); first | done | with_reducible rfl | omega | exact take_cg (by omega) | exact drop_cg (by omega) | exact take_drop_cg (by omega) (by omega) | exact take_all (by omega) | exact take_drop_all (by omega) (by omega) | exact drop_take_cg (by omega) (by omega) (by omega)))
         | ((try dsimp only [rfindSpec, fndF, Ty.T, Ty.dflt, KT.T, getM, putM, delM, inI64, maxRow]); first | (simp only [nrm, reduceCtorEq, pair_eta, map_idL, natCast_eq, inI64, maxRow]; first | done | with_reducible assumption | omega) | exact map_pair_id _)
         | ((try dsimp only [rfindSpec, fndF, Ty.T, Ty.dflt, KT.T, getM, putM, delM, inI64, maxRow] at *); first | ((try simp only [natCast_eq] at *) <;> omega) | ((try simp only [lens, natCast_eq] at *) <;> omega))
         | assumption
         | (symm; assumption)
         | (dsimp only; simp only [nrb, *]; done)
         | (simp; done)
         | (and_intros <;> first | trivial | with_reducible assumption | omega)
         | ((try dsimp only [rfindSpec, fndF, Ty.T, Ty.dflt, KT.T, getM, putM, delM, inI64, maxRow] at *) <;> simp [*] <;> done))
    | skip
  obtain ⟨x0, hx0⟩ : ∃ x : LC M, x.x = M.2.1 := ⟨⟨M.2.1, Int.le_refl _, by omega, by show adv _ _ (M.2.1 + M.1 - M.2.1).toNat = adv _ _ _; rw [show M.2.1 + M.1 - M.2.1 = M.1 by omega]⟩, rfl⟩
  refine ⟨⟨LC M, fun x => ⟨[(1, Sx.one (.ptr 0 0)), (3, Sx.one (.int .i64 (fun _ => x.x)))], [.cells 62 (storeC (fun _ => M))]⟩, fun x => (M.2.1 + M.1 - x.x).toNat, x0⟩, ?_, fun (x : LC M) => ?_⟩
  · (try (conv in (LoopInv.inv _ _) => dsimp only)); (try (conv in (SS.mk _ _) => cbv; (try dsimp only [rfindSpec, fndF, Ty.T, Ty.dflt, KT.T]); (try simp only [natCast_eq])))
    (with_reducible refine (?_ : T1 _ ?_) ?_; rotate_left 1; (conv => lhs; cbv; (try cbv); (try cbv)); intro hT; clear hT; with_reducible refine Sh.mk (by kernel_rfl) ?_)
    repeat' (first
      | with_reducible (first | refine Ck.mk (C := tt) tt_intro ?_ | refine Ck.mk (show drawOk _ _ = true by kernel_rfl) ?_ | refine Ck.all_cons ?_ | refine Ck.all_nil ?_ | refine Ck.mk (by assumption) ?_ | refine Ck.mk (decide_eq_true (by assumption)) ?_ | refine Ck.mk (decide_eq_false (by assumption)) ?_ | refine Ck.mk ?_ ?_)
      | (with_reducible (first | refine Both.mk (fun h => ?_) (fun h => ?_) | refine Alt.mk (fun h => ?_) (fun h => ?_) | refine Pick.mk (fun h => ?_) (fun l1 x l2 h => ?_)) <;> (have hk := h) <;> (try simp only [nrm, reduceCtorEq, pair_eta, map_idL] at h) <;> (try dsimp only [rfindSpec, fndF, Ty.T, Ty.dflt, KT.T, getM, putM, delM] at h) <;> (try simp only [natCast_eq] at h) <;> skip <;> (try first | rw [if_pos h] at hr | rw [if_neg h] at hr | rw [ifF h] at hr | rw [ifN h] at hr) <;> (try (have hb : (_ : Bool) = _ := h; clear h; subst hb; (try first | rw [if_pos rfl] at hr | rw [if_neg Bool.false_ne_true] at hr))) <;> first | (exfalso; omega) | exact absurd (h.symm.trans (by assumption) : true = false) Bool.noConfusion | exact absurd (h.symm.trans (by assumption) : false = true) Bool.noConfusion | (with_reducible refine (?_ : T1 _ ?_) ?_; rotate_left 1; (conv => lhs; cbv; (try cbv); (try cbv)); intro hT; clear hT; with_reducible refine Sh.mk (by kernel_rfl) ?_))
      | ((with_reducible refine End.mk ?_); skip)
      | with_reducible exact True.intro)
    all_goals first
      | (fail_if_success (with_reducible refine Exists.intro ?_ ?_)
         first
           | with_reducible rfl
           | with_reducible assumption
           | (symm; with_reducible assumption)
           | omega
           | ((try dsimp only [rfindSpec, fndF, Ty.T, Ty.dflt, KT.T, getM, putM, delM, inI64, maxRow]); first | done | with_reducible rfl | with_reducible assumption | (symm; with_reducible assumption) | ((try simp only [natCast_eq, List.nil_append]); first | done | with_reducible rfl | omega | exact take_cg (by omega) | exact drop_cg (by omega) | exact take_drop_cg (by omega) (by omega) | exact take_all (by omega) | exact take_drop_all (by omega) (by omega) | exact drop_take_cg (by omega) (by omega) (by omega)))
           | ((try dsimp only [rfindSpec, fndF, Ty.T, Ty.dflt, KT.T, getM, putM, delM, inI64, maxRow]); first | (simp only [nrm, reduceCtorEq, pair_eta, map_idL, natCast_eq, inI64, maxRow]; first | done | with_reducible assumption | omega) | exact map_pair_id _)
           | ((try dsimp only [rfindSpec, fndF, Ty.T, Ty.dflt, KT.T, getM, putM, delM, inI64, maxRow] at *); first | ((try simp only [natCast_eq] at *) <;> omega) | ((try simp only [lens, natCast_eq] at *) <;> omega))
           | assumption
           | (symm; assumption)
           | (dsimp only; simp only [nrb, *]; done)
           | (simp; done)
           | (and_intros <;> first | trivial | with_reducible assumption | omega)
           | ((try dsimp only [rfindSpec, fndF, Ty.T, Ty.dflt, KT.T, getM, putM, delM, inI64, maxRow] at *) <;> simp [*] <;> done))
      | skip
  have hlo := x.lo
  have hhi := x.hi
  (try (conv in (LoopInv.inv _ _) => dsimp only)); (try (conv in (SS.mk _ _) => cbv; (try dsimp only [rfindSpec, fndF, Ty.T, Ty.dflt, KT.T]); (try simp only [natCast_eq])))
  (with_reducible refine (?_ : T1 _ ?_) ?_; rotate_left 1; (conv => lhs; cbv; (try cbv); (try cbv)); intro hT; clear hT; with_reducible refine Sh.mk (by kernel_rfl) ?_)
  repeat' (first
    | with_reducible (first | refine Ck.mk (C := tt) tt_intro ?_ | refine Ck.mk (show drawOk _ _ = true by kernel_rfl) ?_ | refine Ck.all_cons ?_ | refine Ck.all_nil ?_ | refine Ck.mk (by assumption) ?_ | refine Ck.mk (decide_eq_true (by assumption)) ?_ | refine Ck.mk (decide_eq_false (by assumption)) ?_ | refine Ck.mk ?_ ?_)
    | (with_reducible (first | refine Both.mk (fun h => ?_) (fun h => ?_) | refine Alt.mk (fun h => ?_) (fun h => ?_) | refine Pick.mk (fun h => ?_) (fun l1 x l2 h => ?_)) <;> (have hk := h) <;> (try simp only [nrm, reduceCtorEq, pair_eta, map_idL] at h) <;> (try dsimp only [rfindSpec, fndF, Ty.T, Ty.dflt, KT.T, getM, putM, delM] at h) <;> (try simp only [natCast_eq] at h) <;> skip <;> (try first | rw [if_pos h] at hr | rw [if_neg h] at hr | rw [ifF h] at hr | rw [ifN h] at hr) <;> (try (have hb : (_ : Bool) = _ := h; clear h; subst hb; (try first | rw [if_pos rfl] at hr | rw [if_neg Bool.false_ne_true] at hr))) <;> first | (exfalso; omega) | exact absurd (h.symm.trans (by assumption) : true = false) Bool.noConfusion | exact absurd (h.symm.trans (by assumption) : false = true) Bool.noConfusion | (with_reducible refine (?_ : T1 _ ?_) ?_; rotate_left 1; (conv => lhs; cbv; (try cbv); (try cbv)); intro hT; clear hT; with_reducible refine Sh.mk (by kernel_rfl) ?_))
    | ((with_reducible refine End.mk ?_); (try (have hz := x.done (by assumption); rw [hz] at hr)); (try ((repeat (first | rw [if_pos (by first | assumption | omega)] at hr | rw [if_neg (by first | assumption | omega | (simp only [Bool.false_eq_true, Bool.true_eq_false, reduceCtorEq, not_false_eq_true]; done) | (simp only [Bool.not_eq_true]; assumption) | (simp only [Bool.not_eq_false]; assumption))] at hr | rw [if_pos rfl] at hr)); subst hr)))
    | with_reducible exact True.intro)
  all_goals first
    | (fail_if_success (with_reducible refine Exists.intro ?_ ?_)
       first
         | with_reducible rfl
         | with_reducible assumption
         | (symm; with_reducible assumption)
         | omega
         | ((try dsimp only [rfindSpec, fndF, Ty.T, Ty.dflt, KT.T, getM, putM, delM, inI64, maxRow]); first | done | with_reducible rfl | with_reducible assumption | (symm; with_reducible assumption) | ((try simp only [natCast_eq, List.nil_append]); first | done | with_reducible rfl | omega | exact take_cg (by omega) | exact drop_cg (by omega) | exact take_drop_cg (by omega) (by omega) | exact take_all (by omega) | exact take_drop_all (by omega) (by omega) | exact drop_take_cg (by omega) (by omega) (by omega)))
         | ((try dsimp only [rfindSpec, fndF, Ty.T, Ty.dflt, KT.T, getM, putM, delM, inI64, maxRow]); first | (simp only [nrm, reduceCtorEq, pair_eta, map_idL, natCast_eq, inI64, maxRow]; first | done | with_reducible assumption | omega) | exact map_pair_id _)
         | ((try dsimp only [rfindSpec, fndF, Ty.T, Ty.dflt, KT.T, getM, putM, delM, inI64, maxRow] at *); first | ((try simp only [natCast_eq] at *) <;> omega) | ((try simp only [lens, natCast_eq] at *) <;> omega))
         | assumption
         | (symm; assumption)
         | (dsimp only; simp only [nrb, *]; done)
         | (simp; done)
         | (and_intros <;> first | trivial | with_reducible assumption | omega)
         | ((try dsimp only [rfindSpec, fndF, Ty.T, Ty.dflt, KT.T, getM, putM, delM, inI64, maxRow] at *) <;> simp [*] <;> done))
    | skip
  have hy := x.step h8 (by assumption)
  obtain ⟨hlt, y, hy⟩ := hy
  refine ⟨y, by dsimp only; (try simp only [natCast_eq]); omega, ?_⟩
  (try (conv in (LoopInv.inv _ _) => dsimp only)); (try (conv in (SS.mk _ _) => cbv; (try dsimp only [rfindSpec, fndF, Ty.T, Ty.dflt, KT.T]); (try simp only [natCast_eq])))
  (with_reducible refine (?_ : T1 _ ?_) ?_; rotate_left 1; (conv => lhs; cbv; (try cbv); (try cbv)); intro hT; clear hT; with_reducible refine Sh.mk (by kernel_rfl) ?_)
  repeat' (first
    | with_reducible (first | refine Ck.mk (C := tt) tt_intro ?_ | refine Ck.mk (show drawOk _ _ = true by kernel_rfl) ?_ | refine Ck.all_cons ?_ | refine Ck.all_nil ?_ | refine Ck.mk (by assumption) ?_ | refine Ck.mk (decide_eq_true (by assumption)) ?_ | refine Ck.mk (decide_eq_false (by assumption)) ?_ | refine Ck.mk ?_ ?_)
    | (with_reducible (first | refine Both.mk (fun h => ?_) (fun h => ?_) | refine Alt.mk (fun h => ?_) (fun h => ?_) | refine Pick.mk (fun h => ?_) (fun l1 x l2 h => ?_)) <;> (have hk := h) <;> (try simp only [nrm, reduceCtorEq, pair_eta, map_idL] at h) <;> (try dsimp only [rfindSpec, fndF, Ty.T, Ty.dflt, KT.T, getM, putM, delM] at h) <;> (try simp only [natCast_eq] at h) <;> skip <;> (try first | rw [if_pos h] at hr | rw [if_neg h] at hr | rw [ifF h] at hr | rw [ifN h] at hr) <;> (try (have hb : (_ : Bool) = _ := h; clear h; subst hb; (try first | rw [if_pos rfl] at hr | rw [if_neg Bool.false_ne_true] at hr))) <;> first | (exfalso; omega) | exact absurd (h.symm.trans (by assumption) : true = false) Bool.noConfusion | exact absurd (h.symm.trans (by assumption) : false = true) Bool.noConfusion | (with_reducible refine (?_ : T1 _ ?_) ?_; rotate_left 1; (conv => lhs; cbv; (try cbv); (try cbv)); intro hT; clear hT; with_reducible refine Sh.mk (by kernel_rfl) ?_))
    | ((with_reducible refine End.mk ?_); skip)
    | with_reducible exact True.intro)
  all_goals first
    | (fail_if_success (with_reducible refine Exists.intro ?_ ?_)
       first
         | with_reducible rfl
         | with_reducible assumption
         | (symm; with_reducible assumption)
         | omega
         | ((try dsimp only [rfindSpec, fndF, Ty.T, Ty.dflt, KT.T, getM, putM, delM, inI64, maxRow]); first | done | with_reducible rfl | with_reducible assumption | (symm; with_reducible assumption) | ((try simp only [natCast_eq, List.nil_append]); first | done | with_reducible rfl | omega | exact take_cg (by omega) | exact drop_cg (by omega) | exact take_drop_cg (by omega) (by omega) | exact take_all (by omega) | exact take_drop_all (by omega) (by omega) | exact drop_take_cg (by omega) (by omega) (by omega)))
         | ((try dsimp only [rfindSpec, fndF, Ty.T, Ty.dflt, KT.T, getM, putM, delM, inI64, maxRow]); first | (simp only [nrm, reduceCtorEq, pair_eta, map_idL, natCast_eq, inI64, maxRow]; first | done | with_reducible assumption | omega) | exact map_pair_id _)
         | ((try dsimp only [rfindSpec, fndF, Ty.T, Ty.dflt, KT.T, getM, putM, delM, inI64, maxRow] at *); first | ((try simp only [natCast_eq] at *) <;> omega) | ((try simp only [lens, natCast_eq] at *) <;> omega))
         | assumption
         | (symm; assumption)
         | (dsimp only; simp only [nrb, *]; done)
         | (simp; done)
         | (and_intros <;> first | trivial | with_reducible assumption | omega)
         | ((try dsimp only [rfindSpec, fndF, Ty.T, Ty.dflt, KT.T, getM, putM, delM, inI64, maxRow] at *) <;> simp [*] <;> done))
    | skip
theorem rctgc_sound : ConSound Try.prog AI 53 rctgcSpec.con := PureSpec.sound Try.call53 (fun x h => rctgc_ok x.1 h)
noncomputable abbrev Ec : Env Ab := ⟨tis, [(53, rctgcSpec.con)] ++ Ef.con⟩
theorem ecOk : EnvOk Try.prog AI Ec := (efOk.add rctgc_sound)
abbrev rrN (M : TS) (m : Int) : Int := max (min m (rctg M - M.2.1)) 0
def rreadF (M : TS) (m : Int) : Tup [DT.cell eT, .lst (.int .u8)] := ((M.1, M.2.1 + rrN M m, M.2.2.1, rdK M.2.2.2 M.2.1 (rrN M m).toNat), rdB M.2.2.2 M.2.1 (rrN M m).toNat, ())
theorem adv_rng {K : List KV} : ∀ (n : Nat) (x : Int), x ≤ adv K x n ∧ adv K x n ≤ x + n ∧ ∀ k, x ≤ k → k < adv K x n → (getI K k).isSome = true
  | 0, x => ⟨Int.le_refl _, by simp [adv], fun k h1 h2 => by simp [adv] at h2; omega⟩
  | n + 1, x => by
    unfold adv
    split
    · rename_i h
      obtain ⟨h1, h2, h3⟩ := adv_rng (K := K) n (x + 1)
      refine ⟨by omega, by omega, fun k hk1 hk2 => ?_⟩
      by_cases e : k = x
      · rw [e]; exact h
      · exact h3 k (by omega) hk2
    · exact ⟨Int.le_refl _, by omega, fun k h1 h2 => by omega⟩
theorem getI_delI {K : List KV} {a b : Int} (h : b ≠ a) : getI (delI K a) b = getI K b := by
  induction K with
  | nil => rfl
  | cons q K ih =>
    obtain ⟨k, v⟩ := q
    show getI (delA ((k, v) :: K) a) b = (if k = b then some v else getI K b)
    simp only [delA]
    split
    · rename_i e; rw [if_neg (by rintro rfl; exact h e)]
    · show (if k = b then some v else getI (delI K a) b) = _
      split
      · rfl
      · exact ih
theorem delI_len (K : List KV) (a : Int) : (delI K a).length ≤ K.length := by
  induction K with
  | nil => exact Nat.le_refl _
  | cons q K ih =>
    obtain ⟨k, v⟩ := q
    show (delA ((k, v) :: K) a).length ≤ _
    simp only [delA]
    split
    · simp
    · simp only [List.length_cons]; have : (delI K a).length ≤ K.length := ih; exact Nat.succ_le_succ this
structure LRd (M : TS) (m : Int) where
  i : Int
  K : List KV
  B : List Int
  lo : 0 ≤ i
  hi : i ≤ rrN M m
  len : (B.length : Int) = i
  kl : K.length ≤ 1048576
  kc : ∀ k, M.2.1 + i ≤ k → k < rctg M → (getI K k).isSome = true
  eB : B ++ rdB K (M.2.1 + i) (rrN M m - i).toNat = rdB M.2.2.2 M.2.1 (rrN M m).toNat
  eK : rdK K (M.2.1 + i) (rrN M m - i).toNat = rdK M.2.2.2 M.2.1 (rrN M m).toNat
theorem LRd.go {M : TS} {m : Int} (x : LRd M m) (h : M.2.1 + x.i < rctg M) : 0 ≤ fnd x.K (M.2.1 + x.i) 0 ∧ fnd x.K (M.2.1 + x.i) 0 < (x.K.length : Int) ∧ (x.K.getD (fnd x.K (M.2.1 + x.i) 0).toNat (0, 0)).2 = (getI x.K (M.2.1 + x.i)).getD 0 ∧
    x.K.take (fnd x.K (M.2.1 + x.i) 0).toNat ++ x.K.drop (fnd x.K (M.2.1 + x.i) 0 + 1).toNat = delI x.K (M.2.1 + x.i) := by
  have h0 := (fnd_some (K := x.K) (a := M.2.1 + x.i) (Int.le_refl 0)).2 (x.kc _ (Int.le_refl _) h)
  obtain ⟨h1, h2, h3, h4⟩ := fnd_at (Int.le_refl 0) h0
  rw [Int.sub_zero] at h3 h4
  exact ⟨h0, by omega, by rw [h3], h4⟩
theorem LRd.step {M : TS} {m : Int} (x : LRd M m) (h : M.2.1 + x.i < rctg M) (hm : x.i < m) : ∃ y : LRd M m, y.i = x.i + 1 ∧ y.K = delI x.K (M.2.1 + x.i) ∧ y.B = x.B ++ [(getI x.K (M.2.1 + x.i)).getD 0] := by
  have hlt : x.i < rrN M m := by dsimp only [rrN]; omega
  obtain ⟨n, hn⟩ : ∃ n, (rrN M m - x.i).toNat = n + 1 := ⟨(rrN M m - x.i).toNat - 1, by omega⟩
  have hn1 : (rrN M m - (x.i + 1)).toNat = n := by omega
  have ha : M.2.1 + (x.i + 1) = M.2.1 + x.i + 1 := by omega
  refine ⟨⟨x.i + 1, delI x.K (M.2.1 + x.i), x.B ++ [(getI x.K (M.2.1 + x.i)).getD 0], by have := x.lo; omega, by omega, by rw [List.length_append]; have := x.len; simp; omega, Nat.le_trans (delI_len _ _) x.kl, fun k h1 h2 => ?_, ?_, ?_⟩, rfl, rfl, rfl⟩
  · rw [getI_delI (by omega)]; exact x.kc k (by omega) h2
  · rw [← x.eB, hn, hn1, ha, rdB, List.append_assoc]; rfl
  · rw [← x.eK, hn, hn1, ha, rdK]
theorem LRd.done {M : TS} {m : Int} (x : LRd M m) (h : ¬ M.2.1 + x.i < rctg M ∨ ¬ x.i < m) : rrN M m = x.i ∧ rdK M.2.2.2 M.2.1 (rrN M m).toNat = x.K ∧ rdB M.2.2.2 M.2.1 (rrN M m).toNat = x.B := by
  have h1 : x.i = rrN M m := by have := x.hi; have := x.lo; dsimp only [rrN] at *; omega
  have h2 : (rrN M m - x.i).toNat = 0 := by omega
  refine ⟨h1.symm, ?_, ?_⟩
  · rw [← x.eK, h2, rdK]
  · rw [← x.eB, h2, rdB, List.append_nil]
def rreadSpec : PureSpec := ⟨[.cell eT, .cell (.int .i64)], fun (x : TS × Int × Unit) => PreT x.1, [.cell eT, .lst (.int .u8)], fun (x : TS × Int × Unit) => rreadF x.1 x.2.1⟩
theorem rread_ok (M : TS) (m : Int) (h : rreadSpec.pre (M, m, ())) : TmplOk Try.prog AI 46 (argS rreadSpec.ds (fun _ => (M, m, ()))) [] (resOf (svs rreadSpec.rs (fun _ => rreadSpec.f (M, m, ())))) [] := by
  dsimp only [rreadSpec] at h ⊢
  generalize hr : rreadF M m = r
  have hM := h; obtain ⟨⟨h1, h2⟩, ⟨h3, h4⟩, ⟨h5, h6⟩, h7, h8⟩ := h; have hc := adv_rng (K := M.2.2.2) M.1.toNat M.2.1
  dsimp only [rreadF] at hr
  refine tmpl_of_body ecOk mixed (fn := Try.f46) (c := bodyOf Try.f46) (by kernel_rfl) (by kernel_rfl) (by kernel_rfl) (Nat.le_of_ble_eq_true (by kernel_rfl)) ?_
  (try (conv in (LoopInv.inv _ _) => dsimp only)); (try (conv in (SS.mk _ _) => cbv; (try dsimp only [rfindSpec, fndF, rctgcSpec, rctgF, Ty.T, Ty.dflt, KT.T]); (try simp only [natCast_eq])))
  (with_reducible refine (?_ : T1 _ ?_) ?_; rotate_left 1; (conv => lhs; cbv; (try cbv); (try cbv)); intro hT; clear hT; with_reducible refine Sh.mk (by kernel_rfl) ?_)
  repeat' (first
    | with_reducible (first | refine Ck.mk (C := tt) tt_intro ?_ | refine Ck.mk (show drawOk _ _ = true by kernel_rfl) ?_ | refine Ck.all_cons ?_ | refine Ck.all_nil ?_ | refine Ck.mk (by assumption) ?_ | refine Ck.mk (decide_eq_true (by assumption)) ?_ | refine Ck.mk (decide_eq_false (by assumption)) ?_ | refine Ck.mk ?_ ?_)
    | (with_reducible (first | refine Both.mk (fun h => ?_) (fun h => ?_) | refine Alt.mk (fun h => ?_) (fun h => ?_) | refine Pick.mk (fun h => ?_) (fun l1 x l2 h => ?_)) <;> (have hk := h) <;> (try simp only [nrm, reduceCtorEq, pair_eta, map_idL] at h) <;> (try dsimp only [rfindSpec, fndF, rctgcSpec, rctgF, Ty.T, Ty.dflt, KT.T, getM, putM, delM] at h) <;> (try simp only [natCast_eq] at h) <;> (try (have hg := x.go h; obtain ⟨g1, g2, g3, g4⟩ := hg)) <;> (try first | rw [if_pos h] at hr | rw [if_neg h] at hr | rw [ifF h] at hr | rw [ifN h] at hr) <;> (try (have hb : (_ : Bool) = _ := h; clear h; subst hb; (try first | rw [if_pos rfl] at hr | rw [if_neg Bool.false_ne_true] at hr))) <;> first | (exfalso; omega) | exact absurd (h.symm.trans (by assumption) : true = false) Bool.noConfusion | exact absurd (h.symm.trans (by assumption) : false = true) Bool.noConfusion | (with_reducible refine (?_ : T1 _ ?_) ?_; rotate_left 1; (conv => lhs; cbv; (try cbv); (try cbv)); intro hT; clear hT; with_reducible refine Sh.mk (by kernel_rfl) ?_))
    | ((with_reducible refine End.mk ?_); (try ((repeat (first | rw [if_pos (by first | assumption | omega)] at hr | rw [if_neg (by first | assumption | omega | (simp only [Bool.false_eq_true, Bool.true_eq_false, reduceCtorEq, not_false_eq_true]; done) | (simp only [Bool.not_eq_true]; assumption) | (simp only [Bool.not_eq_false]; assumption))] at hr | rw [if_pos rfl] at hr)); subst hr)))
    | with_reducible exact True.intro)
  all_goals first
    | (fail_if_success (with_reducible refine Exists.intro ?_ ?_)
       first
         | with_reducible rfl
         | with_reducible assumption
         | (symm; with_reducible assumption)
         | omega
         | ((try dsimp only [rfindSpec, fndF, rctgcSpec, rctgF, Ty.T, Ty.dflt, KT.T, getM, putM, delM, inI64, maxRow]); first | done | with_reducible rfl | with_reducible assumption | (symm; with_reducible assumption) | ((try simp only [natCast_eq, List.nil_append]); first | done | with_reducible rfl | omega | exact take_cg (by omega) | exact drop_cg (by omega) | exact take_drop_cg (by omega) (by omega) | exact take_all (by omega) | exact take_drop_all (by omega) (by omega) | exact drop_take_cg (by omega) (by omega) (by omega)))
         | exact hM
         | ((try dsimp only [rfindSpec, fndF, rctgcSpec, rctgF, Ty.T, Ty.dflt, KT.T, getM, putM, delM, inI64, maxRow]); first | (simp only [nrm, reduceCtorEq, pair_eta, map_idL, natCast_eq, inI64, maxRow]; first | done | with_reducible assumption | omega) | exact map_pair_id _)
         | ((try dsimp only [rfindSpec, fndF, rctgcSpec, rctgF, Ty.T, Ty.dflt, KT.T, getM, putM, delM, inI64, maxRow] at *); first | ((try simp only [natCast_eq] at *) <;> omega) | ((try simp only [lens, natCast_eq] at *) <;> omega))
         | assumption
         | (symm; assumption)
         | (dsimp only; simp only [nrb, *]; done)
         | (simp; done)
         | (and_intros <;> first | trivial | with_reducible assumption | omega)
         | ((try dsimp only [rfindSpec, fndF, rctgcSpec, rctgF, Ty.T, Ty.dflt, KT.T, getM, putM, delM, inI64, maxRow] at *) <;> simp [*] <;> done))
    | skip
  obtain ⟨x0, hx0, hx1, hx2⟩ : ∃ x : LRd M m, x.i = 0 ∧ x.K = M.2.2.2 ∧ x.B = [] := ⟨⟨0, M.2.2.2, [], Int.le_refl _, by dsimp only [rrN]; omega, rfl, h7, fun k k1 k2 => hc.2.2 k (by omega) k2, by rw [Int.add_zero, Int.sub_zero]; rfl, by rw [Int.add_zero, Int.sub_zero]⟩, rfl, rfl, rfl⟩
  refine ⟨⟨LRd M m, fun x => ⟨[(1, Sx.one (.int .i64 (fun _ => m))), (2, Sx.one (.ptr 0 0)), (4, Sx.one (.ptr 1 0)), (6, Sx.one (.hd 2 0)), (7, Sx.one (.int .i64 (fun _ => rctg M)))], [.cells 62 [.int .i64 (fun _ => M.1), .int .i64 (fun _ => M.2.1 + x.i), .int .i64 (fun _ => M.2.2.1), .ro kvE (fun _ => x.K)], .cells 62 [.any, .any, .any, .any], .row 5 (.int .u8) 0 (fun _ => x.B)]⟩, fun x => (rctg M - M.2.1 - x.i).toNat, x0⟩, ?_, fun (x : LRd M m) => ?_⟩
  · (try (conv in (LoopInv.inv _ _) => dsimp only)); (try (conv in (SS.mk _ _) => cbv; (try dsimp only [rfindSpec, fndF, rctgcSpec, rctgF, Ty.T, Ty.dflt, KT.T]); (try simp only [natCast_eq])))
    (with_reducible refine (?_ : T1 _ ?_) ?_; rotate_left 1; (conv => lhs; cbv; (try cbv); (try cbv)); intro hT; clear hT; with_reducible refine Sh.mk (by kernel_rfl) ?_)
    repeat' (first
      | with_reducible (first | refine Ck.mk (C := tt) tt_intro ?_ | refine Ck.mk (show drawOk _ _ = true by kernel_rfl) ?_ | refine Ck.all_cons ?_ | refine Ck.all_nil ?_ | refine Ck.mk (by assumption) ?_ | refine Ck.mk (decide_eq_true (by assumption)) ?_ | refine Ck.mk (decide_eq_false (by assumption)) ?_ | refine Ck.mk ?_ ?_)
      | (with_reducible (first | refine Both.mk (fun h => ?_) (fun h => ?_) | refine Alt.mk (fun h => ?_) (fun h => ?_) | refine Pick.mk (fun h => ?_) (fun l1 x l2 h => ?_)) <;> (have hk := h) <;> (try simp only [nrm, reduceCtorEq, pair_eta, map_idL] at h) <;> (try dsimp only [rfindSpec, fndF, rctgcSpec, rctgF, Ty.T, Ty.dflt, KT.T, getM, putM, delM] at h) <;> (try simp only [natCast_eq] at h) <;> (try (have hg := x.go h; obtain ⟨g1, g2, g3, g4⟩ := hg)) <;> (try first | rw [if_pos h] at hr | rw [if_neg h] at hr | rw [ifF h] at hr | rw [ifN h] at hr) <;> (try (have hb : (_ : Bool) = _ := h; clear h; subst hb; (try first | rw [if_pos rfl] at hr | rw [if_neg Bool.false_ne_true] at hr))) <;> first | (exfalso; omega) | exact absurd (h.symm.trans (by assumption) : true = false) Bool.noConfusion | exact absurd (h.symm.trans (by assumption) : false = true) Bool.noConfusion | (with_reducible refine (?_ : T1 _ ?_) ?_; rotate_left 1; (conv => lhs; cbv; (try cbv); (try cbv)); intro hT; clear hT; with_reducible refine Sh.mk (by kernel_rfl) ?_))
      | ((with_reducible refine End.mk ?_); skip)
      | with_reducible exact True.intro)
    all_goals first
      | (fail_if_success (with_reducible refine Exists.intro ?_ ?_)
         first
           | with_reducible rfl
           | with_reducible assumption
           | (symm; with_reducible assumption)
           | omega
           | ((try dsimp only [rfindSpec, fndF, rctgcSpec, rctgF, Ty.T, Ty.dflt, KT.T, getM, putM, delM, inI64, maxRow]); first | done | with_reducible rfl | with_reducible assumption | (symm; with_reducible assumption) | ((try simp only [natCast_eq, List.nil_append]); first | done | with_reducible rfl | omega | exact take_cg (by omega) | exact drop_cg (by omega) | exact take_drop_cg (by omega) (by omega) | exact take_all (by omega) | exact take_drop_all (by omega) (by omega) | exact drop_take_cg (by omega) (by omega) (by omega)))
           | first | (rw [hx1]; exact map_pair_id _) | (rw [hx2]; rfl) | (rw [hx0]; omega)
           | ((try dsimp only [rfindSpec, fndF, rctgcSpec, rctgF, Ty.T, Ty.dflt, KT.T, getM, putM, delM, inI64, maxRow]); first | (simp only [nrm, reduceCtorEq, pair_eta, map_idL, natCast_eq, inI64, maxRow]; first | done | with_reducible assumption | omega) | exact map_pair_id _)
           | ((try dsimp only [rfindSpec, fndF, rctgcSpec, rctgF, Ty.T, Ty.dflt, KT.T, getM, putM, delM, inI64, maxRow] at *); first | ((try simp only [natCast_eq] at *) <;> omega) | ((try simp only [lens, natCast_eq] at *) <;> omega))
           | assumption
           | (symm; assumption)
           | (dsimp only; simp only [nrb, *]; done)
           | (simp; done)
           | (and_intros <;> first | trivial | with_reducible assumption | omega)
           | ((try dsimp only [rfindSpec, fndF, rctgcSpec, rctgF, Ty.T, Ty.dflt, KT.T, getM, putM, delM, inI64, maxRow] at *) <;> simp [*] <;> done))
      | skip
  have hlo := x.lo
  have hhi := x.hi
  have hlen := x.len
  have hkl := x.kl
  dsimp only [rrN] at hhi
  (try (conv in (LoopInv.inv _ _) => dsimp only)); (try (conv in (SS.mk _ _) => cbv; (try dsimp only [rfindSpec, fndF, rctgcSpec, rctgF, Ty.T, Ty.dflt, KT.T]); (try simp only [natCast_eq])))
  (with_reducible refine (?_ : T1 _ ?_) ?_; rotate_left 1; (conv => lhs; cbv; (try cbv); (try cbv)); intro hT; clear hT; with_reducible refine Sh.mk (by kernel_rfl) ?_)
  repeat' (first
    | with_reducible (first | refine Ck.mk (C := tt) tt_intro ?_ | refine Ck.mk (show drawOk _ _ = true by kernel_rfl) ?_ | refine Ck.all_cons ?_ | refine Ck.all_nil ?_ | refine Ck.mk (by assumption) ?_ | refine Ck.mk (decide_eq_true (by assumption)) ?_ | refine Ck.mk (decide_eq_false (by assumption)) ?_ | refine Ck.mk ?_ ?_)
    | (with_reducible (first | refine Both.mk (fun h => ?_) (fun h => ?_) | refine Alt.mk (fun h => ?_) (fun h => ?_) | refine Pick.mk (fun h => ?_) (fun l1 x l2 h => ?_)) <;> (have hk := h) <;> (try simp only [nrm, reduceCtorEq, pair_eta, map_idL] at h) <;> (try dsimp only [rfindSpec, fndF, rctgcSpec, rctgF, Ty.T, Ty.dflt, KT.T, getM, putM, delM] at h) <;> (try simp only [natCast_eq] at h) <;> (try (have hg := x.go h; obtain ⟨g1, g2, g3, g4⟩ := hg)) <;> (try first | rw [if_pos h] at hr | rw [if_neg h] at hr | rw [ifF h] at hr | rw [ifN h] at hr) <;> (try (have hb : (_ : Bool) = _ := h; clear h; subst hb; (try first | rw [if_pos rfl] at hr | rw [if_neg Bool.false_ne_true] at hr))) <;> first | (exfalso; omega) | exact absurd (h.symm.trans (by assumption) : true = false) Bool.noConfusion | exact absurd (h.symm.trans (by assumption) : false = true) Bool.noConfusion | (with_reducible refine (?_ : T1 _ ?_) ?_; rotate_left 1; (conv => lhs; cbv; (try cbv); (try cbv)); intro hT; clear hT; with_reducible refine Sh.mk (by kernel_rfl) ?_))
    | ((with_reducible refine End.mk ?_); (try (have hz := x.done (by first | exact .inl (by assumption) | exact .inr (by omega)); obtain ⟨z1, z2, z3⟩ := hz; rw [z2, z3, z1] at hr)); (try ((repeat (first | rw [if_pos (by first | assumption | omega)] at hr | rw [if_neg (by first | assumption | omega | (simp only [Bool.false_eq_true, Bool.true_eq_false, reduceCtorEq, not_false_eq_true]; done) | (simp only [Bool.not_eq_true]; assumption) | (simp only [Bool.not_eq_false]; assumption))] at hr | rw [if_pos rfl] at hr)); subst hr)))
    | with_reducible exact True.intro)
  all_goals first
    | (fail_if_success (with_reducible refine Exists.intro ?_ ?_)
       first
         | with_reducible rfl
         | with_reducible assumption
         | (symm; with_reducible assumption)
         | omega
         | ((try dsimp only [rfindSpec, fndF, rctgcSpec, rctgF, Ty.T, Ty.dflt, KT.T, getM, putM, delM, inI64, maxRow]); first | done | with_reducible rfl | with_reducible assumption | (symm; with_reducible assumption) | ((try simp only [natCast_eq, List.nil_append]); first | done | with_reducible rfl | omega | exact take_cg (by omega) | exact drop_cg (by omega) | exact take_drop_cg (by omega) (by omega) | exact take_all (by omega) | exact take_drop_all (by omega) (by omega) | exact drop_take_cg (by omega) (by omega) (by omega)))
         | (dsimp only; simp only [List.length_map, List.length_cons, List.length_nil, List.length_append, List.length_take, List.length_drop, maxRow]; omega)
         | ((try dsimp only [rfindSpec, fndF, rctgcSpec, rctgF, Ty.T, Ty.dflt, KT.T, getM, putM, delM, inI64, maxRow]); first | (simp only [nrm, reduceCtorEq, pair_eta, map_idL, natCast_eq, inI64, maxRow]; first | done | with_reducible assumption | omega) | exact map_pair_id _)
         | ((try dsimp only [rfindSpec, fndF, rctgcSpec, rctgF, Ty.T, Ty.dflt, KT.T, getM, putM, delM, inI64, maxRow] at *); first | ((try simp only [natCast_eq] at *) <;> omega) | ((try simp only [lens, natCast_eq] at *) <;> omega))
         | assumption
         | (symm; assumption)
         | (dsimp only; simp only [nrb, *]; done)
         | (simp; done)
         | (and_intros <;> first | trivial | with_reducible assumption | omega)
         | ((try dsimp only [rfindSpec, fndF, rctgcSpec, rctgF, Ty.T, Ty.dflt, KT.T, getM, putM, delM, inI64, maxRow] at *) <;> simp [*] <;> done))
    | skip
  all_goals
    (have hy := x.step (by assumption) (by omega)
     obtain ⟨y, hy, hy1, hy2⟩ := hy
     refine ⟨y, by dsimp only; (try simp only [natCast_eq]); omega, ?_⟩
     (try (conv in (LoopInv.inv _ _) => dsimp only)); (try (conv in (SS.mk _ _) => cbv; (try dsimp only [rfindSpec, fndF, rctgcSpec, rctgF, Ty.T, Ty.dflt, KT.T]); (try simp only [natCast_eq])))
     (with_reducible refine (?_ : T1 _ ?_) ?_; rotate_left 1; (conv => lhs; cbv; (try cbv); (try cbv)); intro hT; clear hT; with_reducible refine Sh.mk (by kernel_rfl) ?_)
     repeat' (first
       | with_reducible (first | refine Ck.mk (C := tt) tt_intro ?_ | refine Ck.mk (show drawOk _ _ = true by kernel_rfl) ?_ | refine Ck.all_cons ?_ | refine Ck.all_nil ?_ | refine Ck.mk (by assumption) ?_ | refine Ck.mk (decide_eq_true (by assumption)) ?_ | refine Ck.mk (decide_eq_false (by assumption)) ?_ | refine Ck.mk ?_ ?_)
       | (with_reducible (first | refine Both.mk (fun h => ?_) (fun h => ?_) | refine Alt.mk (fun h => ?_) (fun h => ?_) | refine Pick.mk (fun h => ?_) (fun l1 x l2 h => ?_)) <;> (have hk := h) <;> (try simp only [nrm, reduceCtorEq, pair_eta, map_idL] at h) <;> (try dsimp only [rfindSpec, fndF, rctgcSpec, rctgF, Ty.T, Ty.dflt, KT.T, getM, putM, delM] at h) <;> (try simp only [natCast_eq] at h) <;> (try (have hg := x.go h; obtain ⟨g1, g2, g3, g4⟩ := hg)) <;> (try first | rw [if_pos h] at hr | rw [if_neg h] at hr | rw [ifF h] at hr | rw [ifN h] at hr) <;> (try (have hb : (_ : Bool) = _ := h; clear h; subst hb; (try first | rw [if_pos rfl] at hr | rw [if_neg Bool.false_ne_true] at hr))) <;> first | (exfalso; omega) | exact absurd (h.symm.trans (by assumption) : true = false) Bool.noConfusion | exact absurd (h.symm.trans (by assumption) : false = true) Bool.noConfusion | (with_reducible refine (?_ : T1 _ ?_) ?_; rotate_left 1; (conv => lhs; cbv; (try cbv); (try cbv)); intro hT; clear hT; with_reducible refine Sh.mk (by kernel_rfl) ?_))
       | ((with_reducible refine End.mk ?_); skip)
       | with_reducible exact True.intro)
     all_goals first
       | (fail_if_success (with_reducible refine Exists.intro ?_ ?_)
          first
            | with_reducible rfl
            | with_reducible assumption
            | (symm; with_reducible assumption)
            | omega
            | ((try dsimp only [rfindSpec, fndF, rctgcSpec, rctgF, Ty.T, Ty.dflt, KT.T, getM, putM, delM, inI64, maxRow]); first | done | with_reducible rfl | with_reducible assumption | (symm; with_reducible assumption) | ((try simp only [natCast_eq, List.nil_append]); first | done | with_reducible rfl | omega | exact take_cg (by omega) | exact drop_cg (by omega) | exact take_drop_cg (by omega) (by omega) | exact take_all (by omega) | exact take_drop_all (by omega) (by omega) | exact drop_take_cg (by omega) (by omega) (by omega)))
            | first | (rw [hy1]; simp only [pair_eta, map_idL, Int.toNat_zero, List.drop_zero, List.nil_append]; done) | (rw [hy2]; simp only [pair_eta, map_idL]; rw [g3]; done)
            | ((try dsimp only [rfindSpec, fndF, rctgcSpec, rctgF, Ty.T, Ty.dflt, KT.T, getM, putM, delM, inI64, maxRow]); first | (simp only [nrm, reduceCtorEq, pair_eta, map_idL, natCast_eq, inI64, maxRow]; first | done | with_reducible assumption | omega) | exact map_pair_id _)
            | ((try dsimp only [rfindSpec, fndF, rctgcSpec, rctgF, Ty.T, Ty.dflt, KT.T, getM, putM, delM, inI64, maxRow] at *); first | ((try simp only [natCast_eq] at *) <;> omega) | ((try simp only [lens, natCast_eq] at *) <;> omega))
            | assumption
            | (symm; assumption)
            | (dsimp only; simp only [nrb, *]; done)
            | (simp; done)
            | (and_intros <;> first | trivial | with_reducible assumption | omega)
            | ((try dsimp only [rfindSpec, fndF, rctgcSpec, rctgF, Ty.T, Ty.dflt, KT.T, getM, putM, delM, inI64, maxRow] at *) <;> simp [*] <;> done))
       | skip
     done)
theorem rread_sound : ConSound Try.prog AI 46 rreadSpec.con := PureSpec.sound Try.call46 (fun x h => rread_ok x.1 x.2.1 h)
end Go.Proofs.Ytgdiepbjdpmfbaa
