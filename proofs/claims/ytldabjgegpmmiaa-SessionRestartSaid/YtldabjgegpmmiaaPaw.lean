/-
  Layer 47: the methods write and readAt of a pair.
-/
import Derived.Test.YtldabjgegpmmiaaPai
import Derived.Test.YtldabjgegpmmiaaKv
namespace Go.Proofs.Ytldabjgegpmmiaa
set_option linter.all false
set_option linter.unusedVariables false
set_option linter.unusedSimpArgs false
set_option linter.unusedSectionVars false
open Go.RowKit Go.Sx
set_option maxRecDepth 100000
set_option maxHeartbeats 16000000
theorem erd_len (E : Edd) (m : Int) : ((erdF E m).1.1 : List Int).length ≤ m.toNat := by
  have h := readF_len E.r.sto m
  unfold erdF erdN erdS
  repeat' split
  all_goals exact h
abbrev TB1 := Tup [DT.cell .bool]
def pwF0 (S : Pr) (l : List Int) : TB1 × Pr :=
  if ((ewrF S.e0 l).1.1 : Int) < 0 then ((false, ()), { S with e0 := (ewrF S.e0 l).2 })
  else if (l.length : Int) < ((ewrF S.e0 l).1.1 : Int) then ((false, ()), { S with e0 := (ewrF S.e0 l).2 })
  else if ((ewrF S.e0 l).1.2.1 : Int) = 0 then ((true, ()), { S with e0 := (ewrF S.e0 l).2, w0 := S.w0 ++ (l.take ((ewrF S.e0 l).1.1 : Int).toNat).drop (0 : Int).toNat })
  else if ((ewrF S.e0 l).1.1 : Int) = 0 then ((true, ()), { S with e0 := (ewrF S.e0 l).2, w0 := S.w0 ++ (l.take ((ewrF S.e0 l).1.1 : Int).toNat).drop (0 : Int).toNat })
  else ((false, ()), { S with e0 := (ewrF S.e0 l).2 })
def prF0 (S : Pr) (m : Int) : T0 × Pr :=
  if S.n0 = true then ((), { S with e0 := (erdF S.e0 m).2, r0 := S.r0 ++ (erdF S.e0 m).1.1, n0 := true })
  else ((), { S with e0 := (erdF S.e0 m).2, r0 := S.r0 ++ (erdF S.e0 m).1.1, n0 := (erdF S.e0 m).1.2.1 })
def pwF1 (S : Pr) (l : List Int) : TB1 × Pr :=
  if ((ewrF S.e1 l).1.1 : Int) < 0 then ((false, ()), { S with e1 := (ewrF S.e1 l).2 })
  else if (l.length : Int) < ((ewrF S.e1 l).1.1 : Int) then ((false, ()), { S with e1 := (ewrF S.e1 l).2 })
  else if ((ewrF S.e1 l).1.2.1 : Int) = 0 then ((true, ()), { S with e1 := (ewrF S.e1 l).2, w1 := S.w1 ++ (l.take ((ewrF S.e1 l).1.1 : Int).toNat).drop (0 : Int).toNat })
  else if ((ewrF S.e1 l).1.1 : Int) = 0 then ((true, ()), { S with e1 := (ewrF S.e1 l).2, w1 := S.w1 ++ (l.take ((ewrF S.e1 l).1.1 : Int).toNat).drop (0 : Int).toNat })
  else ((false, ()), { S with e1 := (ewrF S.e1 l).2 })
def prF1 (S : Pr) (m : Int) : T0 × Pr :=
  if S.n1 = true then ((), { S with e1 := (erdF S.e1 m).2, r1 := S.r1 ++ (erdF S.e1 m).1.1, n1 := true })
  else ((), { S with e1 := (erdF S.e1 m).2, r1 := S.r1 ++ (erdF S.e1 m).1.1, n1 := (erdF S.e1 m).1.2.1 })
def pwF (S : Pr) (i : Int) (l : List Int) : TB1 × Pr := if i = 0 then pwF0 S l else pwF1 S l
def prF (S : Pr) (i m : Int) : T0 × Pr := if i = 0 then prF0 S m else prF1 S m
def pwrSpec : StepM Ab Pr := ⟨parL, [.cell (.int .i64), .lst (.int .u8)], fun S (x : Int × (List Int) × Unit) => (x.1 = 0 ∨ x.1 = 1) ∧ (OkE S.e0 ∧ OkE S.e1) ∧ (S.w0.length ≤ 2000000 ∧ S.w1.length ≤ 2000000) ∧ x.2.1.length ≤ 1000, [.cell .bool], fun S (x : Int × (List Int) × Unit) => (pwF S x.1 x.2.1).1, fun S (x : Int × (List Int) × Unit) => (pwF S x.1 x.2.1).2⟩
theorem pwr_ok (S : Pr) (i : Int) (l : List Int) (h : pwrSpec.pre S (i, l, ())) : ∃ args : List SV, args.length + 1 ≤ Try.f15.ntmps ∧ args.all (belV (parL).k) = true ∧ (∀ (ρ : Ev) us, All2 (Den ρ) (argS [.cell (.int .i64), .lst (.int .u8)] (fun _ => (i, l, ()))) us → All2 (Den ρ) args us) ∧ (svc Ept (parL).k (bodyOf Try.f15) ⟨argT 0 (Sx.one (.ptr 0 0) :: args), (parL).opn (fun _ => S)⟩ (finP Ept.ti (parL).k Try.f15.results.toList (resOf (svs pwrSpec.rs (fun _ => pwrSpec.f S (i, l, ())))) ((parL).opn (fun _ => pwrSpec.next S (i, l, ())))) ∨ svc Ept (parL).k (bodyOf Try.f15) ⟨argT 0 (Sx.one (.ptr 0 0) :: args), (parL).opn (fun _ => S)⟩ (finR Ept.ti (parL).k Try.f15.results.toList (resOf (svs pwrSpec.rs (fun _ => pwrSpec.f S (i, l, ())))) ((parL).opn (fun _ => pwrSpec.next S (i, l, ()))))) := by
  dsimp only [pwrSpec, parL] at h ⊢
  obtain ⟨hi, ⟨h1, h2⟩, ⟨h3, h4⟩, h5⟩ := h
  rcases hi with rfl | rfl
  · refine ⟨[Sx.one (.li .i64 0), Sx.one (.ro (.int .u8) (fun _ => l))], Nat.le_of_ble_eq_true (by kernel_rfl), rfl, (fun ρ us hd => by rcases hd with _ | ⟨h1, h2⟩; exact .cons h1 h2), .inl ?_⟩
    generalize hr : pwF S 0 l = r
    dsimp only [pwF, pwF0, pwF1] at hr
    (try (conv in (LoopInv.inv _ _) => dsimp only)); (try (conv in (SS.mk _ _) => cbv; (try dsimp only [ewrSpec, Ty.T, Ty.dflt, KT.T]); (try simp only [natCast_eq])))
    (with_reducible refine (?_ : T1 _ ?_) ?_; rotate_left 1; (conv => lhs; cbv; (try cbv); (try cbv)); intro hT; clear hT; with_reducible refine Sh.mk (by kernel_rfl) ?_)
    repeat' (first
      | with_reducible (first | refine Ck.mk (C := tt) tt_intro ?_ | refine Ck.mk (show drawOk _ _ = true by kernel_rfl) ?_ | refine Ck.all_cons ?_ | refine Ck.all_nil ?_ | refine Ck.mk (by assumption) ?_ | refine Ck.mk (decide_eq_true (by assumption)) ?_ | refine Ck.mk (decide_eq_false (by assumption)) ?_ | refine Ck.mk ?_ ?_)
      | (with_reducible (first | refine Both.mk (fun h => ?_) (fun h => ?_) | refine Alt.mk (fun h => ?_) (fun h => ?_) | refine Pick.mk (fun h => ?_) (fun l1 x l2 h => ?_)) <;> (have hk := h) <;> (try simp only [nrm, reduceCtorEq, pair_eta, map_idL] at h) <;> (try dsimp only [ewrSpec, Ty.T, Ty.dflt, KT.T, getM, putM, delM] at h) <;> (try simp only [natCast_eq] at h) <;> skip <;> (try first | rw [if_pos h] at hr | rw [if_neg h] at hr | rw [ifF h] at hr | rw [ifN h] at hr) <;> (try (have hb : (_ : Bool) = _ := h; clear h; subst hb; (try first | rw [if_pos rfl] at hr | rw [if_neg Bool.false_ne_true] at hr))) <;> first | (exfalso; omega) | exact absurd (h.symm.trans (by assumption) : true = false) Bool.noConfusion | exact absurd (h.symm.trans (by assumption) : false = true) Bool.noConfusion | (with_reducible refine (?_ : T1 _ ?_) ?_; rotate_left 1; (conv => lhs; cbv; (try cbv); (try cbv)); intro hT; clear hT; with_reducible refine Sh.mk (by kernel_rfl) ?_))
      | ((with_reducible refine End.mk ?_); (try ((repeat (first | rw [if_pos (by first | assumption | omega)] at hr | rw [if_neg (by first | assumption | omega | (simp only [Bool.false_eq_true, Bool.true_eq_false, reduceCtorEq, not_false_eq_true]; done) | (simp only [Bool.not_eq_true]; assumption) | (simp only [Bool.not_eq_false]; assumption))] at hr | rw [if_pos rfl] at hr)); subst hr)))
      | with_reducible exact True.intro)
    all_goals first
      | (fail_if_success (with_reducible refine Exists.intro ?_ ?_)
         first
           | with_reducible rfl
           | with_reducible assumption
           | (symm; with_reducible assumption)
           | omega
           | ((try dsimp only [ewrSpec, Ty.T, Ty.dflt, KT.T, getM, putM, delM, inI64, maxRow]); first | done | with_reducible rfl | with_reducible assumption | (symm; with_reducible assumption) | ((try simp only [natCast_eq, List.nil_append]); first | done | with_reducible rfl | omega | exact take_cg (by omega) | exact drop_cg (by omega) | exact take_drop_cg (by omega) (by omega) | exact take_all (by omega) | exact take_drop_all (by omega) (by omega) | exact drop_take_cg (by omega) (by omega) (by omega)))
           | first | exact ⟨h1.w, Nat.le_trans h5 (by decide)⟩ | exact ⟨h2.w, Nat.le_trans h5 (by decide)⟩
           | ((try dsimp only [ewrSpec, Ty.T, Ty.dflt, KT.T, getM, putM, delM, inI64, maxRow]); first | (simp only [nrm, reduceCtorEq, pair_eta, map_idL, natCast_eq, inI64, maxRow]; first | done | with_reducible assumption | omega) | exact map_pair_id _)
           | ((try dsimp only [ewrSpec, Ty.T, Ty.dflt, KT.T, getM, putM, delM, inI64, maxRow] at *); first | ((try simp only [natCast_eq] at *) <;> omega) | ((try simp only [lens, natCast_eq] at *) <;> omega))
           | assumption
           | (symm; assumption)
           | (dsimp only; simp only [nrb, *]; done)
           | (simp; done)
           | (and_intros <;> first | trivial | with_reducible assumption | omega)
           | ((try dsimp only [ewrSpec, Ty.T, Ty.dflt, KT.T, getM, putM, delM, inI64, maxRow] at *) <;> simp [*] <;> done))
      | skip
  · refine ⟨[Sx.one (.li .i64 1), Sx.one (.ro (.int .u8) (fun _ => l))], Nat.le_of_ble_eq_true (by kernel_rfl), rfl, (fun ρ us hd => by rcases hd with _ | ⟨h1, h2⟩; exact .cons h1 h2), .inl ?_⟩
    generalize hr : pwF S 1 l = r
    dsimp only [pwF, pwF0, pwF1] at hr
    (try (conv in (LoopInv.inv _ _) => dsimp only)); (try (conv in (SS.mk _ _) => cbv; (try dsimp only [ewrSpec, Ty.T, Ty.dflt, KT.T]); (try simp only [natCast_eq])))
    (with_reducible refine (?_ : T1 _ ?_) ?_; rotate_left 1; (conv => lhs; cbv; (try cbv); (try cbv)); intro hT; clear hT; with_reducible refine Sh.mk (by kernel_rfl) ?_)
    repeat' (first
      | with_reducible (first | refine Ck.mk (C := tt) tt_intro ?_ | refine Ck.mk (show drawOk _ _ = true by kernel_rfl) ?_ | refine Ck.all_cons ?_ | refine Ck.all_nil ?_ | refine Ck.mk (by assumption) ?_ | refine Ck.mk (decide_eq_true (by assumption)) ?_ | refine Ck.mk (decide_eq_false (by assumption)) ?_ | refine Ck.mk ?_ ?_)
      | (with_reducible (first | refine Both.mk (fun h => ?_) (fun h => ?_) | refine Alt.mk (fun h => ?_) (fun h => ?_) | refine Pick.mk (fun h => ?_) (fun l1 x l2 h => ?_)) <;> (have hk := h) <;> (try simp only [nrm, reduceCtorEq, pair_eta, map_idL] at h) <;> (try dsimp only [ewrSpec, Ty.T, Ty.dflt, KT.T, getM, putM, delM] at h) <;> (try simp only [natCast_eq] at h) <;> skip <;> (try first | rw [if_pos h] at hr | rw [if_neg h] at hr | rw [ifF h] at hr | rw [ifN h] at hr) <;> (try (have hb : (_ : Bool) = _ := h; clear h; subst hb; (try first | rw [if_pos rfl] at hr | rw [if_neg Bool.false_ne_true] at hr))) <;> first | (exfalso; omega) | exact absurd (h.symm.trans (by assumption) : true = false) Bool.noConfusion | exact absurd (h.symm.trans (by assumption) : false = true) Bool.noConfusion | (with_reducible refine (?_ : T1 _ ?_) ?_; rotate_left 1; (conv => lhs; cbv; (try cbv); (try cbv)); intro hT; clear hT; with_reducible refine Sh.mk (by kernel_rfl) ?_))
      | ((with_reducible refine End.mk ?_); (try ((repeat (first | rw [if_pos (by first | assumption | omega)] at hr | rw [if_neg (by first | assumption | omega | (simp only [Bool.false_eq_true, Bool.true_eq_false, reduceCtorEq, not_false_eq_true]; done) | (simp only [Bool.not_eq_true]; assumption) | (simp only [Bool.not_eq_false]; assumption))] at hr | rw [if_pos rfl] at hr)); subst hr)))
      | with_reducible exact True.intro)
    all_goals first
      | (fail_if_success (with_reducible refine Exists.intro ?_ ?_)
         first
           | with_reducible rfl
           | with_reducible assumption
           | (symm; with_reducible assumption)
           | omega
           | ((try dsimp only [ewrSpec, Ty.T, Ty.dflt, KT.T, getM, putM, delM, inI64, maxRow]); first | done | with_reducible rfl | with_reducible assumption | (symm; with_reducible assumption) | ((try simp only [natCast_eq, List.nil_append]); first | done | with_reducible rfl | omega | exact take_cg (by omega) | exact drop_cg (by omega) | exact take_drop_cg (by omega) (by omega) | exact take_all (by omega) | exact take_drop_all (by omega) (by omega) | exact drop_take_cg (by omega) (by omega) (by omega)))
           | first | exact ⟨h1.w, Nat.le_trans h5 (by decide)⟩ | exact ⟨h2.w, Nat.le_trans h5 (by decide)⟩
           | ((try dsimp only [ewrSpec, Ty.T, Ty.dflt, KT.T, getM, putM, delM, inI64, maxRow]); first | (simp only [nrm, reduceCtorEq, pair_eta, map_idL, natCast_eq, inI64, maxRow]; first | done | with_reducible assumption | omega) | exact map_pair_id _)
           | ((try dsimp only [ewrSpec, Ty.T, Ty.dflt, KT.T, getM, putM, delM, inI64, maxRow] at *); first | ((try simp only [natCast_eq] at *) <;> omega) | ((try simp only [lens, natCast_eq] at *) <;> omega))
           | assumption
           | (symm; assumption)
           | (dsimp only; simp only [nrb, *]; done)
           | (simp; done)
           | (and_intros <;> first | trivial | with_reducible assumption | omega)
           | ((try dsimp only [ewrSpec, Ty.T, Ty.dflt, KT.T, getM, putM, delM, inI64, maxRow] at *) <;> simp [*] <;> done))
      | skip
theorem pwr_sound : ConSound Try.prog AI 15 pwrSpec.con := StepM.sound eptOk mixed (fn := Try.f15) (c := bodyOf Try.f15) Try.call15 (by kernel_rfl) (by kernel_rfl) (by kernel_rfl) fun S x h => pwr_ok S x.1 x.2.1 h
def prdSpec : StepM Ab Pr := ⟨parL, [.cell (.int .i64), .cell (.int .i64)], fun S (x : Int × Int × Unit) => (x.1 = 0 ∨ x.1 = 1) ∧ (OkE S.e0 ∧ OkE S.e1) ∧ (S.r0.length ≤ 1000000 ∧ S.r1.length ≤ 1000000) ∧ x.2.1 ≤ 1000, [], fun S (x : Int × Int × Unit) => (prF S x.1 x.2.1).1, fun S (x : Int × Int × Unit) => (prF S x.1 x.2.1).2⟩
theorem prd_ok (S : Pr) (i : Int) (m : Int) (h : prdSpec.pre S (i, m, ())) : ∃ args : List SV, args.length + 1 ≤ Try.f39.ntmps ∧ args.all (belV (parL).k) = true ∧ (∀ (ρ : Ev) us, All2 (Den ρ) (argS [.cell (.int .i64), .cell (.int .i64)] (fun _ => (i, m, ()))) us → All2 (Den ρ) args us) ∧ (svc Ept (parL).k (bodyOf Try.f39) ⟨argT 0 (Sx.one (.ptr 0 0) :: args), (parL).opn (fun _ => S)⟩ (finP Ept.ti (parL).k Try.f39.results.toList (resOf (svs prdSpec.rs (fun _ => prdSpec.f S (i, m, ())))) ((parL).opn (fun _ => prdSpec.next S (i, m, ())))) ∨ svc Ept (parL).k (bodyOf Try.f39) ⟨argT 0 (Sx.one (.ptr 0 0) :: args), (parL).opn (fun _ => S)⟩ (finR Ept.ti (parL).k Try.f39.results.toList (resOf (svs prdSpec.rs (fun _ => prdSpec.f S (i, m, ())))) ((parL).opn (fun _ => prdSpec.next S (i, m, ()))))) := by
  dsimp only [prdSpec, parL] at h ⊢
  obtain ⟨hi, ⟨h1, h2⟩, ⟨h3, h4⟩, h5⟩ := h
  have hq0 := erd_len S.e0 m
  have hq1 := erd_len S.e1 m
  rcases hi with rfl | rfl
  · refine ⟨[Sx.one (.li .i64 0), Sx.one (.int .i64 (fun _ => m))], Nat.le_of_ble_eq_true (by kernel_rfl), rfl, (fun ρ us hd => by rcases hd with _ | ⟨h1, h2⟩; exact .cons h1 h2), .inl ?_⟩
    generalize hr : prF S 0 m = r
    dsimp only [prF, prF0, prF1] at hr
    (try (conv in (LoopInv.inv _ _) => dsimp only)); (try (conv in (SS.mk _ _) => cbv; (try dsimp only [erdSpec, Ty.T, Ty.dflt, KT.T]); (try simp only [natCast_eq])))
    (with_reducible refine (?_ : T1 _ ?_) ?_; rotate_left 1; (conv => lhs; cbv; (try cbv); (try cbv)); intro hT; clear hT; with_reducible refine Sh.mk (by kernel_rfl) ?_)
    repeat' (first
      | with_reducible (first | refine Ck.mk (C := tt) tt_intro ?_ | refine Ck.mk (show drawOk _ _ = true by kernel_rfl) ?_ | refine Ck.all_cons ?_ | refine Ck.all_nil ?_ | refine Ck.mk (by assumption) ?_ | refine Ck.mk (decide_eq_true (by assumption)) ?_ | refine Ck.mk (decide_eq_false (by assumption)) ?_ | refine Ck.mk ?_ ?_)
      | (with_reducible (first | refine Both.mk (fun h => ?_) (fun h => ?_) | refine Alt.mk (fun h => ?_) (fun h => ?_) | refine Pick.mk (fun h => ?_) (fun l1 x l2 h => ?_)) <;> (have hk := h) <;> (try simp only [nrm, reduceCtorEq, pair_eta, map_idL] at h) <;> (try dsimp only [erdSpec, Ty.T, Ty.dflt, KT.T, getM, putM, delM] at h) <;> (try simp only [natCast_eq] at h) <;> skip <;> (try first | rw [if_pos h] at hr | rw [if_neg h] at hr | rw [ifF h] at hr | rw [ifN h] at hr) <;> (try (have hb : (_ : Bool) = _ := h; clear h; subst hb; (try first | rw [if_pos rfl] at hr | rw [if_neg Bool.false_ne_true] at hr))) <;> first | (exfalso; omega) | exact absurd (h.symm.trans (by assumption) : true = false) Bool.noConfusion | exact absurd (h.symm.trans (by assumption) : false = true) Bool.noConfusion | (with_reducible refine (?_ : T1 _ ?_) ?_; rotate_left 1; (conv => lhs; cbv; (try cbv); (try cbv)); intro hT; clear hT; with_reducible refine Sh.mk (by kernel_rfl) ?_))
      | ((with_reducible refine End.mk ?_); (try ((repeat (first | rw [if_pos (by first | assumption | omega)] at hr | rw [if_neg (by first | assumption | omega | (simp only [Bool.false_eq_true, Bool.true_eq_false, reduceCtorEq, not_false_eq_true]; done) | (simp only [Bool.not_eq_true]; assumption) | (simp only [Bool.not_eq_false]; assumption))] at hr | rw [if_pos rfl] at hr)); subst hr)))
      | with_reducible exact True.intro)
    all_goals first
      | (fail_if_success (with_reducible refine Exists.intro ?_ ?_)
         first
           | with_reducible rfl
           | with_reducible assumption
           | (symm; with_reducible assumption)
           | omega
           | ((try dsimp only [erdSpec, Ty.T, Ty.dflt, KT.T, getM, putM, delM, inI64, maxRow]); first | done | with_reducible rfl | with_reducible assumption | (symm; with_reducible assumption) | ((try simp only [natCast_eq, List.nil_append]); first | done | with_reducible rfl | omega | exact take_cg (by omega) | exact drop_cg (by omega) | exact take_drop_cg (by omega) (by omega) | exact take_all (by omega) | exact take_drop_all (by omega) (by omega) | exact drop_take_cg (by omega) (by omega) (by omega)))
           | first | exact h1.r | exact h2.r
           | ((try dsimp only [erdSpec, Ty.T, Ty.dflt, KT.T, getM, putM, delM, inI64, maxRow]); first | (simp only [nrm, reduceCtorEq, pair_eta, map_idL, natCast_eq, inI64, maxRow]; first | done | with_reducible assumption | omega) | exact map_pair_id _)
           | ((try dsimp only [erdSpec, Ty.T, Ty.dflt, KT.T, getM, putM, delM, inI64, maxRow] at *); first | ((try simp only [natCast_eq] at *) <;> omega) | ((try simp only [lens, natCast_eq] at *) <;> omega))
           | assumption
           | (symm; assumption)
           | (dsimp only; simp only [nrb, *]; done)
           | (simp; done)
           | (and_intros <;> first | trivial | with_reducible assumption | omega)
           | ((try dsimp only [erdSpec, Ty.T, Ty.dflt, KT.T, getM, putM, delM, inI64, maxRow] at *) <;> simp [*] <;> done))
      | skip
  · refine ⟨[Sx.one (.li .i64 1), Sx.one (.int .i64 (fun _ => m))], Nat.le_of_ble_eq_true (by kernel_rfl), rfl, (fun ρ us hd => by rcases hd with _ | ⟨h1, h2⟩; exact .cons h1 h2), .inl ?_⟩
    generalize hr : prF S 1 m = r
    dsimp only [prF, prF0, prF1] at hr
    (try (conv in (LoopInv.inv _ _) => dsimp only)); (try (conv in (SS.mk _ _) => cbv; (try dsimp only [erdSpec, Ty.T, Ty.dflt, KT.T]); (try simp only [natCast_eq])))
    (with_reducible refine (?_ : T1 _ ?_) ?_; rotate_left 1; (conv => lhs; cbv; (try cbv); (try cbv)); intro hT; clear hT; with_reducible refine Sh.mk (by kernel_rfl) ?_)
    repeat' (first
      | with_reducible (first | refine Ck.mk (C := tt) tt_intro ?_ | refine Ck.mk (show drawOk _ _ = true by kernel_rfl) ?_ | refine Ck.all_cons ?_ | refine Ck.all_nil ?_ | refine Ck.mk (by assumption) ?_ | refine Ck.mk (decide_eq_true (by assumption)) ?_ | refine Ck.mk (decide_eq_false (by assumption)) ?_ | refine Ck.mk ?_ ?_)
      | (with_reducible (first | refine Both.mk (fun h => ?_) (fun h => ?_) | refine Alt.mk (fun h => ?_) (fun h => ?_) | refine Pick.mk (fun h => ?_) (fun l1 x l2 h => ?_)) <;> (have hk := h) <;> (try simp only [nrm, reduceCtorEq, pair_eta, map_idL] at h) <;> (try dsimp only [erdSpec, Ty.T, Ty.dflt, KT.T, getM, putM, delM] at h) <;> (try simp only [natCast_eq] at h) <;> skip <;> (try first | rw [if_pos h] at hr | rw [if_neg h] at hr | rw [ifF h] at hr | rw [ifN h] at hr) <;> (try (have hb : (_ : Bool) = _ := h; clear h; subst hb; (try first | rw [if_pos rfl] at hr | rw [if_neg Bool.false_ne_true] at hr))) <;> first | (exfalso; omega) | exact absurd (h.symm.trans (by assumption) : true = false) Bool.noConfusion | exact absurd (h.symm.trans (by assumption) : false = true) Bool.noConfusion | (with_reducible refine (?_ : T1 _ ?_) ?_; rotate_left 1; (conv => lhs; cbv; (try cbv); (try cbv)); intro hT; clear hT; with_reducible refine Sh.mk (by kernel_rfl) ?_))
      | ((with_reducible refine End.mk ?_); (try ((repeat (first | rw [if_pos (by first | assumption | omega)] at hr | rw [if_neg (by first | assumption | omega | (simp only [Bool.false_eq_true, Bool.true_eq_false, reduceCtorEq, not_false_eq_true]; done) | (simp only [Bool.not_eq_true]; assumption) | (simp only [Bool.not_eq_false]; assumption))] at hr | rw [if_pos rfl] at hr)); subst hr)))
      | with_reducible exact True.intro)
    all_goals first
      | (fail_if_success (with_reducible refine Exists.intro ?_ ?_)
         first
           | with_reducible rfl
           | with_reducible assumption
           | (symm; with_reducible assumption)
           | omega
           | ((try dsimp only [erdSpec, Ty.T, Ty.dflt, KT.T, getM, putM, delM, inI64, maxRow]); first | done | with_reducible rfl | with_reducible assumption | (symm; with_reducible assumption) | ((try simp only [natCast_eq, List.nil_append]); first | done | with_reducible rfl | omega | exact take_cg (by omega) | exact drop_cg (by omega) | exact take_drop_cg (by omega) (by omega) | exact take_all (by omega) | exact take_drop_all (by omega) (by omega) | exact drop_take_cg (by omega) (by omega) (by omega)))
           | first | exact h1.r | exact h2.r
           | ((try dsimp only [erdSpec, Ty.T, Ty.dflt, KT.T, getM, putM, delM, inI64, maxRow]); first | (simp only [nrm, reduceCtorEq, pair_eta, map_idL, natCast_eq, inI64, maxRow]; first | done | with_reducible assumption | omega) | exact map_pair_id _)
           | ((try dsimp only [erdSpec, Ty.T, Ty.dflt, KT.T, getM, putM, delM, inI64, maxRow] at *); first | ((try simp only [natCast_eq] at *) <;> omega) | ((try simp only [lens, natCast_eq] at *) <;> omega))
           | assumption
           | (symm; assumption)
           | (dsimp only; simp only [nrb, *]; done)
           | (simp; done)
           | (and_intros <;> first | trivial | with_reducible assumption | omega)
           | ((try dsimp only [erdSpec, Ty.T, Ty.dflt, KT.T, getM, putM, delM, inI64, maxRow] at *) <;> simp [*] <;> done))
      | skip
theorem prd_sound : ConSound Try.prog AI 39 prdSpec.con := StepM.sound eptOk mixed (fn := Try.f39) (c := bodyOf Try.f39) Try.call39 (by kernel_rfl) (by kernel_rfl) (by kernel_rfl) fun S x h => prd_ok S x.1 x.2.1 h
end Go.Proofs.Ytldabjgegpmmiaa
