/-
  Layer 47: two ends, the messages on the way to each, and what was written and read at each: the methods tick, write, readAt.
-/
import Derived.Test.YtldabjgegpmmiaaAwk
import Derived.Test.YtldabjgegpmmiaaEng3
namespace Go.Proofs.Ytldabjgegpmmiaa
set_option linter.all false
set_option linter.unusedVariables false
set_option linter.unusedSimpArgs false
set_option linter.unusedSectionVars false
open Go.RowKit Go.Sx
set_option maxRecDepth 100000
set_option maxHeartbeats 16000000
structure Pr where
  e0 : Edd
  e1 : Edd
  f0 : List Msg
  f1 : List Msg
  w0 : List Int
  w1 : List Int
  r0 : List Int
  r1 : List Int
  n0 : Bool
  n1 : Bool
def parC (x : U Pr) : List (Chunk Ab) := [.cells 37 [.ptr 1 0, .ptr 2 0, .hd 3 0, .hd 4 0, .hd 5 0, .hd 6 0, .hd 7 0, .hd 8 0, .sb (fun _ => (x ()).n0), .sb (fun _ => (x ()).n1)],
  .abs (.edd (fun _ => (x ()).e0)), .abs (.edd (fun _ => (x ()).e1)), .row 47 msgE 0 (fun _ => (x ()).f0), .row 47 msgE 0 (fun _ => (x ()).f1),
  .row 5 (.int .u8) 0 (fun _ => (x ()).w0), .row 5 (.int .u8) 0 (fun _ => (x ()).w1), .row 5 (.int .u8) 0 (fun _ => (x ()).r0), .row 5 (.int .u8) 0 (fun _ => (x ()).r1)]
def unP : List (Chunk Ab) → Option (U Pr)
  | [.cells 37 [.ptr 1 0, .ptr 2 0, .hd 3 0, .hd 4 0, .hd 5 0, .hd 6 0, .hd 7 0, .hd 8 0, .sb n0, .sb n1], .abs (.edd e0), .abs (.edd e1),
      .row 47 (.pair (.int .i64) (.pair (.int .i64) (.pair (.int .i64) (.pair (.pair (.int .i64) (.pair .bytes .bool)) (.pair (.int .i64) (.pair (.int .i64) .bool)))))) 0 f0, .row 47 (.pair (.int .i64) (.pair (.int .i64) (.pair (.int .i64) (.pair (.pair (.int .i64) (.pair .bytes .bool)) (.pair (.int .i64) (.pair (.int .i64) .bool)))))) 0 f1,
      .row 5 (.int .u8) 0 w0, .row 5 (.int .u8) 0 w1, .row 5 (.int .u8) 0 r0, .row 5 (.int .u8) 0 r1] => some (fun _ => ⟨e0 (), e1 (), f0 (), f1 (), w0 (), w1 (), r0 (), r1 (), n0 (), n1 ()⟩)
  | _ => none
theorem unP_eq (cs : List (Chunk Ab)) (W : U Pr) (h : unP cs = some W) : cs = parC (fun _ => W ()) := by
  unfold unP at h
  split at h <;> cases h
  rfl
def parL : ParL Ab Pr := ⟨3, 9, unP, parC, by decide, unP_eq⟩
abbrev T0 := Tup ([] : List DT)
theorem etk_len (E : Edd) (m : Int) : ((etkF E m).1.1 : List Msg).length ≤ 2 := by
  unfold etkF
  repeat' split
  all_goals (first | exact Nat.zero_le _ | exact Nat.le_refl _ | exact Nat.le_succ _)
def ptickF (S : Pr) (m : Int) : T0 × Pr := ((), { S with e0 := (etkF S.e0 m).2, e1 := (etkF S.e1 m).2, f1 := S.f1 ++ (etkF S.e0 m).1.1, f0 := S.f0 ++ (etkF S.e1 m).1.1 })
inductive St3 where | a | b | c
noncomputable abbrev Ept : Env Ab := ⟨tis, [(19, ercSpec.con), (22, erdSpec.con), (28, ewrSpec.con), (20, etkSpec.con)] ++ E0.con⟩
theorem eptOk : EnvOk Try.prog AI Ept := ((((e0Ok.add etk_sound).add ewr_sound).add erd_sound).add erc_sound)
def ptickSpec : StepM Ab Pr := ⟨parL, [.cell (.int .i64)], fun S (x : Int × Unit) => (OkE S.e0 ∧ OkE S.e1) ∧ S.f0.length ≤ 1000000 ∧ S.f1.length ≤ 1000000, [], fun S (x : Int × Unit) => (ptickF S x.1).1, fun S (x : Int × Unit) => (ptickF S x.1).2⟩
theorem ptick_ok (S : Pr) (m : Int) (h : ptickSpec.pre S (m, ())) : ∃ args : List SV, args.length + 1 ≤ Try.f13.ntmps ∧ args.all (belV (parL).k) = true ∧ (∀ (ρ : Ev) us, All2 (Den ρ) (argS [.cell (.int .i64)] (fun _ => (m, ()))) us → All2 (Den ρ) args us) ∧ (svc Ept (parL).k (bodyOf Try.f13) ⟨argT 0 (Sx.one (.ptr 0 0) :: args), (parL).opn (fun _ => S)⟩ (finP Ept.ti (parL).k Try.f13.results.toList (resOf (svs ptickSpec.rs (fun _ => ptickSpec.f S (m, ())))) ((parL).opn (fun _ => ptickSpec.next S (m, ())))) ∨ svc Ept (parL).k (bodyOf Try.f13) ⟨argT 0 (Sx.one (.ptr 0 0) :: args), (parL).opn (fun _ => S)⟩ (finR Ept.ti (parL).k Try.f13.results.toList (resOf (svs ptickSpec.rs (fun _ => ptickSpec.f S (m, ())))) ((parL).opn (fun _ => ptickSpec.next S (m, ()))))) := by
  dsimp only [ptickSpec, parL] at h ⊢
  obtain ⟨⟨h1, h2⟩, h3, h4⟩ := h
  have hl0 := etk_len S.e0 m
  have hl1 := etk_len S.e1 m
  refine ⟨argS [.cell (.int .i64)] (fun _ => (m, ())), Nat.le_of_ble_eq_true (by kernel_rfl), rfl, (fun ρ us hd => hd), .inl ?_⟩
  generalize hr : ptickF S m = r
  dsimp only [ptickF] at hr
  (try (conv in (LoopInv.inv _ _) => dsimp only)); (try (conv in (SS.mk _ _) => cbv; (try dsimp only [etkSpec, Ty.T, Ty.dflt, KT.T]); (try simp only [natCast_eq])))
  (with_reducible refine (?_ : T1 _ ?_) ?_; rotate_left 1; (conv => lhs; cbv; (try cbv); (try cbv)); intro hT; clear hT; with_reducible refine Sh.mk (by kernel_rfl) ?_)
  repeat' (first
    | with_reducible (first | refine Ck.mk (C := tt) tt_intro ?_ | refine Ck.mk (show drawOk _ _ = true by kernel_rfl) ?_ | refine Ck.all_cons ?_ | refine Ck.all_nil ?_ | refine Ck.mk (by assumption) ?_ | refine Ck.mk (decide_eq_true (by assumption)) ?_ | refine Ck.mk (decide_eq_false (by assumption)) ?_ | refine Ck.mk ?_ ?_)
    | (with_reducible (first | refine Both.mk (fun h => ?_) (fun h => ?_) | refine Alt.mk (fun h => ?_) (fun h => ?_) | refine Pick.mk (fun h => ?_) (fun l1 x l2 h => ?_)) <;> (have hk := h) <;> (try simp only [nrm, reduceCtorEq, pair_eta, map_idL] at h) <;> (try dsimp only [etkSpec, Ty.T, Ty.dflt, KT.T, getM, putM, delM] at h) <;> (try simp only [natCast_eq] at h) <;> skip <;> (try first | rw [if_pos h] at hr | rw [if_neg h] at hr | rw [ifF h] at hr | rw [ifN h] at hr) <;> (try (have hb : (_ : Bool) = _ := h; clear h; subst hb; (try first | rw [if_pos rfl] at hr | rw [if_neg Bool.false_ne_true] at hr))) <;> first | (exfalso; omega) | exact absurd (h.symm.trans (by assumption) : true = false) Bool.noConfusion | exact absurd (h.symm.trans (by assumption) : false = true) Bool.noConfusion | (with_reducible refine (?_ : T1 _ ?_) ?_; rotate_left 1; (conv => lhs; cbv; (try cbv); (try cbv)); intro hT; clear hT; with_reducible refine Sh.mk (by kernel_rfl) ?_))
    | ((with_reducible refine End.mk ?_); (try ((repeat (first | rw [if_pos (by first | assumption | omega)] at hr | rw [if_neg (by first | assumption | omega | (simp only [Bool.false_eq_true, Bool.true_eq_false, reduceCtorEq, not_false_eq_true]; done) | (simp only [Bool.not_eq_true]; assumption) | (simp only [Bool.not_eq_false]; assumption))] at hr | rw [if_pos rfl] at hr)); subst hr)))
    | with_reducible exact True.intro)
  all_goals first
    | (fail_if_success (with_reducible refine Exists.intro ?_ ?_)
       first
         | with_reducible rfl
         | with_reducible assumption
         | (symm; with_reducible assumption)
         | omega
         | ((try dsimp only [etkSpec, Ty.T, Ty.dflt, KT.T, getM, putM, delM, inI64, maxRow]); first | done | with_reducible rfl | with_reducible assumption | (symm; with_reducible assumption) | ((try simp only [natCast_eq, List.nil_append]); first | done | with_reducible rfl | omega | exact take_cg (by omega) | exact drop_cg (by omega) | exact take_drop_cg (by omega) (by omega) | exact take_all (by omega) | exact take_drop_all (by omega) (by omega) | exact drop_take_cg (by omega) (by omega) (by omega)))
         | ((try dsimp only [etkSpec, Ty.T, Ty.dflt, KT.T, getM, putM, delM, inI64, maxRow]); first | (simp only [nrm, reduceCtorEq, pair_eta, map_idL, natCast_eq, inI64, maxRow]; first | done | with_reducible assumption | omega) | exact map_pair_id _)
         | ((try dsimp only [etkSpec, Ty.T, Ty.dflt, KT.T, getM, putM, delM, inI64, maxRow] at *); first | ((try simp only [natCast_eq] at *) <;> omega) | ((try simp only [lens, natCast_eq] at *) <;> omega))
         | assumption
         | (symm; assumption)
         | (dsimp only; simp only [nrb, *]; done)
         | (simp; done)
         | (and_intros <;> first | trivial | with_reducible assumption | omega)
         | ((try dsimp only [etkSpec, Ty.T, Ty.dflt, KT.T, getM, putM, delM, inI64, maxRow] at *) <;> simp [*] <;> done))
    | skip
  refine ⟨⟨St3, fun x => match x with
    | .a => ⟨[(0, Sx.one (.ptr 0 0)), (1, Sx.one (.int .i64 (fun _ => m))), (5, Sx.one (.li .i64 0))], parC (fun _ => S)⟩
    | .b => ⟨[(0, Sx.one (.ptr 0 0)), (1, Sx.one (.int .i64 (fun _ => m))), (5, Sx.one (.int .i64 (fun _ => 1)))], parC (fun _ => { S with e0 := (etkF S.e0 m).2, f1 := S.f1 ++ (etkF S.e0 m).1.1 })⟩
    | .c => ⟨[(0, Sx.one (.ptr 0 0)), (1, Sx.one (.int .i64 (fun _ => m))), (5, Sx.one (.int .i64 (fun _ => 2)))], parC (fun _ => r.2)⟩, fun x => match x with | .a => 2 | .b => 1 | .c => 0, .a⟩, ?_, fun (x : St3) => ?_⟩
  · (try (conv in (LoopInv.inv _ _) => dsimp only)); (try (conv in (SS.mk _ _) => cbv; (try dsimp only [etkSpec, Ty.T, Ty.dflt, KT.T]); (try simp only [natCast_eq])))
    (with_reducible refine (?_ : T1 _ ?_) ?_; rotate_left 1; (conv => lhs; cbv; (try cbv); (try cbv)); intro hT; clear hT; with_reducible refine Sh.mk (by kernel_rfl) ?_)
    repeat' (first
      | with_reducible (first | refine Ck.mk (C := tt) tt_intro ?_ | refine Ck.mk (show drawOk _ _ = true by kernel_rfl) ?_ | refine Ck.all_cons ?_ | refine Ck.all_nil ?_ | refine Ck.mk (by assumption) ?_ | refine Ck.mk (decide_eq_true (by assumption)) ?_ | refine Ck.mk (decide_eq_false (by assumption)) ?_ | refine Ck.mk ?_ ?_)
      | (with_reducible (first | refine Both.mk (fun h => ?_) (fun h => ?_) | refine Alt.mk (fun h => ?_) (fun h => ?_) | refine Pick.mk (fun h => ?_) (fun l1 x l2 h => ?_)) <;> (have hk := h) <;> (try simp only [nrm, reduceCtorEq, pair_eta, map_idL] at h) <;> (try dsimp only [etkSpec, Ty.T, Ty.dflt, KT.T, getM, putM, delM] at h) <;> (try simp only [natCast_eq] at h) <;> skip <;> (try first | rw [if_pos h] at hr | rw [if_neg h] at hr | rw [ifF h] at hr | rw [ifN h] at hr) <;> (try (have hb : (_ : Bool) = _ := h; clear h; subst hb; (try first | rw [if_pos rfl] at hr | rw [if_neg Bool.false_ne_true] at hr))) <;> first | (exfalso; omega) | exact absurd (h.symm.trans (by assumption) : true = false) Bool.noConfusion | exact absurd (h.symm.trans (by assumption) : false = true) Bool.noConfusion | (with_reducible refine (?_ : T1 _ ?_) ?_; rotate_left 1; (conv => lhs; cbv; (try cbv); (try cbv)); intro hT; clear hT; with_reducible refine Sh.mk (by kernel_rfl) ?_))
      | ((with_reducible refine End.mk ?_); skip)
      | with_reducible exact True.intro)
    all_goals first
      | (fail_if_success (with_reducible refine Exists.intro ?_ ?_)
         first
           | with_reducible rfl
           | with_reducible assumption
           | (symm; with_reducible assumption)
           | omega
           | ((try dsimp only [etkSpec, Ty.T, Ty.dflt, KT.T, getM, putM, delM, inI64, maxRow]); first | done | with_reducible rfl | with_reducible assumption | (symm; with_reducible assumption) | ((try simp only [natCast_eq, List.nil_append]); first | done | with_reducible rfl | omega | exact take_cg (by omega) | exact drop_cg (by omega) | exact take_drop_cg (by omega) (by omega) | exact take_all (by omega) | exact take_drop_all (by omega) (by omega) | exact drop_take_cg (by omega) (by omega) (by omega)))
           | ((try dsimp only [etkSpec, Ty.T, Ty.dflt, KT.T, getM, putM, delM, inI64, maxRow]); first | (simp only [nrm, reduceCtorEq, pair_eta, map_idL, natCast_eq, inI64, maxRow]; first | done | with_reducible assumption | omega) | exact map_pair_id _)
           | ((try dsimp only [etkSpec, Ty.T, Ty.dflt, KT.T, getM, putM, delM, inI64, maxRow] at *); first | ((try simp only [natCast_eq] at *) <;> omega) | ((try simp only [lens, natCast_eq] at *) <;> omega))
           | assumption
           | (symm; assumption)
           | (dsimp only; simp only [nrb, *]; done)
           | (simp; done)
           | (and_intros <;> first | trivial | with_reducible assumption | omega)
           | ((try dsimp only [etkSpec, Ty.T, Ty.dflt, KT.T, getM, putM, delM, inI64, maxRow] at *) <;> simp [*] <;> done))
      | skip
  subst hr
  cases x
  · (try (conv in (LoopInv.inv _ _) => dsimp only)); (try (conv in (SS.mk _ _) => cbv; (try dsimp only [etkSpec, Ty.T, Ty.dflt, KT.T]); (try simp only [natCast_eq])))
    (with_reducible refine (?_ : T1 _ ?_) ?_; rotate_left 1; (conv => lhs; cbv; (try cbv); (try cbv)); intro hT; clear hT; with_reducible refine Sh.mk (by kernel_rfl) ?_)
    repeat' (first
      | with_reducible (first | refine Ck.mk (C := tt) tt_intro ?_ | refine Ck.mk (show drawOk _ _ = true by kernel_rfl) ?_ | refine Ck.all_cons ?_ | refine Ck.all_nil ?_ | refine Ck.mk (by assumption) ?_ | refine Ck.mk (decide_eq_true (by assumption)) ?_ | refine Ck.mk (decide_eq_false (by assumption)) ?_ | refine Ck.mk ?_ ?_)
      | (with_reducible (first | refine Both.mk (fun h => ?_) (fun h => ?_) | refine Alt.mk (fun h => ?_) (fun h => ?_) | refine Pick.mk (fun h => ?_) (fun l1 x l2 h => ?_)) <;> (have hk := h) <;> (try simp only [nrm, reduceCtorEq, pair_eta, map_idL] at h) <;> (try dsimp only [etkSpec, Ty.T, Ty.dflt, KT.T, getM, putM, delM] at h) <;> (try simp only [natCast_eq] at h) <;> skip <;> (try first | rw [if_pos h] at hr | rw [if_neg h] at hr | rw [ifF h] at hr | rw [ifN h] at hr) <;> (try (have hb : (_ : Bool) = _ := h; clear h; subst hb; (try first | rw [if_pos rfl] at hr | rw [if_neg Bool.false_ne_true] at hr))) <;> first | (exfalso; omega) | exact absurd (h.symm.trans (by assumption) : true = false) Bool.noConfusion | exact absurd (h.symm.trans (by assumption) : false = true) Bool.noConfusion | (with_reducible refine (?_ : T1 _ ?_) ?_; rotate_left 1; (conv => lhs; cbv; (try cbv); (try cbv)); intro hT; clear hT; with_reducible refine Sh.mk (by kernel_rfl) ?_))
      | ((with_reducible refine End.mk ?_); skip)
      | with_reducible exact True.intro)
    all_goals first
      | (fail_if_success (with_reducible refine Exists.intro ?_ ?_)
         first
           | with_reducible rfl
           | with_reducible assumption
           | (symm; with_reducible assumption)
           | omega
           | ((try dsimp only [etkSpec, Ty.T, Ty.dflt, KT.T, getM, putM, delM, inI64, maxRow]); first | done | with_reducible rfl | with_reducible assumption | (symm; with_reducible assumption) | ((try simp only [natCast_eq, List.nil_append]); first | done | with_reducible rfl | omega | exact take_cg (by omega) | exact drop_cg (by omega) | exact take_drop_cg (by omega) (by omega) | exact take_all (by omega) | exact take_drop_all (by omega) (by omega) | exact drop_take_cg (by omega) (by omega) (by omega)))
           | ((try dsimp only [etkSpec, Ty.T, Ty.dflt, KT.T, getM, putM, delM, inI64, maxRow]); first | (simp only [nrm, reduceCtorEq, pair_eta, map_idL, natCast_eq, inI64, maxRow]; first | done | with_reducible assumption | omega) | exact map_pair_id _)
           | ((try dsimp only [etkSpec, Ty.T, Ty.dflt, KT.T, getM, putM, delM, inI64, maxRow] at *); first | ((try simp only [natCast_eq] at *) <;> omega) | ((try simp only [lens, natCast_eq] at *) <;> omega))
           | assumption
           | (symm; assumption)
           | (dsimp only; simp only [nrb, *]; done)
           | (simp; done)
           | (and_intros <;> first | trivial | with_reducible assumption | omega)
           | ((try dsimp only [etkSpec, Ty.T, Ty.dflt, KT.T, getM, putM, delM, inI64, maxRow] at *) <;> simp [*] <;> done))
      | skip
    all_goals
      (refine ⟨.b, Nat.lt_succ_self _, ?_⟩
       (try (conv in (LoopInv.inv _ _) => dsimp only)); (try (conv in (SS.mk _ _) => cbv; (try dsimp only [etkSpec, Ty.T, Ty.dflt, KT.T]); (try simp only [natCast_eq])))
       (with_reducible refine (?_ : T1 _ ?_) ?_; rotate_left 1; (conv => lhs; cbv; (try cbv); (try cbv)); intro hT; clear hT; with_reducible refine Sh.mk (by kernel_rfl) ?_)
       repeat' (first
         | with_reducible (first | refine Ck.mk (C := tt) tt_intro ?_ | refine Ck.mk (show drawOk _ _ = true by kernel_rfl) ?_ | refine Ck.all_cons ?_ | refine Ck.all_nil ?_ | refine Ck.mk (by assumption) ?_ | refine Ck.mk (decide_eq_true (by assumption)) ?_ | refine Ck.mk (decide_eq_false (by assumption)) ?_ | refine Ck.mk ?_ ?_)
         | (with_reducible (first | refine Both.mk (fun h => ?_) (fun h => ?_) | refine Alt.mk (fun h => ?_) (fun h => ?_) | refine Pick.mk (fun h => ?_) (fun l1 x l2 h => ?_)) <;> (have hk := h) <;> (try simp only [nrm, reduceCtorEq, pair_eta, map_idL] at h) <;> (try dsimp only [etkSpec, Ty.T, Ty.dflt, KT.T, getM, putM, delM] at h) <;> (try simp only [natCast_eq] at h) <;> skip <;> (try first | rw [if_pos h] at hr | rw [if_neg h] at hr | rw [ifF h] at hr | rw [ifN h] at hr) <;> (try (have hb : (_ : Bool) = _ := h; clear h; subst hb; (try first | rw [if_pos rfl] at hr | rw [if_neg Bool.false_ne_true] at hr))) <;> first | (exfalso; omega) | exact absurd (h.symm.trans (by assumption) : true = false) Bool.noConfusion | exact absurd (h.symm.trans (by assumption) : false = true) Bool.noConfusion | (with_reducible refine (?_ : T1 _ ?_) ?_; rotate_left 1; (conv => lhs; cbv; (try cbv); (try cbv)); intro hT; clear hT; with_reducible refine Sh.mk (by kernel_rfl) ?_))
         | ((with_reducible refine End.mk ?_); skip)
         | with_reducible exact True.intro)
       all_goals first
         | (fail_if_success (with_reducible refine Exists.intro ?_ ?_)
            first
              | with_reducible rfl
              | with_reducible assumption
              | (symm; with_reducible assumption)
              | omega
              | ((try dsimp only [etkSpec, Ty.T, Ty.dflt, KT.T, getM, putM, delM, inI64, maxRow]); first | done | with_reducible rfl | with_reducible assumption | (symm; with_reducible assumption) | ((try simp only [natCast_eq, List.nil_append]); first | done | with_reducible rfl | omega | exact take_cg (by omega) | exact drop_cg (by omega) | exact take_drop_cg (by omega) (by omega) | exact take_all (by omega) | exact take_drop_all (by omega) (by omega) | exact drop_take_cg (by omega) (by omega) (by omega)))
              | ((try dsimp only [etkSpec, Ty.T, Ty.dflt, KT.T, getM, putM, delM, inI64, maxRow]); first | (simp only [nrm, reduceCtorEq, pair_eta, map_idL, natCast_eq, inI64, maxRow]; first | done | with_reducible assumption | omega) | exact map_pair_id _)
              | ((try dsimp only [etkSpec, Ty.T, Ty.dflt, KT.T, getM, putM, delM, inI64, maxRow] at *); first | ((try simp only [natCast_eq] at *) <;> omega) | ((try simp only [lens, natCast_eq] at *) <;> omega))
              | assumption
              | (symm; assumption)
              | (dsimp only; simp only [nrb, *]; done)
              | (simp; done)
              | (and_intros <;> first | trivial | with_reducible assumption | omega)
              | ((try dsimp only [etkSpec, Ty.T, Ty.dflt, KT.T, getM, putM, delM, inI64, maxRow] at *) <;> simp [*] <;> done))
         | skip)
  · (try (conv in (LoopInv.inv _ _) => dsimp only)); (try (conv in (SS.mk _ _) => cbv; (try dsimp only [etkSpec, Ty.T, Ty.dflt, KT.T]); (try simp only [natCast_eq])))
    (with_reducible refine (?_ : T1 _ ?_) ?_; rotate_left 1; (conv => lhs; cbv; (try cbv); (try cbv)); intro hT; clear hT; with_reducible refine Sh.mk (by kernel_rfl) ?_)
    repeat' (first
      | with_reducible (first | refine Ck.mk (C := tt) tt_intro ?_ | refine Ck.mk (show drawOk _ _ = true by kernel_rfl) ?_ | refine Ck.all_cons ?_ | refine Ck.all_nil ?_ | refine Ck.mk (by assumption) ?_ | refine Ck.mk (decide_eq_true (by assumption)) ?_ | refine Ck.mk (decide_eq_false (by assumption)) ?_ | refine Ck.mk ?_ ?_)
      | (with_reducible (first | refine Both.mk (fun h => ?_) (fun h => ?_) | refine Alt.mk (fun h => ?_) (fun h => ?_) | refine Pick.mk (fun h => ?_) (fun l1 x l2 h => ?_)) <;> (have hk := h) <;> (try simp only [nrm, reduceCtorEq, pair_eta, map_idL] at h) <;> (try dsimp only [etkSpec, Ty.T, Ty.dflt, KT.T, getM, putM, delM] at h) <;> (try simp only [natCast_eq] at h) <;> skip <;> (try first | rw [if_pos h] at hr | rw [if_neg h] at hr | rw [ifF h] at hr | rw [ifN h] at hr) <;> (try (have hb : (_ : Bool) = _ := h; clear h; subst hb; (try first | rw [if_pos rfl] at hr | rw [if_neg Bool.false_ne_true] at hr))) <;> first | (exfalso; omega) | exact absurd (h.symm.trans (by assumption) : true = false) Bool.noConfusion | exact absurd (h.symm.trans (by assumption) : false = true) Bool.noConfusion | (with_reducible refine (?_ : T1 _ ?_) ?_; rotate_left 1; (conv => lhs; cbv; (try cbv); (try cbv)); intro hT; clear hT; with_reducible refine Sh.mk (by kernel_rfl) ?_))
      | ((with_reducible refine End.mk ?_); skip)
      | with_reducible exact True.intro)
    all_goals first
      | (fail_if_success (with_reducible refine Exists.intro ?_ ?_)
         first
           | with_reducible rfl
           | with_reducible assumption
           | (symm; with_reducible assumption)
           | omega
           | ((try dsimp only [etkSpec, Ty.T, Ty.dflt, KT.T, getM, putM, delM, inI64, maxRow]); first | done | with_reducible rfl | with_reducible assumption | (symm; with_reducible assumption) | ((try simp only [natCast_eq, List.nil_append]); first | done | with_reducible rfl | omega | exact take_cg (by omega) | exact drop_cg (by omega) | exact take_drop_cg (by omega) (by omega) | exact take_all (by omega) | exact take_drop_all (by omega) (by omega) | exact drop_take_cg (by omega) (by omega) (by omega)))
           | ((try dsimp only [etkSpec, Ty.T, Ty.dflt, KT.T, getM, putM, delM, inI64, maxRow]); first | (simp only [nrm, reduceCtorEq, pair_eta, map_idL, natCast_eq, inI64, maxRow]; first | done | with_reducible assumption | omega) | exact map_pair_id _)
           | ((try dsimp only [etkSpec, Ty.T, Ty.dflt, KT.T, getM, putM, delM, inI64, maxRow] at *); first | ((try simp only [natCast_eq] at *) <;> omega) | ((try simp only [lens, natCast_eq] at *) <;> omega))
           | assumption
           | (symm; assumption)
           | (dsimp only; simp only [nrb, *]; done)
           | (simp; done)
           | (and_intros <;> first | trivial | with_reducible assumption | omega)
           | ((try dsimp only [etkSpec, Ty.T, Ty.dflt, KT.T, getM, putM, delM, inI64, maxRow] at *) <;> simp [*] <;> done))
      | skip
    all_goals
      (refine ⟨.c, Nat.lt_succ_self _, ?_⟩
       (try (conv in (LoopInv.inv _ _) => dsimp only)); (try (conv in (SS.mk _ _) => cbv; (try dsimp only [etkSpec, Ty.T, Ty.dflt, KT.T]); (try simp only [natCast_eq])))
       (with_reducible refine (?_ : T1 _ ?_) ?_; rotate_left 1; (conv => lhs; cbv; (try cbv); (try cbv)); intro hT; clear hT; with_reducible refine Sh.mk (by kernel_rfl) ?_)
       repeat' (first
         | with_reducible (first | refine Ck.mk (C := tt) tt_intro ?_ | refine Ck.mk (show drawOk _ _ = true by kernel_rfl) ?_ | refine Ck.all_cons ?_ | refine Ck.all_nil ?_ | refine Ck.mk (by assumption) ?_ | refine Ck.mk (decide_eq_true (by assumption)) ?_ | refine Ck.mk (decide_eq_false (by assumption)) ?_ | refine Ck.mk ?_ ?_)
         | (with_reducible (first | refine Both.mk (fun h => ?_) (fun h => ?_) | refine Alt.mk (fun h => ?_) (fun h => ?_) | refine Pick.mk (fun h => ?_) (fun l1 x l2 h => ?_)) <;> (have hk := h) <;> (try simp only [nrm, reduceCtorEq, pair_eta, map_idL] at h) <;> (try dsimp only [etkSpec, Ty.T, Ty.dflt, KT.T, getM, putM, delM] at h) <;> (try simp only [natCast_eq] at h) <;> skip <;> (try first | rw [if_pos h] at hr | rw [if_neg h] at hr | rw [ifF h] at hr | rw [ifN h] at hr) <;> (try (have hb : (_ : Bool) = _ := h; clear h; subst hb; (try first | rw [if_pos rfl] at hr | rw [if_neg Bool.false_ne_true] at hr))) <;> first | (exfalso; omega) | exact absurd (h.symm.trans (by assumption) : true = false) Bool.noConfusion | exact absurd (h.symm.trans (by assumption) : false = true) Bool.noConfusion | (with_reducible refine (?_ : T1 _ ?_) ?_; rotate_left 1; (conv => lhs; cbv; (try cbv); (try cbv)); intro hT; clear hT; with_reducible refine Sh.mk (by kernel_rfl) ?_))
         | ((with_reducible refine End.mk ?_); skip)
         | with_reducible exact True.intro)
       all_goals first
         | (fail_if_success (with_reducible refine Exists.intro ?_ ?_)
            first
              | with_reducible rfl
              | with_reducible assumption
              | (symm; with_reducible assumption)
              | omega
              | ((try dsimp only [etkSpec, Ty.T, Ty.dflt, KT.T, getM, putM, delM, inI64, maxRow]); first | done | with_reducible rfl | with_reducible assumption | (symm; with_reducible assumption) | ((try simp only [natCast_eq, List.nil_append]); first | done | with_reducible rfl | omega | exact take_cg (by omega) | exact drop_cg (by omega) | exact take_drop_cg (by omega) (by omega) | exact take_all (by omega) | exact take_drop_all (by omega) (by omega) | exact drop_take_cg (by omega) (by omega) (by omega)))
              | ((try dsimp only [etkSpec, Ty.T, Ty.dflt, KT.T, getM, putM, delM, inI64, maxRow]); first | (simp only [nrm, reduceCtorEq, pair_eta, map_idL, natCast_eq, inI64, maxRow]; first | done | with_reducible assumption | omega) | exact map_pair_id _)
              | ((try dsimp only [etkSpec, Ty.T, Ty.dflt, KT.T, getM, putM, delM, inI64, maxRow] at *); first | ((try simp only [natCast_eq] at *) <;> omega) | ((try simp only [lens, natCast_eq] at *) <;> omega))
              | assumption
              | (symm; assumption)
              | (dsimp only; simp only [nrb, *]; done)
              | (simp; done)
              | (and_intros <;> first | trivial | with_reducible assumption | omega)
              | ((try dsimp only [etkSpec, Ty.T, Ty.dflt, KT.T, getM, putM, delM, inI64, maxRow] at *) <;> simp [*] <;> done))
         | skip)
  · (try (conv in (LoopInv.inv _ _) => dsimp only)); (try (conv in (SS.mk _ _) => cbv; (try dsimp only [etkSpec, Ty.T, Ty.dflt, KT.T]); (try simp only [natCast_eq])))
    (with_reducible refine (?_ : T1 _ ?_) ?_; rotate_left 1; (conv => lhs; cbv; (try cbv); (try cbv)); intro hT; clear hT; with_reducible refine Sh.mk (by kernel_rfl) ?_)
    repeat' (first
      | with_reducible (first | refine Ck.mk (C := tt) tt_intro ?_ | refine Ck.mk (show drawOk _ _ = true by kernel_rfl) ?_ | refine Ck.all_cons ?_ | refine Ck.all_nil ?_ | refine Ck.mk (by assumption) ?_ | refine Ck.mk (decide_eq_true (by assumption)) ?_ | refine Ck.mk (decide_eq_false (by assumption)) ?_ | refine Ck.mk ?_ ?_)
      | (with_reducible (first | refine Both.mk (fun h => ?_) (fun h => ?_) | refine Alt.mk (fun h => ?_) (fun h => ?_) | refine Pick.mk (fun h => ?_) (fun l1 x l2 h => ?_)) <;> (have hk := h) <;> (try simp only [nrm, reduceCtorEq, pair_eta, map_idL] at h) <;> (try dsimp only [etkSpec, Ty.T, Ty.dflt, KT.T, getM, putM, delM] at h) <;> (try simp only [natCast_eq] at h) <;> skip <;> (try first | rw [if_pos h] at hr | rw [if_neg h] at hr | rw [ifF h] at hr | rw [ifN h] at hr) <;> (try (have hb : (_ : Bool) = _ := h; clear h; subst hb; (try first | rw [if_pos rfl] at hr | rw [if_neg Bool.false_ne_true] at hr))) <;> first | (exfalso; omega) | exact absurd (h.symm.trans (by assumption) : true = false) Bool.noConfusion | exact absurd (h.symm.trans (by assumption) : false = true) Bool.noConfusion | (with_reducible refine (?_ : T1 _ ?_) ?_; rotate_left 1; (conv => lhs; cbv; (try cbv); (try cbv)); intro hT; clear hT; with_reducible refine Sh.mk (by kernel_rfl) ?_))
      | ((with_reducible refine End.mk ?_); skip)
      | with_reducible exact True.intro)
    all_goals first
      | (fail_if_success (with_reducible refine Exists.intro ?_ ?_)
         first
           | with_reducible rfl
           | with_reducible assumption
           | (symm; with_reducible assumption)
           | omega
           | ((try dsimp only [etkSpec, Ty.T, Ty.dflt, KT.T, getM, putM, delM, inI64, maxRow]); first | done | with_reducible rfl | with_reducible assumption | (symm; with_reducible assumption) | ((try simp only [natCast_eq, List.nil_append]); first | done | with_reducible rfl | omega | exact take_cg (by omega) | exact drop_cg (by omega) | exact take_drop_cg (by omega) (by omega) | exact take_all (by omega) | exact take_drop_all (by omega) (by omega) | exact drop_take_cg (by omega) (by omega) (by omega)))
           | ((try dsimp only [etkSpec, Ty.T, Ty.dflt, KT.T, getM, putM, delM, inI64, maxRow]); first | (simp only [nrm, reduceCtorEq, pair_eta, map_idL, natCast_eq, inI64, maxRow]; first | done | with_reducible assumption | omega) | exact map_pair_id _)
           | ((try dsimp only [etkSpec, Ty.T, Ty.dflt, KT.T, getM, putM, delM, inI64, maxRow] at *); first | ((try simp only [natCast_eq] at *) <;> omega) | ((try simp only [lens, natCast_eq] at *) <;> omega))
           | assumption
           | (symm; assumption)
           | (dsimp only; simp only [nrb, *]; done)
           | (simp; done)
           | (and_intros <;> first | trivial | with_reducible assumption | omega)
           | ((try dsimp only [etkSpec, Ty.T, Ty.dflt, KT.T, getM, putM, delM, inI64, maxRow] at *) <;> simp [*] <;> done))
      | skip
theorem ptick_sound : ConSound Try.prog AI 13 ptickSpec.con := StepM.sound eptOk mixed (fn := Try.f13) (c := bodyOf Try.f13) Try.call13 (by kernel_rfl) (by kernel_rfl) (by kernel_rfl) fun S x h => ptick_ok S x.1 h
end Go.Proofs.Ytldabjgegpmmiaa
