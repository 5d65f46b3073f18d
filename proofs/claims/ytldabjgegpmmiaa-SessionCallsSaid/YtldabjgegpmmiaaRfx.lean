/-
  Layer 47: the reference's end: Connect, Close, Write, Report (contracts at its cells).
-/
import Derived.Test.YtldabjgegpmmiaaSes
import Derived.Test.YtldabjgegpmmiaaRef
import Derived.Test.YtldabjgegpmmiaaRft
import Derived.Test.YtldabjgegpmmiaaEng3
namespace Go.Proofs.Ytldabjgegpmmiaa
set_option linter.all false
set_option linter.unusedVariables false
set_option linter.unusedSimpArgs false
set_option linter.unusedSectionVars false
open Go.RowKit Go.Sx
set_option maxRecDepth 100000
set_option maxHeartbeats 16000000
structure RE where
  mine : Int
  peer : Int
  st : Int
  tmo : Int
  w : RW
  s : TS
  owed : Bool
  ended : Bool
  sil : Int
def reC (x : U RE) : List (Chunk Ab) := [.cells 75 [.int .i64 (fun _ => (x ()).mine), .int .i64 (fun _ => (x ()).peer), .int .i64 (fun _ => (x ()).st), .int .i64 (fun _ => (x ()).tmo),
  .int .i64 (fun _ => (x ()).w.win), .int .i64 (fun _ => (x ()).w.tmo), .int .i64 (fun _ => (x ()).w.base), .int .i64 (fun _ => (x ()).w.next), .int .i64 (fun _ => (x ()).w.top), .int .i64 (fun _ => (x ()).w.room), .int .i64 (fun _ => (x ()).w.idle), .ro (.int .u8) (fun _ => (x ()).w.data), .sb (fun _ => (x ()).w.closed), .sb (fun _ => (x ()).w.sent), .sb (fun _ => (x ()).w.ever), .sb (fun _ => (x ()).w.fin),
  .int .i64 (fun _ => (x ()).s.1), .int .i64 (fun _ => (x ()).s.2.1), .int .i64 (fun _ => (x ()).s.2.2.1), .ro (.pair (.int .i64) (.int .u8)) (fun _ => (x ()).s.2.2.2), .sb (fun _ => (x ()).owed), .sb (fun _ => (x ()).ended), .int .i64 (fun _ => (x ()).sil)]]
def unR : List (Chunk Ab) → Option (U RE)
  | [.cells 75 [.int .i64 a, .int .i64 b, .int .i64 c, .int .i64 d, .int .i64 e, .int .i64 f, .int .i64 g, .int .i64 h, .int .i64 i, .int .i64 j, .int .i64 k, .ro (.int .u8) l, .sb m, .sb n, .sb o, .sb p, .int .i64 q, .int .i64 r, .int .i64 s, .ro (.pair (.int .i64) (.int .u8)) t, .sb u, .sb v, .int .i64 w]] =>
    some (fun _ => ⟨a (), b (), c (), d (), ⟨e (), f (), g (), h (), i (), j (), k (), l (), m (), n (), o (), p ()⟩, (q (), r (), s (), t ()), u (), v (), w ()⟩)
  | _ => none
theorem unR_eq (cs : List (Chunk Ab)) (W : U RE) (h : unR cs = some W) : cs = reC (fun _ => W ()) := by
  unfold unR at h
  split at h <;> cases h
  rfl
def reL : ParL Ab RE := ⟨1, 1, unR, reC, by decide, unR_eq⟩
def rconF (R : RE) : I1 × RE := if R.st = 0 then ((0, ()), { R with st := 1, sil := R.tmo }) else ((6, ()), R)
def rconSpec : StepM Ab RE := ⟨reL, [], fun S (x : Unit) => True, [.cell (.int .i64)], fun S (x : Unit) => (rconF S ).1, fun S (x : Unit) => (rconF S ).2⟩
theorem rcon_ok (S : RE)  (h : rconSpec.pre S (())) : ∃ args : List SV, args.length + 1 ≤ Try.f31.ntmps ∧ args.all (belV (reL).k) = true ∧ (∀ (ρ : Ev) us, All2 (Den ρ) (argS [] (fun _ => (()))) us → All2 (Den ρ) args us) ∧ (svc E0 (reL).k (bodyOf Try.f31) ⟨argT 0 (Sx.one (.ptr 0 0) :: args), (reL).opn (fun _ => S)⟩ (finP E0.ti (reL).k Try.f31.results.toList (resOf (svs rconSpec.rs (fun _ => rconSpec.f S (())))) ((reL).opn (fun _ => rconSpec.next S (())))) ∨ svc E0 (reL).k (bodyOf Try.f31) ⟨argT 0 (Sx.one (.ptr 0 0) :: args), (reL).opn (fun _ => S)⟩ (finR E0.ti (reL).k Try.f31.results.toList (resOf (svs rconSpec.rs (fun _ => rconSpec.f S (())))) ((reL).opn (fun _ => rconSpec.next S (()))))) := by
  dsimp only [rconSpec, reL] at h ⊢
  refine ⟨argS [] (fun _ => (())), Nat.le_of_ble_eq_true (by kernel_rfl), rfl, (fun ρ us hd => hd), .inl ?_⟩
  generalize hr : rconF S  = r
  dsimp only [rconF] at hr
  (try (conv in (LoopInv.inv _ _) => dsimp only)); (try (conv in (SS.mk _ _) => cbv; (try dsimp only [Ty.T, Ty.dflt, KT.T]); (try simp only [natCast_eq])))
  (with_reducible refine (?_ : T1 _ ?_) ?_; rotate_left 1; (conv => lhs; cbv; (try cbv); (try cbv)); intro hT; clear hT; with_reducible refine Sh.mk (by kernel_rfl) ?_)
  repeat' (first
    | with_reducible (first | refine Ck.mk (C := tt) tt_intro ?_ | refine Ck.mk (show drawOk _ _ = true by kernel_rfl) ?_ | refine Ck.all_cons ?_ | refine Ck.all_nil ?_ | refine Ck.mk (by assumption) ?_ | refine Ck.mk (decide_eq_true (by assumption)) ?_ | refine Ck.mk (decide_eq_false (by assumption)) ?_ | refine Ck.mk ?_ ?_)
    | (with_reducible (first | refine Both.mk (fun h => ?_) (fun h => ?_) | refine Alt.mk (fun h => ?_) (fun h => ?_) | refine Pick.mk (fun h => ?_) (fun l1 x l2 h => ?_)) <;> (have hk := h) <;> (try simp only [nrm, reduceCtorEq, pair_eta, map_idL] at h) <;> (try dsimp only [Ty.T, Ty.dflt, KT.T, getM, putM, delM] at h) <;> (try simp only [natCast_eq] at h) <;> skip <;> (try first | rw [if_pos h] at hr | rw [if_neg h] at hr | rw [ifF h] at hr | rw [ifN h] at hr) <;> (try (have hb : (_ : Bool) = _ := h; clear h; subst hb; (try first | rw [if_pos rfl] at hr | rw [if_neg Bool.false_ne_true] at hr))) <;> first | (exfalso; omega) | exact absurd (h.symm.trans (by assumption) : true = false) Bool.noConfusion | exact absurd (h.symm.trans (by assumption) : false = true) Bool.noConfusion | (with_reducible refine (?_ : T1 _ ?_) ?_; rotate_left 1; (conv => lhs; cbv; (try cbv); (try cbv)); intro hT; clear hT; with_reducible refine Sh.mk (by kernel_rfl) ?_))
    | ((with_reducible refine End.mk ?_); (try ((repeat (first | rw [if_pos (by first | assumption | omega)] at hr | rw [if_neg (by first | assumption | omega | (simp only [Bool.false_eq_true, Bool.true_eq_false, reduceCtorEq, not_false_eq_true]; done) | (simp only [Bool.not_eq_true]; assumption) | (simp only [Bool.not_eq_false]; assumption))] at hr | rw [if_pos rfl] at hr)); subst hr)))
    | with_reducible exact True.intro)
  all_goals first
    | (fail_if_success (with_reducible refine Exists.intro ?_ ?_)
       first
         | with_reducible rfl
         | with_reducible assumption
         | (symm; with_reducible assumption)
         | omega
         | ((try dsimp only [Ty.T, Ty.dflt, KT.T, getM, putM, delM, inI64, maxRow]); first | done | with_reducible rfl | with_reducible assumption | (symm; with_reducible assumption) | ((try simp only [natCast_eq, List.nil_append]); first | done | with_reducible rfl | omega | exact take_cg (by omega) | exact drop_cg (by omega) | exact take_drop_cg (by omega) (by omega) | exact take_all (by omega) | exact take_drop_all (by omega) (by omega) | exact drop_take_cg (by omega) (by omega) (by omega)))
         | ((try dsimp only [Ty.T, Ty.dflt, KT.T, getM, putM, delM, inI64, maxRow]); first | (simp only [nrm, reduceCtorEq, pair_eta, map_idL, natCast_eq, inI64, maxRow]; first | done | with_reducible assumption | omega) | exact map_pair_id _)
         | ((try dsimp only [Ty.T, Ty.dflt, KT.T, getM, putM, delM, inI64, maxRow] at *); first | ((try simp only [natCast_eq] at *) <;> omega) | ((try simp only [lens, natCast_eq] at *) <;> omega))
         | assumption
         | (symm; assumption)
         | (dsimp only; simp only [nrb, *]; done)
         | (simp; done)
         | (and_intros <;> first | trivial | with_reducible assumption | omega)
         | ((try dsimp only [Ty.T, Ty.dflt, KT.T, getM, putM, delM, inI64, maxRow] at *) <;> simp [*] <;> done))
    | skip
theorem rcon_sound : ConSound Try.prog AI 31 rconSpec.con := StepM.sound e0Ok mixed (fn := Try.f31) (c := bodyOf Try.f31) Try.call31 (by kernel_rfl) (by kernel_rfl) (by kernel_rfl) fun S x h => rcon_ok S  h
def rcloF (R : RE) : I1 × RE := if R.st = 3 then ((14, ()), R) else if R.w.closed = true then ((13, ()), R) else ((0, ()), { R with w := { R.w with closed := true } })
def rcloSpec : StepM Ab RE := ⟨reL, [], fun S (x : Unit) => True, [.cell (.int .i64)], fun S (x : Unit) => (rcloF S ).1, fun S (x : Unit) => (rcloF S ).2⟩
theorem rclo_ok (S : RE)  (h : rcloSpec.pre S (())) : ∃ args : List SV, args.length + 1 ≤ Try.f33.ntmps ∧ args.all (belV (reL).k) = true ∧ (∀ (ρ : Ev) us, All2 (Den ρ) (argS [] (fun _ => (()))) us → All2 (Den ρ) args us) ∧ (svc E0 (reL).k (bodyOf Try.f33) ⟨argT 0 (Sx.one (.ptr 0 0) :: args), (reL).opn (fun _ => S)⟩ (finP E0.ti (reL).k Try.f33.results.toList (resOf (svs rcloSpec.rs (fun _ => rcloSpec.f S (())))) ((reL).opn (fun _ => rcloSpec.next S (())))) ∨ svc E0 (reL).k (bodyOf Try.f33) ⟨argT 0 (Sx.one (.ptr 0 0) :: args), (reL).opn (fun _ => S)⟩ (finR E0.ti (reL).k Try.f33.results.toList (resOf (svs rcloSpec.rs (fun _ => rcloSpec.f S (())))) ((reL).opn (fun _ => rcloSpec.next S (()))))) := by
  dsimp only [rcloSpec, reL] at h ⊢
  refine ⟨argS [] (fun _ => (())), Nat.le_of_ble_eq_true (by kernel_rfl), rfl, (fun ρ us hd => hd), .inl ?_⟩
  generalize hr : rcloF S  = r
  dsimp only [rcloF] at hr
  (try (conv in (LoopInv.inv _ _) => dsimp only)); (try (conv in (SS.mk _ _) => cbv; (try dsimp only [Ty.T, Ty.dflt, KT.T]); (try simp only [natCast_eq])))
  (with_reducible refine (?_ : T1 _ ?_) ?_; rotate_left 1; (conv => lhs; cbv; (try cbv); (try cbv)); intro hT; clear hT; with_reducible refine Sh.mk (by kernel_rfl) ?_)
  repeat' (first
    | with_reducible (first | refine Ck.mk (C := tt) tt_intro ?_ | refine Ck.mk (show drawOk _ _ = true by kernel_rfl) ?_ | refine Ck.all_cons ?_ | refine Ck.all_nil ?_ | refine Ck.mk (by assumption) ?_ | refine Ck.mk (decide_eq_true (by assumption)) ?_ | refine Ck.mk (decide_eq_false (by assumption)) ?_ | refine Ck.mk ?_ ?_)
    | (with_reducible (first | refine Both.mk (fun h => ?_) (fun h => ?_) | refine Alt.mk (fun h => ?_) (fun h => ?_) | refine Pick.mk (fun h => ?_) (fun l1 x l2 h => ?_)) <;> (have hk := h) <;> (try simp only [nrm, reduceCtorEq, pair_eta, map_idL] at h) <;> (try dsimp only [Ty.T, Ty.dflt, KT.T, getM, putM, delM] at h) <;> (try simp only [natCast_eq] at h) <;> skip <;> (try first | rw [if_pos h] at hr | rw [if_neg h] at hr | rw [ifF h] at hr | rw [ifN h] at hr) <;> (try (have hb : (_ : Bool) = _ := h; clear h; subst hb; (try first | rw [if_pos rfl] at hr | rw [if_neg Bool.false_ne_true] at hr))) <;> first | (exfalso; omega) | exact absurd (h.symm.trans (by assumption) : true = false) Bool.noConfusion | exact absurd (h.symm.trans (by assumption) : false = true) Bool.noConfusion | (with_reducible refine (?_ : T1 _ ?_) ?_; rotate_left 1; (conv => lhs; cbv; (try cbv); (try cbv)); intro hT; clear hT; with_reducible refine Sh.mk (by kernel_rfl) ?_))
    | ((with_reducible refine End.mk ?_); (try ((repeat (first | rw [if_pos (by first | assumption | omega)] at hr | rw [if_neg (by first | assumption | omega | (simp only [Bool.false_eq_true, Bool.true_eq_false, reduceCtorEq, not_false_eq_true]; done) | (simp only [Bool.not_eq_true]; assumption) | (simp only [Bool.not_eq_false]; assumption))] at hr | rw [if_pos rfl] at hr)); subst hr)))
    | with_reducible exact True.intro)
  all_goals first
    | (fail_if_success (with_reducible refine Exists.intro ?_ ?_)
       first
         | with_reducible rfl
         | with_reducible assumption
         | (symm; with_reducible assumption)
         | omega
         | ((try dsimp only [Ty.T, Ty.dflt, KT.T, getM, putM, delM, inI64, maxRow]); first | done | with_reducible rfl | with_reducible assumption | (symm; with_reducible assumption) | ((try simp only [natCast_eq, List.nil_append]); first | done | with_reducible rfl | omega | exact take_cg (by omega) | exact drop_cg (by omega) | exact take_drop_cg (by omega) (by omega) | exact take_all (by omega) | exact take_drop_all (by omega) (by omega) | exact drop_take_cg (by omega) (by omega) (by omega)))
         | ((try dsimp only [Ty.T, Ty.dflt, KT.T, getM, putM, delM, inI64, maxRow]); first | (simp only [nrm, reduceCtorEq, pair_eta, map_idL, natCast_eq, inI64, maxRow]; first | done | with_reducible assumption | omega) | exact map_pair_id _)
         | ((try dsimp only [Ty.T, Ty.dflt, KT.T, getM, putM, delM, inI64, maxRow] at *); first | ((try simp only [natCast_eq] at *) <;> omega) | ((try simp only [lens, natCast_eq] at *) <;> omega))
         | assumption
         | (symm; assumption)
         | (dsimp only; simp only [nrb, *]; done)
         | (simp; done)
         | (and_intros <;> first | trivial | with_reducible assumption | omega)
         | ((try dsimp only [Ty.T, Ty.dflt, KT.T, getM, putM, delM, inI64, maxRow] at *) <;> simp [*] <;> done))
    | skip
theorem rclo_sound : ConSound Try.prog AI 33 rcloSpec.con := StepM.sound e0Ok mixed (fn := Try.f33) (c := bodyOf Try.f33) Try.call33 (by kernel_rfl) (by kernel_rfl) (by kernel_rfl) fun S x h => rclo_ok S  h
noncomputable abbrev Erw : Env Ab := ⟨tis, [(58, rwriteSpec.con)] ++ E0.con⟩
theorem erwOk : EnvOk Try.prog AI Erw := (e0Ok.add rwrite_sound)
def rwrF (R : RE) (l : List Int) : II × RE := if R.st = 3 then ((0, 14, ()), R) else (((refWrite R.w l).2.1, (refWrite R.w l).2.2, ()), { R with w := (refWrite R.w l).1 })
def rwrSpec : StepM Ab RE := ⟨reL, [.lst (.int .u8)], fun S (x : (List Int) × Unit) => OkM S.w ∧ x.1.length ≤ 1000000, [.cell (.int .i64), .cell (.int .i64)], fun S (x : (List Int) × Unit) => (rwrF S x.1).1, fun S (x : (List Int) × Unit) => (rwrF S x.1).2⟩
theorem rwr_ok (S : RE) (l : List Int) (h : rwrSpec.pre S (l, ())) : ∃ args : List SV, args.length + 1 ≤ Try.f32.ntmps ∧ args.all (belV (reL).k) = true ∧ (∀ (ρ : Ev) us, All2 (Den ρ) (argS [.lst (.int .u8)] (fun _ => (l, ()))) us → All2 (Den ρ) args us) ∧ (svc Erw (reL).k (bodyOf Try.f32) ⟨argT 0 (Sx.one (.ptr 0 0) :: args), (reL).opn (fun _ => S)⟩ (finP Erw.ti (reL).k Try.f32.results.toList (resOf (svs rwrSpec.rs (fun _ => rwrSpec.f S (l, ())))) ((reL).opn (fun _ => rwrSpec.next S (l, ())))) ∨ svc Erw (reL).k (bodyOf Try.f32) ⟨argT 0 (Sx.one (.ptr 0 0) :: args), (reL).opn (fun _ => S)⟩ (finR Erw.ti (reL).k Try.f32.results.toList (resOf (svs rwrSpec.rs (fun _ => rwrSpec.f S (l, ())))) ((reL).opn (fun _ => rwrSpec.next S (l, ()))))) := by
  dsimp only [rwrSpec, reL] at h ⊢
  refine ⟨argS [.lst (.int .u8)] (fun _ => (l, ())), Nat.le_of_ble_eq_true (by kernel_rfl), rfl, (fun ρ us hd => hd), .inl ?_⟩
  generalize hr : rwrF S l = r
  dsimp only [rwrF] at hr
  (try (conv in (LoopInv.inv _ _) => dsimp only)); (try (conv in (SS.mk _ _) => cbv; (try dsimp only [rwriteSpec, rwriteF, RW.t, RW.of, Ty.T, Ty.dflt, KT.T]); (try simp only [natCast_eq])))
  (with_reducible refine (?_ : T1 _ ?_) ?_; rotate_left 1; (conv => lhs; cbv; (try cbv); (try cbv)); intro hT; clear hT; with_reducible refine Sh.mk (by kernel_rfl) ?_)
  repeat' (first
    | with_reducible (first | refine Ck.mk (C := tt) tt_intro ?_ | refine Ck.mk (show drawOk _ _ = true by kernel_rfl) ?_ | refine Ck.all_cons ?_ | refine Ck.all_nil ?_ | refine Ck.mk (by assumption) ?_ | refine Ck.mk (decide_eq_true (by assumption)) ?_ | refine Ck.mk (decide_eq_false (by assumption)) ?_ | refine Ck.mk ?_ ?_)
    | (with_reducible (first | refine Both.mk (fun h => ?_) (fun h => ?_) | refine Alt.mk (fun h => ?_) (fun h => ?_) | refine Pick.mk (fun h => ?_) (fun l1 x l2 h => ?_)) <;> (have hk := h) <;> (try simp only [nrm, reduceCtorEq, pair_eta, map_idL] at h) <;> (try dsimp only [rwriteSpec, rwriteF, RW.t, RW.of, Ty.T, Ty.dflt, KT.T, getM, putM, delM] at h) <;> (try simp only [natCast_eq] at h) <;> skip <;> (try first | rw [if_pos h] at hr | rw [if_neg h] at hr | rw [ifF h] at hr | rw [ifN h] at hr) <;> (try (have hb : (_ : Bool) = _ := h; clear h; subst hb; (try first | rw [if_pos rfl] at hr | rw [if_neg Bool.false_ne_true] at hr))) <;> first | (exfalso; omega) | exact absurd (h.symm.trans (by assumption) : true = false) Bool.noConfusion | exact absurd (h.symm.trans (by assumption) : false = true) Bool.noConfusion | (with_reducible refine (?_ : T1 _ ?_) ?_; rotate_left 1; (conv => lhs; cbv; (try cbv); (try cbv)); intro hT; clear hT; with_reducible refine Sh.mk (by kernel_rfl) ?_))
    | ((with_reducible refine End.mk ?_); (try ((repeat (first | rw [if_pos (by first | assumption | omega)] at hr | rw [if_neg (by first | assumption | omega | (simp only [Bool.false_eq_true, Bool.true_eq_false, reduceCtorEq, not_false_eq_true]; done) | (simp only [Bool.not_eq_true]; assumption) | (simp only [Bool.not_eq_false]; assumption))] at hr | rw [if_pos rfl] at hr)); subst hr)))
    | with_reducible exact True.intro)
  all_goals first
    | (fail_if_success (with_reducible refine Exists.intro ?_ ?_)
       first
         | with_reducible rfl
         | with_reducible assumption
         | (symm; with_reducible assumption)
         | omega
         | ((try dsimp only [rwriteSpec, rwriteF, RW.t, RW.of, Ty.T, Ty.dflt, KT.T, getM, putM, delM, inI64, maxRow]); first | done | with_reducible rfl | with_reducible assumption | (symm; with_reducible assumption) | ((try simp only [natCast_eq, List.nil_append]); first | done | with_reducible rfl | omega | exact take_cg (by omega) | exact drop_cg (by omega) | exact take_drop_cg (by omega) (by omega) | exact take_all (by omega) | exact take_drop_all (by omega) (by omega) | exact drop_take_cg (by omega) (by omega) (by omega)))
         | ((try dsimp only [rwriteSpec, rwriteF, RW.t, RW.of, Ty.T, Ty.dflt, KT.T, getM, putM, delM, inI64, maxRow]); first | (simp only [nrm, reduceCtorEq, pair_eta, map_idL, natCast_eq, inI64, maxRow]; first | done | with_reducible assumption | omega) | exact map_pair_id _)
         | ((try dsimp only [rwriteSpec, rwriteF, RW.t, RW.of, Ty.T, Ty.dflt, KT.T, getM, putM, delM, inI64, maxRow] at *); first | ((try simp only [natCast_eq] at *) <;> omega) | ((try simp only [lens, natCast_eq] at *) <;> omega))
         | assumption
         | (symm; assumption)
         | (dsimp only; simp only [nrb, *]; done)
         | (simp; done)
         | (and_intros <;> first | trivial | with_reducible assumption | omega)
         | ((try dsimp only [rwriteSpec, rwriteF, RW.t, RW.of, Ty.T, Ty.dflt, KT.T, getM, putM, delM, inI64, maxRow] at *) <;> simp [*] <;> done))
    | skip
theorem rwr_sound : ConSound Try.prog AI 32 rwrSpec.con := StepM.sound erwOk mixed (fn := Try.f32) (c := bodyOf Try.f32) Try.call32 (by kernel_rfl) (by kernel_rfl) (by kernel_rfl) fun S x h => rwr_ok S x.1 h
end Go.Proofs.Ytldabjgegpmmiaa
