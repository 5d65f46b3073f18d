/-
  Layer 44: the world's act, at a world that lies open (for two worlds).
-/
import Derived.Test.YtebhcmgfhkjmcaaWld
import Derived.Test.YtebhcmgfhkjmcaaEng3
namespace Go.Proofs.Ytebhcmgfhkjmcaa
set_option linter.all false
set_option linter.unusedVariables false
set_option linter.unusedSimpArgs false
set_option linter.unusedSectionVars false
open Go.RowKit Go.Sx
set_option maxRecDepth 100000
set_option maxHeartbeats 16000000
def wlC (x : U WS) : List (Chunk Ab) := [.cells 78 [.ptr 1 0, .ptr 2 0, .hd 3 0, .hd 4 0, .hd 5 0, .hd 6 0, .hd 7 0, .sb (fun _ => (x ()).fin)],
  .abs (.wri (fun _ => (x ()).w)), .abs (.rdr (fun _ => (x ()).r)), .row 5 (.int .u8) 0 (fun _ => (x ()).data), .row 5 (.int .u8) 0 (fun _ => (x ()).read), .row 39 segE' 0 (fun _ => (x ()).segs), .row 80 ackE 0 (fun _ => (x ()).acks), .row 4 .bool 0 (fun _ => (x ()).done)]
def unX : List (Chunk Ab) → Option (U WS)
  | [.cells 78 [.ptr 1 0, .ptr 2 0, .hd 3 0, .hd 4 0, .hd 5 0, .hd 6 0, .hd 7 0, .sb f], .abs (.wri W), .abs (.rdr R), .row 5 (.int .u8) 0 D, .row 5 (.int .u8) 0 B, .row 39 (.pair (.int .i64) (.pair .bytes .bool)) 0 S, .row 80 (.pair (.int .i64) (.int .i64)) 0 K, .row 4 .bool 0 N] =>
    some (fun _ => ⟨W (), R (), D (), B (), S (), K (), N (), f ()⟩)
  | _ => none
theorem unX_eq (cs : List (Chunk Ab)) (W : U WS) (h : unX cs = some W) : cs = wlC (fun _ => W ()) := by
  unfold unX at h
  split at h <;> cases h
  rfl
def wlL : ParL Ab WS := ⟨3, 8, unX, wlC, by decide, unX_eq⟩
abbrev toT (p : Bool × WS) : Tup [DT.cell .bool] × WS := ((p.1, ()), p.2)
def actT (x : WS) (a : Int) : Tup [DT.cell .bool] × WS := toT (actF x a)
def actmSpec : StepM Ab WS := ⟨wlL, [.cell (.int .u16)], fun S (x : Int × Unit) => PreX S ∧ 0 ≤ x.1 ∧ x.1 < 65536, [.cell .bool], fun S (x : Int × Unit) => (actT S x.1).1, fun S (x : Int × Unit) => (actT S x.1).2⟩
theorem actm_ok (S : WS) (a : Int) (h : actmSpec.pre S (a, ())) : ∃ args : List SV, args.length + 1 ≤ Try.f33.ntmps ∧ args.all (belV (wlL).k) = true ∧ (∀ (ρ : Ev) us, All2 (Den ρ) (argS [.cell (.int .u16)] (fun _ => (a, ()))) us → All2 (Den ρ) args us) ∧ (svc E9 (wlL).k (bodyOf Try.f33) ⟨argT 0 (Sx.one (.ptr 0 0) :: args), (wlL).opn (fun _ => S)⟩ (finP E9.ti (wlL).k Try.f33.results.toList (resOf (svs actmSpec.rs (fun _ => actmSpec.f S (a, ())))) ((wlL).opn (fun _ => actmSpec.next S (a, ())))) ∨ svc E9 (wlL).k (bodyOf Try.f33) ⟨argT 0 (Sx.one (.ptr 0 0) :: args), (wlL).opn (fun _ => S)⟩ (finR E9.ti (wlL).k Try.f33.results.toList (resOf (svs actmSpec.rs (fun _ => actmSpec.f S (a, ())))) ((wlL).opn (fun _ => actmSpec.next S (a, ()))))) := by
  dsimp only [actmSpec, wlL] at h ⊢
  obtain ⟨⟨p1, p2, p3, p4, p5, p6, p7, p8, p9⟩, p10, p11⟩ := h
  refine ⟨argS [.cell (.int .u16)] (fun _ => (a, ())), Nat.le_of_ble_eq_true (by kernel_rfl), rfl, (fun ρ us hd => hd), .inl ?_⟩
  generalize hr : actT S a = r
  dsimp only [actT, actF, act0, act1, act3, act5, act6, act7, segAt, ackAt, dnAt, actB, II, I1, IIB, IL, TickR, DT.T, Ty.T, Ty.dflt, KT.T] at hr
  (try (conv in (LoopInv.inv _ _) => dsimp only)); (try (conv in (SS.mk _ _) => cbv; (try dsimp only [writeSpec, tickSpec, ackSpec, rcvSpec, rrdSpec, rackSpec, toT, Ty.T, Ty.dflt, KT.T]); (try simp only [natCast_eq])))
  (with_reducible refine (?_ : T1 _ ?_) ?_; rotate_left 1; (conv => lhs; cbv; (try cbv); (try cbv)); intro hT; clear hT; with_reducible refine Sh.mk (by kernel_rfl) ?_)
  repeat' (first
    | with_reducible (first | refine Ck.mk (C := tt) tt_intro ?_ | refine Ck.mk (show drawOk _ _ = true by kernel_rfl) ?_ | refine Ck.all_cons ?_ | refine Ck.all_nil ?_ | refine Ck.mk (by assumption) ?_ | refine Ck.mk (decide_eq_true (by assumption)) ?_ | refine Ck.mk (decide_eq_false (by assumption)) ?_ | refine Ck.mk ?_ ?_)
    | (with_reducible (first | refine Both.mk (fun h => ?_) (fun h => ?_) | refine Alt.mk (fun h => ?_) (fun h => ?_) | refine Pick.mk (fun h => ?_) (fun l1 x l2 h => ?_)) <;> (have hk := h) <;> (try simp only [nrm, reduceCtorEq, pair_eta, map_idL] at h) <;> (try dsimp only [writeSpec, tickSpec, ackSpec, rcvSpec, rrdSpec, rackSpec, toT, Ty.T, Ty.dflt, KT.T, getM, putM, delM] at h) <;> (try simp only [natCast_eq] at h) <;> skip <;> (try first | rw [if_pos h] at hr | rw [if_neg h] at hr | rw [ifF h] at hr | rw [ifN h] at hr) <;> (try (have hb : (_ : Bool) = _ := h; clear h; subst hb; (try first | rw [if_pos rfl] at hr | rw [if_neg Bool.false_ne_true] at hr))) <;> first | (exfalso; omega) | exact absurd (h.symm.trans (by assumption) : true = false) Bool.noConfusion | exact absurd (h.symm.trans (by assumption) : false = true) Bool.noConfusion | (with_reducible refine (?_ : T1 _ ?_) ?_; rotate_left 1; (conv => lhs; cbv; (try cbv); (try cbv)); intro hT; clear hT; with_reducible refine Sh.mk (by kernel_rfl) ?_))
    | ((with_reducible refine End.mk ?_); (try ((repeat (first | rw [if_pos (by first | assumption | omega)] at hr | rw [if_neg (by first | assumption | omega | (simp only [Bool.false_eq_true, Bool.true_eq_false, reduceCtorEq, not_false_eq_true]; done) | (simp only [Bool.not_eq_true]; assumption) | (simp only [Bool.not_eq_false]; assumption))] at hr | rw [if_pos rfl] at hr)); subst hr)))
    | with_reducible exact True.intro)
  all_goals first
    | (fail_if_success (with_reducible refine Exists.intro ?_ ?_)
       first
         | with_reducible rfl
         | with_reducible assumption
         | (symm; with_reducible assumption)
         | omega
         | ((try dsimp only [writeSpec, tickSpec, ackSpec, rcvSpec, rrdSpec, rackSpec, toT, Ty.T, Ty.dflt, KT.T, getM, putM, delM, inI64, maxRow]); first | done | with_reducible rfl | with_reducible assumption | (symm; with_reducible assumption) | ((try simp only [natCast_eq, List.nil_append]); first | done | with_reducible rfl | omega | exact take_cg (by omega) | exact drop_cg (by omega) | exact take_drop_cg (by omega) (by omega) | exact take_all (by omega) | exact take_drop_all (by omega) (by omega) | exact drop_take_cg (by omega) (by omega) (by omega)))
         | first | exact p1 | exact p2 | exact ⟨p2, p3⟩ | exact ⟨p2, p9 _ (modAt_mem h)⟩ | (refine ⟨p1, ?_⟩; dsimp only [Ty.T]; simp only [List.length_drop, List.length_take, List.length_cons, List.length_nil]; omega) | (dsimp only; simp only [List.length_map, List.length_cons, List.length_nil, maxRow]; omega) | exact modAt_lt h | exact modAt_lt' h (congrArg Nat.cast p8) | (have hq := readF_len S.r.sto (a / 8 % 6); show List.length _ + List.length (readF S.r.sto (a / 8 % 6)).1.1 ≤ _; simp only [maxRow]; omega)
         | ((try dsimp only [writeSpec, tickSpec, ackSpec, rcvSpec, rrdSpec, rackSpec, toT, Ty.T, Ty.dflt, KT.T, getM, putM, delM, inI64, maxRow]); first | (simp only [nrm, reduceCtorEq, pair_eta, map_idL, natCast_eq, inI64, maxRow]; first | done | with_reducible assumption | omega) | exact map_pair_id _)
         | ((try dsimp only [writeSpec, tickSpec, ackSpec, rcvSpec, rrdSpec, rackSpec, toT, Ty.T, Ty.dflt, KT.T, getM, putM, delM, inI64, maxRow] at *); first | ((try simp only [natCast_eq] at *) <;> omega) | ((try simp only [lens, natCast_eq] at *) <;> omega))
         | assumption
         | (symm; assumption)
         | (dsimp only; simp only [nrb, *]; done)
         | (simp; done)
         | (and_intros <;> first | trivial | with_reducible assumption | omega)
         | ((try dsimp only [writeSpec, tickSpec, ackSpec, rcvSpec, rrdSpec, rackSpec, toT, Ty.T, Ty.dflt, KT.T, getM, putM, delM, inI64, maxRow] at *) <;> simp [*] <;> done))
    | skip
theorem actm_sound : ConSound Try.prog AI 33 actmSpec.con := StepM.sound e9Ok mixed (fn := Try.f33) (c := bodyOf Try.f33) Try.call33 (by kernel_rfl) (by kernel_rfl) (by kernel_rfl) fun S x h => actm_ok S x.1 h
end Go.Proofs.Ytebhcmgfhkjmcaa
