/-
  Layer 50: the example of the chapter.
-/
import Derived.Test.YtfgfcbncnngniaaDoorRep
namespace Go.Proofs.YtfgfcbncnngniaaDoor
set_option linter.all false
set_option linter.unusedVariables false
set_option linter.unusedSimpArgs false
set_option linter.unusedSectionVars false
open Go.RowKit Go.Sx
set_option maxRecDepth 100000
set_option maxHeartbeats 16000000
def okLB (S : Led) : Bool := decide (S.ents.length ≤ 1048576 ∧ (∀ p ∈ S.bals, (-1099511627776 ≤ p.2.1 ∧ p.2.1 ≤ 1099511627776) ∧ (-1099511627776 ≤ p.2.2.1 ∧ p.2.2.1 ≤ 1099511627776) ∧ (-1099511627776 ≤ p.2.2.2.1 ∧ p.2.2.2.1 ≤ 1099511627776) ∧ (-1099511627776 ≤ p.2.2.2.2.1 ∧ p.2.2.2.2.1 ≤ 1099511627776) ∧ (-1099511627776 ≤ p.2.2.2.2.2 ∧ p.2.2.2.2.2 ≤ 1099511627776)) ∧ S.bals.length ≤ 1048576)
theorem okL_of {S : Led} (h : okLB S = true) : OkL S := by
  obtain ⟨a, b, c⟩ := of_decide_eq_true h
  exact ⟨a, fun p hp => ⟨(b p hp).1, (b p hp).2.1, (b p hp).2.2.1, (b p hp).2.2.2.1, (b p hp).2.2.2.2⟩, c⟩
def prePB (S : Led) : Bool := decide ((keysI S.bals).Nodup ∧ (∀ x ∈ keysI S.bals, 0 ≤ x ∧ x < 1000) ∧ S.bals.length ≤ 1048576 ∧ ∀ c ∈ keysI S.bals, (0 ≤ c ∧ c < 100) ∧ (0 ≤ -(balAt S.bals c).1 ∧ -(balAt S.bals c).1 < 100) ∧ (0 ≤ (balAt S.bals c).2.1 ∧ (balAt S.bals c).2.1 < 100) ∧ (0 ≤ (balAt S.bals c).2.2.1 ∧ (balAt S.bals c).2.2.1 < 100) ∧ (0 ≤ (balAt S.bals c).2.2.2.1 ∧ (balAt S.bals c).2.2.2.1 < 100) ∧ (0 ≤ (balAt S.bals c).2.2.2.2 ∧ (balAt S.bals c).2.2.2.2 < 100))
theorem preP_of {S : Led} (h : prePB S = true) : PreP S := by
  obtain ⟨a, b, c, d⟩ := of_decide_eq_true h
  exact ⟨⟨a, b, c⟩, fun c hc => by have := d c hc; constructor <;> unfold okN <;> omega⟩
noncomputable abbrev Ea : Env Ab := ⟨tis, [(26, reportSpec.con), (19, bookSpec.con), (18, newLSpec.con)] ++ E0.con⟩
theorem eaOk : EnvOk Tryd.prog AI Ea := (((e0Ok.add newL_sound).add book_sound).add report_sound)
def awakeF : Tup [DT.cell .bool] := (true, ())
def awakeSpec : PureSpec := ⟨[], fun (x : Unit) => True, [.cell .bool], fun (x : Unit) => awakeF ⟩
theorem awake_ok  (h : awakeSpec.pre (())) : TmplOk Tryd.prog AI 12 (argS awakeSpec.ds (fun _ => (()))) [] (resOf (svs awakeSpec.rs (fun _ => awakeSpec.f (())))) [] := by
  dsimp only [awakeSpec] at h ⊢
  generalize hr : awakeF  = r
  dsimp only [awakeF] at hr
  refine tmpl_of_body eaOk mixed (fn := Tryd.f12) (c := bodyOf Tryd.f12) (by kernel_rfl) (by kernel_rfl) (by kernel_rfl) (Nat.le_of_ble_eq_true (by kernel_rfl)) ?_
  (try (conv in (LoopInv.inv _ _) => dsimp only)); (try (conv in (SS.mk _ _) => cbv; (try dsimp only [Ty.T, Ty.dflt, KT.T]); (try simp only [natCast_eq])))
  (with_reducible refine (?_ : T1 _ ?_) ?_; rotate_left 1; (conv => lhs; cbv; (try cbv); (try cbv)); intro hT; clear hT; with_reducible refine Sh.mk (by kernel_rfl) ?_)
  repeat' (first
    | with_reducible (first | refine Ck.mk (C := tt) tt_intro ?_ | refine Ck.mk (show drawOk _ _ = true by kernel_rfl) ?_ | refine Ck.all_cons ?_ | refine Ck.all_nil ?_ | refine Ck.mk (by assumption) ?_ | refine Ck.mk (decide_eq_true (by assumption)) ?_ | refine Ck.mk (decide_eq_false (by assumption)) ?_ | refine Ck.mk ?_ ?_)
    | (with_reducible (first | refine Both.mk (fun h => ?_) (fun h => ?_) | refine Alt.mk (fun h => ?_) (fun h => ?_) | refine Pick.mk (fun h => ?_) (fun l1 x l2 h => ?_)) <;> (have hk := h) <;> (try simp only [nrm, reduceCtorEq, pair_eta, map_idL] at h) <;> (try dsimp only [Ty.T, Ty.dflt, KT.T, getM, putM, delM] at h) <;> (try simp only [natCast_eq] at h) <;> skip <;> (try first | rw [if_pos h] at hr | rw [if_neg h] at hr | rw [ifF h] at hr | rw [ifN h] at hr) <;> (try (have hb : (_ : Bool) = _ := h; clear h; subst hb; (try first | rw [if_pos rfl] at hr | rw [if_neg Bool.false_ne_true] at hr))) <;> first | (exfalso; omega) | exact absurd (h.symm.trans (by assumption) : true = false) Bool.noConfusion | exact absurd (h.symm.trans (by assumption) : false = true) Bool.noConfusion | (with_reducible refine (?_ : T1 _ ?_) ?_; rotate_left 1; (conv => lhs; cbv; (try cbv); (try cbv)); intro hT; clear hT; with_reducible refine Sh.mk (by kernel_rfl) ?_))
    | ((with_reducible refine End.mk ?_); (try ((repeat (first | rw [if_pos (by first | assumption | omega)] at hr | rw [if_neg (by first | assumption | omega | (simp only [Bool.false_eq_true, Bool.true_eq_false, reduceCtorEq, not_false_eq_true]; done) | (simp only [Bool.not_eq_true]; assumption) | (simp only [Bool.not_eq_false]; assumption))] at hr | rw [if_pos rfl] at hr)); subst hr)))
    | with_reducible exact True.intro)
  all_goals first
    | (fail_if_success (with_reducible refine Exists.intro ?_ ?_)
       first
         | with_reducible rfl
         | with_reducible assumption
         | (symm; with_reducible assumption)
         | omega
         | ((try dsimp only [Ty.T, Ty.dflt, KT.T, getM, putM, delM, inI64, maxRow]); first | done | with_reducible rfl | with_reducible assumption | (symm; with_reducible assumption) | ((try simp only [natCast_eq, List.nil_append]); first | done | with_reducible rfl | omega | exact take_cg (by omega) | exact drop_cg (by omega) | exact take_drop_cg (by omega) (by omega) | exact take_all (by omega) | exact take_drop_all (by omega) (by omega) | exact drop_take_cg (by omega) (by omega) (by omega)))
         | (exfalso; revert h; decide +kernel)
         | (dsimp only; exact okL_of (by decide +kernel))
         | (dsimp only; exact preP_of (by decide +kernel))
         | (dsimp only [inBytes]; decide +kernel)
         | (subst hr; dsimp only; decide +kernel)
         | ((try dsimp only [Ty.T, Ty.dflt, KT.T, getM, putM, delM, inI64, maxRow]); first | (simp only [nrm, reduceCtorEq, pair_eta, map_idL, natCast_eq, inI64, maxRow]; first | done | with_reducible assumption | omega) | exact map_pair_id _)
         | ((try dsimp only [Ty.T, Ty.dflt, KT.T, getM, putM, delM, inI64, maxRow] at *); first | ((try simp only [natCast_eq] at *) <;> omega) | ((try simp only [lens, natCast_eq] at *) <;> omega))
         | assumption
         | (symm; assumption)
         | (dsimp only; simp only [nrb, *]; done)
         | (simp; done)
         | (and_intros <;> first | trivial | with_reducible assumption | omega)
         | ((try dsimp only [Ty.T, Ty.dflt, KT.T, getM, putM, delM, inI64, maxRow] at *) <;> simp [*] <;> done))
    | skip
theorem awake_sound : ConSound Tryd.prog AI 12 awakeSpec.con := PureSpec.sound Tryd.call12 (fun x h => awake_ok  h)
end Go.Proofs.YtfgfcbncnngniaaDoor
