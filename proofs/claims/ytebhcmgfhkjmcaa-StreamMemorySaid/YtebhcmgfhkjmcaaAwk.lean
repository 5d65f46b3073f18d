/-
  Layer 44: the example of the chapter (awake).
-/
import Derived.Test.YtebhcmgfhkjmcaaTick
import Derived.Test.YtebhcmgfhkjmcaaRdr
namespace Go.Proofs.Ytebhcmgfhkjmcaa
set_option linter.all false
set_option linter.unusedVariables false
set_option linter.unusedSimpArgs false
set_option linter.unusedSectionVars false
open Go.RowKit Go.Sx
set_option maxRecDepth 100000
set_option maxHeartbeats 16000000

noncomputable abbrev E5 : Env Ab := ⟨tis, [(31, orCon rcntSpec.con (inl E0 Try.f31 0)), (29, orCon rackSpec.con (inl E0 Try.f29 0)), (26, orCon rrdSpec.con (inl E0 Try.f26 0)), (25, orCon rcvSpec.con (inl E0 Try.f25 1)), (21, orCon countsSpec.con (inl E0 Try.f21 0)), (20, orCon ackSpec.con (inl E0 Try.f20 0)), (16, orCon tickSpec.con (inl E0 Try.f16 1)), (15, orCon closeSpec.con (inl E0 Try.f15 0)), (13, orCon writeSpec.con (inl E0 Try.f13 0)), (22, newRdrSpec.con), (12, newWriSpec.con)] ++ E0.con⟩
theorem e5Ok : EnvOk Try.prog AI E5 := (((((((((((e0Ok.add newWri_sound).add newRdr_sound).add (orCon_sound write_sound (inl_sound e0Ok mixed (fn := Try.f13) (c := bodyOf Try.f13) Try.call13 (by kernel_rfl) (by kernel_rfl) (by kernel_rfl) 0))).add (orCon_sound close_sound (inl_sound e0Ok mixed (fn := Try.f15) (c := bodyOf Try.f15) Try.call15 (by kernel_rfl) (by kernel_rfl) (by kernel_rfl) 0))).add (orCon_sound tick_sound (inl_sound e0Ok mixed (fn := Try.f16) (c := bodyOf Try.f16) Try.call16 (by kernel_rfl) (by kernel_rfl) (by kernel_rfl) 1))).add (orCon_sound ack_sound (inl_sound e0Ok mixed (fn := Try.f20) (c := bodyOf Try.f20) Try.call20 (by kernel_rfl) (by kernel_rfl) (by kernel_rfl) 0))).add (orCon_sound counts_sound (inl_sound e0Ok mixed (fn := Try.f21) (c := bodyOf Try.f21) Try.call21 (by kernel_rfl) (by kernel_rfl) (by kernel_rfl) 0))).add (orCon_sound rcv_sound (inl_sound e0Ok mixed (fn := Try.f25) (c := bodyOf Try.f25) Try.call25 (by kernel_rfl) (by kernel_rfl) (by kernel_rfl) 1))).add (orCon_sound rrd_sound (inl_sound e0Ok mixed (fn := Try.f26) (c := bodyOf Try.f26) Try.call26 (by kernel_rfl) (by kernel_rfl) (by kernel_rfl) 0))).add (orCon_sound rack_sound (inl_sound e0Ok mixed (fn := Try.f29) (c := bodyOf Try.f29) Try.call29 (by kernel_rfl) (by kernel_rfl) (by kernel_rfl) 0))).add (orCon_sound rcnt_sound (inl_sound e0Ok mixed (fn := Try.f31) (c := bodyOf Try.f31) Try.call31 (by kernel_rfl) (by kernel_rfl) (by kernel_rfl) 0)))

def okWB (W : Wri) : Bool := decide ((1 ≤ W.win ∧ W.win ≤ 1048576) ∧ (1 ≤ W.tmo ∧ W.tmo ≤ 1000) ∧ 0 ≤ W.base ∧ W.base + W.data.length = W.taken ∧ W.taken - W.base ≤ W.win ∧ W.taken ≤ 1048576 ∧ (W.base ≤ W.next ∧ W.next ≤ W.taken) ∧ (W.next ≤ W.top ∧ W.top ≤ W.taken) ∧ (0 ≤ W.room ∧ W.room ≤ 1048576) ∧ (0 ≤ W.idle ∧ W.idle < W.tmo))
theorem okW_of {W : Wri} (h : okWB W = true) : OkW W := by
  obtain ⟨a, b, c, d, e, f, g, i, j, k⟩ := of_decide_eq_true h
  exact ⟨a, b, c, d, e, f, g, i, j, k⟩
def preSB (S : Sto) : Bool := decide ((1 ≤ S.win ∧ S.win ≤ 1048576) ∧ (0 ≤ S.off ∧ S.off ≤ 4398046511104) ∧ (S.off ≤ S.next ∧ S.next ≤ S.off + S.win) ∧ (∀ p ∈ S.kept, p.1 < S.off + S.win) ∧ S.kept.length ≤ 1048576)
theorem preS_of {S : Sto} (h : preSB S = true) : PreS S := by
  obtain ⟨a, b, c, d, e⟩ := of_decide_eq_true h
  exact ⟨a, b, c, d, e⟩
def awakeF : Tup [DT.cell .bool] := (true, ())
def awakeSpec : PureSpec := ⟨[], fun (x : Unit) => True, [.cell .bool], fun (x : Unit) => awakeF ⟩
theorem awake_ok  (h : awakeSpec.pre (())) : TmplOk Try.prog AI 11 (argS awakeSpec.ds (fun _ => (()))) [] (resOf (svs awakeSpec.rs (fun _ => awakeSpec.f (())))) [] := by
  dsimp only [awakeSpec] at h ⊢
  generalize hr : awakeF  = r
  dsimp only [awakeF] at hr
  refine tmpl_of_body e5Ok mixed (fn := Try.f11) (c := bodyOf Try.f11) (by kernel_rfl) (by kernel_rfl) (by kernel_rfl) (Nat.le_of_ble_eq_true (by kernel_rfl)) ?_
  (try (conv in (LoopInv.inv _ _) => dsimp only)); (try (conv in (SS.mk _ _) => cbv; (try dsimp only [Ty.T, Ty.dflt, KT.T]); (try simp only [natCast_eq])))
  (with_reducible refine (?_ : T1 _ ?_) ?_; rotate_left 1; (conv => lhs; cbv; (try cbv); (try cbv)); intro hT; clear hT; with_reducible refine Sh.mk (by kernel_rfl) ?_)
  repeat' (first
    | with_reducible (first | refine Ck.mk (C := tt) tt_intro ?_ | refine Ck.mk (show drawOk _ _ = true by kernel_rfl) ?_ | refine Ck.all_cons ?_ | refine Ck.all_nil ?_ | refine Ck.mk (by assumption) ?_ | refine Ck.mk (decide_eq_true (by assumption)) ?_ | refine Ck.mk (decide_eq_false (by assumption)) ?_ | refine Ck.mk ?_ ?_)
    | (with_reducible (first | refine Both.mk (fun h => ?_) (fun h => ?_) | refine Alt.mk (fun h => ?_) (fun h => ?_) | refine Pick.mk (fun h => ?_) (fun l1 x l2 h => ?_)) <;> (have hk := h) <;> (try simp only [nrm, reduceCtorEq, pair_eta, map_idL] at h) <;> (try dsimp only [Ty.T, Ty.dflt, KT.T, getM, putM, delM] at h) <;> (try simp only [natCast_eq] at h) <;> skip <;> (try first | rw [if_pos h] at hr | rw [if_neg h] at hr | rw [ifF h] at hr | rw [ifN h] at hr) <;> (try (have hb : (_ : Bool) = _ := h; clear h; subst hb; (try first | rw [if_pos rfl] at hr | rw [if_neg Bool.false_ne_true] at hr))) <;> first | (exfalso; omega) | exact absurd (h.symm.trans (by assumption) : true = false) Bool.noConfusion | exact absurd (h.symm.trans (by assumption) : false = true) Bool.noConfusion | (with_reducible refine (?_ : T1 _ ?_) ?_; rotate_left 1; (conv => lhs; cbv; (try cbv); (try cbv)); intro hT; clear hT; with_reducible refine Sh.mk (by kernel_rfl) ?_))
    | ((with_reducible refine End.mk ?_); (try ((repeat (first | rw [if_pos (by first | assumption | omega)] at hr | rw [if_neg (by first | assumption | omega | (simp only [Bool.false_eq_true, Bool.true_eq_false, reduceCtorEq, not_false_eq_true]; done) | (simp only [Bool.not_eq_true]; assumption) | (simp only [Bool.not_eq_false]; assumption))] at hr | rw [if_pos rfl] at hr)); subst hr)))
    | with_reducible exact True.intro)
  all_goals first
    | (fail_if_success (with_reducible refine Exists.intro ?_ ?_)
       first
         | with_reducible rfl
         | with_reducible assumption
         | (symm; with_reducible assumption)
         | omega
         | ((try dsimp only [Ty.T, Ty.dflt, KT.T, getM, putM, delM, inI64, maxRow]); first | done | with_reducible rfl | with_reducible assumption | (symm; with_reducible assumption) | ((try simp only [natCast_eq, List.nil_append]); first | done | with_reducible rfl | omega | exact take_cg (by omega) | exact drop_cg (by omega) | exact take_drop_cg (by omega) (by omega) | exact take_all (by omega) | exact take_drop_all (by omega) (by omega) | exact drop_take_cg (by omega) (by omega) (by omega)))
         | (exfalso; revert h; decide +kernel)
         | (dsimp only; exact ⟨okW_of (by decide +kernel), by decide +kernel⟩)
         | (dsimp only; exact okW_of (by decide +kernel))
         | (dsimp only; exact ⟨preS_of (by decide +kernel), by decide +kernel⟩)
         | (dsimp only [inBytes]; decide +kernel)
         | (subst hr; dsimp only; decide +kernel)
         | ((try dsimp only [Ty.T, Ty.dflt, KT.T, getM, putM, delM, inI64, maxRow]); first | (simp only [nrm, reduceCtorEq, pair_eta, map_idL, natCast_eq, inI64, maxRow]; first | done | with_reducible assumption | omega) | exact map_pair_id _)
         | ((try dsimp only [Ty.T, Ty.dflt, KT.T, getM, putM, delM, inI64, maxRow] at *); first | ((try simp only [natCast_eq] at *) <;> omega) | ((try simp only [lens, natCast_eq] at *) <;> omega))
         | assumption
         | (symm; assumption)
         | (dsimp only; simp only [nrb, *]; done)
         | (simp; done)
         | (and_intros <;> first | trivial | with_reducible assumption | omega)
         | ((try dsimp only [Ty.T, Ty.dflt, KT.T, getM, putM, delM, inI64, maxRow] at *) <;> simp [*] <;> done))
    | skip
theorem awake_sound : ConSound Try.prog AI 11 awakeSpec.con := PureSpec.sound Try.call11 (fun x h => awake_ok  h)
end Go.Proofs.Ytebhcmgfhkjmcaa
