/-
  Layer 44: StreamWrites, the walk.
-/
import Derived.Test.YtebhcmgfhkjmcaaCmp
namespace Go.Proofs.Ytebhcmgfhkjmcaa
set_option linter.all false
set_option linter.unusedVariables false
set_option linter.unusedSimpArgs false
set_option linter.unusedSectionVars false
open Go.RowKit Go.Sx
set_option maxRecDepth 100000
set_option maxHeartbeats 16000000
noncomputable abbrev E8 : Env Ab := ⟨tis, [(19, rackRSpec.con), (18, rsameSpec.con), (17, rtickSpec.con), (14, rwriteSpec.con), (21, countsSpec.con), (20, ackSpec.con), (16, tickSpec.con), (15, closeSpec.con), (13, writeSpec.con), (12, newWriSpec.con), (11, awakeSpec.con)] ++ E0.con⟩
theorem e8Ok : EnvOk Try.prog AI E8 := (((((((((((e0Ok.add awake_sound).add newWri_sound).add write_sound).add close_sound).add tick_sound).add ack_sound).add counts_sound).add rwrite_sound).add rtick_sound).add rsame_sound).add rackR_sound)
abbrev actE : Ty := .pair (.int .i64) (.pair (.int .i64) (.pair (.int .i64) (.pair .bool .bytes)))
abbrev TA := Int × Int × Int × Bool × List Int
structure LW (L : List TA) where
  i : Int
  M : RW
  lo : 0 ≤ i
  hi : i ≤ L.length
  ok : OkM M
  bt : inBytes M.data
def cellsM (N : U RW) : List SV1 := [.int .i64 (fun _ => (N ()).win), .int .i64 (fun _ => (N ()).tmo), .int .i64 (fun _ => (N ()).base), .int .i64 (fun _ => (N ()).next), .int .i64 (fun _ => (N ()).top), .int .i64 (fun _ => (N ()).room), .int .i64 (fun _ => (N ()).idle), .ro (.int .u8) (fun _ => (N ()).data), .sb (fun _ => (N ()).closed), .sb (fun _ => (N ()).sent), .sb (fun _ => (N ()).ever), .sb (fun _ => (N ()).fin)]
def newM (w t : Int) : RW := ⟨w, t, 0, 0, 0, w, 0, [], false, false, false, false⟩
theorem newM_ok {w t : Int} (h1 : 1 ≤ w) (h2 : w ≤ 1048576) (h3 : 1 ≤ t) (h4 : t ≤ 1000) : OkM (newM w t) := by
  refine ⟨⟨h1, h2⟩, ⟨h3, h4⟩, Int.le_refl _, ?_, Nat.zero_le _, ⟨Int.le_refl _, Int.le_refl _⟩, ⟨Int.le_refl _, Int.le_refl _⟩, ⟨?_, h2⟩, Int.le_refl _, ?_⟩ <;> dsimp only [newM, List.length_nil] <;> omega
theorem RW.eta {M : RW} : (⟨M.win, M.tmo, M.base, M.next, M.top, M.room, M.idle, M.data, M.closed, M.sent, M.ever, M.fin⟩ : RW) = M := rfl
abbrev elA (L : List TA) (i : Int) : TA := L.getD i.toNat (0, 0, 0, false, [])
theorem elA_by {L : List TA} (hL : ∀ a ∈ L, actE.ok a) {i : Int} (h0 : 0 ≤ i) (hi : i < L.length) : inBytes (elA L i).2.2.2.2 := by
  have h : elA L i = L[i.toNat]'(by omega) := by
    unfold elA; rw [List.getD_eq_getElem?_getD, List.getElem?_eq_getElem (by omega)]; rfl
  rw [h]
  exact (hL _ (List.getElem_mem _)).2.2.2.2.2
theorem tick_by {M : RW} (h : inBytes M.data) (m : Int) : inBytes (refTick M m).1.data := by rw [tick_data]; exact h
theorem ack_by {M : RW} (h : inBytes M.data) (o r : Int) (d : Bool) : inBytes (refAck M o r d).1.data := by rw [ack_data]; exact h
def wrtF (_ _ : Int) (_ : List TA) : Tup [DT.cell .bool] := (true, ())
def wrtSpec : PureSpec := ⟨[.cell (.int .i64), .cell (.int .i64), .lst actE], fun (x : Int × Int × (List TA) × Unit) => x.2.2.1.length ≤ maxLen ∧ ∀ a ∈ x.2.2.1, actE.ok a, [.cell .bool], fun (x : Int × Int × (List TA) × Unit) => wrtF x.1 x.2.1 x.2.2.1⟩
theorem wrt_ok (w : Int) (t : Int) (L : List TA) (h : wrtSpec.pre (w, t, L, ())) : TmplOk Try.prog AI 3 (argS wrtSpec.ds (fun _ => (w, t, L, ()))) [] (resOf (svs wrtSpec.rs (fun _ => wrtSpec.f (w, t, L, ())))) [] := by
  dsimp only [wrtSpec] at h ⊢
  generalize hr : wrtF w t L = r
  obtain ⟨hL0, hL⟩ := h
  dsimp only [wrtF] at hr
  refine tmpl_of_body e8Ok mixed (fn := Try.f3) (c := bodyOf Try.f3) (by kernel_rfl) (by kernel_rfl) (by kernel_rfl) (Nat.le_of_ble_eq_true (by kernel_rfl)) ?_
  (try (conv in (LoopInv.inv _ _) => dsimp only)); (try (conv in (SS.mk _ _) => cbv; (try dsimp only [writeSpec, closeSpec, tickSpec, ackSpec, countsSpec, rwriteSpec, rtickSpec, rackRSpec, rsameSpec, newWriSpec, rwriteF, rtickF, rackRF, sameF, countsF, RW.of, RW.t, Ty.T, Ty.dflt, KT.T]); (try simp only [natCast_eq])))
  (refine (?_ : T1 _ ?_) ?_; rotate_left 1; (conv => lhs; cbv; (try cbv); (try cbv)); intro hT; clear hT; refine Sh.mk (by kernel_rfl) ?_)
  repeat' (first
    | with_reducible refine Ck.mk (C := tt) tt_intro ?_
    | with_reducible refine Ck.mk (show drawOk _ _ = true by kernel_rfl) ?_
    | with_reducible refine Ck.all_cons ?_
    | with_reducible refine Ck.all_nil ?_
    | with_reducible refine Ck.mk (by assumption) ?_
    | with_reducible refine Ck.mk (decide_eq_true (by assumption)) ?_
    | with_reducible refine Ck.mk (decide_eq_false (by assumption)) ?_
    | with_reducible refine Ck.mk ?_ ?_
    | (with_reducible refine Both.mk (fun h => ?_) (fun h => ?_) <;> (have hk := h) <;> (try simp only [decide_eq_true_eq, decide_eq_false_iff_not, Bool.not_eq_true', Bool.not_eq_false', Bool.not_eq_true, Bool.not_eq_false, Bool.not_true, Bool.not_false, ne_eq, Bool.false_eq_true, Bool.true_eq_false, reduceCtorEq, beq_iff_eq, beq_eq_false_iff_ne, not_true_eq_false, not_false_eq_true] at h) <;> (try dsimp only [writeSpec, closeSpec, tickSpec, ackSpec, countsSpec, rwriteSpec, rtickSpec, rackRSpec, rsameSpec, newWriSpec, rwriteF, rtickF, rackRF, sameF, countsF, RW.of, RW.t, Ty.T, Ty.dflt, KT.T, getM, putM, delM] at h) <;> (try simp only [natCast_eq] at h) <;> (try simp only [RW.eta, e1, e2, e3, e4] at h) <;> (try (exfalso; first | exact absurd rfl h | (rw [if_pos (by assumption)] at h; exact absurd rfl h) | (rw [ifF (by assumption)] at h; exact absurd rfl h) | (simp at h; done))) <;> (try first | rw [if_pos h] at hr | rw [if_neg h] at hr | rw [ifF h] at hr | rw [ifN h] at hr) <;> (try (have hb : (_ : Bool) = _ := h; clear h; subst hb; (try first | rw [if_pos rfl] at hr | rw [if_neg Bool.false_ne_true] at hr))) <;> first | (exfalso; omega) | exact absurd (h.symm.trans (by assumption) : true = false) Bool.noConfusion | exact absurd (h.symm.trans (by assumption) : false = true) Bool.noConfusion | (refine (?_ : T1 _ ?_) ?_; rotate_left 1; (conv => lhs; cbv; (try cbv); (try cbv)); intro hT; clear hT; refine Sh.mk (by kernel_rfl) ?_))
    | (with_reducible refine Alt.mk (fun h => ?_) (fun h => ?_) <;> (have hk := h) <;> (try simp only [decide_eq_true_eq, decide_eq_false_iff_not, Bool.not_eq_true', Bool.not_eq_false', Bool.not_eq_true, Bool.not_eq_false, Bool.not_true, Bool.not_false, ne_eq, Bool.false_eq_true, Bool.true_eq_false, reduceCtorEq, beq_iff_eq, beq_eq_false_iff_ne, not_true_eq_false, not_false_eq_true] at h) <;> (try dsimp only [writeSpec, closeSpec, tickSpec, ackSpec, countsSpec, rwriteSpec, rtickSpec, rackRSpec, rsameSpec, newWriSpec, rwriteF, rtickF, rackRF, sameF, countsF, RW.of, RW.t, Ty.T, Ty.dflt, KT.T, getM, putM, delM] at h) <;> (try simp only [natCast_eq] at h) <;> (try simp only [RW.eta, e1, e2, e3, e4] at h) <;> (try (exfalso; first | exact absurd rfl h | (rw [if_pos (by assumption)] at h; exact absurd rfl h) | (rw [ifF (by assumption)] at h; exact absurd rfl h) | (simp at h; done))) <;> (try first | rw [if_pos h] at hr | rw [if_neg h] at hr | rw [ifF h] at hr | rw [ifN h] at hr) <;> (try (have hb : (_ : Bool) = _ := h; clear h; subst hb; (try first | rw [if_pos rfl] at hr | rw [if_neg Bool.false_ne_true] at hr))) <;> first | (exfalso; omega) | exact absurd (h.symm.trans (by assumption) : true = false) Bool.noConfusion | exact absurd (h.symm.trans (by assumption) : false = true) Bool.noConfusion | (refine (?_ : T1 _ ?_) ?_; rotate_left 1; (conv => lhs; cbv; (try cbv); (try cbv)); intro hT; clear hT; refine Sh.mk (by kernel_rfl) ?_))
    | (with_reducible refine Pick.mk (fun h => ?_) (fun l1 x l2 h => ?_) <;> (refine (?_ : T1 _ ?_) ?_; rotate_left 1; (conv => lhs; cbv; (try cbv); (try cbv)); intro hT; clear hT; refine Sh.mk (by kernel_rfl) ?_))
    | ((with_reducible refine End.mk ?_); (try ((repeat (first | rw [if_pos (by first | assumption | omega)] at hr | rw [if_neg (by first | assumption | omega | (simp only [Bool.false_eq_true, Bool.true_eq_false, reduceCtorEq, not_false_eq_true]; done) | (simp only [Bool.not_eq_true]; assumption) | (simp only [Bool.not_eq_false]; assumption))] at hr | rw [if_pos rfl] at hr)); subst hr)))
    | with_reducible exact True.intro)
  all_goals first
    | (fail_if_success (with_reducible refine Exists.intro ?_ ?_)
       first
         | with_reducible rfl
         | with_reducible assumption
         | (dsimp only [writeSpec, closeSpec, tickSpec, ackSpec, countsSpec, rwriteSpec, rtickSpec, rackRSpec, rsameSpec, newWriSpec, rwriteF, rtickF, rackRF, sameF, countsF, RW.of, RW.t, Ty.T, Ty.dflt, KT.T, getM, putM, delM, inI64, maxRow]; done)
         | (symm; with_reducible assumption)
         | (dsimp only [writeSpec, closeSpec, tickSpec, ackSpec, countsSpec, rwriteSpec, rtickSpec, rackRSpec, rsameSpec, newWriSpec, rwriteF, rtickF, rackRF, sameF, countsF, RW.of, RW.t, Ty.T, Ty.dflt, KT.T, getM, putM, delM, inI64, maxRow]; first | with_reducible rfl | with_reducible assumption | (symm; with_reducible assumption) | (simp only [natCast_eq]; with_reducible rfl) | omega)
         | omega
         | (dsimp only [writeSpec, closeSpec, tickSpec, ackSpec, countsSpec, rwriteSpec, rtickSpec, rackRSpec, rsameSpec, newWriSpec, rwriteF, rtickF, rackRF, sameF, countsF, RW.of, RW.t, Ty.T, Ty.dflt, KT.T, getM, putM, delM, inI64, maxRow]; (try simp only [natCast_eq, List.nil_append]); first | with_reducible rfl | exact take_cg (by omega) | exact drop_cg (by omega) | exact take_drop_cg (by omega) (by omega) | exact take_all (by omega) | exact take_drop_all (by omega) (by omega) | exact drop_take_cg (by omega) (by omega) (by omega))
         | ((try dsimp only [writeSpec, closeSpec, tickSpec, ackSpec, countsSpec, rwriteSpec, rtickSpec, rackRSpec, rsameSpec, newWriSpec, rwriteF, rtickF, rackRF, sameF, countsF, RW.of, RW.t, Ty.T, Ty.dflt, KT.T, getM, putM, delM, inI64, maxRow]); simp only [decide_eq_true_eq, decide_eq_false_iff_not, Bool.not_eq_true', Bool.not_eq_false', Bool.not_eq_true, Bool.not_eq_false, Bool.not_true, Bool.not_false, ne_eq, Bool.false_eq_true, Bool.true_eq_false, reduceCtorEq, beq_iff_eq, beq_eq_false_iff_ne, not_true_eq_false, not_false_eq_true, natCast_eq, inI64, maxRow]; first | done | with_reducible assumption | omega)
         | exact map_pair_id _
         | ((try dsimp only [writeSpec, closeSpec, tickSpec, ackSpec, countsSpec, rwriteSpec, rtickSpec, rackRSpec, rsameSpec, newWriSpec, rwriteF, rtickF, rackRF, sameF, countsF, RW.of, RW.t, Ty.T, Ty.dflt, KT.T, getM, putM, delM, inI64, maxRow]) <;> (try simp only [natCast_eq]) <;> omega)
         | ((try dsimp only [writeSpec, closeSpec, tickSpec, ackSpec, countsSpec, rwriteSpec, rtickSpec, rackRSpec, rsameSpec, newWriSpec, rwriteF, rtickF, rackRF, sameF, countsF, RW.of, RW.t, Ty.T, Ty.dflt, KT.T, getM, putM, delM, inI64, maxRow] at *) <;> (try simp only [natCast_eq] at *) <;> omega)
         | ((try dsimp only [writeSpec, closeSpec, tickSpec, ackSpec, countsSpec, rwriteSpec, rtickSpec, rackRSpec, rsameSpec, newWriSpec, rwriteF, rtickF, rackRF, sameF, countsF, RW.of, RW.t, Ty.T, Ty.dflt, KT.T, getM, putM, delM, inI64, maxRow] at *) <;> (try simp only [List.length_append, List.length_cons, List.length_nil, List.length_replicate, List.length_take, List.length_drop, natCast_eq] at *) <;> omega)
         | assumption
         | (symm; assumption)
         | (dsimp only; simp only [Bool.or_true, Bool.true_or, Bool.or_false, Bool.false_or, Bool.and_true, Bool.true_and, Bool.and_false, Bool.false_and, Bool.not_true, Bool.not_false, *]; done)
         | (simp; done)
         | (and_intros <;> first | trivial | with_reducible assumption | omega)
         | ((try dsimp only [writeSpec, closeSpec, tickSpec, ackSpec, countsSpec, rwriteSpec, rtickSpec, rackRSpec, rsameSpec, newWriSpec, rwriteF, rtickF, rackRF, sameF, countsF, RW.of, RW.t, Ty.T, Ty.dflt, KT.T, getM, putM, delM, inI64, maxRow] at *) <;> simp [*] <;> done))
    | skip
  obtain ⟨x0, hx0, hx1⟩ : ∃ x : LW L, x.i = 0 ∧ x.M = newM w t := ⟨⟨0, newM w t, Int.le_refl _, by omega, newM_ok (by omega) (by omega) (by omega) (by omega), by intro y hy; cases hy⟩, rfl, rfl⟩
  refine ⟨⟨LW L, fun x => ⟨[(7, one (.ptr 0 0)), (9, one (.ptr 1 0)), (76, one (.ro actE (fun _ => L))), (77, one (.int .i64 (fun _ => L.length))), (78, one (.int .i64 (fun _ => x.i)))],
      [.abs (.wri (fun _ => wOf x.M)), .cells 30 (cellsM (fun _ => x.M))]⟩, fun x => (L.length - x.i).toNat, x0⟩, ?_, fun (x : LW L) => ?_⟩
  · (try (conv in (LoopInv.inv _ _) => dsimp only)); (try (conv in (SS.mk _ _) => cbv; (try dsimp only [writeSpec, closeSpec, tickSpec, ackSpec, countsSpec, rwriteSpec, rtickSpec, rackRSpec, rsameSpec, newWriSpec, rwriteF, rtickF, rackRF, sameF, countsF, RW.of, RW.t, Ty.T, Ty.dflt, KT.T]); (try simp only [natCast_eq])))
    (refine (?_ : T1 _ ?_) ?_; rotate_left 1; (conv => lhs; cbv; (try cbv); (try cbv)); intro hT; clear hT; refine Sh.mk (by kernel_rfl) ?_)
    repeat' (first
      | with_reducible refine Ck.mk (C := tt) tt_intro ?_
      | with_reducible refine Ck.mk (show drawOk _ _ = true by kernel_rfl) ?_
      | with_reducible refine Ck.all_cons ?_
      | with_reducible refine Ck.all_nil ?_
      | with_reducible refine Ck.mk (by assumption) ?_
      | with_reducible refine Ck.mk (decide_eq_true (by assumption)) ?_
      | with_reducible refine Ck.mk (decide_eq_false (by assumption)) ?_
      | with_reducible refine Ck.mk ?_ ?_
      | (with_reducible refine Both.mk (fun h => ?_) (fun h => ?_) <;> (have hk := h) <;> (try simp only [decide_eq_true_eq, decide_eq_false_iff_not, Bool.not_eq_true', Bool.not_eq_false', Bool.not_eq_true, Bool.not_eq_false, Bool.not_true, Bool.not_false, ne_eq, Bool.false_eq_true, Bool.true_eq_false, reduceCtorEq, beq_iff_eq, beq_eq_false_iff_ne, not_true_eq_false, not_false_eq_true] at h) <;> (try dsimp only [writeSpec, closeSpec, tickSpec, ackSpec, countsSpec, rwriteSpec, rtickSpec, rackRSpec, rsameSpec, newWriSpec, rwriteF, rtickF, rackRF, sameF, countsF, RW.of, RW.t, Ty.T, Ty.dflt, KT.T, getM, putM, delM] at h) <;> (try simp only [natCast_eq] at h) <;> (try simp only [RW.eta, e1, e2, e3, e4] at h) <;> (try (exfalso; first | exact absurd rfl h | (rw [if_pos (by assumption)] at h; exact absurd rfl h) | (rw [ifF (by assumption)] at h; exact absurd rfl h) | (simp at h; done))) <;> (try first | rw [if_pos h] at hr | rw [if_neg h] at hr | rw [ifF h] at hr | rw [ifN h] at hr) <;> (try (have hb : (_ : Bool) = _ := h; clear h; subst hb; (try first | rw [if_pos rfl] at hr | rw [if_neg Bool.false_ne_true] at hr))) <;> first | (exfalso; omega) | exact absurd (h.symm.trans (by assumption) : true = false) Bool.noConfusion | exact absurd (h.symm.trans (by assumption) : false = true) Bool.noConfusion | (refine (?_ : T1 _ ?_) ?_; rotate_left 1; (conv => lhs; cbv; (try cbv); (try cbv)); intro hT; clear hT; refine Sh.mk (by kernel_rfl) ?_))
      | (with_reducible refine Alt.mk (fun h => ?_) (fun h => ?_) <;> (have hk := h) <;> (try simp only [decide_eq_true_eq, decide_eq_false_iff_not, Bool.not_eq_true', Bool.not_eq_false', Bool.not_eq_true, Bool.not_eq_false, Bool.not_true, Bool.not_false, ne_eq, Bool.false_eq_true, Bool.true_eq_false, reduceCtorEq, beq_iff_eq, beq_eq_false_iff_ne, not_true_eq_false, not_false_eq_true] at h) <;> (try dsimp only [writeSpec, closeSpec, tickSpec, ackSpec, countsSpec, rwriteSpec, rtickSpec, rackRSpec, rsameSpec, newWriSpec, rwriteF, rtickF, rackRF, sameF, countsF, RW.of, RW.t, Ty.T, Ty.dflt, KT.T, getM, putM, delM] at h) <;> (try simp only [natCast_eq] at h) <;> (try simp only [RW.eta, e1, e2, e3, e4] at h) <;> (try (exfalso; first | exact absurd rfl h | (rw [if_pos (by assumption)] at h; exact absurd rfl h) | (rw [ifF (by assumption)] at h; exact absurd rfl h) | (simp at h; done))) <;> (try first | rw [if_pos h] at hr | rw [if_neg h] at hr | rw [ifF h] at hr | rw [ifN h] at hr) <;> (try (have hb : (_ : Bool) = _ := h; clear h; subst hb; (try first | rw [if_pos rfl] at hr | rw [if_neg Bool.false_ne_true] at hr))) <;> first | (exfalso; omega) | exact absurd (h.symm.trans (by assumption) : true = false) Bool.noConfusion | exact absurd (h.symm.trans (by assumption) : false = true) Bool.noConfusion | (refine (?_ : T1 _ ?_) ?_; rotate_left 1; (conv => lhs; cbv; (try cbv); (try cbv)); intro hT; clear hT; refine Sh.mk (by kernel_rfl) ?_))
      | (with_reducible refine Pick.mk (fun h => ?_) (fun l1 x l2 h => ?_) <;> (refine (?_ : T1 _ ?_) ?_; rotate_left 1; (conv => lhs; cbv; (try cbv); (try cbv)); intro hT; clear hT; refine Sh.mk (by kernel_rfl) ?_))
      | ((with_reducible refine End.mk ?_); skip)
      | with_reducible exact True.intro)
    all_goals first
      | (fail_if_success (with_reducible refine Exists.intro ?_ ?_)
         first
           | with_reducible rfl
           | with_reducible assumption
           | (dsimp only [writeSpec, closeSpec, tickSpec, ackSpec, countsSpec, rwriteSpec, rtickSpec, rackRSpec, rsameSpec, newWriSpec, rwriteF, rtickF, rackRF, sameF, countsF, RW.of, RW.t, Ty.T, Ty.dflt, KT.T, getM, putM, delM, inI64, maxRow]; done)
           | (symm; with_reducible assumption)
           | (dsimp only [writeSpec, closeSpec, tickSpec, ackSpec, countsSpec, rwriteSpec, rtickSpec, rackRSpec, rsameSpec, newWriSpec, rwriteF, rtickF, rackRF, sameF, countsF, RW.of, RW.t, Ty.T, Ty.dflt, KT.T, getM, putM, delM, inI64, maxRow]; first | with_reducible rfl | with_reducible assumption | (symm; with_reducible assumption) | (simp only [natCast_eq]; with_reducible rfl) | omega)
           | omega
           | (dsimp only [writeSpec, closeSpec, tickSpec, ackSpec, countsSpec, rwriteSpec, rtickSpec, rackRSpec, rsameSpec, newWriSpec, rwriteF, rtickF, rackRF, sameF, countsF, RW.of, RW.t, Ty.T, Ty.dflt, KT.T, getM, putM, delM, inI64, maxRow]; (try simp only [natCast_eq, List.nil_append]); first | with_reducible rfl | exact take_cg (by omega) | exact drop_cg (by omega) | exact take_drop_cg (by omega) (by omega) | exact take_all (by omega) | exact take_drop_all (by omega) (by omega) | exact drop_take_cg (by omega) (by omega) (by omega))
           | (rw [hx1]; rfl)
           | ((try dsimp only [writeSpec, closeSpec, tickSpec, ackSpec, countsSpec, rwriteSpec, rtickSpec, rackRSpec, rsameSpec, newWriSpec, rwriteF, rtickF, rackRF, sameF, countsF, RW.of, RW.t, Ty.T, Ty.dflt, KT.T, getM, putM, delM, inI64, maxRow]); simp only [decide_eq_true_eq, decide_eq_false_iff_not, Bool.not_eq_true', Bool.not_eq_false', Bool.not_eq_true, Bool.not_eq_false, Bool.not_true, Bool.not_false, ne_eq, Bool.false_eq_true, Bool.true_eq_false, reduceCtorEq, beq_iff_eq, beq_eq_false_iff_ne, not_true_eq_false, not_false_eq_true, natCast_eq, inI64, maxRow]; first | done | with_reducible assumption | omega)
           | exact map_pair_id _
           | ((try dsimp only [writeSpec, closeSpec, tickSpec, ackSpec, countsSpec, rwriteSpec, rtickSpec, rackRSpec, rsameSpec, newWriSpec, rwriteF, rtickF, rackRF, sameF, countsF, RW.of, RW.t, Ty.T, Ty.dflt, KT.T, getM, putM, delM, inI64, maxRow]) <;> (try simp only [natCast_eq]) <;> omega)
           | ((try dsimp only [writeSpec, closeSpec, tickSpec, ackSpec, countsSpec, rwriteSpec, rtickSpec, rackRSpec, rsameSpec, newWriSpec, rwriteF, rtickF, rackRF, sameF, countsF, RW.of, RW.t, Ty.T, Ty.dflt, KT.T, getM, putM, delM, inI64, maxRow] at *) <;> (try simp only [natCast_eq] at *) <;> omega)
           | ((try dsimp only [writeSpec, closeSpec, tickSpec, ackSpec, countsSpec, rwriteSpec, rtickSpec, rackRSpec, rsameSpec, newWriSpec, rwriteF, rtickF, rackRF, sameF, countsF, RW.of, RW.t, Ty.T, Ty.dflt, KT.T, getM, putM, delM, inI64, maxRow] at *) <;> (try simp only [List.length_append, List.length_cons, List.length_nil, List.length_replicate, List.length_take, List.length_drop, natCast_eq] at *) <;> omega)
           | assumption
           | (symm; assumption)
           | (dsimp only; simp only [Bool.or_true, Bool.true_or, Bool.or_false, Bool.false_or, Bool.and_true, Bool.true_and, Bool.and_false, Bool.false_and, Bool.not_true, Bool.not_false, *]; done)
           | (simp; done)
           | (and_intros <;> first | trivial | with_reducible assumption | omega)
           | ((try dsimp only [writeSpec, closeSpec, tickSpec, ackSpec, countsSpec, rwriteSpec, rtickSpec, rackRSpec, rsameSpec, newWriSpec, rwriteF, rtickF, rackRF, sameF, countsF, RW.of, RW.t, Ty.T, Ty.dflt, KT.T, getM, putM, delM, inI64, maxRow] at *) <;> simp [*] <;> done))
      | skip
  obtain ⟨i, M, hlo, hhi, hok, hbt⟩ := x
  have e1 := write_cmp hok
  have e2 := tick_cmp hok
  have e3 := ack_cmp hok
  have e4 := close_cmp (M := M)
  (try (conv in (LoopInv.inv _ _) => dsimp only)); (try (conv in (SS.mk _ _) => cbv; (try dsimp only [writeSpec, closeSpec, tickSpec, ackSpec, countsSpec, rwriteSpec, rtickSpec, rackRSpec, rsameSpec, newWriSpec, rwriteF, rtickF, rackRF, sameF, countsF, RW.of, RW.t, Ty.T, Ty.dflt, KT.T]); (try simp only [natCast_eq])))
  (refine (?_ : T1 _ ?_) ?_; rotate_left 1; (conv => lhs; cbv; (try cbv); (try cbv)); intro hT; clear hT; refine Sh.mk (by kernel_rfl) ?_)
  repeat' (first
    | with_reducible refine Ck.mk (C := tt) tt_intro ?_
    | with_reducible refine Ck.mk (show drawOk _ _ = true by kernel_rfl) ?_
    | with_reducible refine Ck.all_cons ?_
    | with_reducible refine Ck.all_nil ?_
    | with_reducible refine Ck.mk (by assumption) ?_
    | with_reducible refine Ck.mk (decide_eq_true (by assumption)) ?_
    | with_reducible refine Ck.mk (decide_eq_false (by assumption)) ?_
    | with_reducible refine Ck.mk ?_ ?_
    | (with_reducible refine Both.mk (fun h => ?_) (fun h => ?_) <;> (have hk := h) <;> (try simp only [decide_eq_true_eq, decide_eq_false_iff_not, Bool.not_eq_true', Bool.not_eq_false', Bool.not_eq_true, Bool.not_eq_false, Bool.not_true, Bool.not_false, ne_eq, Bool.false_eq_true, Bool.true_eq_false, reduceCtorEq, beq_iff_eq, beq_eq_false_iff_ne, not_true_eq_false, not_false_eq_true] at h) <;> (try dsimp only [writeSpec, closeSpec, tickSpec, ackSpec, countsSpec, rwriteSpec, rtickSpec, rackRSpec, rsameSpec, newWriSpec, rwriteF, rtickF, rackRF, sameF, countsF, RW.of, RW.t, Ty.T, Ty.dflt, KT.T, getM, putM, delM] at h) <;> (try simp only [natCast_eq] at h) <;> (try simp only [RW.eta, e1, e2, e3, e4] at h) <;> (try (exfalso; first | exact absurd rfl h | (rw [if_pos (by assumption)] at h; exact absurd rfl h) | (rw [ifF (by assumption)] at h; exact absurd rfl h) | (simp at h; done))) <;> (try first | rw [if_pos h] at hr | rw [if_neg h] at hr | rw [ifF h] at hr | rw [ifN h] at hr) <;> (try (have hb : (_ : Bool) = _ := h; clear h; subst hb; (try first | rw [if_pos rfl] at hr | rw [if_neg Bool.false_ne_true] at hr))) <;> first | (exfalso; omega) | exact absurd (h.symm.trans (by assumption) : true = false) Bool.noConfusion | exact absurd (h.symm.trans (by assumption) : false = true) Bool.noConfusion | (refine (?_ : T1 _ ?_) ?_; rotate_left 1; (conv => lhs; cbv; (try cbv); (try cbv)); intro hT; clear hT; refine Sh.mk (by kernel_rfl) ?_))
    | (with_reducible refine Alt.mk (fun h => ?_) (fun h => ?_) <;> (have hk := h) <;> (try simp only [decide_eq_true_eq, decide_eq_false_iff_not, Bool.not_eq_true', Bool.not_eq_false', Bool.not_eq_true, Bool.not_eq_false, Bool.not_true, Bool.not_false, ne_eq, Bool.false_eq_true, Bool.true_eq_false, reduceCtorEq, beq_iff_eq, beq_eq_false_iff_ne, not_true_eq_false, not_false_eq_true] at h) <;> (try dsimp only [writeSpec, closeSpec, tickSpec, ackSpec, countsSpec, rwriteSpec, rtickSpec, rackRSpec, rsameSpec, newWriSpec, rwriteF, rtickF, rackRF, sameF, countsF, RW.of, RW.t, Ty.T, Ty.dflt, KT.T, getM, putM, delM] at h) <;> (try simp only [natCast_eq] at h) <;> (try simp only [RW.eta, e1, e2, e3, e4] at h) <;> (try (exfalso; first | exact absurd rfl h | (rw [if_pos (by assumption)] at h; exact absurd rfl h) | (rw [ifF (by assumption)] at h; exact absurd rfl h) | (simp at h; done))) <;> (try first | rw [if_pos h] at hr | rw [if_neg h] at hr | rw [ifF h] at hr | rw [ifN h] at hr) <;> (try (have hb : (_ : Bool) = _ := h; clear h; subst hb; (try first | rw [if_pos rfl] at hr | rw [if_neg Bool.false_ne_true] at hr))) <;> first | (exfalso; omega) | exact absurd (h.symm.trans (by assumption) : true = false) Bool.noConfusion | exact absurd (h.symm.trans (by assumption) : false = true) Bool.noConfusion | (refine (?_ : T1 _ ?_) ?_; rotate_left 1; (conv => lhs; cbv; (try cbv); (try cbv)); intro hT; clear hT; refine Sh.mk (by kernel_rfl) ?_))
    | (with_reducible refine Pick.mk (fun h => ?_) (fun l1 x l2 h => ?_) <;> (refine (?_ : T1 _ ?_) ?_; rotate_left 1; (conv => lhs; cbv; (try cbv); (try cbv)); intro hT; clear hT; refine Sh.mk (by kernel_rfl) ?_))
    | ((with_reducible refine End.mk ?_); (try ((repeat (first | rw [if_pos (by first | assumption | omega)] at hr | rw [if_neg (by first | assumption | omega | (simp only [Bool.false_eq_true, Bool.true_eq_false, reduceCtorEq, not_false_eq_true]; done) | (simp only [Bool.not_eq_true]; assumption) | (simp only [Bool.not_eq_false]; assumption))] at hr | rw [if_pos rfl] at hr)); subst hr)))
    | with_reducible exact True.intro)
  all_goals first
    | (fail_if_success (with_reducible refine Exists.intro ?_ ?_)
       first
         | with_reducible rfl
         | with_reducible assumption
         | (dsimp only [writeSpec, closeSpec, tickSpec, ackSpec, countsSpec, rwriteSpec, rtickSpec, rackRSpec, rsameSpec, newWriSpec, rwriteF, rtickF, rackRF, sameF, countsF, RW.of, RW.t, Ty.T, Ty.dflt, KT.T, getM, putM, delM, inI64, maxRow]; done)
         | (symm; with_reducible assumption)
         | (dsimp only [writeSpec, closeSpec, tickSpec, ackSpec, countsSpec, rwriteSpec, rtickSpec, rackRSpec, rsameSpec, newWriSpec, rwriteF, rtickF, rackRF, sameF, countsF, RW.of, RW.t, Ty.T, Ty.dflt, KT.T, getM, putM, delM, inI64, maxRow]; first | with_reducible rfl | with_reducible assumption | (symm; with_reducible assumption) | (simp only [natCast_eq]; with_reducible rfl) | omega)
         | omega
         | (dsimp only [writeSpec, closeSpec, tickSpec, ackSpec, countsSpec, rwriteSpec, rtickSpec, rackRSpec, rsameSpec, newWriSpec, rwriteF, rtickF, rackRF, sameF, countsF, RW.of, RW.t, Ty.T, Ty.dflt, KT.T, getM, putM, delM, inI64, maxRow]; (try simp only [natCast_eq, List.nil_append]); first | with_reducible rfl | exact take_cg (by omega) | exact drop_cg (by omega) | exact take_drop_cg (by omega) (by omega) | exact take_all (by omega) | exact take_drop_all (by omega) (by omega) | exact drop_take_cg (by omega) (by omega) (by omega))
         | first | exact hok.w | exact hok | (dsimp only [writeSpec, rwriteSpec, RW.of, Ty.dflt]; first | exact ⟨hok.w, by omega⟩ | exact ⟨hok, by omega⟩) | (dsimp only [rsameSpec, tickSpec, rtickSpec, rtickF, RW.of, RW.t]; simp only [RW.eta, e2]; exact ⟨fun y hy => hbt y (tick_seg _ y hy), fun y hy => hbt y (tick_seg _ y hy)⟩)
         | ((try dsimp only [writeSpec, closeSpec, tickSpec, ackSpec, countsSpec, rwriteSpec, rtickSpec, rackRSpec, rsameSpec, newWriSpec, rwriteF, rtickF, rackRF, sameF, countsF, RW.of, RW.t, Ty.T, Ty.dflt, KT.T, getM, putM, delM, inI64, maxRow]); simp only [decide_eq_true_eq, decide_eq_false_iff_not, Bool.not_eq_true', Bool.not_eq_false', Bool.not_eq_true, Bool.not_eq_false, Bool.not_true, Bool.not_false, ne_eq, Bool.false_eq_true, Bool.true_eq_false, reduceCtorEq, beq_iff_eq, beq_eq_false_iff_ne, not_true_eq_false, not_false_eq_true, natCast_eq, inI64, maxRow]; first | done | with_reducible assumption | omega)
         | exact map_pair_id _
         | ((try dsimp only [writeSpec, closeSpec, tickSpec, ackSpec, countsSpec, rwriteSpec, rtickSpec, rackRSpec, rsameSpec, newWriSpec, rwriteF, rtickF, rackRF, sameF, countsF, RW.of, RW.t, Ty.T, Ty.dflt, KT.T, getM, putM, delM, inI64, maxRow]) <;> (try simp only [natCast_eq]) <;> omega)
         | ((try dsimp only [writeSpec, closeSpec, tickSpec, ackSpec, countsSpec, rwriteSpec, rtickSpec, rackRSpec, rsameSpec, newWriSpec, rwriteF, rtickF, rackRF, sameF, countsF, RW.of, RW.t, Ty.T, Ty.dflt, KT.T, getM, putM, delM, inI64, maxRow] at *) <;> (try simp only [natCast_eq] at *) <;> omega)
         | ((try dsimp only [writeSpec, closeSpec, tickSpec, ackSpec, countsSpec, rwriteSpec, rtickSpec, rackRSpec, rsameSpec, newWriSpec, rwriteF, rtickF, rackRF, sameF, countsF, RW.of, RW.t, Ty.T, Ty.dflt, KT.T, getM, putM, delM, inI64, maxRow] at *) <;> (try simp only [List.length_append, List.length_cons, List.length_nil, List.length_replicate, List.length_take, List.length_drop, natCast_eq] at *) <;> omega)
         | assumption
         | (symm; assumption)
         | (dsimp only; simp only [Bool.or_true, Bool.true_or, Bool.or_false, Bool.false_or, Bool.and_true, Bool.true_and, Bool.and_false, Bool.false_and, Bool.not_true, Bool.not_false, *]; done)
         | (simp; done)
         | (and_intros <;> first | trivial | with_reducible assumption | omega)
         | ((try dsimp only [writeSpec, closeSpec, tickSpec, ackSpec, countsSpec, rwriteSpec, rtickSpec, rackRSpec, rsameSpec, newWriSpec, rwriteF, rtickF, rackRF, sameF, countsF, RW.of, RW.t, Ty.T, Ty.dflt, KT.T, getM, putM, delM, inI64, maxRow] at *) <;> simp [*] <;> done))
    | skip
  · obtain ⟨y, hy1, hy2⟩ : ∃ y : LW L, y.i = i + 1 ∧ y.M = (refWrite M (elA L i).2.2.2.2).1 := ⟨⟨i + 1, (refWrite M (elA L i).2.2.2.2).1, by omega, by omega, write_ok2 hok _, write_bytes hbt (elA_by hL hlo (by assumption))⟩, rfl, rfl⟩
    refine ⟨y, by dsimp only; (try simp only [natCast_eq]); omega, ?_⟩
    (try (conv in (LoopInv.inv _ _) => dsimp only)); (try (conv in (SS.mk _ _) => cbv; (try dsimp only [writeSpec, closeSpec, tickSpec, ackSpec, countsSpec, rwriteSpec, rtickSpec, rackRSpec, rsameSpec, newWriSpec, rwriteF, rtickF, rackRF, sameF, countsF, RW.of, RW.t, Ty.T, Ty.dflt, KT.T]); (try simp only [natCast_eq])))
    (refine (?_ : T1 _ ?_) ?_; rotate_left 1; (conv => lhs; cbv; (try cbv); (try cbv)); intro hT; clear hT; refine Sh.mk (by kernel_rfl) ?_)
    repeat' (first
      | with_reducible refine Ck.mk (C := tt) tt_intro ?_
      | with_reducible refine Ck.mk (show drawOk _ _ = true by kernel_rfl) ?_
      | with_reducible refine Ck.all_cons ?_
      | with_reducible refine Ck.all_nil ?_
      | with_reducible refine Ck.mk (by assumption) ?_
      | with_reducible refine Ck.mk (decide_eq_true (by assumption)) ?_
      | with_reducible refine Ck.mk (decide_eq_false (by assumption)) ?_
      | with_reducible refine Ck.mk ?_ ?_
      | (with_reducible refine Both.mk (fun h => ?_) (fun h => ?_) <;> (have hk := h) <;> (try simp only [decide_eq_true_eq, decide_eq_false_iff_not, Bool.not_eq_true', Bool.not_eq_false', Bool.not_eq_true, Bool.not_eq_false, Bool.not_true, Bool.not_false, ne_eq, Bool.false_eq_true, Bool.true_eq_false, reduceCtorEq, beq_iff_eq, beq_eq_false_iff_ne, not_true_eq_false, not_false_eq_true] at h) <;> (try dsimp only [writeSpec, closeSpec, tickSpec, ackSpec, countsSpec, rwriteSpec, rtickSpec, rackRSpec, rsameSpec, newWriSpec, rwriteF, rtickF, rackRF, sameF, countsF, RW.of, RW.t, Ty.T, Ty.dflt, KT.T, getM, putM, delM] at h) <;> (try simp only [natCast_eq] at h) <;> (try simp only [RW.eta, e1, e2, e3, e4] at h) <;> (try (exfalso; first | exact absurd rfl h | (rw [if_pos (by assumption)] at h; exact absurd rfl h) | (rw [ifF (by assumption)] at h; exact absurd rfl h) | (simp at h; done))) <;> (try first | rw [if_pos h] at hr | rw [if_neg h] at hr | rw [ifF h] at hr | rw [ifN h] at hr) <;> (try (have hb : (_ : Bool) = _ := h; clear h; subst hb; (try first | rw [if_pos rfl] at hr | rw [if_neg Bool.false_ne_true] at hr))) <;> first | (exfalso; omega) | exact absurd (h.symm.trans (by assumption) : true = false) Bool.noConfusion | exact absurd (h.symm.trans (by assumption) : false = true) Bool.noConfusion | (refine (?_ : T1 _ ?_) ?_; rotate_left 1; (conv => lhs; cbv; (try cbv); (try cbv)); intro hT; clear hT; refine Sh.mk (by kernel_rfl) ?_))
      | (with_reducible refine Alt.mk (fun h => ?_) (fun h => ?_) <;> (have hk := h) <;> (try simp only [decide_eq_true_eq, decide_eq_false_iff_not, Bool.not_eq_true', Bool.not_eq_false', Bool.not_eq_true, Bool.not_eq_false, Bool.not_true, Bool.not_false, ne_eq, Bool.false_eq_true, Bool.true_eq_false, reduceCtorEq, beq_iff_eq, beq_eq_false_iff_ne, not_true_eq_false, not_false_eq_true] at h) <;> (try dsimp only [writeSpec, closeSpec, tickSpec, ackSpec, countsSpec, rwriteSpec, rtickSpec, rackRSpec, rsameSpec, newWriSpec, rwriteF, rtickF, rackRF, sameF, countsF, RW.of, RW.t, Ty.T, Ty.dflt, KT.T, getM, putM, delM] at h) <;> (try simp only [natCast_eq] at h) <;> (try simp only [RW.eta, e1, e2, e3, e4] at h) <;> (try (exfalso; first | exact absurd rfl h | (rw [if_pos (by assumption)] at h; exact absurd rfl h) | (rw [ifF (by assumption)] at h; exact absurd rfl h) | (simp at h; done))) <;> (try first | rw [if_pos h] at hr | rw [if_neg h] at hr | rw [ifF h] at hr | rw [ifN h] at hr) <;> (try (have hb : (_ : Bool) = _ := h; clear h; subst hb; (try first | rw [if_pos rfl] at hr | rw [if_neg Bool.false_ne_true] at hr))) <;> first | (exfalso; omega) | exact absurd (h.symm.trans (by assumption) : true = false) Bool.noConfusion | exact absurd (h.symm.trans (by assumption) : false = true) Bool.noConfusion | (refine (?_ : T1 _ ?_) ?_; rotate_left 1; (conv => lhs; cbv; (try cbv); (try cbv)); intro hT; clear hT; refine Sh.mk (by kernel_rfl) ?_))
      | (with_reducible refine Pick.mk (fun h => ?_) (fun l1 x l2 h => ?_) <;> (refine (?_ : T1 _ ?_) ?_; rotate_left 1; (conv => lhs; cbv; (try cbv); (try cbv)); intro hT; clear hT; refine Sh.mk (by kernel_rfl) ?_))
      | ((with_reducible refine End.mk ?_); skip)
      | with_reducible exact True.intro)
    all_goals first
      | (fail_if_success (with_reducible refine Exists.intro ?_ ?_)
         first
           | with_reducible rfl
           | with_reducible assumption
           | (dsimp only [writeSpec, closeSpec, tickSpec, ackSpec, countsSpec, rwriteSpec, rtickSpec, rackRSpec, rsameSpec, newWriSpec, rwriteF, rtickF, rackRF, sameF, countsF, RW.of, RW.t, Ty.T, Ty.dflt, KT.T, getM, putM, delM, inI64, maxRow]; done)
           | (symm; with_reducible assumption)
           | (dsimp only [writeSpec, closeSpec, tickSpec, ackSpec, countsSpec, rwriteSpec, rtickSpec, rackRSpec, rsameSpec, newWriSpec, rwriteF, rtickF, rackRF, sameF, countsF, RW.of, RW.t, Ty.T, Ty.dflt, KT.T, getM, putM, delM, inI64, maxRow]; first | with_reducible rfl | with_reducible assumption | (symm; with_reducible assumption) | (simp only [natCast_eq]; with_reducible rfl) | omega)
           | omega
           | (dsimp only [writeSpec, closeSpec, tickSpec, ackSpec, countsSpec, rwriteSpec, rtickSpec, rackRSpec, rsameSpec, newWriSpec, rwriteF, rtickF, rackRF, sameF, countsF, RW.of, RW.t, Ty.T, Ty.dflt, KT.T, getM, putM, delM, inI64, maxRow]; (try simp only [natCast_eq, List.nil_append]); first | with_reducible rfl | exact take_cg (by omega) | exact drop_cg (by omega) | exact take_drop_cg (by omega) (by omega) | exact take_all (by omega) | exact take_drop_all (by omega) (by omega) | exact drop_take_cg (by omega) (by omega) (by omega))
           | first | (rw [hy2]; rfl) | (rw [hy2]; dsimp only [writeSpec, closeSpec, tickSpec, ackSpec, countsSpec, RW.of, RW.t, Ty.dflt]; simp only [RW.eta, e1, e2, e3, e4]; done)
           | ((try dsimp only [writeSpec, closeSpec, tickSpec, ackSpec, countsSpec, rwriteSpec, rtickSpec, rackRSpec, rsameSpec, newWriSpec, rwriteF, rtickF, rackRF, sameF, countsF, RW.of, RW.t, Ty.T, Ty.dflt, KT.T, getM, putM, delM, inI64, maxRow]); simp only [decide_eq_true_eq, decide_eq_false_iff_not, Bool.not_eq_true', Bool.not_eq_false', Bool.not_eq_true, Bool.not_eq_false, Bool.not_true, Bool.not_false, ne_eq, Bool.false_eq_true, Bool.true_eq_false, reduceCtorEq, beq_iff_eq, beq_eq_false_iff_ne, not_true_eq_false, not_false_eq_true, natCast_eq, inI64, maxRow]; first | done | with_reducible assumption | omega)
           | exact map_pair_id _
           | ((try dsimp only [writeSpec, closeSpec, tickSpec, ackSpec, countsSpec, rwriteSpec, rtickSpec, rackRSpec, rsameSpec, newWriSpec, rwriteF, rtickF, rackRF, sameF, countsF, RW.of, RW.t, Ty.T, Ty.dflt, KT.T, getM, putM, delM, inI64, maxRow]) <;> (try simp only [natCast_eq]) <;> omega)
           | ((try dsimp only [writeSpec, closeSpec, tickSpec, ackSpec, countsSpec, rwriteSpec, rtickSpec, rackRSpec, rsameSpec, newWriSpec, rwriteF, rtickF, rackRF, sameF, countsF, RW.of, RW.t, Ty.T, Ty.dflt, KT.T, getM, putM, delM, inI64, maxRow] at *) <;> (try simp only [natCast_eq] at *) <;> omega)
           | ((try dsimp only [writeSpec, closeSpec, tickSpec, ackSpec, countsSpec, rwriteSpec, rtickSpec, rackRSpec, rsameSpec, newWriSpec, rwriteF, rtickF, rackRF, sameF, countsF, RW.of, RW.t, Ty.T, Ty.dflt, KT.T, getM, putM, delM, inI64, maxRow] at *) <;> (try simp only [List.length_append, List.length_cons, List.length_nil, List.length_replicate, List.length_take, List.length_drop, natCast_eq] at *) <;> omega)
           | assumption
           | (symm; assumption)
           | (dsimp only; simp only [Bool.or_true, Bool.true_or, Bool.or_false, Bool.false_or, Bool.and_true, Bool.true_and, Bool.and_false, Bool.false_and, Bool.not_true, Bool.not_false, *]; done)
           | (simp; done)
           | (and_intros <;> first | trivial | with_reducible assumption | omega)
           | ((try dsimp only [writeSpec, closeSpec, tickSpec, ackSpec, countsSpec, rwriteSpec, rtickSpec, rackRSpec, rsameSpec, newWriSpec, rwriteF, rtickF, rackRF, sameF, countsF, RW.of, RW.t, Ty.T, Ty.dflt, KT.T, getM, putM, delM, inI64, maxRow] at *) <;> simp [*] <;> done))
      | skip
  · obtain ⟨y, hy1, hy2⟩ : ∃ y : LW L, y.i = i + 1 ∧ y.M = { M with closed := true } := ⟨⟨i + 1, { M with closed := true }, by omega, by omega, close_ok2 hok, hbt⟩, rfl, rfl⟩
    refine ⟨y, by dsimp only; (try simp only [natCast_eq]); omega, ?_⟩
    (try (conv in (LoopInv.inv _ _) => dsimp only)); (try (conv in (SS.mk _ _) => cbv; (try dsimp only [writeSpec, closeSpec, tickSpec, ackSpec, countsSpec, rwriteSpec, rtickSpec, rackRSpec, rsameSpec, newWriSpec, rwriteF, rtickF, rackRF, sameF, countsF, RW.of, RW.t, Ty.T, Ty.dflt, KT.T]); (try simp only [natCast_eq])))
    (refine (?_ : T1 _ ?_) ?_; rotate_left 1; (conv => lhs; cbv; (try cbv); (try cbv)); intro hT; clear hT; refine Sh.mk (by kernel_rfl) ?_)
    repeat' (first
      | with_reducible refine Ck.mk (C := tt) tt_intro ?_
      | with_reducible refine Ck.mk (show drawOk _ _ = true by kernel_rfl) ?_
      | with_reducible refine Ck.all_cons ?_
      | with_reducible refine Ck.all_nil ?_
      | with_reducible refine Ck.mk (by assumption) ?_
      | with_reducible refine Ck.mk (decide_eq_true (by assumption)) ?_
      | with_reducible refine Ck.mk (decide_eq_false (by assumption)) ?_
      | with_reducible refine Ck.mk ?_ ?_
      | (with_reducible refine Both.mk (fun h => ?_) (fun h => ?_) <;> (have hk := h) <;> (try simp only [decide_eq_true_eq, decide_eq_false_iff_not, Bool.not_eq_true', Bool.not_eq_false', Bool.not_eq_true, Bool.not_eq_false, Bool.not_true, Bool.not_false, ne_eq, Bool.false_eq_true, Bool.true_eq_false, reduceCtorEq, beq_iff_eq, beq_eq_false_iff_ne, not_true_eq_false, not_false_eq_true] at h) <;> (try dsimp only [writeSpec, closeSpec, tickSpec, ackSpec, countsSpec, rwriteSpec, rtickSpec, rackRSpec, rsameSpec, newWriSpec, rwriteF, rtickF, rackRF, sameF, countsF, RW.of, RW.t, Ty.T, Ty.dflt, KT.T, getM, putM, delM] at h) <;> (try simp only [natCast_eq] at h) <;> (try simp only [RW.eta, e1, e2, e3, e4] at h) <;> (try (exfalso; first | exact absurd rfl h | (rw [if_pos (by assumption)] at h; exact absurd rfl h) | (rw [ifF (by assumption)] at h; exact absurd rfl h) | (simp at h; done))) <;> (try first | rw [if_pos h] at hr | rw [if_neg h] at hr | rw [ifF h] at hr | rw [ifN h] at hr) <;> (try (have hb : (_ : Bool) = _ := h; clear h; subst hb; (try first | rw [if_pos rfl] at hr | rw [if_neg Bool.false_ne_true] at hr))) <;> first | (exfalso; omega) | exact absurd (h.symm.trans (by assumption) : true = false) Bool.noConfusion | exact absurd (h.symm.trans (by assumption) : false = true) Bool.noConfusion | (refine (?_ : T1 _ ?_) ?_; rotate_left 1; (conv => lhs; cbv; (try cbv); (try cbv)); intro hT; clear hT; refine Sh.mk (by kernel_rfl) ?_))
      | (with_reducible refine Alt.mk (fun h => ?_) (fun h => ?_) <;> (have hk := h) <;> (try simp only [decide_eq_true_eq, decide_eq_false_iff_not, Bool.not_eq_true', Bool.not_eq_false', Bool.not_eq_true, Bool.not_eq_false, Bool.not_true, Bool.not_false, ne_eq, Bool.false_eq_true, Bool.true_eq_false, reduceCtorEq, beq_iff_eq, beq_eq_false_iff_ne, not_true_eq_false, not_false_eq_true] at h) <;> (try dsimp only [writeSpec, closeSpec, tickSpec, ackSpec, countsSpec, rwriteSpec, rtickSpec, rackRSpec, rsameSpec, newWriSpec, rwriteF, rtickF, rackRF, sameF, countsF, RW.of, RW.t, Ty.T, Ty.dflt, KT.T, getM, putM, delM] at h) <;> (try simp only [natCast_eq] at h) <;> (try simp only [RW.eta, e1, e2, e3, e4] at h) <;> (try (exfalso; first | exact absurd rfl h | (rw [if_pos (by assumption)] at h; exact absurd rfl h) | (rw [ifF (by assumption)] at h; exact absurd rfl h) | (simp at h; done))) <;> (try first | rw [if_pos h] at hr | rw [if_neg h] at hr | rw [ifF h] at hr | rw [ifN h] at hr) <;> (try (have hb : (_ : Bool) = _ := h; clear h; subst hb; (try first | rw [if_pos rfl] at hr | rw [if_neg Bool.false_ne_true] at hr))) <;> first | (exfalso; omega) | exact absurd (h.symm.trans (by assumption) : true = false) Bool.noConfusion | exact absurd (h.symm.trans (by assumption) : false = true) Bool.noConfusion | (refine (?_ : T1 _ ?_) ?_; rotate_left 1; (conv => lhs; cbv; (try cbv); (try cbv)); intro hT; clear hT; refine Sh.mk (by kernel_rfl) ?_))
      | (with_reducible refine Pick.mk (fun h => ?_) (fun l1 x l2 h => ?_) <;> (refine (?_ : T1 _ ?_) ?_; rotate_left 1; (conv => lhs; cbv; (try cbv); (try cbv)); intro hT; clear hT; refine Sh.mk (by kernel_rfl) ?_))
      | ((with_reducible refine End.mk ?_); skip)
      | with_reducible exact True.intro)
    all_goals first
      | (fail_if_success (with_reducible refine Exists.intro ?_ ?_)
         first
           | with_reducible rfl
           | with_reducible assumption
           | (dsimp only [writeSpec, closeSpec, tickSpec, ackSpec, countsSpec, rwriteSpec, rtickSpec, rackRSpec, rsameSpec, newWriSpec, rwriteF, rtickF, rackRF, sameF, countsF, RW.of, RW.t, Ty.T, Ty.dflt, KT.T, getM, putM, delM, inI64, maxRow]; done)
           | (symm; with_reducible assumption)
           | (dsimp only [writeSpec, closeSpec, tickSpec, ackSpec, countsSpec, rwriteSpec, rtickSpec, rackRSpec, rsameSpec, newWriSpec, rwriteF, rtickF, rackRF, sameF, countsF, RW.of, RW.t, Ty.T, Ty.dflt, KT.T, getM, putM, delM, inI64, maxRow]; first | with_reducible rfl | with_reducible assumption | (symm; with_reducible assumption) | (simp only [natCast_eq]; with_reducible rfl) | omega)
           | omega
           | (dsimp only [writeSpec, closeSpec, tickSpec, ackSpec, countsSpec, rwriteSpec, rtickSpec, rackRSpec, rsameSpec, newWriSpec, rwriteF, rtickF, rackRF, sameF, countsF, RW.of, RW.t, Ty.T, Ty.dflt, KT.T, getM, putM, delM, inI64, maxRow]; (try simp only [natCast_eq, List.nil_append]); first | with_reducible rfl | exact take_cg (by omega) | exact drop_cg (by omega) | exact take_drop_cg (by omega) (by omega) | exact take_all (by omega) | exact take_drop_all (by omega) (by omega) | exact drop_take_cg (by omega) (by omega) (by omega))
           | first | (rw [hy2]; rfl) | (rw [hy2]; dsimp only [writeSpec, closeSpec, tickSpec, ackSpec, countsSpec, RW.of, RW.t, Ty.dflt]; simp only [RW.eta, e1, e2, e3, e4]; done)
           | ((try dsimp only [writeSpec, closeSpec, tickSpec, ackSpec, countsSpec, rwriteSpec, rtickSpec, rackRSpec, rsameSpec, newWriSpec, rwriteF, rtickF, rackRF, sameF, countsF, RW.of, RW.t, Ty.T, Ty.dflt, KT.T, getM, putM, delM, inI64, maxRow]); simp only [decide_eq_true_eq, decide_eq_false_iff_not, Bool.not_eq_true', Bool.not_eq_false', Bool.not_eq_true, Bool.not_eq_false, Bool.not_true, Bool.not_false, ne_eq, Bool.false_eq_true, Bool.true_eq_false, reduceCtorEq, beq_iff_eq, beq_eq_false_iff_ne, not_true_eq_false, not_false_eq_true, natCast_eq, inI64, maxRow]; first | done | with_reducible assumption | omega)
           | exact map_pair_id _
           | ((try dsimp only [writeSpec, closeSpec, tickSpec, ackSpec, countsSpec, rwriteSpec, rtickSpec, rackRSpec, rsameSpec, newWriSpec, rwriteF, rtickF, rackRF, sameF, countsF, RW.of, RW.t, Ty.T, Ty.dflt, KT.T, getM, putM, delM, inI64, maxRow]) <;> (try simp only [natCast_eq]) <;> omega)
           | ((try dsimp only [writeSpec, closeSpec, tickSpec, ackSpec, countsSpec, rwriteSpec, rtickSpec, rackRSpec, rsameSpec, newWriSpec, rwriteF, rtickF, rackRF, sameF, countsF, RW.of, RW.t, Ty.T, Ty.dflt, KT.T, getM, putM, delM, inI64, maxRow] at *) <;> (try simp only [natCast_eq] at *) <;> omega)
           | ((try dsimp only [writeSpec, closeSpec, tickSpec, ackSpec, countsSpec, rwriteSpec, rtickSpec, rackRSpec, rsameSpec, newWriSpec, rwriteF, rtickF, rackRF, sameF, countsF, RW.of, RW.t, Ty.T, Ty.dflt, KT.T, getM, putM, delM, inI64, maxRow] at *) <;> (try simp only [List.length_append, List.length_cons, List.length_nil, List.length_replicate, List.length_take, List.length_drop, natCast_eq] at *) <;> omega)
           | assumption
           | (symm; assumption)
           | (dsimp only; simp only [Bool.or_true, Bool.true_or, Bool.or_false, Bool.false_or, Bool.and_true, Bool.true_and, Bool.and_false, Bool.false_and, Bool.not_true, Bool.not_false, *]; done)
           | (simp; done)
           | (and_intros <;> first | trivial | with_reducible assumption | omega)
           | ((try dsimp only [writeSpec, closeSpec, tickSpec, ackSpec, countsSpec, rwriteSpec, rtickSpec, rackRSpec, rsameSpec, newWriSpec, rwriteF, rtickF, rackRF, sameF, countsF, RW.of, RW.t, Ty.T, Ty.dflt, KT.T, getM, putM, delM, inI64, maxRow] at *) <;> simp [*] <;> done))
      | skip
  · obtain ⟨y, hy1, hy2⟩ : ∃ y : LW L, y.i = i + 1 ∧ y.M = { M with closed := true } := ⟨⟨i + 1, { M with closed := true }, by omega, by omega, close_ok2 hok, hbt⟩, rfl, rfl⟩
    refine ⟨y, by dsimp only; (try simp only [natCast_eq]); omega, ?_⟩
    (try (conv in (LoopInv.inv _ _) => dsimp only)); (try (conv in (SS.mk _ _) => cbv; (try dsimp only [writeSpec, closeSpec, tickSpec, ackSpec, countsSpec, rwriteSpec, rtickSpec, rackRSpec, rsameSpec, newWriSpec, rwriteF, rtickF, rackRF, sameF, countsF, RW.of, RW.t, Ty.T, Ty.dflt, KT.T]); (try simp only [natCast_eq])))
    (refine (?_ : T1 _ ?_) ?_; rotate_left 1; (conv => lhs; cbv; (try cbv); (try cbv)); intro hT; clear hT; refine Sh.mk (by kernel_rfl) ?_)
    repeat' (first
      | with_reducible refine Ck.mk (C := tt) tt_intro ?_
      | with_reducible refine Ck.mk (show drawOk _ _ = true by kernel_rfl) ?_
      | with_reducible refine Ck.all_cons ?_
      | with_reducible refine Ck.all_nil ?_
      | with_reducible refine Ck.mk (by assumption) ?_
      | with_reducible refine Ck.mk (decide_eq_true (by assumption)) ?_
      | with_reducible refine Ck.mk (decide_eq_false (by assumption)) ?_
      | with_reducible refine Ck.mk ?_ ?_
      | (with_reducible refine Both.mk (fun h => ?_) (fun h => ?_) <;> (have hk := h) <;> (try simp only [decide_eq_true_eq, decide_eq_false_iff_not, Bool.not_eq_true', Bool.not_eq_false', Bool.not_eq_true, Bool.not_eq_false, Bool.not_true, Bool.not_false, ne_eq, Bool.false_eq_true, Bool.true_eq_false, reduceCtorEq, beq_iff_eq, beq_eq_false_iff_ne, not_true_eq_false, not_false_eq_true] at h) <;> (try dsimp only [writeSpec, closeSpec, tickSpec, ackSpec, countsSpec, rwriteSpec, rtickSpec, rackRSpec, rsameSpec, newWriSpec, rwriteF, rtickF, rackRF, sameF, countsF, RW.of, RW.t, Ty.T, Ty.dflt, KT.T, getM, putM, delM] at h) <;> (try simp only [natCast_eq] at h) <;> (try simp only [RW.eta, e1, e2, e3, e4] at h) <;> (try (exfalso; first | exact absurd rfl h | (rw [if_pos (by assumption)] at h; exact absurd rfl h) | (rw [ifF (by assumption)] at h; exact absurd rfl h) | (simp at h; done))) <;> (try first | rw [if_pos h] at hr | rw [if_neg h] at hr | rw [ifF h] at hr | rw [ifN h] at hr) <;> (try (have hb : (_ : Bool) = _ := h; clear h; subst hb; (try first | rw [if_pos rfl] at hr | rw [if_neg Bool.false_ne_true] at hr))) <;> first | (exfalso; omega) | exact absurd (h.symm.trans (by assumption) : true = false) Bool.noConfusion | exact absurd (h.symm.trans (by assumption) : false = true) Bool.noConfusion | (refine (?_ : T1 _ ?_) ?_; rotate_left 1; (conv => lhs; cbv; (try cbv); (try cbv)); intro hT; clear hT; refine Sh.mk (by kernel_rfl) ?_))
      | (with_reducible refine Alt.mk (fun h => ?_) (fun h => ?_) <;> (have hk := h) <;> (try simp only [decide_eq_true_eq, decide_eq_false_iff_not, Bool.not_eq_true', Bool.not_eq_false', Bool.not_eq_true, Bool.not_eq_false, Bool.not_true, Bool.not_false, ne_eq, Bool.false_eq_true, Bool.true_eq_false, reduceCtorEq, beq_iff_eq, beq_eq_false_iff_ne, not_true_eq_false, not_false_eq_true] at h) <;> (try dsimp only [writeSpec, closeSpec, tickSpec, ackSpec, countsSpec, rwriteSpec, rtickSpec, rackRSpec, rsameSpec, newWriSpec, rwriteF, rtickF, rackRF, sameF, countsF, RW.of, RW.t, Ty.T, Ty.dflt, KT.T, getM, putM, delM] at h) <;> (try simp only [natCast_eq] at h) <;> (try simp only [RW.eta, e1, e2, e3, e4] at h) <;> (try (exfalso; first | exact absurd rfl h | (rw [if_pos (by assumption)] at h; exact absurd rfl h) | (rw [ifF (by assumption)] at h; exact absurd rfl h) | (simp at h; done))) <;> (try first | rw [if_pos h] at hr | rw [if_neg h] at hr | rw [ifF h] at hr | rw [ifN h] at hr) <;> (try (have hb : (_ : Bool) = _ := h; clear h; subst hb; (try first | rw [if_pos rfl] at hr | rw [if_neg Bool.false_ne_true] at hr))) <;> first | (exfalso; omega) | exact absurd (h.symm.trans (by assumption) : true = false) Bool.noConfusion | exact absurd (h.symm.trans (by assumption) : false = true) Bool.noConfusion | (refine (?_ : T1 _ ?_) ?_; rotate_left 1; (conv => lhs; cbv; (try cbv); (try cbv)); intro hT; clear hT; refine Sh.mk (by kernel_rfl) ?_))
      | (with_reducible refine Pick.mk (fun h => ?_) (fun l1 x l2 h => ?_) <;> (refine (?_ : T1 _ ?_) ?_; rotate_left 1; (conv => lhs; cbv; (try cbv); (try cbv)); intro hT; clear hT; refine Sh.mk (by kernel_rfl) ?_))
      | ((with_reducible refine End.mk ?_); skip)
      | with_reducible exact True.intro)
    all_goals first
      | (fail_if_success (with_reducible refine Exists.intro ?_ ?_)
         first
           | with_reducible rfl
           | with_reducible assumption
           | (dsimp only [writeSpec, closeSpec, tickSpec, ackSpec, countsSpec, rwriteSpec, rtickSpec, rackRSpec, rsameSpec, newWriSpec, rwriteF, rtickF, rackRF, sameF, countsF, RW.of, RW.t, Ty.T, Ty.dflt, KT.T, getM, putM, delM, inI64, maxRow]; done)
           | (symm; with_reducible assumption)
           | (dsimp only [writeSpec, closeSpec, tickSpec, ackSpec, countsSpec, rwriteSpec, rtickSpec, rackRSpec, rsameSpec, newWriSpec, rwriteF, rtickF, rackRF, sameF, countsF, RW.of, RW.t, Ty.T, Ty.dflt, KT.T, getM, putM, delM, inI64, maxRow]; first | with_reducible rfl | with_reducible assumption | (symm; with_reducible assumption) | (simp only [natCast_eq]; with_reducible rfl) | omega)
           | omega
           | (dsimp only [writeSpec, closeSpec, tickSpec, ackSpec, countsSpec, rwriteSpec, rtickSpec, rackRSpec, rsameSpec, newWriSpec, rwriteF, rtickF, rackRF, sameF, countsF, RW.of, RW.t, Ty.T, Ty.dflt, KT.T, getM, putM, delM, inI64, maxRow]; (try simp only [natCast_eq, List.nil_append]); first | with_reducible rfl | exact take_cg (by omega) | exact drop_cg (by omega) | exact take_drop_cg (by omega) (by omega) | exact take_all (by omega) | exact take_drop_all (by omega) (by omega) | exact drop_take_cg (by omega) (by omega) (by omega))
           | first | (rw [hy2]; rfl) | (rw [hy2]; dsimp only [writeSpec, closeSpec, tickSpec, ackSpec, countsSpec, RW.of, RW.t, Ty.dflt]; simp only [RW.eta, e1, e2, e3, e4]; done)
           | ((try dsimp only [writeSpec, closeSpec, tickSpec, ackSpec, countsSpec, rwriteSpec, rtickSpec, rackRSpec, rsameSpec, newWriSpec, rwriteF, rtickF, rackRF, sameF, countsF, RW.of, RW.t, Ty.T, Ty.dflt, KT.T, getM, putM, delM, inI64, maxRow]); simp only [decide_eq_true_eq, decide_eq_false_iff_not, Bool.not_eq_true', Bool.not_eq_false', Bool.not_eq_true, Bool.not_eq_false, Bool.not_true, Bool.not_false, ne_eq, Bool.false_eq_true, Bool.true_eq_false, reduceCtorEq, beq_iff_eq, beq_eq_false_iff_ne, not_true_eq_false, not_false_eq_true, natCast_eq, inI64, maxRow]; first | done | with_reducible assumption | omega)
           | exact map_pair_id _
           | ((try dsimp only [writeSpec, closeSpec, tickSpec, ackSpec, countsSpec, rwriteSpec, rtickSpec, rackRSpec, rsameSpec, newWriSpec, rwriteF, rtickF, rackRF, sameF, countsF, RW.of, RW.t, Ty.T, Ty.dflt, KT.T, getM, putM, delM, inI64, maxRow]) <;> (try simp only [natCast_eq]) <;> omega)
           | ((try dsimp only [writeSpec, closeSpec, tickSpec, ackSpec, countsSpec, rwriteSpec, rtickSpec, rackRSpec, rsameSpec, newWriSpec, rwriteF, rtickF, rackRF, sameF, countsF, RW.of, RW.t, Ty.T, Ty.dflt, KT.T, getM, putM, delM, inI64, maxRow] at *) <;> (try simp only [natCast_eq] at *) <;> omega)
           | ((try dsimp only [writeSpec, closeSpec, tickSpec, ackSpec, countsSpec, rwriteSpec, rtickSpec, rackRSpec, rsameSpec, newWriSpec, rwriteF, rtickF, rackRF, sameF, countsF, RW.of, RW.t, Ty.T, Ty.dflt, KT.T, getM, putM, delM, inI64, maxRow] at *) <;> (try simp only [List.length_append, List.length_cons, List.length_nil, List.length_replicate, List.length_take, List.length_drop, natCast_eq] at *) <;> omega)
           | assumption
           | (symm; assumption)
           | (dsimp only; simp only [Bool.or_true, Bool.true_or, Bool.or_false, Bool.false_or, Bool.and_true, Bool.true_and, Bool.and_false, Bool.false_and, Bool.not_true, Bool.not_false, *]; done)
           | (simp; done)
           | (and_intros <;> first | trivial | with_reducible assumption | omega)
           | ((try dsimp only [writeSpec, closeSpec, tickSpec, ackSpec, countsSpec, rwriteSpec, rtickSpec, rackRSpec, rsameSpec, newWriSpec, rwriteF, rtickF, rackRF, sameF, countsF, RW.of, RW.t, Ty.T, Ty.dflt, KT.T, getM, putM, delM, inI64, maxRow] at *) <;> simp [*] <;> done))
      | skip
  · obtain ⟨y, hy1, hy2⟩ : ∃ y : LW L, y.i = i + 1 ∧ y.M = (refTick M (elA L i).2.1).1 := ⟨⟨i + 1, (refTick M (elA L i).2.1).1, by omega, by omega, tick_ok2 hok _, tick_by hbt _⟩, rfl, rfl⟩
    refine ⟨y, by dsimp only; (try simp only [natCast_eq]); omega, ?_⟩
    (try (conv in (LoopInv.inv _ _) => dsimp only)); (try (conv in (SS.mk _ _) => cbv; (try dsimp only [writeSpec, closeSpec, tickSpec, ackSpec, countsSpec, rwriteSpec, rtickSpec, rackRSpec, rsameSpec, newWriSpec, rwriteF, rtickF, rackRF, sameF, countsF, RW.of, RW.t, Ty.T, Ty.dflt, KT.T]); (try simp only [natCast_eq])))
    (refine (?_ : T1 _ ?_) ?_; rotate_left 1; (conv => lhs; cbv; (try cbv); (try cbv)); intro hT; clear hT; refine Sh.mk (by kernel_rfl) ?_)
    repeat' (first
      | with_reducible refine Ck.mk (C := tt) tt_intro ?_
      | with_reducible refine Ck.mk (show drawOk _ _ = true by kernel_rfl) ?_
      | with_reducible refine Ck.all_cons ?_
      | with_reducible refine Ck.all_nil ?_
      | with_reducible refine Ck.mk (by assumption) ?_
      | with_reducible refine Ck.mk (decide_eq_true (by assumption)) ?_
      | with_reducible refine Ck.mk (decide_eq_false (by assumption)) ?_
      | with_reducible refine Ck.mk ?_ ?_
      | (with_reducible refine Both.mk (fun h => ?_) (fun h => ?_) <;> (have hk := h) <;> (try simp only [decide_eq_true_eq, decide_eq_false_iff_not, Bool.not_eq_true', Bool.not_eq_false', Bool.not_eq_true, Bool.not_eq_false, Bool.not_true, Bool.not_false, ne_eq, Bool.false_eq_true, Bool.true_eq_false, reduceCtorEq, beq_iff_eq, beq_eq_false_iff_ne, not_true_eq_false, not_false_eq_true] at h) <;> (try dsimp only [writeSpec, closeSpec, tickSpec, ackSpec, countsSpec, rwriteSpec, rtickSpec, rackRSpec, rsameSpec, newWriSpec, rwriteF, rtickF, rackRF, sameF, countsF, RW.of, RW.t, Ty.T, Ty.dflt, KT.T, getM, putM, delM] at h) <;> (try simp only [natCast_eq] at h) <;> (try simp only [RW.eta, e1, e2, e3, e4] at h) <;> (try (exfalso; first | exact absurd rfl h | (rw [if_pos (by assumption)] at h; exact absurd rfl h) | (rw [ifF (by assumption)] at h; exact absurd rfl h) | (simp at h; done))) <;> (try first | rw [if_pos h] at hr | rw [if_neg h] at hr | rw [ifF h] at hr | rw [ifN h] at hr) <;> (try (have hb : (_ : Bool) = _ := h; clear h; subst hb; (try first | rw [if_pos rfl] at hr | rw [if_neg Bool.false_ne_true] at hr))) <;> first | (exfalso; omega) | exact absurd (h.symm.trans (by assumption) : true = false) Bool.noConfusion | exact absurd (h.symm.trans (by assumption) : false = true) Bool.noConfusion | (refine (?_ : T1 _ ?_) ?_; rotate_left 1; (conv => lhs; cbv; (try cbv); (try cbv)); intro hT; clear hT; refine Sh.mk (by kernel_rfl) ?_))
      | (with_reducible refine Alt.mk (fun h => ?_) (fun h => ?_) <;> (have hk := h) <;> (try simp only [decide_eq_true_eq, decide_eq_false_iff_not, Bool.not_eq_true', Bool.not_eq_false', Bool.not_eq_true, Bool.not_eq_false, Bool.not_true, Bool.not_false, ne_eq, Bool.false_eq_true, Bool.true_eq_false, reduceCtorEq, beq_iff_eq, beq_eq_false_iff_ne, not_true_eq_false, not_false_eq_true] at h) <;> (try dsimp only [writeSpec, closeSpec, tickSpec, ackSpec, countsSpec, rwriteSpec, rtickSpec, rackRSpec, rsameSpec, newWriSpec, rwriteF, rtickF, rackRF, sameF, countsF, RW.of, RW.t, Ty.T, Ty.dflt, KT.T, getM, putM, delM] at h) <;> (try simp only [natCast_eq] at h) <;> (try simp only [RW.eta, e1, e2, e3, e4] at h) <;> (try (exfalso; first | exact absurd rfl h | (rw [if_pos (by assumption)] at h; exact absurd rfl h) | (rw [ifF (by assumption)] at h; exact absurd rfl h) | (simp at h; done))) <;> (try first | rw [if_pos h] at hr | rw [if_neg h] at hr | rw [ifF h] at hr | rw [ifN h] at hr) <;> (try (have hb : (_ : Bool) = _ := h; clear h; subst hb; (try first | rw [if_pos rfl] at hr | rw [if_neg Bool.false_ne_true] at hr))) <;> first | (exfalso; omega) | exact absurd (h.symm.trans (by assumption) : true = false) Bool.noConfusion | exact absurd (h.symm.trans (by assumption) : false = true) Bool.noConfusion | (refine (?_ : T1 _ ?_) ?_; rotate_left 1; (conv => lhs; cbv; (try cbv); (try cbv)); intro hT; clear hT; refine Sh.mk (by kernel_rfl) ?_))
      | (with_reducible refine Pick.mk (fun h => ?_) (fun l1 x l2 h => ?_) <;> (refine (?_ : T1 _ ?_) ?_; rotate_left 1; (conv => lhs; cbv; (try cbv); (try cbv)); intro hT; clear hT; refine Sh.mk (by kernel_rfl) ?_))
      | ((with_reducible refine End.mk ?_); skip)
      | with_reducible exact True.intro)
    all_goals first
      | (fail_if_success (with_reducible refine Exists.intro ?_ ?_)
         first
           | with_reducible rfl
           | with_reducible assumption
           | (dsimp only [writeSpec, closeSpec, tickSpec, ackSpec, countsSpec, rwriteSpec, rtickSpec, rackRSpec, rsameSpec, newWriSpec, rwriteF, rtickF, rackRF, sameF, countsF, RW.of, RW.t, Ty.T, Ty.dflt, KT.T, getM, putM, delM, inI64, maxRow]; done)
           | (symm; with_reducible assumption)
           | (dsimp only [writeSpec, closeSpec, tickSpec, ackSpec, countsSpec, rwriteSpec, rtickSpec, rackRSpec, rsameSpec, newWriSpec, rwriteF, rtickF, rackRF, sameF, countsF, RW.of, RW.t, Ty.T, Ty.dflt, KT.T, getM, putM, delM, inI64, maxRow]; first | with_reducible rfl | with_reducible assumption | (symm; with_reducible assumption) | (simp only [natCast_eq]; with_reducible rfl) | omega)
           | omega
           | (dsimp only [writeSpec, closeSpec, tickSpec, ackSpec, countsSpec, rwriteSpec, rtickSpec, rackRSpec, rsameSpec, newWriSpec, rwriteF, rtickF, rackRF, sameF, countsF, RW.of, RW.t, Ty.T, Ty.dflt, KT.T, getM, putM, delM, inI64, maxRow]; (try simp only [natCast_eq, List.nil_append]); first | with_reducible rfl | exact take_cg (by omega) | exact drop_cg (by omega) | exact take_drop_cg (by omega) (by omega) | exact take_all (by omega) | exact take_drop_all (by omega) (by omega) | exact drop_take_cg (by omega) (by omega) (by omega))
           | first | (rw [hy2]; rfl) | (rw [hy2]; dsimp only [writeSpec, closeSpec, tickSpec, ackSpec, countsSpec, RW.of, RW.t, Ty.dflt]; simp only [RW.eta, e1, e2, e3, e4]; done)
           | ((try dsimp only [writeSpec, closeSpec, tickSpec, ackSpec, countsSpec, rwriteSpec, rtickSpec, rackRSpec, rsameSpec, newWriSpec, rwriteF, rtickF, rackRF, sameF, countsF, RW.of, RW.t, Ty.T, Ty.dflt, KT.T, getM, putM, delM, inI64, maxRow]); simp only [decide_eq_true_eq, decide_eq_false_iff_not, Bool.not_eq_true', Bool.not_eq_false', Bool.not_eq_true, Bool.not_eq_false, Bool.not_true, Bool.not_false, ne_eq, Bool.false_eq_true, Bool.true_eq_false, reduceCtorEq, beq_iff_eq, beq_eq_false_iff_ne, not_true_eq_false, not_false_eq_true, natCast_eq, inI64, maxRow]; first | done | with_reducible assumption | omega)
           | exact map_pair_id _
           | ((try dsimp only [writeSpec, closeSpec, tickSpec, ackSpec, countsSpec, rwriteSpec, rtickSpec, rackRSpec, rsameSpec, newWriSpec, rwriteF, rtickF, rackRF, sameF, countsF, RW.of, RW.t, Ty.T, Ty.dflt, KT.T, getM, putM, delM, inI64, maxRow]) <;> (try simp only [natCast_eq]) <;> omega)
           | ((try dsimp only [writeSpec, closeSpec, tickSpec, ackSpec, countsSpec, rwriteSpec, rtickSpec, rackRSpec, rsameSpec, newWriSpec, rwriteF, rtickF, rackRF, sameF, countsF, RW.of, RW.t, Ty.T, Ty.dflt, KT.T, getM, putM, delM, inI64, maxRow] at *) <;> (try simp only [natCast_eq] at *) <;> omega)
           | ((try dsimp only [writeSpec, closeSpec, tickSpec, ackSpec, countsSpec, rwriteSpec, rtickSpec, rackRSpec, rsameSpec, newWriSpec, rwriteF, rtickF, rackRF, sameF, countsF, RW.of, RW.t, Ty.T, Ty.dflt, KT.T, getM, putM, delM, inI64, maxRow] at *) <;> (try simp only [List.length_append, List.length_cons, List.length_nil, List.length_replicate, List.length_take, List.length_drop, natCast_eq] at *) <;> omega)
           | assumption
           | (symm; assumption)
           | (dsimp only; simp only [Bool.or_true, Bool.true_or, Bool.or_false, Bool.false_or, Bool.and_true, Bool.true_and, Bool.and_false, Bool.false_and, Bool.not_true, Bool.not_false, *]; done)
           | (simp; done)
           | (and_intros <;> first | trivial | with_reducible assumption | omega)
           | ((try dsimp only [writeSpec, closeSpec, tickSpec, ackSpec, countsSpec, rwriteSpec, rtickSpec, rackRSpec, rsameSpec, newWriSpec, rwriteF, rtickF, rackRF, sameF, countsF, RW.of, RW.t, Ty.T, Ty.dflt, KT.T, getM, putM, delM, inI64, maxRow] at *) <;> simp [*] <;> done))
      | skip
  · obtain ⟨y, hy1, hy2⟩ : ∃ y : LW L, y.i = i + 1 ∧ y.M = (refAck M (elA L i).2.1 (elA L i).2.2.1 (elA L i).2.2.2.1).1 := ⟨⟨i + 1, (refAck M (elA L i).2.1 (elA L i).2.2.1 (elA L i).2.2.2.1).1, by omega, by omega, ack_ok2 hok _ _ _, ack_by hbt _ _ _⟩, rfl, rfl⟩
    refine ⟨y, by dsimp only; (try simp only [natCast_eq]); omega, ?_⟩
    (try (conv in (LoopInv.inv _ _) => dsimp only)); (try (conv in (SS.mk _ _) => cbv; (try dsimp only [writeSpec, closeSpec, tickSpec, ackSpec, countsSpec, rwriteSpec, rtickSpec, rackRSpec, rsameSpec, newWriSpec, rwriteF, rtickF, rackRF, sameF, countsF, RW.of, RW.t, Ty.T, Ty.dflt, KT.T]); (try simp only [natCast_eq])))
    (refine (?_ : T1 _ ?_) ?_; rotate_left 1; (conv => lhs; cbv; (try cbv); (try cbv)); intro hT; clear hT; refine Sh.mk (by kernel_rfl) ?_)
    repeat' (first
      | with_reducible refine Ck.mk (C := tt) tt_intro ?_
      | with_reducible refine Ck.mk (show drawOk _ _ = true by kernel_rfl) ?_
      | with_reducible refine Ck.all_cons ?_
      | with_reducible refine Ck.all_nil ?_
      | with_reducible refine Ck.mk (by assumption) ?_
      | with_reducible refine Ck.mk (decide_eq_true (by assumption)) ?_
      | with_reducible refine Ck.mk (decide_eq_false (by assumption)) ?_
      | with_reducible refine Ck.mk ?_ ?_
      | (with_reducible refine Both.mk (fun h => ?_) (fun h => ?_) <;> (have hk := h) <;> (try simp only [decide_eq_true_eq, decide_eq_false_iff_not, Bool.not_eq_true', Bool.not_eq_false', Bool.not_eq_true, Bool.not_eq_false, Bool.not_true, Bool.not_false, ne_eq, Bool.false_eq_true, Bool.true_eq_false, reduceCtorEq, beq_iff_eq, beq_eq_false_iff_ne, not_true_eq_false, not_false_eq_true] at h) <;> (try dsimp only [writeSpec, closeSpec, tickSpec, ackSpec, countsSpec, rwriteSpec, rtickSpec, rackRSpec, rsameSpec, newWriSpec, rwriteF, rtickF, rackRF, sameF, countsF, RW.of, RW.t, Ty.T, Ty.dflt, KT.T, getM, putM, delM] at h) <;> (try simp only [natCast_eq] at h) <;> (try simp only [RW.eta, e1, e2, e3, e4] at h) <;> (try (exfalso; first | exact absurd rfl h | (rw [if_pos (by assumption)] at h; exact absurd rfl h) | (rw [ifF (by assumption)] at h; exact absurd rfl h) | (simp at h; done))) <;> (try first | rw [if_pos h] at hr | rw [if_neg h] at hr | rw [ifF h] at hr | rw [ifN h] at hr) <;> (try (have hb : (_ : Bool) = _ := h; clear h; subst hb; (try first | rw [if_pos rfl] at hr | rw [if_neg Bool.false_ne_true] at hr))) <;> first | (exfalso; omega) | exact absurd (h.symm.trans (by assumption) : true = false) Bool.noConfusion | exact absurd (h.symm.trans (by assumption) : false = true) Bool.noConfusion | (refine (?_ : T1 _ ?_) ?_; rotate_left 1; (conv => lhs; cbv; (try cbv); (try cbv)); intro hT; clear hT; refine Sh.mk (by kernel_rfl) ?_))
      | (with_reducible refine Alt.mk (fun h => ?_) (fun h => ?_) <;> (have hk := h) <;> (try simp only [decide_eq_true_eq, decide_eq_false_iff_not, Bool.not_eq_true', Bool.not_eq_false', Bool.not_eq_true, Bool.not_eq_false, Bool.not_true, Bool.not_false, ne_eq, Bool.false_eq_true, Bool.true_eq_false, reduceCtorEq, beq_iff_eq, beq_eq_false_iff_ne, not_true_eq_false, not_false_eq_true] at h) <;> (try dsimp only [writeSpec, closeSpec, tickSpec, ackSpec, countsSpec, rwriteSpec, rtickSpec, rackRSpec, rsameSpec, newWriSpec, rwriteF, rtickF, rackRF, sameF, countsF, RW.of, RW.t, Ty.T, Ty.dflt, KT.T, getM, putM, delM] at h) <;> (try simp only [natCast_eq] at h) <;> (try simp only [RW.eta, e1, e2, e3, e4] at h) <;> (try (exfalso; first | exact absurd rfl h | (rw [if_pos (by assumption)] at h; exact absurd rfl h) | (rw [ifF (by assumption)] at h; exact absurd rfl h) | (simp at h; done))) <;> (try first | rw [if_pos h] at hr | rw [if_neg h] at hr | rw [ifF h] at hr | rw [ifN h] at hr) <;> (try (have hb : (_ : Bool) = _ := h; clear h; subst hb; (try first | rw [if_pos rfl] at hr | rw [if_neg Bool.false_ne_true] at hr))) <;> first | (exfalso; omega) | exact absurd (h.symm.trans (by assumption) : true = false) Bool.noConfusion | exact absurd (h.symm.trans (by assumption) : false = true) Bool.noConfusion | (refine (?_ : T1 _ ?_) ?_; rotate_left 1; (conv => lhs; cbv; (try cbv); (try cbv)); intro hT; clear hT; refine Sh.mk (by kernel_rfl) ?_))
      | (with_reducible refine Pick.mk (fun h => ?_) (fun l1 x l2 h => ?_) <;> (refine (?_ : T1 _ ?_) ?_; rotate_left 1; (conv => lhs; cbv; (try cbv); (try cbv)); intro hT; clear hT; refine Sh.mk (by kernel_rfl) ?_))
      | ((with_reducible refine End.mk ?_); skip)
      | with_reducible exact True.intro)
    all_goals first
      | (fail_if_success (with_reducible refine Exists.intro ?_ ?_)
         first
           | with_reducible rfl
           | with_reducible assumption
           | (dsimp only [writeSpec, closeSpec, tickSpec, ackSpec, countsSpec, rwriteSpec, rtickSpec, rackRSpec, rsameSpec, newWriSpec, rwriteF, rtickF, rackRF, sameF, countsF, RW.of, RW.t, Ty.T, Ty.dflt, KT.T, getM, putM, delM, inI64, maxRow]; done)
           | (symm; with_reducible assumption)
           | (dsimp only [writeSpec, closeSpec, tickSpec, ackSpec, countsSpec, rwriteSpec, rtickSpec, rackRSpec, rsameSpec, newWriSpec, rwriteF, rtickF, rackRF, sameF, countsF, RW.of, RW.t, Ty.T, Ty.dflt, KT.T, getM, putM, delM, inI64, maxRow]; first | with_reducible rfl | with_reducible assumption | (symm; with_reducible assumption) | (simp only [natCast_eq]; with_reducible rfl) | omega)
           | omega
           | (dsimp only [writeSpec, closeSpec, tickSpec, ackSpec, countsSpec, rwriteSpec, rtickSpec, rackRSpec, rsameSpec, newWriSpec, rwriteF, rtickF, rackRF, sameF, countsF, RW.of, RW.t, Ty.T, Ty.dflt, KT.T, getM, putM, delM, inI64, maxRow]; (try simp only [natCast_eq, List.nil_append]); first | with_reducible rfl | exact take_cg (by omega) | exact drop_cg (by omega) | exact take_drop_cg (by omega) (by omega) | exact take_all (by omega) | exact take_drop_all (by omega) (by omega) | exact drop_take_cg (by omega) (by omega) (by omega))
           | first | (rw [hy2]; rfl) | (rw [hy2]; dsimp only [writeSpec, closeSpec, tickSpec, ackSpec, countsSpec, RW.of, RW.t, Ty.dflt]; simp only [RW.eta, e1, e2, e3, e4]; done)
           | ((try dsimp only [writeSpec, closeSpec, tickSpec, ackSpec, countsSpec, rwriteSpec, rtickSpec, rackRSpec, rsameSpec, newWriSpec, rwriteF, rtickF, rackRF, sameF, countsF, RW.of, RW.t, Ty.T, Ty.dflt, KT.T, getM, putM, delM, inI64, maxRow]); simp only [decide_eq_true_eq, decide_eq_false_iff_not, Bool.not_eq_true', Bool.not_eq_false', Bool.not_eq_true, Bool.not_eq_false, Bool.not_true, Bool.not_false, ne_eq, Bool.false_eq_true, Bool.true_eq_false, reduceCtorEq, beq_iff_eq, beq_eq_false_iff_ne, not_true_eq_false, not_false_eq_true, natCast_eq, inI64, maxRow]; first | done | with_reducible assumption | omega)
           | exact map_pair_id _
           | ((try dsimp only [writeSpec, closeSpec, tickSpec, ackSpec, countsSpec, rwriteSpec, rtickSpec, rackRSpec, rsameSpec, newWriSpec, rwriteF, rtickF, rackRF, sameF, countsF, RW.of, RW.t, Ty.T, Ty.dflt, KT.T, getM, putM, delM, inI64, maxRow]) <;> (try simp only [natCast_eq]) <;> omega)
           | ((try dsimp only [writeSpec, closeSpec, tickSpec, ackSpec, countsSpec, rwriteSpec, rtickSpec, rackRSpec, rsameSpec, newWriSpec, rwriteF, rtickF, rackRF, sameF, countsF, RW.of, RW.t, Ty.T, Ty.dflt, KT.T, getM, putM, delM, inI64, maxRow] at *) <;> (try simp only [natCast_eq] at *) <;> omega)
           | ((try dsimp only [writeSpec, closeSpec, tickSpec, ackSpec, countsSpec, rwriteSpec, rtickSpec, rackRSpec, rsameSpec, newWriSpec, rwriteF, rtickF, rackRF, sameF, countsF, RW.of, RW.t, Ty.T, Ty.dflt, KT.T, getM, putM, delM, inI64, maxRow] at *) <;> (try simp only [List.length_append, List.length_cons, List.length_nil, List.length_replicate, List.length_take, List.length_drop, natCast_eq] at *) <;> omega)
           | assumption
           | (symm; assumption)
           | (dsimp only; simp only [Bool.or_true, Bool.true_or, Bool.or_false, Bool.false_or, Bool.and_true, Bool.true_and, Bool.and_false, Bool.false_and, Bool.not_true, Bool.not_false, *]; done)
           | (simp; done)
           | (and_intros <;> first | trivial | with_reducible assumption | omega)
           | ((try dsimp only [writeSpec, closeSpec, tickSpec, ackSpec, countsSpec, rwriteSpec, rtickSpec, rackRSpec, rsameSpec, newWriSpec, rwriteF, rtickF, rackRF, sameF, countsF, RW.of, RW.t, Ty.T, Ty.dflt, KT.T, getM, putM, delM, inI64, maxRow] at *) <;> simp [*] <;> done))
      | skip
theorem wrt_sound : ConSound Try.prog AI 3 wrtSpec.con := PureSpec.sound Try.call3 (fun x h => wrt_ok x.1 x.2.1 x.2.2.1 h)
end Go.Proofs.Ytebhcmgfhkjmcaa
