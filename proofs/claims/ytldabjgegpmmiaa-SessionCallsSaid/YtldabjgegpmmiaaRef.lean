/-
  Layer 44: the reference's writer (Write, Tick, Same, Ack).
-/
import Derived.Test.YtldabjgegpmmiaaTab
import Derived.Test.YtldabjgegpmmiaaSto
namespace Go.Proofs.Ytldabjgegpmmiaa
set_option linter.all false
set_option linter.unusedVariables false
set_option linter.unusedSimpArgs false
set_option linter.unusedSectionVars false
open Go.RowKit Go.Sx
set_option maxRecDepth 100000
set_option maxHeartbeats 16000000

abbrev TW := Int × Int × Int × Int × Int × Int × Int × List Int × Bool × Bool × Bool × Bool
abbrev eW : Ty := .pair (.int .i64) (.pair (.int .i64) (.pair (.int .i64) (.pair (.int .i64) (.pair (.int .i64) (.pair (.int .i64) (.pair (.int .i64) (.pair .bytes (.pair .bool (.pair .bool (.pair .bool .bool))))))))))
structure RW where
  win : Int
  tmo : Int
  base : Int
  next : Int
  top : Int
  room : Int
  idle : Int
  data : List Int
  closed : Bool
  sent : Bool
  ever : Bool
  fin : Bool
def RW.of (x : TW) : RW := ⟨x.1, x.2.1, x.2.2.1, x.2.2.2.1, x.2.2.2.2.1, x.2.2.2.2.2.1, x.2.2.2.2.2.2.1, x.2.2.2.2.2.2.2.1, x.2.2.2.2.2.2.2.2.1, x.2.2.2.2.2.2.2.2.2.1, x.2.2.2.2.2.2.2.2.2.2.1, x.2.2.2.2.2.2.2.2.2.2.2⟩
def RW.t (M : RW) : TW := (M.win, M.tmo, M.base, M.next, M.top, M.room, M.idle, M.data, M.closed, M.sent, M.ever, M.fin)
theorem RW.of_t (M : RW) : RW.of M.t = M := rfl
structure OkM (M : RW) : Prop where
  win : 1 ≤ M.win ∧ M.win ≤ 1048576
  tmo : 1 ≤ M.tmo ∧ M.tmo ≤ 1000
  base : 0 ≤ M.base
  fits : M.data.length - M.base ≤ M.win
  taken : M.data.length ≤ 1048576
  next : M.base ≤ M.next ∧ M.next ≤ M.data.length
  top : M.next ≤ M.top ∧ M.top ≤ M.data.length
  room : 0 ≤ M.room ∧ M.room ≤ 1048576
  idle : 0 ≤ M.idle ∧ M.idle < M.tmo

abbrev rwN (M : RW) (l : List Int) : Int := min (min (l.length : Int) (M.win - (M.data.length - M.base))) (1048576 - M.data.length)
def refWrite (M : RW) (l : List Int) : RW × Int × Int :=
  if M.closed = true then (M, 0, 13) else ({ M with data := M.data ++ l.take (rwN M l).toNat }, rwN M l, 0)
abbrev segE : Ty := .pair (.int .i64) (.pair .bytes .bool)
def rwriteF (M : RW) (l : List Int) : Tup [DT.cell eW, .cell (.int .i64), .cell (.int .i64)] := ((refWrite M l).1.t, (refWrite M l).2.1, (refWrite M l).2.2, ())
def rwriteSpec : PureSpec := ⟨[.cell eW, .lst (.int .u8)], fun (x : TW × (List Int) × Unit) => OkM (RW.of x.1) ∧ x.2.1.length ≤ 1000000, [.cell eW, .cell (.int .i64), .cell (.int .i64)], fun (x : TW × (List Int) × Unit) => rwriteF (RW.of x.1) x.2.1⟩
theorem rwrite_ok (M : RW) (l : List Int) (h : rwriteSpec.pre (M.t, l, ())) : TmplOk Try.prog AI 58 (argS rwriteSpec.ds (fun _ => (M.t, l, ()))) [] (resOf (svs rwriteSpec.rs (fun _ => rwriteSpec.f (M.t, l, ())))) [] := by
  dsimp only [rwriteSpec] at h ⊢
  simp only [RW.of_t] at h ⊢
  generalize hr : rwriteF M l = r
  obtain ⟨⟨⟨h1, h2⟩, ⟨h3, h4⟩, h5, h6, h7, ⟨h9, h10⟩, ⟨h11, h12⟩, ⟨h13, h14⟩, h15, h16⟩, h17⟩ := h
  dsimp only [rwriteF, refWrite, rwN, RW.of, RW.t] at hr
  refine tmpl_of_body e0Ok mixed (fn := Try.f58) (c := bodyOf Try.f58) (by kernel_rfl) (by kernel_rfl) (by kernel_rfl) (Nat.le_of_ble_eq_true (by kernel_rfl)) ?_
  (try (conv in (LoopInv.inv _ _) => dsimp only)); (try (conv in (SS.mk _ _) => cbv; (try dsimp only [RW.of, RW.t, Ty.T, Ty.dflt, KT.T]); (try simp only [natCast_eq])))
  (with_reducible refine (?_ : T1 _ ?_) ?_; rotate_left 1; (conv => lhs; cbv; (try cbv); (try cbv)); intro hT; clear hT; with_reducible refine Sh.mk (by kernel_rfl) ?_)
  repeat' (first
    | with_reducible (first | refine Ck.mk (C := tt) tt_intro ?_ | refine Ck.mk (show drawOk _ _ = true by kernel_rfl) ?_ | refine Ck.all_cons ?_ | refine Ck.all_nil ?_ | refine Ck.mk (by assumption) ?_ | refine Ck.mk (decide_eq_true (by assumption)) ?_ | refine Ck.mk (decide_eq_false (by assumption)) ?_ | refine Ck.mk ?_ ?_)
    | (with_reducible (first | refine Both.mk (fun h => ?_) (fun h => ?_) | refine Alt.mk (fun h => ?_) (fun h => ?_) | refine Pick.mk (fun h => ?_) (fun l1 x l2 h => ?_)) <;> (have hk := h) <;> (try simp only [nrm, reduceCtorEq, pair_eta, map_idL] at h) <;> (try dsimp only [RW.of, RW.t, Ty.T, Ty.dflt, KT.T, getM, putM, delM] at h) <;> (try simp only [natCast_eq] at h) <;> skip <;> (try first | rw [if_pos h] at hr | rw [if_neg h] at hr | rw [ifF h] at hr | rw [ifN h] at hr) <;> (try (have hb : (_ : Bool) = _ := h; clear h; subst hb; (try first | rw [if_pos rfl] at hr | rw [if_neg Bool.false_ne_true] at hr))) <;> first | (exfalso; omega) | exact absurd (h.symm.trans (by assumption) : true = false) Bool.noConfusion | exact absurd (h.symm.trans (by assumption) : false = true) Bool.noConfusion | (with_reducible refine (?_ : T1 _ ?_) ?_; rotate_left 1; (conv => lhs; cbv; (try cbv); (try cbv)); intro hT; clear hT; with_reducible refine Sh.mk (by kernel_rfl) ?_))
    | ((with_reducible refine End.mk ?_); (try ((repeat (first | rw [if_pos (by first | assumption | omega)] at hr | rw [if_neg (by first | assumption | omega | (simp only [Bool.false_eq_true, Bool.true_eq_false, reduceCtorEq, not_false_eq_true]; done) | (simp only [Bool.not_eq_true]; assumption) | (simp only [Bool.not_eq_false]; assumption))] at hr | rw [if_pos rfl] at hr)); subst hr)))
    | with_reducible exact True.intro)
  all_goals first
    | (fail_if_success (with_reducible refine Exists.intro ?_ ?_)
       first
         | with_reducible rfl
         | with_reducible assumption
         | (symm; with_reducible assumption)
         | omega
         | ((try dsimp only [RW.of, RW.t, Ty.T, Ty.dflt, KT.T, getM, putM, delM, inI64, maxRow]); first | done | with_reducible rfl | with_reducible assumption | (symm; with_reducible assumption) | ((try simp only [natCast_eq, List.nil_append]); first | done | with_reducible rfl | omega | exact take_cg (by omega) | exact drop_cg (by omega) | exact take_drop_cg (by omega) (by omega) | exact take_all (by omega) | exact take_drop_all (by omega) (by omega) | exact drop_take_cg (by omega) (by omega) (by omega)))
         | ((try dsimp only [RW.of, RW.t, Ty.T, Ty.dflt, KT.T, getM, putM, delM, inI64, maxRow]); first | (simp only [nrm, reduceCtorEq, pair_eta, map_idL, natCast_eq, inI64, maxRow]; first | done | with_reducible assumption | omega) | exact map_pair_id _)
         | ((try dsimp only [RW.of, RW.t, Ty.T, Ty.dflt, KT.T, getM, putM, delM, inI64, maxRow] at *); first | ((try simp only [natCast_eq] at *) <;> omega) | ((try simp only [lens, natCast_eq] at *) <;> omega))
         | assumption
         | (symm; assumption)
         | (dsimp only; simp only [nrb, *]; done)
         | (simp; done)
         | (and_intros <;> first | trivial | with_reducible assumption | omega)
         | ((try dsimp only [RW.of, RW.t, Ty.T, Ty.dflt, KT.T, getM, putM, delM, inI64, maxRow] at *) <;> simp [*] <;> done))
    | skip
theorem rwrite_sound : ConSound Try.prog AI 58 rwriteSpec.con := PureSpec.sound Try.call58 (fun x h => rwrite_ok (RW.of x.1) x.2.1 h)
abbrev TSg := Int × List Int × Bool
abbrev rtN (M : RW) (m : Int) : Int := min (min (M.data.length - M.next) (M.base + M.room - M.next)) m
abbrev rtLast (M : RW) (m : Int) : Bool := M.closed && decide (M.next + rtN M m = M.data.length)
def rtI (M : RW) : RW × TSg × Bool :=
  if M.idle + 1 < M.tmo then ({ M with idle := M.idle + 1 }, (0, [], false), false)
  else if M.base < M.next then ({ M with idle := 0, next := M.base, sent := false }, (0, [], false), false)
  else if M.sent = true then ({ M with idle := 0, next := M.base, sent := false }, (0, [], false), false)
  else ({ M with idle := 0 }, (M.base, [], false), true)
def rtB (M : RW) : RW × TSg × Bool :=
  if M.base = M.next then (if M.next = M.data.length then (if M.sent = false then (M, (0, [], false), false) else if M.fin = true then (M, (0, [], false), false) else rtI M) else rtI M) else rtI M
def rtA (M : RW) : RW × TSg × Bool :=
  if M.closed = true then (if M.next = M.data.length then (if M.sent = false then (if M.fin = false then ({ M with sent := true, ever := true, idle := 0 }, (M.data.length, [], true), true) else rtB M) else rtB M) else rtB M) else rtB M
def refTick (M : RW) (m : Int) : RW × TSg × Bool :=
  if m < 1 then (M, (0, [], false), false)
  else if M.next < M.data.length then (if M.next < M.base + M.room then
    ({ M with next := M.next + rtN M m, idle := 0, top := max M.top (M.next + rtN M m), sent := M.sent || rtLast M m, ever := M.ever || rtLast M m }, (M.next, (M.data.drop M.next.toNat).take (rtN M m).toNat, rtLast M m), true) else rtA M) else rtA M
def rtickF (M : RW) (m : Int) : Tup [DT.cell eW, .cell segE, .cell .bool] := ((refTick M m).1.t, (refTick M m).2.1, (refTick M m).2.2, ())
def rtickSpec : PureSpec := ⟨[.cell eW, .cell (.int .i64)], fun (x : TW × Int × Unit) => OkM (RW.of x.1), [.cell eW, .cell segE, .cell .bool], fun (x : TW × Int × Unit) => rtickF (RW.of x.1) x.2.1⟩
theorem rtick_ok (M : RW) (m : Int) (h : rtickSpec.pre (M.t, m, ())) : TmplOk Try.prog AI 61 (argS rtickSpec.ds (fun _ => (M.t, m, ()))) [] (resOf (svs rtickSpec.rs (fun _ => rtickSpec.f (M.t, m, ())))) [] := by
  dsimp only [rtickSpec] at h ⊢
  simp only [RW.of_t] at h ⊢
  generalize hr : rtickF M m = r
  obtain ⟨⟨h1, h2⟩, ⟨h3, h4⟩, h5, h6, h7, ⟨h9, h10⟩, ⟨h11, h12⟩, ⟨h13, h14⟩, h15, h16⟩ := h
  dsimp only [rtickF, refTick, rtA, rtB, rtI, rtN, rtLast, RW.of, RW.t] at hr
  refine tmpl_of_body e0Ok mixed (fn := Try.f61) (c := bodyOf Try.f61) (by kernel_rfl) (by kernel_rfl) (by kernel_rfl) (Nat.le_of_ble_eq_true (by kernel_rfl)) ?_
  (try (conv in (LoopInv.inv _ _) => dsimp only)); (try (conv in (SS.mk _ _) => cbv; (try dsimp only [RW.of, RW.t, Ty.T, Ty.dflt, KT.T]); (try simp only [natCast_eq])))
  (with_reducible refine (?_ : T1 _ ?_) ?_; rotate_left 1; (conv => lhs; cbv; (try cbv); (try cbv)); intro hT; clear hT; with_reducible refine Sh.mk (by kernel_rfl) ?_)
  repeat' (first
    | with_reducible (first | refine Ck.mk (C := tt) tt_intro ?_ | refine Ck.mk (show drawOk _ _ = true by kernel_rfl) ?_ | refine Ck.all_cons ?_ | refine Ck.all_nil ?_ | refine Ck.mk (by assumption) ?_ | refine Ck.mk (decide_eq_true (by assumption)) ?_ | refine Ck.mk (decide_eq_false (by assumption)) ?_ | refine Ck.mk ?_ ?_)
    | (with_reducible (first | refine Both.mk (fun h => ?_) (fun h => ?_) | refine Alt.mk (fun h => ?_) (fun h => ?_) | refine Pick.mk (fun h => ?_) (fun l1 x l2 h => ?_)) <;> (have hk := h) <;> (try simp only [nrm, reduceCtorEq, pair_eta, map_idL] at h) <;> (try dsimp only [RW.of, RW.t, Ty.T, Ty.dflt, KT.T, getM, putM, delM] at h) <;> (try simp only [natCast_eq] at h) <;> skip <;> (try first | rw [if_pos h] at hr | rw [if_neg h] at hr | rw [ifF h] at hr | rw [ifN h] at hr) <;> (try (have hb : (_ : Bool) = _ := h; clear h; subst hb; (try first | rw [if_pos rfl] at hr | rw [if_neg Bool.false_ne_true] at hr))) <;> first | (exfalso; omega) | exact absurd (h.symm.trans (by assumption) : true = false) Bool.noConfusion | exact absurd (h.symm.trans (by assumption) : false = true) Bool.noConfusion | (with_reducible refine (?_ : T1 _ ?_) ?_; rotate_left 1; (conv => lhs; cbv; (try cbv); (try cbv)); intro hT; clear hT; with_reducible refine Sh.mk (by kernel_rfl) ?_))
    | ((with_reducible refine End.mk ?_); (try ((repeat (first | rw [if_pos (by first | assumption | omega)] at hr | rw [if_neg (by first | assumption | omega | (simp only [Bool.false_eq_true, Bool.true_eq_false, reduceCtorEq, not_false_eq_true]; done) | (simp only [Bool.not_eq_true]; assumption) | (simp only [Bool.not_eq_false]; assumption))] at hr | rw [if_pos rfl] at hr)); subst hr)))
    | with_reducible exact True.intro)
  all_goals first
    | (fail_if_success (with_reducible refine Exists.intro ?_ ?_)
       first
         | with_reducible rfl
         | with_reducible assumption
         | (symm; with_reducible assumption)
         | omega
         | ((try dsimp only [RW.of, RW.t, Ty.T, Ty.dflt, KT.T, getM, putM, delM, inI64, maxRow]); first | done | with_reducible rfl | with_reducible assumption | (symm; with_reducible assumption) | ((try simp only [natCast_eq, List.nil_append]); first | done | with_reducible rfl | omega | exact take_cg (by omega) | exact drop_cg (by omega) | exact take_drop_cg (by omega) (by omega) | exact take_all (by omega) | exact take_drop_all (by omega) (by omega) | exact drop_take_cg (by omega) (by omega) (by omega)))
         | ((try dsimp only [RW.of, RW.t, Ty.T, Ty.dflt, KT.T, getM, putM, delM, inI64, maxRow]); first | (simp only [nrm, reduceCtorEq, pair_eta, map_idL, natCast_eq, inI64, maxRow]; first | done | with_reducible assumption | omega) | exact map_pair_id _)
         | ((try dsimp only [RW.of, RW.t, Ty.T, Ty.dflt, KT.T, getM, putM, delM, inI64, maxRow] at *); first | ((try simp only [natCast_eq] at *) <;> omega) | ((try simp only [lens, natCast_eq] at *) <;> omega))
         | assumption
         | (symm; assumption)
         | (dsimp only; simp only [nrb, *]; done)
         | (simp; done)
         | (and_intros <;> first | trivial | with_reducible assumption | omega)
         | ((try dsimp only [RW.of, RW.t, Ty.T, Ty.dflt, KT.T, getM, putM, delM, inI64, maxRow] at *) <;> simp [*] <;> done))
    | skip
theorem rtick_sound : ConSound Try.prog AI 61 rtickSpec.con := PureSpec.sound Try.call61 (fun x h => rtick_ok (RW.of x.1) x.2.1 h)
def refAckM (M : RW) (o r : Int) (d : Bool) : RW × Int :=
  if o = M.base then ({ M with room := max M.room r, fin := M.fin || d }, 0)
  else if M.base < o then ({ M with base := o, room := r, idle := 0, next := max M.next o, fin := M.fin || d }, 0)
  else ({ M with fin := M.fin || d }, 0)
def refAck (M : RW) (o r : Int) (d : Bool) : RW × Int :=
  if o < 0 then (M, 2) else if M.top < o then (M, 2) else if r < 0 then (M, 2) else if 1048576 < r then (M, 2)
  else if d = true then (if M.closed = false then (M, 3) else if o = M.data.length then (if M.ever = false then (M, 3) else refAckM M o r d) else (M, 3)) else refAckM M o r d
def rackRF (M : RW) (o r : Int) (d : Bool) : Tup [DT.cell eW, .cell (.int .i64)] := ((refAck M o r d).1.t, (refAck M o r d).2, ())
def rackRSpec : PureSpec := ⟨[.cell eW, .cell (.int .i64), .cell (.int .i64), .cell .bool], fun (x : TW × Int × Int × Bool × Unit) => OkM (RW.of x.1), [.cell eW, .cell (.int .i64)], fun (x : TW × Int × Int × Bool × Unit) => rackRF (RW.of x.1) x.2.1 x.2.2.1 x.2.2.2.1⟩
theorem rackR_ok (M : RW) (o : Int) (r : Int) (d : Bool) (h : rackRSpec.pre (M.t, o, r, d, ())) : TmplOk Try.prog AI 66 (argS rackRSpec.ds (fun _ => (M.t, o, r, d, ()))) [] (resOf (svs rackRSpec.rs (fun _ => rackRSpec.f (M.t, o, r, d, ())))) [] := by
  dsimp only [rackRSpec] at h ⊢
  simp only [RW.of_t] at h ⊢
  generalize hr : rackRF M o r d = r
  obtain ⟨⟨h1, h2⟩, ⟨h3, h4⟩, h5, h6, h7, ⟨h9, h10⟩, ⟨h11, h12⟩, ⟨h13, h14⟩, h15, h16⟩ := h
  dsimp only [rackRF, refAck, refAckM, RW.of, RW.t] at hr
  refine tmpl_of_body e0Ok mixed (fn := Try.f66) (c := bodyOf Try.f66) (by kernel_rfl) (by kernel_rfl) (by kernel_rfl) (Nat.le_of_ble_eq_true (by kernel_rfl)) ?_
  (try (conv in (LoopInv.inv _ _) => dsimp only)); (try (conv in (SS.mk _ _) => cbv; (try dsimp only [RW.of, RW.t, Ty.T, Ty.dflt, KT.T]); (try simp only [natCast_eq])))
  (with_reducible refine (?_ : T1 _ ?_) ?_; rotate_left 1; (conv => lhs; cbv; (try cbv); (try cbv)); intro hT; clear hT; with_reducible refine Sh.mk (by kernel_rfl) ?_)
  repeat' (first
    | with_reducible (first | refine Ck.mk (C := tt) tt_intro ?_ | refine Ck.mk (show drawOk _ _ = true by kernel_rfl) ?_ | refine Ck.all_cons ?_ | refine Ck.all_nil ?_ | refine Ck.mk (by assumption) ?_ | refine Ck.mk (decide_eq_true (by assumption)) ?_ | refine Ck.mk (decide_eq_false (by assumption)) ?_ | refine Ck.mk ?_ ?_)
    | (with_reducible (first | refine Both.mk (fun h => ?_) (fun h => ?_) | refine Alt.mk (fun h => ?_) (fun h => ?_) | refine Pick.mk (fun h => ?_) (fun l1 x l2 h => ?_)) <;> (have hk := h) <;> (try simp only [nrm, reduceCtorEq, pair_eta, map_idL] at h) <;> (try dsimp only [RW.of, RW.t, Ty.T, Ty.dflt, KT.T, getM, putM, delM] at h) <;> (try simp only [natCast_eq] at h) <;> skip <;> (try first | rw [if_pos h] at hr | rw [if_neg h] at hr | rw [ifF h] at hr | rw [ifN h] at hr) <;> (try (have hb : (_ : Bool) = _ := h; clear h; subst hb; (try first | rw [if_pos rfl] at hr | rw [if_neg Bool.false_ne_true] at hr))) <;> first | (exfalso; omega) | exact absurd (h.symm.trans (by assumption) : true = false) Bool.noConfusion | exact absurd (h.symm.trans (by assumption) : false = true) Bool.noConfusion | (with_reducible refine (?_ : T1 _ ?_) ?_; rotate_left 1; (conv => lhs; cbv; (try cbv); (try cbv)); intro hT; clear hT; with_reducible refine Sh.mk (by kernel_rfl) ?_))
    | ((with_reducible refine End.mk ?_); (try ((repeat (first | rw [if_pos (by first | assumption | omega)] at hr | rw [if_neg (by first | assumption | omega | (simp only [Bool.false_eq_true, Bool.true_eq_false, reduceCtorEq, not_false_eq_true]; done) | (simp only [Bool.not_eq_true]; assumption) | (simp only [Bool.not_eq_false]; assumption))] at hr | rw [if_pos rfl] at hr)); subst hr)))
    | with_reducible exact True.intro)
  all_goals first
    | (fail_if_success (with_reducible refine Exists.intro ?_ ?_)
       first
         | with_reducible rfl
         | with_reducible assumption
         | (symm; with_reducible assumption)
         | omega
         | ((try dsimp only [RW.of, RW.t, Ty.T, Ty.dflt, KT.T, getM, putM, delM, inI64, maxRow]); first | done | with_reducible rfl | with_reducible assumption | (symm; with_reducible assumption) | ((try simp only [natCast_eq, List.nil_append]); first | done | with_reducible rfl | omega | exact take_cg (by omega) | exact drop_cg (by omega) | exact take_drop_cg (by omega) (by omega) | exact take_all (by omega) | exact take_drop_all (by omega) (by omega) | exact drop_take_cg (by omega) (by omega) (by omega)))
         | ((try dsimp only [RW.of, RW.t, Ty.T, Ty.dflt, KT.T, getM, putM, delM, inI64, maxRow]); first | (simp only [nrm, reduceCtorEq, pair_eta, map_idL, natCast_eq, inI64, maxRow]; first | done | with_reducible assumption | omega) | exact map_pair_id _)
         | ((try dsimp only [RW.of, RW.t, Ty.T, Ty.dflt, KT.T, getM, putM, delM, inI64, maxRow] at *); first | ((try simp only [natCast_eq] at *) <;> omega) | ((try simp only [lens, natCast_eq] at *) <;> omega))
         | assumption
         | (symm; assumption)
         | (dsimp only; simp only [nrb, *]; done)
         | (simp; done)
         | (and_intros <;> first | trivial | with_reducible assumption | omega)
         | ((try dsimp only [RW.of, RW.t, Ty.T, Ty.dflt, KT.T, getM, putM, delM, inI64, maxRow] at *) <;> simp [*] <;> done))
    | skip
theorem rackR_sound : ConSound Try.prog AI 66 rackRSpec.con := PureSpec.sound Try.call66 (fun x h => rackR_ok (RW.of x.1) x.2.1 x.2.2.1 x.2.2.2.1 h)
def sameF (x y : TSg) : Tup [DT.cell .bool] := (decide (x.1 = y.1) && decide (x.2.1 = y.2.1) && (x.2.2 == y.2.2), ())
def rsameSpec : PureSpec := ⟨[.cell segE, .cell segE], fun (x : TSg × TSg × Unit) => inBytes x.1.2.1 ∧ inBytes x.2.1.2.1, [.cell .bool], fun (x : TSg × TSg × Unit) => sameF x.1 x.2.1⟩
theorem rsame_ok (x : TSg) (y : TSg) (h : rsameSpec.pre (x, y, ())) : TmplOk Try.prog AI 47 (argS rsameSpec.ds (fun _ => (x, y, ()))) [] (resOf (svs rsameSpec.rs (fun _ => rsameSpec.f (x, y, ())))) [] := by
  dsimp only [rsameSpec] at h ⊢
  generalize hr : sameF x y = r
  dsimp only [sameF] at hr
  refine tmpl_of_body e0Ok mixed (fn := Try.f47) (c := bodyOf Try.f47) (by kernel_rfl) (by kernel_rfl) (by kernel_rfl) (Nat.le_of_ble_eq_true (by kernel_rfl)) ?_
  (try (conv in (LoopInv.inv _ _) => dsimp only)); (try (conv in (SS.mk _ _) => cbv; (try dsimp only [Ty.T, Ty.dflt, KT.T]); (try simp only [natCast_eq])))
  (with_reducible refine (?_ : T1 _ ?_) ?_; rotate_left 1; (conv => lhs; cbv; (try cbv); (try cbv)); intro hT; clear hT; with_reducible refine Sh.mk (by kernel_rfl) ?_)
  repeat' (first
    | with_reducible (first | refine Ck.mk (C := tt) tt_intro ?_ | refine Ck.mk (show drawOk _ _ = true by kernel_rfl) ?_ | refine Ck.all_cons ?_ | refine Ck.all_nil ?_ | refine Ck.mk (by assumption) ?_ | refine Ck.mk (decide_eq_true (by assumption)) ?_ | refine Ck.mk (decide_eq_false (by assumption)) ?_ | refine Ck.mk ?_ ?_)
    | (with_reducible (first | refine Both.mk (fun h => ?_) (fun h => ?_) | refine Alt.mk (fun h => ?_) (fun h => ?_) | refine Pick.mk (fun h => ?_) (fun l1 x l2 h => ?_)) <;> (have hk := h) <;> (try simp only [nrm, reduceCtorEq, pair_eta, map_idL] at h) <;> (try dsimp only [Ty.T, Ty.dflt, KT.T, getM, putM, delM] at h) <;> (try simp only [natCast_eq] at h) <;> skip <;> (try first | rw [if_pos h] at hr | rw [if_neg h] at hr | rw [ifF h] at hr | rw [ifN h] at hr) <;> (try (have hb : (_ : Bool) = _ := h; clear h; subst hb; (try first | rw [if_pos rfl] at hr | rw [if_neg Bool.false_ne_true] at hr))) <;> first | (exfalso; omega) | exact absurd (h.symm.trans (by assumption) : true = false) Bool.noConfusion | exact absurd (h.symm.trans (by assumption) : false = true) Bool.noConfusion | (with_reducible refine (?_ : T1 _ ?_) ?_; rotate_left 1; (conv => lhs; cbv; (try cbv); (try cbv)); intro hT; clear hT; with_reducible refine Sh.mk (by kernel_rfl) ?_))
    | ((with_reducible refine End.mk ?_); (try ((repeat (first | rw [if_pos (by first | assumption | omega)] at hr | rw [if_neg (by first | assumption | omega | (simp only [Bool.false_eq_true, Bool.true_eq_false, reduceCtorEq, not_false_eq_true]; done) | (simp only [Bool.not_eq_true]; assumption) | (simp only [Bool.not_eq_false]; assumption))] at hr | rw [if_pos rfl] at hr)); subst hr)))
    | with_reducible exact True.intro)
  all_goals first
    | (fail_if_success (with_reducible refine Exists.intro ?_ ?_)
       first
         | with_reducible rfl
         | with_reducible assumption
         | (symm; with_reducible assumption)
         | omega
         | ((try dsimp only [Ty.T, Ty.dflt, KT.T, getM, putM, delM, inI64, maxRow]); first | done | with_reducible rfl | with_reducible assumption | (symm; with_reducible assumption) | ((try simp only [natCast_eq, List.nil_append]); first | done | with_reducible rfl | omega | exact take_cg (by omega) | exact drop_cg (by omega) | exact take_drop_cg (by omega) (by omega) | exact take_all (by omega) | exact take_drop_all (by omega) (by omega) | exact drop_take_cg (by omega) (by omega) (by omega)))
         | ((try dsimp only [Ty.T, Ty.dflt, KT.T, getM, putM, delM, inI64, maxRow]); first | (simp only [nrm, reduceCtorEq, pair_eta, map_idL, natCast_eq, inI64, maxRow]; first | done | with_reducible assumption | omega) | exact map_pair_id _)
         | ((try dsimp only [Ty.T, Ty.dflt, KT.T, getM, putM, delM, inI64, maxRow] at *); first | ((try simp only [natCast_eq] at *) <;> omega) | ((try simp only [lens, natCast_eq] at *) <;> omega))
         | assumption
         | (symm; assumption)
         | (dsimp only; simp only [nrb, *]; done)
         | (simp; done)
         | (and_intros <;> first | trivial | with_reducible assumption | omega)
         | ((try dsimp only [Ty.T, Ty.dflt, KT.T, getM, putM, delM, inI64, maxRow] at *) <;> simp [*] <;> done))
    | skip
theorem rsame_sound : ConSound Try.prog AI 47 rsameSpec.con := PureSpec.sound Try.call47 (fun x h => rsame_ok x.1 x.2.1 h)
end Go.Proofs.Ytldabjgegpmmiaa
