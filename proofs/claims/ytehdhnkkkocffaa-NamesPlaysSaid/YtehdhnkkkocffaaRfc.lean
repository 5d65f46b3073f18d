/-
  Layer 40: the reference's Bind, Renew, Move, Drop, Look.
-/
import Derived.Test.YtehdhnkkkocffaaRfa
namespace Go.Proofs.Ytehdhnkkkocffaa
set_option linter.all false
set_option linter.unusedVariables false
set_option linter.unusedSimpArgs false
set_option linter.unusedSectionVars false
open Go.RowKit Go.Sx
set_option maxRecDepth 100000
set_option maxHeartbeats 16000000
abbrev atR (l : RL) (n : List Int) : RE := l.getD (fiR l n) re0
structure OkR (l : RL) : Prop where
  len : l.length ≤ 1048000
  byt : ∀ e ∈ l, inBytes e.1
  num : ∀ e ∈ l, (0 ≤ e.2.1 ∧ e.2.1 ≤ 1099511627776) ∧ (0 ≤ e.2.2.2.2.2.1 ∧ e.2.2.2.2.2.1 ≤ 1073741824) ∧ (0 ≤ e.2.2.2.2.2.2 ∧ e.2.2.2.2.2.2 ≤ 2147483648)
theorem len_ok {n : Nat} (h : n ≤ 1048000) : n ≤ 1048576 := by omega
theorem fiR_le (l : RL) (n : List Int) : fiR l n ≤ l.length := by
  induction l with
  | nil => exact Nat.le_refl _
  | cons x r ih =>
    unfold fiR
    split
    · exact Nat.zero_le _
    · simp only [List.length_cons]; omega
theorem fiR_i (l : RL) (n : List Int) : 0 ≤ ((fiR l n : Nat) : Int) ∧ ((fiR l n : Nat) : Int) ≤ l.length := by have := fiR_le l n; omega
abbrev RI := Tup [DT.lst reE, DT.cell (.int .i64)]
abbrev fI (l : RL) (n : List Int) : Int := ((fiR l n : Nat) : Int)
def rlookF (l : RL) (n : List Int) (t : Int) : Tup [DT.cell reE, DT.cell (.int .i64)] :=
  if vldF n = true then
    (if 0 ≤ t ∧ t ≤ 1073741824 then
      (if fI l n < (l.length : Int) then (if (l.getD (fI l n).toNat re0).2.2.1 = true then (if t < (l.getD (fI l n).toNat re0).2.2.2.2.2.2 then (l.getD (fI l n).toNat re0, 0, ()) else (re0, 7, ())) else (re0, 7, ())) else (re0, 7, ()))
    else (re0, 2, ()))
  else (re0, 3, ())
def rdropF (l : RL) (n : List Int) (v : Int) : RI :=
  if vldF n = true then
    (if fI l n = (l.length : Int) then (l, 7, ())
    else (if (l.getD (fI l n).toNat re0).2.2.1 = true then (if (l.getD (fI l n).toNat re0).2.1 = v then (putR l (fI l n) (n, v, false, 0, 0, 0, 0), 0, ()) else (l, 17, ())) else (l, 7, ())))
  else (l, 3, ())
theorem rpl_inl : ConSound Try.prog AI 41 (inl E0 Try.f41 0) := inl_sound e0Ok mixed (fn := Try.f41) (c := bodyOf Try.f41) Try.call41 (by kernel_rfl) (by kernel_rfl) (by kernel_rfl) 0
theorem rti_inl : ConSound Try.prog AI 42 (inl E0 Try.f42 0) := inl_sound e0Ok mixed (fn := Try.f42) (c := bodyOf Try.f42) Try.call42 (by kernel_rfl) (by kernel_rfl) (by kernel_rfl) 0
theorem rlv_inl : ConSound Try.prog AI 43 (inl E0 Try.f43 0) := inl_sound e0Ok mixed (fn := Try.f43) (c := bodyOf Try.f43) Try.call43 (by kernel_rfl) (by kernel_rfl) (by kernel_rfl) 0
noncomputable abbrev Er : Env Ab := ⟨tis, [(44, rputSpec.con), (32, rfindSpec.con), (43, inl E0 Try.f43 0), (42, inl E0 Try.f42 0), (41, inl E0 Try.f41 0), (20, strBoolCon vldF)] ++ E0.con⟩
theorem erOk : EnvOk Try.prog AI Er := ((((((e0Ok.add rvld_sound).add rpl_inl).add rti_inl).add rlv_inl).add rfind_sound).add rput_sound)
def rlookSpec : PureSpec := ⟨[.lst reE, .cell .str, .cell (.int .i64)], fun (x : RL × (List Int) × Int × Unit) => OkR x.1 ∧ inBytes x.2.1, [.cell reE, .cell (.int .i64)], fun (x : RL × (List Int) × Int × Unit) => rlookF x.1 x.2.1 x.2.2.1⟩
theorem rlook_ok (l : RL) (n : List Int) (t : Int) (h : rlookSpec.pre (l, n, t, ())) : TmplOk Try.prog AI 30 (argS rlookSpec.ds (fun _ => (l, n, t, ()))) [] (resOf (svs rlookSpec.rs (fun _ => rlookSpec.f (l, n, t, ())))) [] := by
  dsimp only [rlookSpec] at h ⊢
  generalize hr : rlookF l n t = r
  obtain ⟨hl, hn⟩ := h
  dsimp only [rlookF] at hr
  refine tmpl_of_body erOk mixed (fn := Try.f30) (c := bodyOf Try.f30) (by kernel_rfl) (by kernel_rfl) (by kernel_rfl) (Nat.le_of_ble_eq_true (by kernel_rfl)) ?_
  (try (conv in (LoopInv.inv _ _) => dsimp only)); (try (conv in (SS.mk _ _) => cbv; (try dsimp only [rfindSpec, rfindF, rputSpec, rputF, Ty.T, Ty.dflt, KT.T]); (try simp only [natCast_eq])))
  (with_reducible refine (?_ : T1 _ ?_) ?_; rotate_left 1; (conv => lhs; cbv; (try cbv); (try cbv)); intro hT; clear hT; with_reducible refine Sh.mk (by kernel_rfl) ?_)
  repeat' (first
    | with_reducible refine Ck.mk (C := tt) tt_intro ?_
    | with_reducible refine Ck.mk (show drawOk _ _ = true by kernel_rfl) ?_
    | with_reducible refine Ck.all_cons ?_
    | with_reducible refine Ck.all_nil ?_
    | with_reducible refine Ck.mk (by assumption) ?_
    | with_reducible refine Ck.mk (decide_eq_true (by assumption)) ?_
    | with_reducible refine Ck.mk (decide_eq_false (by assumption)) ?_
    | with_reducible refine Ck.mk ?_ ?_
    | (with_reducible refine Both.mk (fun h => ?_) (fun h => ?_) <;> (have hk := h) <;> (try simp only [decide_eq_true_eq, decide_eq_false_iff_not, Bool.not_eq_true', Bool.not_eq_false', Bool.not_eq_true, Bool.not_eq_false, Bool.not_true, Bool.not_false, ne_eq, Bool.false_eq_true, Bool.true_eq_false, reduceCtorEq, beq_iff_eq, beq_eq_false_iff_ne, not_true_eq_false, not_false_eq_true, pair_eta, map_idL] at h) <;> (try dsimp only [rfindSpec, rfindF, rputSpec, rputF, Ty.T, Ty.dflt, KT.T, getM, putM, delM] at h) <;> (try simp only [natCast_eq] at h) <;> (try simp only [pair_eta, map_idL] at h) <;> (try first | rw [if_pos h] at hr | rw [if_neg h] at hr | rw [ifF h] at hr | rw [ifN h] at hr) <;> (try (have hb : (_ : Bool) = _ := h; clear h; subst hb; (try first | rw [if_pos rfl] at hr | rw [if_neg Bool.false_ne_true] at hr))) <;> first | (exfalso; omega) | exact absurd (h.symm.trans (by assumption) : true = false) Bool.noConfusion | exact absurd (h.symm.trans (by assumption) : false = true) Bool.noConfusion | (with_reducible refine (?_ : T1 _ ?_) ?_; rotate_left 1; (conv => lhs; cbv; (try cbv); (try cbv)); intro hT; clear hT; with_reducible refine Sh.mk (by kernel_rfl) ?_))
    | (with_reducible refine Alt.mk (fun h => ?_) (fun h => ?_) <;> (have hk := h) <;> (try simp only [decide_eq_true_eq, decide_eq_false_iff_not, Bool.not_eq_true', Bool.not_eq_false', Bool.not_eq_true, Bool.not_eq_false, Bool.not_true, Bool.not_false, ne_eq, Bool.false_eq_true, Bool.true_eq_false, reduceCtorEq, beq_iff_eq, beq_eq_false_iff_ne, not_true_eq_false, not_false_eq_true, pair_eta, map_idL] at h) <;> (try dsimp only [rfindSpec, rfindF, rputSpec, rputF, Ty.T, Ty.dflt, KT.T, getM, putM, delM] at h) <;> (try simp only [natCast_eq] at h) <;> (try simp only [pair_eta, map_idL] at h) <;> (try first | rw [if_pos h] at hr | rw [if_neg h] at hr | rw [ifF h] at hr | rw [ifN h] at hr) <;> (try (have hb : (_ : Bool) = _ := h; clear h; subst hb; (try first | rw [if_pos rfl] at hr | rw [if_neg Bool.false_ne_true] at hr))) <;> first | (exfalso; omega) | exact absurd (h.symm.trans (by assumption) : true = false) Bool.noConfusion | exact absurd (h.symm.trans (by assumption) : false = true) Bool.noConfusion | (with_reducible refine (?_ : T1 _ ?_) ?_; rotate_left 1; (conv => lhs; cbv; (try cbv); (try cbv)); intro hT; clear hT; with_reducible refine Sh.mk (by kernel_rfl) ?_))
    | (with_reducible refine Pick.mk (fun h => ?_) (fun l1 x l2 h => ?_) <;> (with_reducible refine (?_ : T1 _ ?_) ?_; rotate_left 1; (conv => lhs; cbv; (try cbv); (try cbv)); intro hT; clear hT; with_reducible refine Sh.mk (by kernel_rfl) ?_))
    | ((with_reducible refine End.mk ?_); (try ((repeat (first | rw [if_pos (by first | assumption | omega)] at hr | rw [if_neg (by first | assumption | omega | (simp only [Bool.false_eq_true, Bool.true_eq_false, reduceCtorEq, not_false_eq_true]; done) | (simp only [Bool.not_eq_true]; assumption) | (simp only [Bool.not_eq_false]; assumption))] at hr | rw [if_pos rfl] at hr)); subst hr)))
    | with_reducible exact True.intro)
  all_goals first
    | (fail_if_success (with_reducible refine Exists.intro ?_ ?_)
       first
         | with_reducible rfl
         | with_reducible assumption
         | (dsimp only [rfindSpec, rfindF, rputSpec, rputF, Ty.T, Ty.dflt, KT.T, getM, putM, delM, inI64, maxRow]; done)
         | (symm; with_reducible assumption)
         | (dsimp only [rfindSpec, rfindF, rputSpec, rputF, Ty.T, Ty.dflt, KT.T, getM, putM, delM, inI64, maxRow]; first | with_reducible rfl | with_reducible assumption | (symm; with_reducible assumption) | (simp only [natCast_eq]; with_reducible rfl) | omega)
         | omega
         | (dsimp only [rfindSpec, rfindF, rputSpec, rputF, Ty.T, Ty.dflt, KT.T, getM, putM, delM, inI64, maxRow]; (try simp only [natCast_eq, List.nil_append]); first | with_reducible rfl | exact take_cg (by omega) | exact drop_cg (by omega) | exact take_drop_cg (by omega) (by omega) | exact take_all (by omega) | exact take_drop_all (by omega) (by omega) | exact drop_take_cg (by omega) (by omega) (by omega))
         | first | (dsimp only [Ty.T, KT.T, Ty.dflt]; simp only [pair_eta, map_idL]; exact ⟨⟨len_ok hl.len, hl.byt⟩, hn⟩) | (dsimp only [Ty.T, KT.T, Ty.dflt]; simp only [pair_eta, map_idL]; exact ⟨(fiR_i l n).1, h⟩) | (dsimp only [Ty.T, KT.T, Ty.dflt]; simp only [pair_eta, map_idL]; exact ⟨(fiR_i l n).1, by assumption⟩)
         | ((try dsimp only [rfindSpec, rfindF, rputSpec, rputF, Ty.T, Ty.dflt, KT.T, getM, putM, delM, inI64, maxRow]); simp only [decide_eq_true_eq, decide_eq_false_iff_not, Bool.not_eq_true', Bool.not_eq_false', Bool.not_eq_true, Bool.not_eq_false, Bool.not_true, Bool.not_false, ne_eq, Bool.false_eq_true, Bool.true_eq_false, reduceCtorEq, beq_iff_eq, beq_eq_false_iff_ne, not_true_eq_false, not_false_eq_true, pair_eta, map_idL, natCast_eq, inI64, maxRow]; first | done | with_reducible assumption | omega)
         | exact map_pair_id _
         | ((try dsimp only [rfindSpec, rfindF, rputSpec, rputF, Ty.T, Ty.dflt, KT.T, getM, putM, delM, inI64, maxRow]) <;> (try simp only [natCast_eq]) <;> omega)
         | ((try dsimp only [rfindSpec, rfindF, rputSpec, rputF, Ty.T, Ty.dflt, KT.T, getM, putM, delM, inI64, maxRow] at *) <;> (try simp only [natCast_eq] at *) <;> omega)
         | ((try dsimp only [rfindSpec, rfindF, rputSpec, rputF, Ty.T, Ty.dflt, KT.T, getM, putM, delM, inI64, maxRow] at *) <;> (try simp only [List.length_append, List.length_cons, List.length_nil, List.length_replicate, List.length_take, List.length_drop, natCast_eq] at *) <;> omega)
         | assumption
         | (symm; assumption)
         | (dsimp only; simp only [Bool.or_true, Bool.true_or, Bool.or_false, Bool.false_or, Bool.and_true, Bool.true_and, Bool.and_false, Bool.false_and, Bool.not_true, Bool.not_false, *]; done)
         | (simp; done)
         | (and_intros <;> first | trivial | with_reducible assumption | omega)
         | ((try dsimp only [rfindSpec, rfindF, rputSpec, rputF, Ty.T, Ty.dflt, KT.T, getM, putM, delM, inI64, maxRow] at *) <;> simp [*] <;> done))
    | skip
theorem rlook_sound : ConSound Try.prog AI 30 rlookSpec.con := PureSpec.sound Try.call30 (fun x h => rlook_ok x.1 x.2.1 x.2.2.1 h)
def rdropSpec : PureSpec := ⟨[.lst reE, .cell .str, .cell (.int .i64)], fun (x : RL × (List Int) × Int × Unit) => OkR x.1 ∧ inBytes x.2.1, [.lst reE, .cell (.int .i64)], fun (x : RL × (List Int) × Int × Unit) => rdropF x.1 x.2.1 x.2.2.1⟩
theorem rdrop_ok (l : RL) (n : List Int) (v : Int) (h : rdropSpec.pre (l, n, v, ())) : TmplOk Try.prog AI 29 (argS rdropSpec.ds (fun _ => (l, n, v, ()))) [] (resOf (svs rdropSpec.rs (fun _ => rdropSpec.f (l, n, v, ())))) [] := by
  dsimp only [rdropSpec] at h ⊢
  generalize hr : rdropF l n v = r
  obtain ⟨hl, hn⟩ := h
  dsimp only [rdropF] at hr
  refine tmpl_of_body erOk mixed (fn := Try.f29) (c := bodyOf Try.f29) (by kernel_rfl) (by kernel_rfl) (by kernel_rfl) (Nat.le_of_ble_eq_true (by kernel_rfl)) ?_
  (try (conv in (LoopInv.inv _ _) => dsimp only)); (try (conv in (SS.mk _ _) => cbv; (try dsimp only [rfindSpec, rfindF, rputSpec, rputF, Ty.T, Ty.dflt, KT.T]); (try simp only [natCast_eq])))
  (with_reducible refine (?_ : T1 _ ?_) ?_; rotate_left 1; (conv => lhs; cbv; (try cbv); (try cbv)); intro hT; clear hT; with_reducible refine Sh.mk (by kernel_rfl) ?_)
  repeat' (first
    | with_reducible refine Ck.mk (C := tt) tt_intro ?_
    | with_reducible refine Ck.mk (show drawOk _ _ = true by kernel_rfl) ?_
    | with_reducible refine Ck.all_cons ?_
    | with_reducible refine Ck.all_nil ?_
    | with_reducible refine Ck.mk (by assumption) ?_
    | with_reducible refine Ck.mk (decide_eq_true (by assumption)) ?_
    | with_reducible refine Ck.mk (decide_eq_false (by assumption)) ?_
    | with_reducible refine Ck.mk ?_ ?_
    | (with_reducible refine Both.mk (fun h => ?_) (fun h => ?_) <;> (have hk := h) <;> (try simp only [decide_eq_true_eq, decide_eq_false_iff_not, Bool.not_eq_true', Bool.not_eq_false', Bool.not_eq_true, Bool.not_eq_false, Bool.not_true, Bool.not_false, ne_eq, Bool.false_eq_true, Bool.true_eq_false, reduceCtorEq, beq_iff_eq, beq_eq_false_iff_ne, not_true_eq_false, not_false_eq_true, pair_eta, map_idL] at h) <;> (try dsimp only [rfindSpec, rfindF, rputSpec, rputF, Ty.T, Ty.dflt, KT.T, getM, putM, delM] at h) <;> (try simp only [natCast_eq] at h) <;> (try simp only [pair_eta, map_idL] at h) <;> (try first | rw [if_pos h] at hr | rw [if_neg h] at hr | rw [ifF h] at hr | rw [ifN h] at hr) <;> (try (have hb : (_ : Bool) = _ := h; clear h; subst hb; (try first | rw [if_pos rfl] at hr | rw [if_neg Bool.false_ne_true] at hr))) <;> first | (exfalso; omega) | exact absurd (h.symm.trans (by assumption) : true = false) Bool.noConfusion | exact absurd (h.symm.trans (by assumption) : false = true) Bool.noConfusion | (with_reducible refine (?_ : T1 _ ?_) ?_; rotate_left 1; (conv => lhs; cbv; (try cbv); (try cbv)); intro hT; clear hT; with_reducible refine Sh.mk (by kernel_rfl) ?_))
    | (with_reducible refine Alt.mk (fun h => ?_) (fun h => ?_) <;> (have hk := h) <;> (try simp only [decide_eq_true_eq, decide_eq_false_iff_not, Bool.not_eq_true', Bool.not_eq_false', Bool.not_eq_true, Bool.not_eq_false, Bool.not_true, Bool.not_false, ne_eq, Bool.false_eq_true, Bool.true_eq_false, reduceCtorEq, beq_iff_eq, beq_eq_false_iff_ne, not_true_eq_false, not_false_eq_true, pair_eta, map_idL] at h) <;> (try dsimp only [rfindSpec, rfindF, rputSpec, rputF, Ty.T, Ty.dflt, KT.T, getM, putM, delM] at h) <;> (try simp only [natCast_eq] at h) <;> (try simp only [pair_eta, map_idL] at h) <;> (try first | rw [if_pos h] at hr | rw [if_neg h] at hr | rw [ifF h] at hr | rw [ifN h] at hr) <;> (try (have hb : (_ : Bool) = _ := h; clear h; subst hb; (try first | rw [if_pos rfl] at hr | rw [if_neg Bool.false_ne_true] at hr))) <;> first | (exfalso; omega) | exact absurd (h.symm.trans (by assumption) : true = false) Bool.noConfusion | exact absurd (h.symm.trans (by assumption) : false = true) Bool.noConfusion | (with_reducible refine (?_ : T1 _ ?_) ?_; rotate_left 1; (conv => lhs; cbv; (try cbv); (try cbv)); intro hT; clear hT; with_reducible refine Sh.mk (by kernel_rfl) ?_))
    | (with_reducible refine Pick.mk (fun h => ?_) (fun l1 x l2 h => ?_) <;> (with_reducible refine (?_ : T1 _ ?_) ?_; rotate_left 1; (conv => lhs; cbv; (try cbv); (try cbv)); intro hT; clear hT; with_reducible refine Sh.mk (by kernel_rfl) ?_))
    | ((with_reducible refine End.mk ?_); (try ((repeat (first | rw [if_pos (by first | assumption | omega)] at hr | rw [if_neg (by first | assumption | omega | (simp only [Bool.false_eq_true, Bool.true_eq_false, reduceCtorEq, not_false_eq_true]; done) | (simp only [Bool.not_eq_true]; assumption) | (simp only [Bool.not_eq_false]; assumption))] at hr | rw [if_pos rfl] at hr)); subst hr)))
    | with_reducible exact True.intro)
  all_goals first
    | (fail_if_success (with_reducible refine Exists.intro ?_ ?_)
       first
         | with_reducible rfl
         | with_reducible assumption
         | (dsimp only [rfindSpec, rfindF, rputSpec, rputF, Ty.T, Ty.dflt, KT.T, getM, putM, delM, inI64, maxRow]; done)
         | (symm; with_reducible assumption)
         | (dsimp only [rfindSpec, rfindF, rputSpec, rputF, Ty.T, Ty.dflt, KT.T, getM, putM, delM, inI64, maxRow]; first | with_reducible rfl | with_reducible assumption | (symm; with_reducible assumption) | (simp only [natCast_eq]; with_reducible rfl) | omega)
         | omega
         | (dsimp only [rfindSpec, rfindF, rputSpec, rputF, Ty.T, Ty.dflt, KT.T, getM, putM, delM, inI64, maxRow]; (try simp only [natCast_eq, List.nil_append]); first | with_reducible rfl | exact take_cg (by omega) | exact drop_cg (by omega) | exact take_drop_cg (by omega) (by omega) | exact take_all (by omega) | exact take_drop_all (by omega) (by omega) | exact drop_take_cg (by omega) (by omega) (by omega))
         | first | (dsimp only [Ty.T, KT.T, Ty.dflt]; simp only [pair_eta, map_idL]; exact ⟨⟨len_ok hl.len, hl.byt⟩, hn⟩) | (dsimp only [Ty.T, KT.T, Ty.dflt]; simp only [pair_eta, map_idL]; exact ⟨(fiR_i l n).1, lt_ne (fiR_i l n).2 (by assumption)⟩) | (dsimp only [Ty.T, KT.T, Ty.dflt]; simp only [pair_eta, map_idL]; exact ⟨len_ok hl.len, fiR_i l n⟩)
         | ((try dsimp only [rfindSpec, rfindF, rputSpec, rputF, Ty.T, Ty.dflt, KT.T, getM, putM, delM, inI64, maxRow]); simp only [decide_eq_true_eq, decide_eq_false_iff_not, Bool.not_eq_true', Bool.not_eq_false', Bool.not_eq_true, Bool.not_eq_false, Bool.not_true, Bool.not_false, ne_eq, Bool.false_eq_true, Bool.true_eq_false, reduceCtorEq, beq_iff_eq, beq_eq_false_iff_ne, not_true_eq_false, not_false_eq_true, pair_eta, map_idL, natCast_eq, inI64, maxRow]; first | done | with_reducible assumption | omega)
         | exact map_pair_id _
         | ((try dsimp only [rfindSpec, rfindF, rputSpec, rputF, Ty.T, Ty.dflt, KT.T, getM, putM, delM, inI64, maxRow]) <;> (try simp only [natCast_eq]) <;> omega)
         | ((try dsimp only [rfindSpec, rfindF, rputSpec, rputF, Ty.T, Ty.dflt, KT.T, getM, putM, delM, inI64, maxRow] at *) <;> (try simp only [natCast_eq] at *) <;> omega)
         | ((try dsimp only [rfindSpec, rfindF, rputSpec, rputF, Ty.T, Ty.dflt, KT.T, getM, putM, delM, inI64, maxRow] at *) <;> (try simp only [List.length_append, List.length_cons, List.length_nil, List.length_replicate, List.length_take, List.length_drop, natCast_eq] at *) <;> omega)
         | assumption
         | (symm; assumption)
         | (dsimp only; simp only [Bool.or_true, Bool.true_or, Bool.or_false, Bool.false_or, Bool.and_true, Bool.true_and, Bool.and_false, Bool.false_and, Bool.not_true, Bool.not_false, *]; done)
         | (simp; done)
         | (and_intros <;> first | trivial | with_reducible assumption | omega)
         | ((try dsimp only [rfindSpec, rfindF, rputSpec, rputF, Ty.T, Ty.dflt, KT.T, getM, putM, delM, inI64, maxRow] at *) <;> simp [*] <;> done))
    | skip
theorem rdrop_sound : ConSound Try.prog AI 29 rdropSpec.con := PureSpec.sound Try.call29 (fun x h => rdrop_ok x.1 x.2.1 x.2.2.1 h)
end Go.Proofs.Ytehdhnkkkocffaa
