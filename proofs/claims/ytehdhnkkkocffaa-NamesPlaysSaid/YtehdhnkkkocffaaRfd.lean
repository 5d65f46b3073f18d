/-
  Layer 40: the reference's Bind, Renew, Move.
-/
import Derived.Test.YtehdhnkkkocffaaRfc
namespace Go.Proofs.Ytehdhnkkkocffaa
set_option linter.all false
set_option linter.unusedVariables false
set_option linter.unusedSimpArgs false
set_option linter.unusedSectionVars false
open Go.RowKit Go.Sx
set_option maxRecDepth 100000
set_option maxHeartbeats 16000000
abbrev atI (l : RL) (n : List Int) : RE := l.getD (fI l n).toNat re0
theorem atI_num {l : RL} (h : OkR l) (n : List Int) : (0 ≤ (atI l n).2.1 ∧ (atI l n).2.1 ≤ 1099511627776) ∧ (0 ≤ (atI l n).2.2.2.2.2.1 ∧ (atI l n).2.2.2.2.2.1 ≤ 1073741824) ∧ (0 ≤ (atI l n).2.2.2.2.2.2 ∧ (atI l n).2.2.2.2.2.2 ≤ 2147483648) := by
  unfold atI
  rw [List.getD_eq_getElem?_getD]
  cases e : l[(fI l n).toNat]? with
  | none => exact ⟨by decide, by decide, by decide⟩
  | some v => exact h.num v (List.mem_of_getElem? e)
theorem r_v1 {v : Int} (h : 0 ≤ v ∧ v ≤ 1099511627776) : inI64 (v + 1) := by unfold inI64; omega
theorem r_tl {t w : Int} (h0 : 0 ≤ t) (h1 : t ≤ 1073741824) (h : 0 ≤ w ∧ w ≤ 1073741824) : inI64 (t + w) := by unfold inI64; omega
def rrenewF (l : RL) (n : List Int) (v t : Int) : RI :=
  if vldF n = true then
    (if 0 ≤ t ∧ t ≤ 1073741824 then
      (if fI l n < (l.length : Int) then (if (atI l n).2.2.1 = true then (if t < (atI l n).2.2.2.2.2.2 then (if (atI l n).2.1 = v then (putR l (fI l n) ((atI l n).1, (atI l n).2.1, (atI l n).2.2.1, (atI l n).2.2.2.1, (atI l n).2.2.2.2.1, (atI l n).2.2.2.2.2.1, max (atI l n).2.2.2.2.2.2 (t + (atI l n).2.2.2.2.2.1)), 0, ()) else (l, 17, ())) else (l, 7, ())) else (l, 7, ())) else (l, 7, ()))
    else (l, 2, ()))
  else (l, 3, ())
def rmoveF (l : RL) (n : List Int) (v nd pt t : Int) : RI :=
  if vldF n = true then
    (if 0 ≤ nd ∧ nd < 16 ∧ 0 ≤ pt ∧ pt < 8 ∧ 0 ≤ t ∧ t ≤ 1073741824 then
      (if fI l n < (l.length : Int) then (if (atI l n).2.2.1 = true then (if t < (atI l n).2.2.2.2.2.2 then (if (atI l n).2.1 = v then (putR l (fI l n) ((atI l n).1, (atI l n).2.1 + 1, (atI l n).2.2.1, nd, pt, (atI l n).2.2.2.2.2.1, (atI l n).2.2.2.2.2.2), 0, ()) else (l, 17, ())) else (l, 7, ())) else (l, 7, ())) else (l, 7, ()))
    else (l, 2, ()))
  else (l, 3, ())
theorem rfa_inl : ConSound Try.prog AI 45 (inl Er Try.f45 0) := inl_sound erOk mixed (fn := Try.f45) (c := bodyOf Try.f45) Try.call45 (by kernel_rfl) (by kernel_rfl) (by kernel_rfl) 0
noncomputable abbrev Eg : Env Ab := ⟨tis, [(45, inl Er Try.f45 0)] ++ Er.con⟩
theorem egOk : EnvOk Try.prog AI Eg := (erOk.add rfa_inl)
def rrenewSpec : PureSpec := ⟨[.lst reE, .cell .str, .cell (.int .i64), .cell (.int .i64)], fun (x : RL × (List Int) × Int × Int × Unit) => OkR x.1 ∧ inBytes x.2.1, [.lst reE, .cell (.int .i64)], fun (x : RL × (List Int) × Int × Int × Unit) => rrenewF x.1 x.2.1 x.2.2.1 x.2.2.2.1⟩
theorem rrenew_ok (l : RL) (n : List Int) (v : Int) (t : Int) (h : rrenewSpec.pre (l, n, v, t, ())) : TmplOk Try.prog AI 27 (argS rrenewSpec.ds (fun _ => (l, n, v, t, ()))) [] (resOf (svs rrenewSpec.rs (fun _ => rrenewSpec.f (l, n, v, t, ())))) [] := by
  dsimp only [rrenewSpec] at h ⊢
  generalize hr : rrenewF l n v t = r
  have hN := atI_num h.1 n
  obtain ⟨hl, hn⟩ := h
  dsimp only [rrenewF] at hr
  refine tmpl_of_body egOk mixed (fn := Try.f27) (c := bodyOf Try.f27) (by kernel_rfl) (by kernel_rfl) (by kernel_rfl) (Nat.le_of_ble_eq_true (by kernel_rfl)) ?_
  (try (conv in (LoopInv.inv _ _) => dsimp only)); (try (conv in (SS.mk _ _) => cbv; (try dsimp only [rfindSpec, rfindF, rputSpec, rputF, Ty.T, Ty.dflt, KT.T]); (try simp only [natCast_eq])))
  (with_reducible refine (?_ : T1 _ ?_) ?_; rotate_left 1; (conv => lhs; cbv; (try cbv); (try cbv)); intro hT; clear hT; with_reducible refine Sh.mk (by kernel_rfl) ?_)
  repeat' (first
    | with_reducible refine Ck.mk (C := tt) tt_intro ?_
    | with_reducible refine Ck.mk (show drawOk _ _ = true by kernel_rfl) ?_
    | with_reducible refine Ck.all_cons ?_
    | with_reducible refine Ck.all_nil ?_
    | with_reducible refine Ck.mk (by assumption) ?_
    | with_reducible refine Ck.mk (decide_eq_true (by assumption)) ?_
    | with_reducible refine Ck.mk (decide_eq_false (by assumption)) ?_
    | with_reducible refine Ck.mk ?_ ?_
    | (with_reducible refine Both.mk (fun h => ?_) (fun h => ?_) <;> (have hk := h) <;> (try simp only [decide_eq_true_eq, decide_eq_false_iff_not, Bool.not_eq_true', Bool.not_eq_false', Bool.not_eq_true, Bool.not_eq_false, Bool.not_true, Bool.not_false, ne_eq, Bool.false_eq_true, Bool.true_eq_false, reduceCtorEq, beq_iff_eq, beq_eq_false_iff_ne, not_true_eq_false, not_false_eq_true, pair_eta, map_idL] at h) <;> (try dsimp only [rfindSpec, rfindF, rputSpec, rputF, Ty.T, Ty.dflt, KT.T, getM, putM, delM] at h) <;> (try simp only [natCast_eq] at h) <;> (try simp only [pair_eta, map_idL] at h) <;> (try first | rw [if_pos h] at hr | rw [if_neg h] at hr | rw [ifF h] at hr | rw [ifN h] at hr) <;> (try (have hb : (_ : Bool) = _ := h; clear h; subst hb; (try first | rw [if_pos rfl] at hr | rw [if_neg Bool.false_ne_true] at hr))) <;> first | (exfalso; omega) | exact absurd (h.symm.trans (by assumption) : true = false) Bool.noConfusion | exact absurd (h.symm.trans (by assumption) : false = true) Bool.noConfusion | (with_reducible refine (?_ : T1 _ ?_) ?_; rotate_left 1; (conv => lhs; cbv; (try cbv); (try cbv)); intro hT; clear hT; with_reducible refine Sh.mk (by kernel_rfl) ?_))
    | (with_reducible refine Alt.mk (fun h => ?_) (fun h => ?_) <;> (have hk := h) <;> (try simp only [decide_eq_true_eq, decide_eq_false_iff_not, Bool.not_eq_true', Bool.not_eq_false', Bool.not_eq_true, Bool.not_eq_false, Bool.not_true, Bool.not_false, ne_eq, Bool.false_eq_true, Bool.true_eq_false, reduceCtorEq, beq_iff_eq, beq_eq_false_iff_ne, not_true_eq_false, not_false_eq_true, pair_eta, map_idL] at h) <;> (try dsimp only [rfindSpec, rfindF, rputSpec, rputF, Ty.T, Ty.dflt, KT.T, getM, putM, delM] at h) <;> (try simp only [natCast_eq] at h) <;> (try simp only [pair_eta, map_idL] at h) <;> (try first | rw [if_pos h] at hr | rw [if_neg h] at hr | rw [ifF h] at hr | rw [ifN h] at hr) <;> (try (have hb : (_ : Bool) = _ := h; clear h; subst hb; (try first | rw [if_pos rfl] at hr | rw [if_neg Bool.false_ne_true] at hr))) <;> first | (exfalso; omega) | exact absurd (h.symm.trans (by assumption) : true = false) Bool.noConfusion | exact absurd (h.symm.trans (by assumption) : false = true) Bool.noConfusion | (with_reducible refine (?_ : T1 _ ?_) ?_; rotate_left 1; (conv => lhs; cbv; (try cbv); (try cbv)); intro hT; clear hT; with_reducible refine Sh.mk (by kernel_rfl) ?_))
    | (with_reducible refine Pick.mk (fun h => ?_) (fun l1 x l2 h => ?_) <;> (with_reducible refine (?_ : T1 _ ?_) ?_; rotate_left 1; (conv => lhs; cbv; (try cbv); (try cbv)); intro hT; clear hT; with_reducible refine Sh.mk (by kernel_rfl) ?_))
    | ((with_reducible refine End.mk ?_); (try ((repeat (first | rw [if_pos (by first | assumption | omega)] at hr | rw [if_neg (by first | assumption | omega | (simp only [Bool.false_eq_true, Bool.true_eq_false, reduceCtorEq, not_false_eq_true]; done) | (simp only [Bool.not_eq_true]; assumption) | (simp only [Bool.not_eq_false]; assumption))] at hr | rw [if_pos rfl] at hr)); subst hr)))
    | with_reducible exact True.intro)
  all_goals first
    | (fail_if_success (with_reducible refine Exists.intro ?_ ?_)
       first
         | with_reducible rfl
         | with_reducible assumption
         | (dsimp only [rfindSpec, rfindF, rputSpec, rputF, Ty.T, Ty.dflt, KT.T, getM, putM, delM, inI64, maxRow]; done)
         | (symm; with_reducible assumption)
         | (dsimp only [rfindSpec, rfindF, rputSpec, rputF, Ty.T, Ty.dflt, KT.T, getM, putM, delM, inI64, maxRow]; first | with_reducible rfl | with_reducible assumption | (symm; with_reducible assumption) | (simp only [natCast_eq]; with_reducible rfl) | omega)
         | omega
         | (dsimp only [rfindSpec, rfindF, rputSpec, rputF, Ty.T, Ty.dflt, KT.T, getM, putM, delM, inI64, maxRow]; (try simp only [natCast_eq, List.nil_append]); first | with_reducible rfl | exact take_cg (by omega) | exact drop_cg (by omega) | exact take_drop_cg (by omega) (by omega) | exact take_all (by omega) | exact take_drop_all (by omega) (by omega) | exact drop_take_cg (by omega) (by omega) (by omega))
         | first | (dsimp only [Ty.T, KT.T, Ty.dflt]; simp only [pair_eta, map_idL]; exact ⟨⟨len_ok hl.len, hl.byt⟩, hn⟩) | (dsimp only [Ty.T, KT.T, Ty.dflt]; simp only [pair_eta, map_idL]; exact ⟨(fiR_i l n).1, h⟩) | (dsimp only [Ty.T, KT.T, Ty.dflt]; simp only [pair_eta, map_idL]; exact ⟨(fiR_i l n).1, by assumption⟩) | (dsimp only [Ty.T, KT.T, Ty.dflt]; simp only [pair_eta, map_idL]; exact ⟨len_ok hl.len, fiR_i l n⟩) | (dsimp only [Ty.T, KT.T, Ty.dflt]; simp only [pair_eta, map_idL]; exact r_tl (by assumption) (by assumption) hN.2.1)
         | ((try dsimp only [rfindSpec, rfindF, rputSpec, rputF, Ty.T, Ty.dflt, KT.T, getM, putM, delM, inI64, maxRow]); simp only [decide_eq_true_eq, decide_eq_false_iff_not, Bool.not_eq_true', Bool.not_eq_false', Bool.not_eq_true, Bool.not_eq_false, Bool.not_true, Bool.not_false, ne_eq, Bool.false_eq_true, Bool.true_eq_false, reduceCtorEq, beq_iff_eq, beq_eq_false_iff_ne, not_true_eq_false, not_false_eq_true, pair_eta, map_idL, natCast_eq, inI64, maxRow]; first | done | with_reducible assumption | omega)
         | exact map_pair_id _
         | ((try dsimp only [rfindSpec, rfindF, rputSpec, rputF, Ty.T, Ty.dflt, KT.T, getM, putM, delM, inI64, maxRow]) <;> (try simp only [natCast_eq]) <;> omega)
         | ((try dsimp only [rfindSpec, rfindF, rputSpec, rputF, Ty.T, Ty.dflt, KT.T, getM, putM, delM, inI64, maxRow] at *) <;> (try simp only [natCast_eq] at *) <;> omega)
         | ((try dsimp only [rfindSpec, rfindF, rputSpec, rputF, Ty.T, Ty.dflt, KT.T, getM, putM, delM, inI64, maxRow] at *) <;> (try simp only [List.length_append, List.length_cons, List.length_nil, List.length_replicate, List.length_take, List.length_drop, natCast_eq] at *) <;> omega)
         | assumption
         | (symm; assumption)
         | (dsimp only; simp only [Bool.or_true, Bool.true_or, Bool.or_false, Bool.false_or, Bool.and_true, Bool.true_and, Bool.and_false, Bool.false_and, Bool.not_true, Bool.not_false, *]; done)
         | (simp; done)
         | (and_intros <;> first | trivial | with_reducible assumption | omega)
         | ((try dsimp only [rfindSpec, rfindF, rputSpec, rputF, Ty.T, Ty.dflt, KT.T, getM, putM, delM, inI64, maxRow] at *) <;> simp [*] <;> done))
    | skip
theorem rrenew_sound : ConSound Try.prog AI 27 rrenewSpec.con := PureSpec.sound Try.call27 (fun x h => rrenew_ok x.1 x.2.1 x.2.2.1 x.2.2.2.1 h)
def rmoveSpec : PureSpec := ⟨[.lst reE, .cell .str, .cell (.int .i64), .cell (.int .i64), .cell (.int .i64), .cell (.int .i64)], fun (x : RL × (List Int) × Int × Int × Int × Int × Unit) => OkR x.1 ∧ inBytes x.2.1, [.lst reE, .cell (.int .i64)], fun (x : RL × (List Int) × Int × Int × Int × Int × Unit) => rmoveF x.1 x.2.1 x.2.2.1 x.2.2.2.1 x.2.2.2.2.1 x.2.2.2.2.2.1⟩
theorem rmove_ok (l : RL) (n : List Int) (v : Int) (nd : Int) (pt : Int) (t : Int) (h : rmoveSpec.pre (l, n, v, nd, pt, t, ())) : TmplOk Try.prog AI 28 (argS rmoveSpec.ds (fun _ => (l, n, v, nd, pt, t, ()))) [] (resOf (svs rmoveSpec.rs (fun _ => rmoveSpec.f (l, n, v, nd, pt, t, ())))) [] := by
  dsimp only [rmoveSpec] at h ⊢
  generalize hr : rmoveF l n v nd pt t = r
  have hN := atI_num h.1 n
  obtain ⟨hl, hn⟩ := h
  dsimp only [rmoveF] at hr
  refine tmpl_of_body egOk mixed (fn := Try.f28) (c := bodyOf Try.f28) (by kernel_rfl) (by kernel_rfl) (by kernel_rfl) (Nat.le_of_ble_eq_true (by kernel_rfl)) ?_
  (try (conv in (LoopInv.inv _ _) => dsimp only)); (try (conv in (SS.mk _ _) => cbv; (try dsimp only [rfindSpec, rfindF, rputSpec, rputF, Ty.T, Ty.dflt, KT.T]); (try simp only [natCast_eq])))
  (with_reducible refine (?_ : T1 _ ?_) ?_; rotate_left 1; (conv => lhs; cbv; (try cbv); (try cbv)); intro hT; clear hT; with_reducible refine Sh.mk (by kernel_rfl) ?_)
  repeat' (first
    | with_reducible refine Ck.mk (C := tt) tt_intro ?_
    | with_reducible refine Ck.mk (show drawOk _ _ = true by kernel_rfl) ?_
    | with_reducible refine Ck.all_cons ?_
    | with_reducible refine Ck.all_nil ?_
    | with_reducible refine Ck.mk (by assumption) ?_
    | with_reducible refine Ck.mk (decide_eq_true (by assumption)) ?_
    | with_reducible refine Ck.mk (decide_eq_false (by assumption)) ?_
    | with_reducible refine Ck.mk ?_ ?_
    | (with_reducible refine Both.mk (fun h => ?_) (fun h => ?_) <;> (have hk := h) <;> (try simp only [decide_eq_true_eq, decide_eq_false_iff_not, Bool.not_eq_true', Bool.not_eq_false', Bool.not_eq_true, Bool.not_eq_false, Bool.not_true, Bool.not_false, ne_eq, Bool.false_eq_true, Bool.true_eq_false, reduceCtorEq, beq_iff_eq, beq_eq_false_iff_ne, not_true_eq_false, not_false_eq_true, pair_eta, map_idL] at h) <;> (try dsimp only [rfindSpec, rfindF, rputSpec, rputF, Ty.T, Ty.dflt, KT.T, getM, putM, delM] at h) <;> (try simp only [natCast_eq] at h) <;> (try simp only [pair_eta, map_idL] at h) <;> (try first | rw [if_pos h] at hr | rw [if_neg h] at hr | rw [ifF h] at hr | rw [ifN h] at hr) <;> (try (have hb : (_ : Bool) = _ := h; clear h; subst hb; (try first | rw [if_pos rfl] at hr | rw [if_neg Bool.false_ne_true] at hr))) <;> first | (exfalso; omega) | exact absurd (h.symm.trans (by assumption) : true = false) Bool.noConfusion | exact absurd (h.symm.trans (by assumption) : false = true) Bool.noConfusion | (with_reducible refine (?_ : T1 _ ?_) ?_; rotate_left 1; (conv => lhs; cbv; (try cbv); (try cbv)); intro hT; clear hT; with_reducible refine Sh.mk (by kernel_rfl) ?_))
    | (with_reducible refine Alt.mk (fun h => ?_) (fun h => ?_) <;> (have hk := h) <;> (try simp only [decide_eq_true_eq, decide_eq_false_iff_not, Bool.not_eq_true', Bool.not_eq_false', Bool.not_eq_true, Bool.not_eq_false, Bool.not_true, Bool.not_false, ne_eq, Bool.false_eq_true, Bool.true_eq_false, reduceCtorEq, beq_iff_eq, beq_eq_false_iff_ne, not_true_eq_false, not_false_eq_true, pair_eta, map_idL] at h) <;> (try dsimp only [rfindSpec, rfindF, rputSpec, rputF, Ty.T, Ty.dflt, KT.T, getM, putM, delM] at h) <;> (try simp only [natCast_eq] at h) <;> (try simp only [pair_eta, map_idL] at h) <;> (try first | rw [if_pos h] at hr | rw [if_neg h] at hr | rw [ifF h] at hr | rw [ifN h] at hr) <;> (try (have hb : (_ : Bool) = _ := h; clear h; subst hb; (try first | rw [if_pos rfl] at hr | rw [if_neg Bool.false_ne_true] at hr))) <;> first | (exfalso; omega) | exact absurd (h.symm.trans (by assumption) : true = false) Bool.noConfusion | exact absurd (h.symm.trans (by assumption) : false = true) Bool.noConfusion | (with_reducible refine (?_ : T1 _ ?_) ?_; rotate_left 1; (conv => lhs; cbv; (try cbv); (try cbv)); intro hT; clear hT; with_reducible refine Sh.mk (by kernel_rfl) ?_))
    | (with_reducible refine Pick.mk (fun h => ?_) (fun l1 x l2 h => ?_) <;> (with_reducible refine (?_ : T1 _ ?_) ?_; rotate_left 1; (conv => lhs; cbv; (try cbv); (try cbv)); intro hT; clear hT; with_reducible refine Sh.mk (by kernel_rfl) ?_))
    | ((with_reducible refine End.mk ?_); (try ((repeat (first | rw [if_pos (by first | assumption | omega)] at hr | rw [if_neg (by first | assumption | omega | (simp only [Bool.false_eq_true, Bool.true_eq_false, reduceCtorEq, not_false_eq_true]; done) | (simp only [Bool.not_eq_true]; assumption) | (simp only [Bool.not_eq_false]; assumption))] at hr | rw [if_pos rfl] at hr)); subst hr)))
    | with_reducible exact True.intro)
  all_goals first
    | (fail_if_success (with_reducible refine Exists.intro ?_ ?_)
       first
         | with_reducible rfl
         | with_reducible assumption
         | (dsimp only [rfindSpec, rfindF, rputSpec, rputF, Ty.T, Ty.dflt, KT.T, getM, putM, delM, inI64, maxRow]; done)
         | (symm; with_reducible assumption)
         | (dsimp only [rfindSpec, rfindF, rputSpec, rputF, Ty.T, Ty.dflt, KT.T, getM, putM, delM, inI64, maxRow]; first | with_reducible rfl | with_reducible assumption | (symm; with_reducible assumption) | (simp only [natCast_eq]; with_reducible rfl) | omega)
         | omega
         | (dsimp only [rfindSpec, rfindF, rputSpec, rputF, Ty.T, Ty.dflt, KT.T, getM, putM, delM, inI64, maxRow]; (try simp only [natCast_eq, List.nil_append]); first | with_reducible rfl | exact take_cg (by omega) | exact drop_cg (by omega) | exact take_drop_cg (by omega) (by omega) | exact take_all (by omega) | exact take_drop_all (by omega) (by omega) | exact drop_take_cg (by omega) (by omega) (by omega))
         | first | (dsimp only [Ty.T, KT.T, Ty.dflt]; simp only [pair_eta, map_idL]; exact ⟨⟨len_ok hl.len, hl.byt⟩, hn⟩) | (dsimp only [Ty.T, KT.T, Ty.dflt]; simp only [pair_eta, map_idL]; exact ⟨(fiR_i l n).1, h⟩) | (dsimp only [Ty.T, KT.T, Ty.dflt]; simp only [pair_eta, map_idL]; exact ⟨(fiR_i l n).1, by assumption⟩) | (dsimp only [Ty.T, KT.T, Ty.dflt]; simp only [pair_eta, map_idL]; exact ⟨len_ok hl.len, fiR_i l n⟩) | (dsimp only [Ty.T, KT.T, Ty.dflt]; simp only [pair_eta, map_idL]; exact r_v1 hN.1)
         | ((try dsimp only [rfindSpec, rfindF, rputSpec, rputF, Ty.T, Ty.dflt, KT.T, getM, putM, delM, inI64, maxRow]); simp only [decide_eq_true_eq, decide_eq_false_iff_not, Bool.not_eq_true', Bool.not_eq_false', Bool.not_eq_true, Bool.not_eq_false, Bool.not_true, Bool.not_false, ne_eq, Bool.false_eq_true, Bool.true_eq_false, reduceCtorEq, beq_iff_eq, beq_eq_false_iff_ne, not_true_eq_false, not_false_eq_true, pair_eta, map_idL, natCast_eq, inI64, maxRow]; first | done | with_reducible assumption | omega)
         | exact map_pair_id _
         | ((try dsimp only [rfindSpec, rfindF, rputSpec, rputF, Ty.T, Ty.dflt, KT.T, getM, putM, delM, inI64, maxRow]) <;> (try simp only [natCast_eq]) <;> omega)
         | ((try dsimp only [rfindSpec, rfindF, rputSpec, rputF, Ty.T, Ty.dflt, KT.T, getM, putM, delM, inI64, maxRow] at *) <;> (try simp only [natCast_eq] at *) <;> omega)
         | ((try dsimp only [rfindSpec, rfindF, rputSpec, rputF, Ty.T, Ty.dflt, KT.T, getM, putM, delM, inI64, maxRow] at *) <;> (try simp only [List.length_append, List.length_cons, List.length_nil, List.length_replicate, List.length_take, List.length_drop, natCast_eq] at *) <;> omega)
         | assumption
         | (symm; assumption)
         | (dsimp only; simp only [Bool.or_true, Bool.true_or, Bool.or_false, Bool.false_or, Bool.and_true, Bool.true_and, Bool.and_false, Bool.false_and, Bool.not_true, Bool.not_false, *]; done)
         | (simp; done)
         | (and_intros <;> first | trivial | with_reducible assumption | omega)
         | ((try dsimp only [rfindSpec, rfindF, rputSpec, rputF, Ty.T, Ty.dflt, KT.T, getM, putM, delM, inI64, maxRow] at *) <;> simp [*] <;> done))
    | skip
theorem rmove_sound : ConSound Try.prog AI 28 rmoveSpec.con := PureSpec.sound Try.call28 (fun x h => rmove_ok x.1 x.2.1 x.2.2.1 x.2.2.2.1 x.2.2.2.2.1 x.2.2.2.2.2.1 h)
end Go.Proofs.Ytehdhnkkkocffaa
