/-
  Layer 43: ReorderCalls, the walk.
-/
import Derived.Test.YtonegoinplddmaaAgn
import Derived.Test.YtonegoinplddmaaCmp
namespace Go.Proofs.Ytonegoinplddmaa
set_option linter.all false
set_option linter.unusedVariables false
set_option linter.unusedSimpArgs false
set_option linter.unusedSectionVars false
open Go.RowKit Go.Sx
set_option maxRecDepth 100000
set_option maxHeartbeats 16000000

theorem beqc_inl : ConSound Try.prog AI 21 (inl E0 Try.f21 0) := inl_sound e0Ok mixed (fn := Try.f21) (c := bodyOf Try.f21) Try.call21 (by kernel_rfl) (by kernel_rfl) (by kernel_rfl) 0
noncomputable abbrev Ex : Env Ab := ⟨tis, [(27, rgapsSpec.con), (26, rctgcSpec.con), (25, rreadSpec.con), (24, rputSpec.con), (23, geqSpec.con), (19, heldSpec.con), (18, ctgSpec.con), (17, offSpec.con), (22, endSpec.con), (16, gapsSpec.con), (15, readSpec.con), (14, putSpec.con), (13, newStoSpec.con), (12, smallSpec.con), (11, awakeSpec.con), (21, inl E0 Try.f21 0)] ++ E0.con⟩
theorem exOk : EnvOk Try.prog AI Ex := ((((((((((((((((e0Ok.add beqc_inl).add awake_sound).add small_sound).add newSto_sound).add put_sound).add read_sound).add gaps_sound).add end_sound).add off_sound).add ctg_sound).add held_sound).add geq_sound).add rput_sound).add rread_sound).add rctgc_sound).add rgaps_sound)
structure ClF (T : Sto) : Prop where
  ok : StO T
  a1 : decide (0 ≤ (if T.known = true then T.fin else -1)) = T.known
  a2 : max (if T.known = true then T.fin else -1) 0 = (if T.known = true then T.fin else 0)
  a3 : rctgF (mof T) = (T.next, ())
  a4 : rgapsF (mof T) = gapsF T
  pr : PreR (mof T)
  pq : PreQ (mof T)
theorem clF {T : Sto} (h : StO T) : ClF T := by
  have hm := mof_fin h
  refine ⟨h, ?_, ?_, by unfold rctgF; rw [ctg_cmp h], gaps_cmp h, preR_of h, preQ_of h⟩
  · rcases hm with ⟨k1, k2, k3, _⟩ | ⟨k1, k2⟩
    · rw [k2, k1]; exact decide_eq_true k3
    · rw [k2, k1]; rfl
  · rcases hm with ⟨k1, k2, k3, _⟩ | ⟨k1, k2⟩
    · rw [k2, if_pos k1]; omega
    · rw [k2, if_neg (by rw [k1]; exact Bool.false_ne_true)]; rfl
abbrev readA1 (L : List TA) (S : Sto) (i : Int) : Tup [DT.lst (.int .u8)] × Sto := readF S (elA L i).2.2
structure ClG (L : List TA) (S : Sto) (i : Int) : Prop where
  e1 : rputF (mof S) ((segA L i).1, (segA L i).2.1, (segA L i).2.2) = (mof (putA1 L S i).2, (putA1 L S i).1.1, (putA1 L S i).1.2.1, ())
  e2 : rreadF (mof S) (elA L i).2.2 = (mof (readA1 L S i).2, ((readA1 L S i).1.1 : List Int), ())
  p : ClF (putA1 L S i).2
  r : ClF (readA1 L S i).2
  len : (segA L i).2.1.length ≤ 1048576
  by2 : inBytes (readA1 L S i).1.1
theorem read_byt {S : Sto} (h : StO S) (m : Int) : inBytes (readF S m).1.1 := by
  unfold readF
  split
  · intro x hx; cases hx
  · intro x hx
    have hx : x ∈ rdB S.kept S.off (rdN S m).toNat := hx
    obtain ⟨i, hi, e⟩ := List.getElem_of_mem hx
    have hg := rdB_get (rdN S m).toNat S.kept S.off i (by rw [rdB_len] at hi; exact hi)
    rw [List.getD_eq_getElem?_getD, List.getElem?_eq_getElem hi] at hg
    have hg : (rdB S.kept S.off (rdN S m).toNat)[i] = (getI S.kept (S.off + i)).getD 0 := hg
    rw [← e, hg]
    cases hv : getI S.kept (S.off + i) with
    | none => show 0 ≤ (0 : Int) ∧ (0 : Int) < 256; omega
    | some v => exact h.byt _ (getI_mem hv)
theorem clG {L : List TA} {S : Sto} (hok : StO S) (hL : ∀ a ∈ L, actE.ok a) (hs : SmallL L) {i : Int} (h0 : 0 ≤ i) (hi : i < L.length) : ClG L S i := by
  have hn : (segA L i).2.1.length ≤ 1048576 := Nat.le_trans (elA_len hs h0 hi) (by decide)
  exact ⟨put_cmp hok _ _ _, read_cmp hok _, clF (put_sto hok _ (elA_by hL h0 hi) hn), clF (read_sto hok _), hn, read_byt hok _⟩
structure LCl (L : List TA) where
  i : Int
  S : Sto
  lo : 0 ≤ i
  hi : i ≤ L.length
  ok : StO S
theorem next_LCl {L : List TA} {i : Int} {S : Sto} (h0 : 0 ≤ i) (hi : i < L.length) (h : StO S) : ∃ y : LCl L, y.i = i + 1 ∧ y.S = S := ⟨⟨i + 1, S, by omega, by omega, h⟩, rfl, rfl⟩
def clsF (_ : Int) (_ : List TA) : Tup [DT.cell .bool] := (true, ())
def clsSpec : PureSpec := ⟨[.cell (.int .i64), .lst actE], fun (x : Int × (List TA) × Unit) => x.2.1.length ≤ maxLen ∧ ∀ a ∈ x.2.1, actE.ok a, [.cell .bool], fun (x : Int × (List TA) × Unit) => clsF x.1 x.2.1⟩
theorem cls_ok (w : Int) (L : List TA) (h : clsSpec.pre (w, L, ())) : TmplOk Try.prog AI 10 (argS clsSpec.ds (fun _ => (w, L, ()))) [] (resOf (svs clsSpec.rs (fun _ => clsSpec.f (w, L, ())))) [] := by
  dsimp only [clsSpec] at h ⊢
  generalize hr : clsF w L = r
  obtain ⟨hL0, hL⟩ := h
  dsimp only [clsF] at hr
  refine tmpl_of_body exOk mixed (fn := Try.f10) (c := bodyOf Try.f10) (by kernel_rfl) (by kernel_rfl) (by kernel_rfl) (Nat.le_of_ble_eq_true (by kernel_rfl)) ?_
  (try (conv in (LoopInv.inv _ _) => dsimp only)); (try (conv in (SS.mk _ _) => cbv; (try dsimp only [putSpec, readSpec, gapsSpec, endSpec, endF, offSpec, offF, ctgSpec, ctgF, heldSpec, heldF, geqSpec, smallSpec, newStoSpec, rputSpec, rreadSpec, rctgcSpec, rgapsSpec, Ty.T, Ty.dflt, KT.T]); (try simp only [natCast_eq])))
  (refine (?_ : T1 _ ?_) ?_; rotate_left 1; (conv => lhs; cbv; (try cbv); (try cbv)); intro hT; clear hT; refine Sh.mk (by kernel_rfl) ?_)
  repeat' (first
    | with_reducible refine Ck.mk (C := tt) tt_intro ?_
    | with_reducible refine Ck.mk (show drawOk _ _ = true by kernel_rfl) ?_
    | with_reducible refine Ck.all_cons ?_
    | with_reducible refine Ck.all_nil ?_
    | with_reducible refine Ck.mk (by assumption) ?_
    | with_reducible refine Ck.mk (decide_eq_true (by assumption)) ?_
    | with_reducible refine Ck.mk (decide_eq_false (by assumption)) ?_
    | with_reducible refine Ck.mk ?_ ?_
    | (with_reducible refine Both.mk (fun h => ?_) (fun h => ?_) <;> (have hk := h) <;> (try simp only [decide_eq_true_eq, decide_eq_false_iff_not, Bool.not_eq_true', Bool.not_eq_false', Bool.not_eq_true, Bool.not_eq_false, Bool.not_true, Bool.not_false, ne_eq, Bool.false_eq_true, Bool.true_eq_false, reduceCtorEq, beq_iff_eq, beq_eq_false_iff_ne, not_true_eq_false, not_false_eq_true, pair_eta, map_idL] at h) <;> (try dsimp only [putSpec, readSpec, gapsSpec, endSpec, endF, offSpec, offF, ctgSpec, ctgF, heldSpec, heldF, geqSpec, smallSpec, newStoSpec, rputSpec, rreadSpec, rctgcSpec, rgapsSpec, Ty.T, Ty.dflt, KT.T, getM, putM, delM] at h) <;> (try simp only [natCast_eq] at h) <;> (try (have hG := clG hok hL hsm hlo h; have e1 := hG.e1; have e2 := hG.e2; have hP := hG.p; have hR := hG.r; dsimp only [mof, putA1, readA1, segA, elA] at e1 e2 hP hR; have p1 := hP.a1; have p2 := hP.a2; have p3 := hP.a3; have p4 := hP.a4; have r1 := hR.a1; have r2 := hR.a2; have r3 := hR.a3; have r4 := hR.a4; dsimp only [mof] at p3 p4 r3 r4)) <;> (try simp only [pair_eta, map_idL, e1, e2, p1, p2, p3, p4, r1, r2, r3, r4, natCast_eq] at h) <;> (try (exfalso; exact absurd rfl h)) <;> (try (exfalso; exact absurd ((geq_self _).symm.trans h) Bool.noConfusion)) <;> (try first | rw [if_pos h] at hr | rw [if_neg h] at hr | rw [ifF h] at hr | rw [ifN h] at hr) <;> (try (have hb : (_ : Bool) = _ := h; clear h; subst hb; (try first | rw [if_pos rfl] at hr | rw [if_neg Bool.false_ne_true] at hr))) <;> first | (exfalso; omega) | exact absurd (h.symm.trans (by assumption) : true = false) Bool.noConfusion | exact absurd (h.symm.trans (by assumption) : false = true) Bool.noConfusion | (refine (?_ : T1 _ ?_) ?_; rotate_left 1; (conv => lhs; cbv; (try cbv); (try cbv)); intro hT; clear hT; refine Sh.mk (by kernel_rfl) ?_))
    | (with_reducible refine Alt.mk (fun h => ?_) (fun h => ?_) <;> (have hk := h) <;> (try simp only [decide_eq_true_eq, decide_eq_false_iff_not, Bool.not_eq_true', Bool.not_eq_false', Bool.not_eq_true, Bool.not_eq_false, Bool.not_true, Bool.not_false, ne_eq, Bool.false_eq_true, Bool.true_eq_false, reduceCtorEq, beq_iff_eq, beq_eq_false_iff_ne, not_true_eq_false, not_false_eq_true, pair_eta, map_idL] at h) <;> (try dsimp only [putSpec, readSpec, gapsSpec, endSpec, endF, offSpec, offF, ctgSpec, ctgF, heldSpec, heldF, geqSpec, smallSpec, newStoSpec, rputSpec, rreadSpec, rctgcSpec, rgapsSpec, Ty.T, Ty.dflt, KT.T, getM, putM, delM] at h) <;> (try simp only [natCast_eq] at h) <;> (try (have hG := clG hok hL hsm hlo h; have e1 := hG.e1; have e2 := hG.e2; have hP := hG.p; have hR := hG.r; dsimp only [mof, putA1, readA1, segA, elA] at e1 e2 hP hR; have p1 := hP.a1; have p2 := hP.a2; have p3 := hP.a3; have p4 := hP.a4; have r1 := hR.a1; have r2 := hR.a2; have r3 := hR.a3; have r4 := hR.a4; dsimp only [mof] at p3 p4 r3 r4)) <;> (try simp only [pair_eta, map_idL, e1, e2, p1, p2, p3, p4, r1, r2, r3, r4, natCast_eq] at h) <;> (try (exfalso; exact absurd rfl h)) <;> (try (exfalso; exact absurd ((geq_self _).symm.trans h) Bool.noConfusion)) <;> (try first | rw [if_pos h] at hr | rw [if_neg h] at hr | rw [ifF h] at hr | rw [ifN h] at hr) <;> (try (have hb : (_ : Bool) = _ := h; clear h; subst hb; (try first | rw [if_pos rfl] at hr | rw [if_neg Bool.false_ne_true] at hr))) <;> first | (exfalso; omega) | exact absurd (h.symm.trans (by assumption) : true = false) Bool.noConfusion | exact absurd (h.symm.trans (by assumption) : false = true) Bool.noConfusion | (refine (?_ : T1 _ ?_) ?_; rotate_left 1; (conv => lhs; cbv; (try cbv); (try cbv)); intro hT; clear hT; refine Sh.mk (by kernel_rfl) ?_))
    | (with_reducible refine Pick.mk (fun h => ?_) (fun l1 x l2 h => ?_) <;> (refine (?_ : T1 _ ?_) ?_; rotate_left 1; (conv => lhs; cbv; (try cbv); (try cbv)); intro hT; clear hT; refine Sh.mk (by kernel_rfl) ?_))
    | ((with_reducible refine End.mk ?_); (try ((repeat (first | rw [if_pos (by first | assumption | omega)] at hr | rw [if_neg (by first | assumption | omega | (simp only [Bool.false_eq_true, Bool.true_eq_false, reduceCtorEq, not_false_eq_true]; done) | (simp only [Bool.not_eq_true]; assumption) | (simp only [Bool.not_eq_false]; assumption))] at hr | rw [if_pos rfl] at hr)); subst hr)))
    | with_reducible exact True.intro)
  all_goals first
    | (fail_if_success (with_reducible refine Exists.intro ?_ ?_)
       first
         | with_reducible rfl
         | with_reducible assumption
         | (dsimp only [putSpec, readSpec, gapsSpec, endSpec, endF, offSpec, offF, ctgSpec, ctgF, heldSpec, heldF, geqSpec, smallSpec, newStoSpec, rputSpec, rreadSpec, rctgcSpec, rgapsSpec, Ty.T, Ty.dflt, KT.T, getM, putM, delM, inI64, maxRow]; done)
         | (symm; with_reducible assumption)
         | (dsimp only [putSpec, readSpec, gapsSpec, endSpec, endF, offSpec, offF, ctgSpec, ctgF, heldSpec, heldF, geqSpec, smallSpec, newStoSpec, rputSpec, rreadSpec, rctgcSpec, rgapsSpec, Ty.T, Ty.dflt, KT.T, getM, putM, delM, inI64, maxRow]; first | with_reducible rfl | with_reducible assumption | (symm; with_reducible assumption) | (simp only [natCast_eq]; with_reducible rfl) | omega)
         | omega
         | (dsimp only [putSpec, readSpec, gapsSpec, endSpec, endF, offSpec, offF, ctgSpec, ctgF, heldSpec, heldF, geqSpec, smallSpec, newStoSpec, rputSpec, rreadSpec, rctgcSpec, rgapsSpec, Ty.T, Ty.dflt, KT.T, getM, putM, delM, inI64, maxRow]; (try simp only [natCast_eq, List.nil_append]); first | with_reducible rfl | exact take_cg (by omega) | exact drop_cg (by omega) | exact take_drop_cg (by omega) (by omega) | exact take_all (by omega) | exact take_drop_all (by omega) (by omega) | exact drop_take_cg (by omega) (by omega) (by omega))
         | ((try dsimp only [putSpec, readSpec, gapsSpec, endSpec, endF, offSpec, offF, ctgSpec, ctgF, heldSpec, heldF, geqSpec, smallSpec, newStoSpec, rputSpec, rreadSpec, rctgcSpec, rgapsSpec, Ty.T, Ty.dflt, KT.T, getM, putM, delM, inI64, maxRow]); simp only [decide_eq_true_eq, decide_eq_false_iff_not, Bool.not_eq_true', Bool.not_eq_false', Bool.not_eq_true, Bool.not_eq_false, Bool.not_true, Bool.not_false, ne_eq, Bool.false_eq_true, Bool.true_eq_false, reduceCtorEq, beq_iff_eq, beq_eq_false_iff_ne, not_true_eq_false, not_false_eq_true, pair_eta, map_idL, natCast_eq, inI64, maxRow]; first | done | with_reducible assumption | omega)
         | exact map_pair_id _
         | ((try dsimp only [putSpec, readSpec, gapsSpec, endSpec, endF, offSpec, offF, ctgSpec, ctgF, heldSpec, heldF, geqSpec, smallSpec, newStoSpec, rputSpec, rreadSpec, rctgcSpec, rgapsSpec, Ty.T, Ty.dflt, KT.T, getM, putM, delM, inI64, maxRow]) <;> (try simp only [natCast_eq]) <;> omega)
         | ((try dsimp only [putSpec, readSpec, gapsSpec, endSpec, endF, offSpec, offF, ctgSpec, ctgF, heldSpec, heldF, geqSpec, smallSpec, newStoSpec, rputSpec, rreadSpec, rctgcSpec, rgapsSpec, Ty.T, Ty.dflt, KT.T, getM, putM, delM, inI64, maxRow] at *) <;> (try simp only [natCast_eq] at *) <;> omega)
         | ((try dsimp only [putSpec, readSpec, gapsSpec, endSpec, endF, offSpec, offF, ctgSpec, ctgF, heldSpec, heldF, geqSpec, smallSpec, newStoSpec, rputSpec, rreadSpec, rctgcSpec, rgapsSpec, Ty.T, Ty.dflt, KT.T, getM, putM, delM, inI64, maxRow] at *) <;> (try simp only [List.length_append, List.length_cons, List.length_nil, List.length_replicate, List.length_take, List.length_drop, natCast_eq] at *) <;> omega)
         | assumption
         | (symm; assumption)
         | (dsimp only; simp only [Bool.or_true, Bool.true_or, Bool.or_false, Bool.false_or, Bool.and_true, Bool.true_and, Bool.and_false, Bool.false_and, Bool.not_true, Bool.not_false, *]; done)
         | (simp; done)
         | (and_intros <;> first | trivial | with_reducible assumption | omega)
         | ((try dsimp only [putSpec, readSpec, gapsSpec, endSpec, endF, offSpec, offF, ctgSpec, ctgF, heldSpec, heldF, geqSpec, smallSpec, newStoSpec, rputSpec, rreadSpec, rctgcSpec, rgapsSpec, Ty.T, Ty.dflt, KT.T, getM, putM, delM, inI64, maxRow] at *) <;> simp [*] <;> done))
    | skip
  have hsm : SmallL L := small_of (by assumption)
  have hsl := hsm.1
  obtain ⟨x0, hx0, hx1⟩ : ∃ x : LCl L, x.i = 0 ∧ x.S = newS w := ⟨⟨0, newS w, Int.le_refl _, by omega, newS_ok (by omega) (by omega)⟩, rfl, rfl⟩
  refine ⟨⟨LCl L, fun x => ⟨[(5, Sx.one (.ptr 0 0)), (7, Sx.one (.ptr 1 0)), (56, Sx.one (.ro actE (fun _ => L))), (57, Sx.one (.int .i64 (fun _ => L.length))), (58, Sx.one (.int .i64 (fun _ => x.i)))], [.abs (.sto (fun _ => x.S)), .cells 55 (storeC (fun _ => mof x.S))]⟩, fun x => (L.length - x.i).toNat, x0⟩, ?_, fun (x : LCl L) => ?_⟩
  · (try (conv in (LoopInv.inv _ _) => dsimp only)); (try (conv in (SS.mk _ _) => cbv; (try dsimp only [putSpec, readSpec, gapsSpec, endSpec, endF, offSpec, offF, ctgSpec, ctgF, heldSpec, heldF, geqSpec, smallSpec, newStoSpec, rputSpec, rreadSpec, rctgcSpec, rgapsSpec, Ty.T, Ty.dflt, KT.T]); (try simp only [natCast_eq])))
    (refine (?_ : T1 _ ?_) ?_; rotate_left 1; (conv => lhs; cbv; (try cbv); (try cbv)); intro hT; clear hT; refine Sh.mk (by kernel_rfl) ?_)
    repeat' (first
      | with_reducible refine Ck.mk (C := tt) tt_intro ?_
      | with_reducible refine Ck.mk (show drawOk _ _ = true by kernel_rfl) ?_
      | with_reducible refine Ck.all_cons ?_
      | with_reducible refine Ck.all_nil ?_
      | with_reducible refine Ck.mk (by assumption) ?_
      | with_reducible refine Ck.mk (decide_eq_true (by assumption)) ?_
      | with_reducible refine Ck.mk (decide_eq_false (by assumption)) ?_
      | with_reducible refine Ck.mk ?_ ?_
      | (with_reducible refine Both.mk (fun h => ?_) (fun h => ?_) <;> (have hk := h) <;> (try simp only [decide_eq_true_eq, decide_eq_false_iff_not, Bool.not_eq_true', Bool.not_eq_false', Bool.not_eq_true, Bool.not_eq_false, Bool.not_true, Bool.not_false, ne_eq, Bool.false_eq_true, Bool.true_eq_false, reduceCtorEq, beq_iff_eq, beq_eq_false_iff_ne, not_true_eq_false, not_false_eq_true, pair_eta, map_idL] at h) <;> (try dsimp only [putSpec, readSpec, gapsSpec, endSpec, endF, offSpec, offF, ctgSpec, ctgF, heldSpec, heldF, geqSpec, smallSpec, newStoSpec, rputSpec, rreadSpec, rctgcSpec, rgapsSpec, Ty.T, Ty.dflt, KT.T, getM, putM, delM] at h) <;> (try simp only [natCast_eq] at h) <;> (try (have hG := clG hok hL hsm hlo h; have e1 := hG.e1; have e2 := hG.e2; have hP := hG.p; have hR := hG.r; dsimp only [mof, putA1, readA1, segA, elA] at e1 e2 hP hR; have p1 := hP.a1; have p2 := hP.a2; have p3 := hP.a3; have p4 := hP.a4; have r1 := hR.a1; have r2 := hR.a2; have r3 := hR.a3; have r4 := hR.a4; dsimp only [mof] at p3 p4 r3 r4)) <;> (try simp only [pair_eta, map_idL, e1, e2, p1, p2, p3, p4, r1, r2, r3, r4, natCast_eq] at h) <;> (try (exfalso; exact absurd rfl h)) <;> (try (exfalso; exact absurd ((geq_self _).symm.trans h) Bool.noConfusion)) <;> (try first | rw [if_pos h] at hr | rw [if_neg h] at hr | rw [ifF h] at hr | rw [ifN h] at hr) <;> (try (have hb : (_ : Bool) = _ := h; clear h; subst hb; (try first | rw [if_pos rfl] at hr | rw [if_neg Bool.false_ne_true] at hr))) <;> first | (exfalso; omega) | exact absurd (h.symm.trans (by assumption) : true = false) Bool.noConfusion | exact absurd (h.symm.trans (by assumption) : false = true) Bool.noConfusion | (refine (?_ : T1 _ ?_) ?_; rotate_left 1; (conv => lhs; cbv; (try cbv); (try cbv)); intro hT; clear hT; refine Sh.mk (by kernel_rfl) ?_))
      | (with_reducible refine Alt.mk (fun h => ?_) (fun h => ?_) <;> (have hk := h) <;> (try simp only [decide_eq_true_eq, decide_eq_false_iff_not, Bool.not_eq_true', Bool.not_eq_false', Bool.not_eq_true, Bool.not_eq_false, Bool.not_true, Bool.not_false, ne_eq, Bool.false_eq_true, Bool.true_eq_false, reduceCtorEq, beq_iff_eq, beq_eq_false_iff_ne, not_true_eq_false, not_false_eq_true, pair_eta, map_idL] at h) <;> (try dsimp only [putSpec, readSpec, gapsSpec, endSpec, endF, offSpec, offF, ctgSpec, ctgF, heldSpec, heldF, geqSpec, smallSpec, newStoSpec, rputSpec, rreadSpec, rctgcSpec, rgapsSpec, Ty.T, Ty.dflt, KT.T, getM, putM, delM] at h) <;> (try simp only [natCast_eq] at h) <;> (try (have hG := clG hok hL hsm hlo h; have e1 := hG.e1; have e2 := hG.e2; have hP := hG.p; have hR := hG.r; dsimp only [mof, putA1, readA1, segA, elA] at e1 e2 hP hR; have p1 := hP.a1; have p2 := hP.a2; have p3 := hP.a3; have p4 := hP.a4; have r1 := hR.a1; have r2 := hR.a2; have r3 := hR.a3; have r4 := hR.a4; dsimp only [mof] at p3 p4 r3 r4)) <;> (try simp only [pair_eta, map_idL, e1, e2, p1, p2, p3, p4, r1, r2, r3, r4, natCast_eq] at h) <;> (try (exfalso; exact absurd rfl h)) <;> (try (exfalso; exact absurd ((geq_self _).symm.trans h) Bool.noConfusion)) <;> (try first | rw [if_pos h] at hr | rw [if_neg h] at hr | rw [ifF h] at hr | rw [ifN h] at hr) <;> (try (have hb : (_ : Bool) = _ := h; clear h; subst hb; (try first | rw [if_pos rfl] at hr | rw [if_neg Bool.false_ne_true] at hr))) <;> first | (exfalso; omega) | exact absurd (h.symm.trans (by assumption) : true = false) Bool.noConfusion | exact absurd (h.symm.trans (by assumption) : false = true) Bool.noConfusion | (refine (?_ : T1 _ ?_) ?_; rotate_left 1; (conv => lhs; cbv; (try cbv); (try cbv)); intro hT; clear hT; refine Sh.mk (by kernel_rfl) ?_))
      | (with_reducible refine Pick.mk (fun h => ?_) (fun l1 x l2 h => ?_) <;> (refine (?_ : T1 _ ?_) ?_; rotate_left 1; (conv => lhs; cbv; (try cbv); (try cbv)); intro hT; clear hT; refine Sh.mk (by kernel_rfl) ?_))
      | ((with_reducible refine End.mk ?_); skip)
      | with_reducible exact True.intro)
    all_goals first
      | (fail_if_success (with_reducible refine Exists.intro ?_ ?_)
         first
           | with_reducible rfl
           | with_reducible assumption
           | (dsimp only [putSpec, readSpec, gapsSpec, endSpec, endF, offSpec, offF, ctgSpec, ctgF, heldSpec, heldF, geqSpec, smallSpec, newStoSpec, rputSpec, rreadSpec, rctgcSpec, rgapsSpec, Ty.T, Ty.dflt, KT.T, getM, putM, delM, inI64, maxRow]; done)
           | (symm; with_reducible assumption)
           | (dsimp only [putSpec, readSpec, gapsSpec, endSpec, endF, offSpec, offF, ctgSpec, ctgF, heldSpec, heldF, geqSpec, smallSpec, newStoSpec, rputSpec, rreadSpec, rctgcSpec, rgapsSpec, Ty.T, Ty.dflt, KT.T, getM, putM, delM, inI64, maxRow]; first | with_reducible rfl | with_reducible assumption | (symm; with_reducible assumption) | (simp only [natCast_eq]; with_reducible rfl) | omega)
           | omega
           | (dsimp only [putSpec, readSpec, gapsSpec, endSpec, endF, offSpec, offF, ctgSpec, ctgF, heldSpec, heldF, geqSpec, smallSpec, newStoSpec, rputSpec, rreadSpec, rctgcSpec, rgapsSpec, Ty.T, Ty.dflt, KT.T, getM, putM, delM, inI64, maxRow]; (try simp only [natCast_eq, List.nil_append]); first | with_reducible rfl | exact take_cg (by omega) | exact drop_cg (by omega) | exact take_drop_cg (by omega) (by omega) | exact take_all (by omega) | exact take_drop_all (by omega) (by omega) | exact drop_take_cg (by omega) (by omega) (by omega))
           | first | (rw [hx1]; done) | (rw [hx1]; rfl)
           | ((try dsimp only [putSpec, readSpec, gapsSpec, endSpec, endF, offSpec, offF, ctgSpec, ctgF, heldSpec, heldF, geqSpec, smallSpec, newStoSpec, rputSpec, rreadSpec, rctgcSpec, rgapsSpec, Ty.T, Ty.dflt, KT.T, getM, putM, delM, inI64, maxRow]); simp only [decide_eq_true_eq, decide_eq_false_iff_not, Bool.not_eq_true', Bool.not_eq_false', Bool.not_eq_true, Bool.not_eq_false, Bool.not_true, Bool.not_false, ne_eq, Bool.false_eq_true, Bool.true_eq_false, reduceCtorEq, beq_iff_eq, beq_eq_false_iff_ne, not_true_eq_false, not_false_eq_true, pair_eta, map_idL, natCast_eq, inI64, maxRow]; first | done | with_reducible assumption | omega)
           | exact map_pair_id _
           | ((try dsimp only [putSpec, readSpec, gapsSpec, endSpec, endF, offSpec, offF, ctgSpec, ctgF, heldSpec, heldF, geqSpec, smallSpec, newStoSpec, rputSpec, rreadSpec, rctgcSpec, rgapsSpec, Ty.T, Ty.dflt, KT.T, getM, putM, delM, inI64, maxRow]) <;> (try simp only [natCast_eq]) <;> omega)
           | ((try dsimp only [putSpec, readSpec, gapsSpec, endSpec, endF, offSpec, offF, ctgSpec, ctgF, heldSpec, heldF, geqSpec, smallSpec, newStoSpec, rputSpec, rreadSpec, rctgcSpec, rgapsSpec, Ty.T, Ty.dflt, KT.T, getM, putM, delM, inI64, maxRow] at *) <;> (try simp only [natCast_eq] at *) <;> omega)
           | ((try dsimp only [putSpec, readSpec, gapsSpec, endSpec, endF, offSpec, offF, ctgSpec, ctgF, heldSpec, heldF, geqSpec, smallSpec, newStoSpec, rputSpec, rreadSpec, rctgcSpec, rgapsSpec, Ty.T, Ty.dflt, KT.T, getM, putM, delM, inI64, maxRow] at *) <;> (try simp only [List.length_append, List.length_cons, List.length_nil, List.length_replicate, List.length_take, List.length_drop, natCast_eq] at *) <;> omega)
           | assumption
           | (symm; assumption)
           | (dsimp only; simp only [Bool.or_true, Bool.true_or, Bool.or_false, Bool.false_or, Bool.and_true, Bool.true_and, Bool.and_false, Bool.false_and, Bool.not_true, Bool.not_false, *]; done)
           | (simp; done)
           | (and_intros <;> first | trivial | with_reducible assumption | omega)
           | ((try dsimp only [putSpec, readSpec, gapsSpec, endSpec, endF, offSpec, offF, ctgSpec, ctgF, heldSpec, heldF, geqSpec, smallSpec, newStoSpec, rputSpec, rreadSpec, rctgcSpec, rgapsSpec, Ty.T, Ty.dflt, KT.T, getM, putM, delM, inI64, maxRow] at *) <;> simp [*] <;> done))
      | skip
  obtain ⟨i, S, hlo, hhi, hok⟩ := x
  (try (conv in (LoopInv.inv _ _) => dsimp only)); (try (conv in (SS.mk _ _) => cbv; (try dsimp only [putSpec, readSpec, gapsSpec, endSpec, endF, offSpec, offF, ctgSpec, ctgF, heldSpec, heldF, geqSpec, smallSpec, newStoSpec, rputSpec, rreadSpec, rctgcSpec, rgapsSpec, Ty.T, Ty.dflt, KT.T]); (try simp only [natCast_eq])))
  (refine (?_ : T1 _ ?_) ?_; rotate_left 1; (conv => lhs; cbv; (try cbv); (try cbv)); intro hT; clear hT; refine Sh.mk (by kernel_rfl) ?_)
  repeat' (first
    | with_reducible refine Ck.mk (C := tt) tt_intro ?_
    | with_reducible refine Ck.mk (show drawOk _ _ = true by kernel_rfl) ?_
    | with_reducible refine Ck.all_cons ?_
    | with_reducible refine Ck.all_nil ?_
    | with_reducible refine Ck.mk (by assumption) ?_
    | with_reducible refine Ck.mk (decide_eq_true (by assumption)) ?_
    | with_reducible refine Ck.mk (decide_eq_false (by assumption)) ?_
    | with_reducible refine Ck.mk ?_ ?_
    | (with_reducible refine Both.mk (fun h => ?_) (fun h => ?_) <;> (have hk := h) <;> (try simp only [decide_eq_true_eq, decide_eq_false_iff_not, Bool.not_eq_true', Bool.not_eq_false', Bool.not_eq_true, Bool.not_eq_false, Bool.not_true, Bool.not_false, ne_eq, Bool.false_eq_true, Bool.true_eq_false, reduceCtorEq, beq_iff_eq, beq_eq_false_iff_ne, not_true_eq_false, not_false_eq_true, pair_eta, map_idL] at h) <;> (try dsimp only [putSpec, readSpec, gapsSpec, endSpec, endF, offSpec, offF, ctgSpec, ctgF, heldSpec, heldF, geqSpec, smallSpec, newStoSpec, rputSpec, rreadSpec, rctgcSpec, rgapsSpec, Ty.T, Ty.dflt, KT.T, getM, putM, delM] at h) <;> (try simp only [natCast_eq] at h) <;> (try (have hG := clG hok hL hsm hlo h; have e1 := hG.e1; have e2 := hG.e2; have hP := hG.p; have hR := hG.r; dsimp only [mof, putA1, readA1, segA, elA] at e1 e2 hP hR; have p1 := hP.a1; have p2 := hP.a2; have p3 := hP.a3; have p4 := hP.a4; have r1 := hR.a1; have r2 := hR.a2; have r3 := hR.a3; have r4 := hR.a4; dsimp only [mof] at p3 p4 r3 r4)) <;> (try simp only [pair_eta, map_idL, e1, e2, p1, p2, p3, p4, r1, r2, r3, r4, natCast_eq] at h) <;> (try (exfalso; exact absurd rfl h)) <;> (try (exfalso; exact absurd ((geq_self _).symm.trans h) Bool.noConfusion)) <;> (try first | rw [if_pos h] at hr | rw [if_neg h] at hr | rw [ifF h] at hr | rw [ifN h] at hr) <;> (try (have hb : (_ : Bool) = _ := h; clear h; subst hb; (try first | rw [if_pos rfl] at hr | rw [if_neg Bool.false_ne_true] at hr))) <;> first | (exfalso; omega) | exact absurd (h.symm.trans (by assumption) : true = false) Bool.noConfusion | exact absurd (h.symm.trans (by assumption) : false = true) Bool.noConfusion | (refine (?_ : T1 _ ?_) ?_; rotate_left 1; (conv => lhs; cbv; (try cbv); (try cbv)); intro hT; clear hT; refine Sh.mk (by kernel_rfl) ?_))
    | (with_reducible refine Alt.mk (fun h => ?_) (fun h => ?_) <;> (have hk := h) <;> (try simp only [decide_eq_true_eq, decide_eq_false_iff_not, Bool.not_eq_true', Bool.not_eq_false', Bool.not_eq_true, Bool.not_eq_false, Bool.not_true, Bool.not_false, ne_eq, Bool.false_eq_true, Bool.true_eq_false, reduceCtorEq, beq_iff_eq, beq_eq_false_iff_ne, not_true_eq_false, not_false_eq_true, pair_eta, map_idL] at h) <;> (try dsimp only [putSpec, readSpec, gapsSpec, endSpec, endF, offSpec, offF, ctgSpec, ctgF, heldSpec, heldF, geqSpec, smallSpec, newStoSpec, rputSpec, rreadSpec, rctgcSpec, rgapsSpec, Ty.T, Ty.dflt, KT.T, getM, putM, delM] at h) <;> (try simp only [natCast_eq] at h) <;> (try (have hG := clG hok hL hsm hlo h; have e1 := hG.e1; have e2 := hG.e2; have hP := hG.p; have hR := hG.r; dsimp only [mof, putA1, readA1, segA, elA] at e1 e2 hP hR; have p1 := hP.a1; have p2 := hP.a2; have p3 := hP.a3; have p4 := hP.a4; have r1 := hR.a1; have r2 := hR.a2; have r3 := hR.a3; have r4 := hR.a4; dsimp only [mof] at p3 p4 r3 r4)) <;> (try simp only [pair_eta, map_idL, e1, e2, p1, p2, p3, p4, r1, r2, r3, r4, natCast_eq] at h) <;> (try (exfalso; exact absurd rfl h)) <;> (try (exfalso; exact absurd ((geq_self _).symm.trans h) Bool.noConfusion)) <;> (try first | rw [if_pos h] at hr | rw [if_neg h] at hr | rw [ifF h] at hr | rw [ifN h] at hr) <;> (try (have hb : (_ : Bool) = _ := h; clear h; subst hb; (try first | rw [if_pos rfl] at hr | rw [if_neg Bool.false_ne_true] at hr))) <;> first | (exfalso; omega) | exact absurd (h.symm.trans (by assumption) : true = false) Bool.noConfusion | exact absurd (h.symm.trans (by assumption) : false = true) Bool.noConfusion | (refine (?_ : T1 _ ?_) ?_; rotate_left 1; (conv => lhs; cbv; (try cbv); (try cbv)); intro hT; clear hT; refine Sh.mk (by kernel_rfl) ?_))
    | (with_reducible refine Pick.mk (fun h => ?_) (fun l1 x l2 h => ?_) <;> (refine (?_ : T1 _ ?_) ?_; rotate_left 1; (conv => lhs; cbv; (try cbv); (try cbv)); intro hT; clear hT; refine Sh.mk (by kernel_rfl) ?_))
    | ((with_reducible refine End.mk ?_); (try ((repeat (first | rw [if_pos (by first | assumption | omega)] at hr | rw [if_neg (by first | assumption | omega | (simp only [Bool.false_eq_true, Bool.true_eq_false, reduceCtorEq, not_false_eq_true]; done) | (simp only [Bool.not_eq_true]; assumption) | (simp only [Bool.not_eq_false]; assumption))] at hr | rw [if_pos rfl] at hr)); subst hr)))
    | with_reducible exact True.intro)
  all_goals first
    | (fail_if_success (with_reducible refine Exists.intro ?_ ?_)
       first
         | with_reducible rfl
         | with_reducible assumption
         | (dsimp only [putSpec, readSpec, gapsSpec, endSpec, endF, offSpec, offF, ctgSpec, ctgF, heldSpec, heldF, geqSpec, smallSpec, newStoSpec, rputSpec, rreadSpec, rctgcSpec, rgapsSpec, Ty.T, Ty.dflt, KT.T, getM, putM, delM, inI64, maxRow]; done)
         | (symm; with_reducible assumption)
         | (dsimp only [putSpec, readSpec, gapsSpec, endSpec, endF, offSpec, offF, ctgSpec, ctgF, heldSpec, heldF, geqSpec, smallSpec, newStoSpec, rputSpec, rreadSpec, rctgcSpec, rgapsSpec, Ty.T, Ty.dflt, KT.T, getM, putM, delM, inI64, maxRow]; first | with_reducible rfl | with_reducible assumption | (symm; with_reducible assumption) | (simp only [natCast_eq]; with_reducible rfl) | omega)
         | omega
         | (dsimp only [putSpec, readSpec, gapsSpec, endSpec, endF, offSpec, offF, ctgSpec, ctgF, heldSpec, heldF, geqSpec, smallSpec, newStoSpec, rputSpec, rreadSpec, rctgcSpec, rgapsSpec, Ty.T, Ty.dflt, KT.T, getM, putM, delM, inI64, maxRow]; (try simp only [natCast_eq, List.nil_append]); first | with_reducible rfl | exact take_cg (by omega) | exact drop_cg (by omega) | exact take_drop_cg (by omega) (by omega) | exact take_all (by omega) | exact take_drop_all (by omega) (by omega) | exact drop_take_cg (by omega) (by omega) (by omega))
         | first | exact ⟨hok.pre, hG.len⟩ | exact hok.pre | exact hP.ok.preG | exact hR.ok.preG | exact Nat.le_trans (Nat.le_of_eq (List.length_map _)) (gaps_len hP.ok) | exact Nat.le_trans (Nat.le_of_eq (List.length_map _)) (gaps_len hR.ok) | (dsimp only [Ty.T, Ty.dflt]; simp only [pair_eta, map_idL, e1, e2]; first | exact ⟨preR_of hok, hG.len⟩ | exact preR_of hok | exact hP.pr | exact hR.pr | exact hP.pq | exact hR.pq | exact ⟨hG.by2, hG.by2⟩)
         | ((try dsimp only [putSpec, readSpec, gapsSpec, endSpec, endF, offSpec, offF, ctgSpec, ctgF, heldSpec, heldF, geqSpec, smallSpec, newStoSpec, rputSpec, rreadSpec, rctgcSpec, rgapsSpec, Ty.T, Ty.dflt, KT.T, getM, putM, delM, inI64, maxRow]); simp only [decide_eq_true_eq, decide_eq_false_iff_not, Bool.not_eq_true', Bool.not_eq_false', Bool.not_eq_true, Bool.not_eq_false, Bool.not_true, Bool.not_false, ne_eq, Bool.false_eq_true, Bool.true_eq_false, reduceCtorEq, beq_iff_eq, beq_eq_false_iff_ne, not_true_eq_false, not_false_eq_true, pair_eta, map_idL, natCast_eq, inI64, maxRow]; first | done | with_reducible assumption | omega)
         | exact map_pair_id _
         | ((try dsimp only [putSpec, readSpec, gapsSpec, endSpec, endF, offSpec, offF, ctgSpec, ctgF, heldSpec, heldF, geqSpec, smallSpec, newStoSpec, rputSpec, rreadSpec, rctgcSpec, rgapsSpec, Ty.T, Ty.dflt, KT.T, getM, putM, delM, inI64, maxRow]) <;> (try simp only [natCast_eq]) <;> omega)
         | ((try dsimp only [putSpec, readSpec, gapsSpec, endSpec, endF, offSpec, offF, ctgSpec, ctgF, heldSpec, heldF, geqSpec, smallSpec, newStoSpec, rputSpec, rreadSpec, rctgcSpec, rgapsSpec, Ty.T, Ty.dflt, KT.T, getM, putM, delM, inI64, maxRow] at *) <;> (try simp only [natCast_eq] at *) <;> omega)
         | ((try dsimp only [putSpec, readSpec, gapsSpec, endSpec, endF, offSpec, offF, ctgSpec, ctgF, heldSpec, heldF, geqSpec, smallSpec, newStoSpec, rputSpec, rreadSpec, rctgcSpec, rgapsSpec, Ty.T, Ty.dflt, KT.T, getM, putM, delM, inI64, maxRow] at *) <;> (try simp only [List.length_append, List.length_cons, List.length_nil, List.length_replicate, List.length_take, List.length_drop, natCast_eq] at *) <;> omega)
         | assumption
         | (symm; assumption)
         | (dsimp only; simp only [Bool.or_true, Bool.true_or, Bool.or_false, Bool.false_or, Bool.and_true, Bool.true_and, Bool.and_false, Bool.false_and, Bool.not_true, Bool.not_false, *]; done)
         | (simp; done)
         | (and_intros <;> first | trivial | with_reducible assumption | omega)
         | ((try dsimp only [putSpec, readSpec, gapsSpec, endSpec, endF, offSpec, offF, ctgSpec, ctgF, heldSpec, heldF, geqSpec, smallSpec, newStoSpec, rputSpec, rreadSpec, rctgcSpec, rgapsSpec, Ty.T, Ty.dflt, KT.T, getM, putM, delM, inI64, maxRow] at *) <;> simp [*] <;> done))
    | skip
  · obtain ⟨y, hy0, hy1⟩ := next_LCl (L := L) (S := (putA1 L S i).2) hlo (by assumption) hP.ok
    refine ⟨y, by dsimp only; (try simp only [natCast_eq]); omega, ?_⟩
    (try (conv in (LoopInv.inv _ _) => dsimp only)); (try (conv in (SS.mk _ _) => cbv; (try dsimp only [putSpec, readSpec, gapsSpec, endSpec, endF, offSpec, offF, ctgSpec, ctgF, heldSpec, heldF, geqSpec, smallSpec, newStoSpec, rputSpec, rreadSpec, rctgcSpec, rgapsSpec, Ty.T, Ty.dflt, KT.T]); (try simp only [natCast_eq])))
    (refine (?_ : T1 _ ?_) ?_; rotate_left 1; (conv => lhs; cbv; (try cbv); (try cbv)); intro hT; clear hT; refine Sh.mk (by kernel_rfl) ?_)
    repeat' (first
      | with_reducible refine Ck.mk (C := tt) tt_intro ?_
      | with_reducible refine Ck.mk (show drawOk _ _ = true by kernel_rfl) ?_
      | with_reducible refine Ck.all_cons ?_
      | with_reducible refine Ck.all_nil ?_
      | with_reducible refine Ck.mk (by assumption) ?_
      | with_reducible refine Ck.mk (decide_eq_true (by assumption)) ?_
      | with_reducible refine Ck.mk (decide_eq_false (by assumption)) ?_
      | with_reducible refine Ck.mk ?_ ?_
      | (with_reducible refine Both.mk (fun h => ?_) (fun h => ?_) <;> (have hk := h) <;> (try simp only [decide_eq_true_eq, decide_eq_false_iff_not, Bool.not_eq_true', Bool.not_eq_false', Bool.not_eq_true, Bool.not_eq_false, Bool.not_true, Bool.not_false, ne_eq, Bool.false_eq_true, Bool.true_eq_false, reduceCtorEq, beq_iff_eq, beq_eq_false_iff_ne, not_true_eq_false, not_false_eq_true, pair_eta, map_idL] at h) <;> (try dsimp only [putSpec, readSpec, gapsSpec, endSpec, endF, offSpec, offF, ctgSpec, ctgF, heldSpec, heldF, geqSpec, smallSpec, newStoSpec, rputSpec, rreadSpec, rctgcSpec, rgapsSpec, Ty.T, Ty.dflt, KT.T, getM, putM, delM] at h) <;> (try simp only [natCast_eq] at h) <;> (try (have hG := clG hok hL hsm hlo h; have e1 := hG.e1; have e2 := hG.e2; have hP := hG.p; have hR := hG.r; dsimp only [mof, putA1, readA1, segA, elA] at e1 e2 hP hR; have p1 := hP.a1; have p2 := hP.a2; have p3 := hP.a3; have p4 := hP.a4; have r1 := hR.a1; have r2 := hR.a2; have r3 := hR.a3; have r4 := hR.a4; dsimp only [mof] at p3 p4 r3 r4)) <;> (try simp only [pair_eta, map_idL, e1, e2, p1, p2, p3, p4, r1, r2, r3, r4, natCast_eq] at h) <;> (try (exfalso; exact absurd rfl h)) <;> (try (exfalso; exact absurd ((geq_self _).symm.trans h) Bool.noConfusion)) <;> (try first | rw [if_pos h] at hr | rw [if_neg h] at hr | rw [ifF h] at hr | rw [ifN h] at hr) <;> (try (have hb : (_ : Bool) = _ := h; clear h; subst hb; (try first | rw [if_pos rfl] at hr | rw [if_neg Bool.false_ne_true] at hr))) <;> first | (exfalso; omega) | exact absurd (h.symm.trans (by assumption) : true = false) Bool.noConfusion | exact absurd (h.symm.trans (by assumption) : false = true) Bool.noConfusion | (refine (?_ : T1 _ ?_) ?_; rotate_left 1; (conv => lhs; cbv; (try cbv); (try cbv)); intro hT; clear hT; refine Sh.mk (by kernel_rfl) ?_))
      | (with_reducible refine Alt.mk (fun h => ?_) (fun h => ?_) <;> (have hk := h) <;> (try simp only [decide_eq_true_eq, decide_eq_false_iff_not, Bool.not_eq_true', Bool.not_eq_false', Bool.not_eq_true, Bool.not_eq_false, Bool.not_true, Bool.not_false, ne_eq, Bool.false_eq_true, Bool.true_eq_false, reduceCtorEq, beq_iff_eq, beq_eq_false_iff_ne, not_true_eq_false, not_false_eq_true, pair_eta, map_idL] at h) <;> (try dsimp only [putSpec, readSpec, gapsSpec, endSpec, endF, offSpec, offF, ctgSpec, ctgF, heldSpec, heldF, geqSpec, smallSpec, newStoSpec, rputSpec, rreadSpec, rctgcSpec, rgapsSpec, Ty.T, Ty.dflt, KT.T, getM, putM, delM] at h) <;> (try simp only [natCast_eq] at h) <;> (try (have hG := clG hok hL hsm hlo h; have e1 := hG.e1; have e2 := hG.e2; have hP := hG.p; have hR := hG.r; dsimp only [mof, putA1, readA1, segA, elA] at e1 e2 hP hR; have p1 := hP.a1; have p2 := hP.a2; have p3 := hP.a3; have p4 := hP.a4; have r1 := hR.a1; have r2 := hR.a2; have r3 := hR.a3; have r4 := hR.a4; dsimp only [mof] at p3 p4 r3 r4)) <;> (try simp only [pair_eta, map_idL, e1, e2, p1, p2, p3, p4, r1, r2, r3, r4, natCast_eq] at h) <;> (try (exfalso; exact absurd rfl h)) <;> (try (exfalso; exact absurd ((geq_self _).symm.trans h) Bool.noConfusion)) <;> (try first | rw [if_pos h] at hr | rw [if_neg h] at hr | rw [ifF h] at hr | rw [ifN h] at hr) <;> (try (have hb : (_ : Bool) = _ := h; clear h; subst hb; (try first | rw [if_pos rfl] at hr | rw [if_neg Bool.false_ne_true] at hr))) <;> first | (exfalso; omega) | exact absurd (h.symm.trans (by assumption) : true = false) Bool.noConfusion | exact absurd (h.symm.trans (by assumption) : false = true) Bool.noConfusion | (refine (?_ : T1 _ ?_) ?_; rotate_left 1; (conv => lhs; cbv; (try cbv); (try cbv)); intro hT; clear hT; refine Sh.mk (by kernel_rfl) ?_))
      | (with_reducible refine Pick.mk (fun h => ?_) (fun l1 x l2 h => ?_) <;> (refine (?_ : T1 _ ?_) ?_; rotate_left 1; (conv => lhs; cbv; (try cbv); (try cbv)); intro hT; clear hT; refine Sh.mk (by kernel_rfl) ?_))
      | ((with_reducible refine End.mk ?_); skip)
      | with_reducible exact True.intro)
    all_goals first
      | (fail_if_success (with_reducible refine Exists.intro ?_ ?_)
         first
           | with_reducible rfl
           | with_reducible assumption
           | (dsimp only [putSpec, readSpec, gapsSpec, endSpec, endF, offSpec, offF, ctgSpec, ctgF, heldSpec, heldF, geqSpec, smallSpec, newStoSpec, rputSpec, rreadSpec, rctgcSpec, rgapsSpec, Ty.T, Ty.dflt, KT.T, getM, putM, delM, inI64, maxRow]; done)
           | (symm; with_reducible assumption)
           | (dsimp only [putSpec, readSpec, gapsSpec, endSpec, endF, offSpec, offF, ctgSpec, ctgF, heldSpec, heldF, geqSpec, smallSpec, newStoSpec, rputSpec, rreadSpec, rctgcSpec, rgapsSpec, Ty.T, Ty.dflt, KT.T, getM, putM, delM, inI64, maxRow]; first | with_reducible rfl | with_reducible assumption | (symm; with_reducible assumption) | (simp only [natCast_eq]; with_reducible rfl) | omega)
           | omega
           | (dsimp only [putSpec, readSpec, gapsSpec, endSpec, endF, offSpec, offF, ctgSpec, ctgF, heldSpec, heldF, geqSpec, smallSpec, newStoSpec, rputSpec, rreadSpec, rctgcSpec, rgapsSpec, Ty.T, Ty.dflt, KT.T, getM, putM, delM, inI64, maxRow]; (try simp only [natCast_eq, List.nil_append]); first | with_reducible rfl | exact take_cg (by omega) | exact drop_cg (by omega) | exact take_drop_cg (by omega) (by omega) | exact take_all (by omega) | exact take_drop_all (by omega) (by omega) | exact drop_take_cg (by omega) (by omega) (by omega))
           | first | exact hy1.symm | (rw [hy1]; simp only [pair_eta, map_idL, e1, e2]; done)
           | ((try dsimp only [putSpec, readSpec, gapsSpec, endSpec, endF, offSpec, offF, ctgSpec, ctgF, heldSpec, heldF, geqSpec, smallSpec, newStoSpec, rputSpec, rreadSpec, rctgcSpec, rgapsSpec, Ty.T, Ty.dflt, KT.T, getM, putM, delM, inI64, maxRow]); simp only [decide_eq_true_eq, decide_eq_false_iff_not, Bool.not_eq_true', Bool.not_eq_false', Bool.not_eq_true, Bool.not_eq_false, Bool.not_true, Bool.not_false, ne_eq, Bool.false_eq_true, Bool.true_eq_false, reduceCtorEq, beq_iff_eq, beq_eq_false_iff_ne, not_true_eq_false, not_false_eq_true, pair_eta, map_idL, natCast_eq, inI64, maxRow]; first | done | with_reducible assumption | omega)
           | exact map_pair_id _
           | ((try dsimp only [putSpec, readSpec, gapsSpec, endSpec, endF, offSpec, offF, ctgSpec, ctgF, heldSpec, heldF, geqSpec, smallSpec, newStoSpec, rputSpec, rreadSpec, rctgcSpec, rgapsSpec, Ty.T, Ty.dflt, KT.T, getM, putM, delM, inI64, maxRow]) <;> (try simp only [natCast_eq]) <;> omega)
           | ((try dsimp only [putSpec, readSpec, gapsSpec, endSpec, endF, offSpec, offF, ctgSpec, ctgF, heldSpec, heldF, geqSpec, smallSpec, newStoSpec, rputSpec, rreadSpec, rctgcSpec, rgapsSpec, Ty.T, Ty.dflt, KT.T, getM, putM, delM, inI64, maxRow] at *) <;> (try simp only [natCast_eq] at *) <;> omega)
           | ((try dsimp only [putSpec, readSpec, gapsSpec, endSpec, endF, offSpec, offF, ctgSpec, ctgF, heldSpec, heldF, geqSpec, smallSpec, newStoSpec, rputSpec, rreadSpec, rctgcSpec, rgapsSpec, Ty.T, Ty.dflt, KT.T, getM, putM, delM, inI64, maxRow] at *) <;> (try simp only [List.length_append, List.length_cons, List.length_nil, List.length_replicate, List.length_take, List.length_drop, natCast_eq] at *) <;> omega)
           | assumption
           | (symm; assumption)
           | (dsimp only; simp only [Bool.or_true, Bool.true_or, Bool.or_false, Bool.false_or, Bool.and_true, Bool.true_and, Bool.and_false, Bool.false_and, Bool.not_true, Bool.not_false, *]; done)
           | (simp; done)
           | (and_intros <;> first | trivial | with_reducible assumption | omega)
           | ((try dsimp only [putSpec, readSpec, gapsSpec, endSpec, endF, offSpec, offF, ctgSpec, ctgF, heldSpec, heldF, geqSpec, smallSpec, newStoSpec, rputSpec, rreadSpec, rctgcSpec, rgapsSpec, Ty.T, Ty.dflt, KT.T, getM, putM, delM, inI64, maxRow] at *) <;> simp [*] <;> done))
      | skip
  · obtain ⟨y, hy0, hy1⟩ := next_LCl (L := L) (S := (readA1 L S i).2) hlo (by assumption) hR.ok
    refine ⟨y, by dsimp only; (try simp only [natCast_eq]); omega, ?_⟩
    (try (conv in (LoopInv.inv _ _) => dsimp only)); (try (conv in (SS.mk _ _) => cbv; (try dsimp only [putSpec, readSpec, gapsSpec, endSpec, endF, offSpec, offF, ctgSpec, ctgF, heldSpec, heldF, geqSpec, smallSpec, newStoSpec, rputSpec, rreadSpec, rctgcSpec, rgapsSpec, Ty.T, Ty.dflt, KT.T]); (try simp only [natCast_eq])))
    (refine (?_ : T1 _ ?_) ?_; rotate_left 1; (conv => lhs; cbv; (try cbv); (try cbv)); intro hT; clear hT; refine Sh.mk (by kernel_rfl) ?_)
    repeat' (first
      | with_reducible refine Ck.mk (C := tt) tt_intro ?_
      | with_reducible refine Ck.mk (show drawOk _ _ = true by kernel_rfl) ?_
      | with_reducible refine Ck.all_cons ?_
      | with_reducible refine Ck.all_nil ?_
      | with_reducible refine Ck.mk (by assumption) ?_
      | with_reducible refine Ck.mk (decide_eq_true (by assumption)) ?_
      | with_reducible refine Ck.mk (decide_eq_false (by assumption)) ?_
      | with_reducible refine Ck.mk ?_ ?_
      | (with_reducible refine Both.mk (fun h => ?_) (fun h => ?_) <;> (have hk := h) <;> (try simp only [decide_eq_true_eq, decide_eq_false_iff_not, Bool.not_eq_true', Bool.not_eq_false', Bool.not_eq_true, Bool.not_eq_false, Bool.not_true, Bool.not_false, ne_eq, Bool.false_eq_true, Bool.true_eq_false, reduceCtorEq, beq_iff_eq, beq_eq_false_iff_ne, not_true_eq_false, not_false_eq_true, pair_eta, map_idL] at h) <;> (try dsimp only [putSpec, readSpec, gapsSpec, endSpec, endF, offSpec, offF, ctgSpec, ctgF, heldSpec, heldF, geqSpec, smallSpec, newStoSpec, rputSpec, rreadSpec, rctgcSpec, rgapsSpec, Ty.T, Ty.dflt, KT.T, getM, putM, delM] at h) <;> (try simp only [natCast_eq] at h) <;> (try (have hG := clG hok hL hsm hlo h; have e1 := hG.e1; have e2 := hG.e2; have hP := hG.p; have hR := hG.r; dsimp only [mof, putA1, readA1, segA, elA] at e1 e2 hP hR; have p1 := hP.a1; have p2 := hP.a2; have p3 := hP.a3; have p4 := hP.a4; have r1 := hR.a1; have r2 := hR.a2; have r3 := hR.a3; have r4 := hR.a4; dsimp only [mof] at p3 p4 r3 r4)) <;> (try simp only [pair_eta, map_idL, e1, e2, p1, p2, p3, p4, r1, r2, r3, r4, natCast_eq] at h) <;> (try (exfalso; exact absurd rfl h)) <;> (try (exfalso; exact absurd ((geq_self _).symm.trans h) Bool.noConfusion)) <;> (try first | rw [if_pos h] at hr | rw [if_neg h] at hr | rw [ifF h] at hr | rw [ifN h] at hr) <;> (try (have hb : (_ : Bool) = _ := h; clear h; subst hb; (try first | rw [if_pos rfl] at hr | rw [if_neg Bool.false_ne_true] at hr))) <;> first | (exfalso; omega) | exact absurd (h.symm.trans (by assumption) : true = false) Bool.noConfusion | exact absurd (h.symm.trans (by assumption) : false = true) Bool.noConfusion | (refine (?_ : T1 _ ?_) ?_; rotate_left 1; (conv => lhs; cbv; (try cbv); (try cbv)); intro hT; clear hT; refine Sh.mk (by kernel_rfl) ?_))
      | (with_reducible refine Alt.mk (fun h => ?_) (fun h => ?_) <;> (have hk := h) <;> (try simp only [decide_eq_true_eq, decide_eq_false_iff_not, Bool.not_eq_true', Bool.not_eq_false', Bool.not_eq_true, Bool.not_eq_false, Bool.not_true, Bool.not_false, ne_eq, Bool.false_eq_true, Bool.true_eq_false, reduceCtorEq, beq_iff_eq, beq_eq_false_iff_ne, not_true_eq_false, not_false_eq_true, pair_eta, map_idL] at h) <;> (try dsimp only [putSpec, readSpec, gapsSpec, endSpec, endF, offSpec, offF, ctgSpec, ctgF, heldSpec, heldF, geqSpec, smallSpec, newStoSpec, rputSpec, rreadSpec, rctgcSpec, rgapsSpec, Ty.T, Ty.dflt, KT.T, getM, putM, delM] at h) <;> (try simp only [natCast_eq] at h) <;> (try (have hG := clG hok hL hsm hlo h; have e1 := hG.e1; have e2 := hG.e2; have hP := hG.p; have hR := hG.r; dsimp only [mof, putA1, readA1, segA, elA] at e1 e2 hP hR; have p1 := hP.a1; have p2 := hP.a2; have p3 := hP.a3; have p4 := hP.a4; have r1 := hR.a1; have r2 := hR.a2; have r3 := hR.a3; have r4 := hR.a4; dsimp only [mof] at p3 p4 r3 r4)) <;> (try simp only [pair_eta, map_idL, e1, e2, p1, p2, p3, p4, r1, r2, r3, r4, natCast_eq] at h) <;> (try (exfalso; exact absurd rfl h)) <;> (try (exfalso; exact absurd ((geq_self _).symm.trans h) Bool.noConfusion)) <;> (try first | rw [if_pos h] at hr | rw [if_neg h] at hr | rw [ifF h] at hr | rw [ifN h] at hr) <;> (try (have hb : (_ : Bool) = _ := h; clear h; subst hb; (try first | rw [if_pos rfl] at hr | rw [if_neg Bool.false_ne_true] at hr))) <;> first | (exfalso; omega) | exact absurd (h.symm.trans (by assumption) : true = false) Bool.noConfusion | exact absurd (h.symm.trans (by assumption) : false = true) Bool.noConfusion | (refine (?_ : T1 _ ?_) ?_; rotate_left 1; (conv => lhs; cbv; (try cbv); (try cbv)); intro hT; clear hT; refine Sh.mk (by kernel_rfl) ?_))
      | (with_reducible refine Pick.mk (fun h => ?_) (fun l1 x l2 h => ?_) <;> (refine (?_ : T1 _ ?_) ?_; rotate_left 1; (conv => lhs; cbv; (try cbv); (try cbv)); intro hT; clear hT; refine Sh.mk (by kernel_rfl) ?_))
      | ((with_reducible refine End.mk ?_); skip)
      | with_reducible exact True.intro)
    all_goals first
      | (fail_if_success (with_reducible refine Exists.intro ?_ ?_)
         first
           | with_reducible rfl
           | with_reducible assumption
           | (dsimp only [putSpec, readSpec, gapsSpec, endSpec, endF, offSpec, offF, ctgSpec, ctgF, heldSpec, heldF, geqSpec, smallSpec, newStoSpec, rputSpec, rreadSpec, rctgcSpec, rgapsSpec, Ty.T, Ty.dflt, KT.T, getM, putM, delM, inI64, maxRow]; done)
           | (symm; with_reducible assumption)
           | (dsimp only [putSpec, readSpec, gapsSpec, endSpec, endF, offSpec, offF, ctgSpec, ctgF, heldSpec, heldF, geqSpec, smallSpec, newStoSpec, rputSpec, rreadSpec, rctgcSpec, rgapsSpec, Ty.T, Ty.dflt, KT.T, getM, putM, delM, inI64, maxRow]; first | with_reducible rfl | with_reducible assumption | (symm; with_reducible assumption) | (simp only [natCast_eq]; with_reducible rfl) | omega)
           | omega
           | (dsimp only [putSpec, readSpec, gapsSpec, endSpec, endF, offSpec, offF, ctgSpec, ctgF, heldSpec, heldF, geqSpec, smallSpec, newStoSpec, rputSpec, rreadSpec, rctgcSpec, rgapsSpec, Ty.T, Ty.dflt, KT.T, getM, putM, delM, inI64, maxRow]; (try simp only [natCast_eq, List.nil_append]); first | with_reducible rfl | exact take_cg (by omega) | exact drop_cg (by omega) | exact take_drop_cg (by omega) (by omega) | exact take_all (by omega) | exact take_drop_all (by omega) (by omega) | exact drop_take_cg (by omega) (by omega) (by omega))
           | first | exact hy1.symm | (rw [hy1]; simp only [pair_eta, map_idL, e1, e2]; done)
           | ((try dsimp only [putSpec, readSpec, gapsSpec, endSpec, endF, offSpec, offF, ctgSpec, ctgF, heldSpec, heldF, geqSpec, smallSpec, newStoSpec, rputSpec, rreadSpec, rctgcSpec, rgapsSpec, Ty.T, Ty.dflt, KT.T, getM, putM, delM, inI64, maxRow]); simp only [decide_eq_true_eq, decide_eq_false_iff_not, Bool.not_eq_true', Bool.not_eq_false', Bool.not_eq_true, Bool.not_eq_false, Bool.not_true, Bool.not_false, ne_eq, Bool.false_eq_true, Bool.true_eq_false, reduceCtorEq, beq_iff_eq, beq_eq_false_iff_ne, not_true_eq_false, not_false_eq_true, pair_eta, map_idL, natCast_eq, inI64, maxRow]; first | done | with_reducible assumption | omega)
           | exact map_pair_id _
           | ((try dsimp only [putSpec, readSpec, gapsSpec, endSpec, endF, offSpec, offF, ctgSpec, ctgF, heldSpec, heldF, geqSpec, smallSpec, newStoSpec, rputSpec, rreadSpec, rctgcSpec, rgapsSpec, Ty.T, Ty.dflt, KT.T, getM, putM, delM, inI64, maxRow]) <;> (try simp only [natCast_eq]) <;> omega)
           | ((try dsimp only [putSpec, readSpec, gapsSpec, endSpec, endF, offSpec, offF, ctgSpec, ctgF, heldSpec, heldF, geqSpec, smallSpec, newStoSpec, rputSpec, rreadSpec, rctgcSpec, rgapsSpec, Ty.T, Ty.dflt, KT.T, getM, putM, delM, inI64, maxRow] at *) <;> (try simp only [natCast_eq] at *) <;> omega)
           | ((try dsimp only [putSpec, readSpec, gapsSpec, endSpec, endF, offSpec, offF, ctgSpec, ctgF, heldSpec, heldF, geqSpec, smallSpec, newStoSpec, rputSpec, rreadSpec, rctgcSpec, rgapsSpec, Ty.T, Ty.dflt, KT.T, getM, putM, delM, inI64, maxRow] at *) <;> (try simp only [List.length_append, List.length_cons, List.length_nil, List.length_replicate, List.length_take, List.length_drop, natCast_eq] at *) <;> omega)
           | assumption
           | (symm; assumption)
           | (dsimp only; simp only [Bool.or_true, Bool.true_or, Bool.or_false, Bool.false_or, Bool.and_true, Bool.true_and, Bool.and_false, Bool.false_and, Bool.not_true, Bool.not_false, *]; done)
           | (simp; done)
           | (and_intros <;> first | trivial | with_reducible assumption | omega)
           | ((try dsimp only [putSpec, readSpec, gapsSpec, endSpec, endF, offSpec, offF, ctgSpec, ctgF, heldSpec, heldF, geqSpec, smallSpec, newStoSpec, rputSpec, rreadSpec, rctgcSpec, rgapsSpec, Ty.T, Ty.dflt, KT.T, getM, putM, delM, inI64, maxRow] at *) <;> simp [*] <;> done))
      | skip
theorem cls_sound : ConSound Try.prog AI 10 clsSpec.con := PureSpec.sound Try.call10 (fun x h => cls_ok x.1 x.2.1 h)
end Go.Proofs.Ytonegoinplddmaa
