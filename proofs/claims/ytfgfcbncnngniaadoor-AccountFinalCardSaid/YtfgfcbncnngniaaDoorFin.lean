/-
  Layer 50: AccountFinal, the walk.
-/
import Derived.Test.YtfgfcbncnngniaaDoorBlw
namespace Go.Proofs.YtfgfcbncnngniaaDoor
set_option linter.all false
set_option linter.unusedVariables false
set_option linter.unusedSimpArgs false
set_option linter.unusedSectionVars false
open Go.RowKit Go.Sx
set_option maxRecDepth 100000
set_option maxHeartbeats 16000000
def setN (b : Fv) (i v : Int) : Fv := if i = 0 then (v, b.2.1, b.2.2.1, b.2.2.2.1, b.2.2.2.2) else if i = 1 then (b.1, v, b.2.2.1, b.2.2.2.1, b.2.2.2.2) else if i = 2 then (b.1, b.2.1, v, b.2.2.2.1, b.2.2.2.2) else if i = 3 then (b.1, b.2.1, b.2.2.1, v, b.2.2.2.2) else (b.1, b.2.1, b.2.2.1, b.2.2.2.1, v)
theorem nth_set (b : Fv) (v : Int) {i a : Int} (h0 : 0 ≤ i) (h5 : i < 5) (g0 : 0 ≤ a) (g5 : a < 5) : nth5 (setN b i v) a = if a = i then v else nth5 b a := by
  rcases cases5 h0 h5 with rfl | rfl | rfl | rfl | rfl <;> rcases cases5 g0 g5 with rfl | rfl | rfl | rfl | rfl <;> rfl
structure LF (l : List Fv) (c : Int) where
  i : Int
  b : Fv
  lo : 0 ≤ i
  hi : i ≤ 5
  eq : ∀ a, 0 ≤ a → a < i → nth5 b a = balR l c a
theorem LF.step {S : Led} (hok : OkB S) {c : Int} (z : LF S.ents c) (h : z.i < 5) : ∃ (v : Int) (y : LF S.ents c), (balF S c z.i).1 = v ∧ y.i = z.i + 1 ∧ y.b = setN z.b z.i v := by
  have h0 := z.lo
  refine ⟨_, ⟨z.i + 1, setN z.b z.i (balF S c z.i).1, by omega, by omega, fun a g0 g1 => ?_⟩, rfl, rfl, rfl⟩
  rw [nth_set _ _ h0 h g0 (by omega)]
  split
  · rename_i e; rw [e]; exact bal5 hok h0 h c
  · exact z.eq a g0 (by omega)
structure Fv5 (l : List Fv) (c : Int) (b : Fv) : Prop where
  a0 : b.1 = balR l c 0
  a1 : b.2.1 = balR l c 1
  a2 : b.2.2.1 = balR l c 2
  a3 : b.2.2.2.1 = balR l c 3
  a4 : b.2.2.2.2 = balR l c 4
theorem LF.done {l : List Fv} {c : Int} (z : LF l c) (h : ¬ z.i < 5) : Fv5 l c z.b := by
  have := z.hi
  exact ⟨z.eq 0 (by omega) (by omega), z.eq 1 (by omega) (by omega), z.eq 2 (by omega) (by omega), z.eq 3 (by omega) (by omega), z.eq 4 (by omega) (by omega)⟩
theorem fin_step {S S' : Led} (hok : OkB S) {e : Fv} {f : Int} (hb : bookF S e = ((f, ()), S')) {a : Int} (h0 : 0 ≤ a) (h5 : a < 5) :
    ∃ w v : Int, (balF S' e.2.1 a).1 = v ∧ (a = 0 → v = balR S.ents e.2.1 0 + w) ∧ (a = 1 → v = balR S.ents e.2.1 1 + w) ∧ (a = 2 → v = balR S.ents e.2.1 2 + w) ∧ (a = 3 → v = balR S.ents e.2.1 3 + w) ∧ (a = 4 → v = balR S.ents e.2.1 4 + w) ∧
    (¬ f = 0 → w = 0) ∧ (f = 0 → (1 ≤ e.2.2.2.2 ∧ e.2.2.2.2 ≤ 1048576) ∧ e.2.2.1 < 3 ∧ ¬ e.2.2.1 = e.2.2.2.1) ∧ (f = 0 ∧ a = e.2.2.1 → w = -e.2.2.2.2) ∧ (f = 0 ∧ a = e.2.2.2.1 → w = e.2.2.2.2) ∧ (f = 0 ∧ ¬ a = e.2.2.1 ∧ ¬ a = e.2.2.2.1 → w = 0) := by
  have hk := okB_book hok e
  rw [hb] at hk
  have h1 := bal5 hk h0 h5 e.2.1
  have hr := book_ref hok e
  rw [hb] at hr
  by_cases c : refF S.ents e = 0
  · rw [if_pos c] at hr
    have e1 : f = 0 := congrArg (fun q => q.1.1) hr
    have e2 : S'.ents = S.ents ++ [e] := congrArg (fun q => q.2.ents) hr
    obtain ⟨he, _, _⟩ := ref0 c
    have hf := he.ft
    rw [e2, balR_snoc] at h1
    refine ⟨dE e e.2.1 a, _, h1, fun q => by rw [q], fun q => by rw [q], fun q => by rw [q], fun q => by rw [q], fun q => by rw [q], fun q => absurd e1 q, fun _ => ⟨he.n, by omega, by omega⟩, fun q => ?_, fun q => ?_, fun q => ?_⟩
    · unfold dE; rw [if_pos ⟨rfl, q.2.symm⟩, if_neg (fun p => by have := p.2; omega)]; omega
    · unfold dE; rw [if_neg (fun p => by have := p.2; omega), if_pos ⟨rfl, q.2.symm⟩]; omega
    · unfold dE; rw [if_neg (fun p => q.2.1 p.2.symm), if_neg (fun p => q.2.2 p.2.symm)]; rfl
  · rw [if_neg c] at hr
    have e1 : f = refF S.ents e := congrArg (fun q => q.1.1) hr
    have e2 : S'.ents = S.ents := congrArg (fun q => q.2.ents) hr
    rw [e2] at h1
    exact ⟨0, _, h1, fun q => by rw [q]; omega, fun q => by rw [q]; omega, fun q => by rw [q]; omega, fun q => by rw [q]; omega, fun q => by rw [q]; omega, fun _ => rfl, fun q => absurd (e1.symm.trans q) c, fun q => absurd (e1.symm.trans q.1) c, fun q => absurd (e1.symm.trans q.1) c, fun q => absurd (e1.symm.trans q.1) c⟩
theorem balR_b5 {S : Led} (hok : OkB S) (c : Int) : (-10485760000 ≤ balR S.ents c 0 ∧ balR S.ents c 0 ≤ 10485760000) ∧ (-10485760000 ≤ balR S.ents c 1 ∧ balR S.ents c 1 ≤ 10485760000) ∧ (-10485760000 ≤ balR S.ents c 2 ∧ balR S.ents c 2 ≤ 10485760000) ∧ (-10485760000 ≤ balR S.ents c 3 ∧ balR S.ents c 3 ≤ 10485760000) ∧ (-10485760000 ≤ balR S.ents c 4 ∧ balR S.ents c 4 ≤ 10485760000) := by
  have hl := hok.len
  have h0 := balR_bnd hok.ent c 0
  have h1 := balR_bnd hok.ent c 1
  have h2 := balR_bnd hok.ent c 2
  have h3 := balR_bnd hok.ent c 3
  have h4 := balR_bnd hok.ent c 4
  omega
noncomputable abbrev Efn : Env Ab := ⟨tis, [(14, balSpec.con), (19, bookSpec.con), (18, newLSpec.con), (12, awakeSpec.con)] ++ E0.con⟩
theorem efnOk : EnvOk Tryd.prog AI Efn := ((((e0Ok.add awake_sound).add newL_sound).add book_sound).add bal_sound)
def finF (_ : List Fv) : Tup [DT.cell .bool] := (true, ())
def finSpec : PureSpec := ⟨[.lst fvE], fun (x : (List Fv) × Unit) => x.1.length ≤ maxLen ∧ ∀ e ∈ x.1, fvE.ok e, [.cell .bool], fun (x : (List Fv) × Unit) => finF x.1⟩
theorem fin_ok (L : List Fv) (h : finSpec.pre (L, ())) : TmplOk Tryd.prog AI 5 (argS finSpec.ds (fun _ => (L, ()))) [] (resOf (svs finSpec.rs (fun _ => finSpec.f (L, ())))) [] := by
  dsimp only [finSpec] at h ⊢
  generalize hr : finF L = r
  obtain ⟨hL0, hL⟩ := h
  dsimp only [finF] at hr
  refine tmpl_of_body efnOk mixed (fn := Tryd.f5) (c := bodyOf Tryd.f5) (by kernel_rfl) (by kernel_rfl) (by kernel_rfl) (Nat.le_of_ble_eq_true (by kernel_rfl)) ?_
  (try (conv in (LoopInv.inv _ _) => dsimp only)); (try (conv in (SS.mk _ _) => cbv; (try dsimp only [bookSpec, balSpec, Ty.T, Ty.dflt, KT.T]); (try simp only [natCast_eq])))
  (with_reducible refine (?_ : T1 _ ?_) ?_; rotate_left 1; (conv => lhs; cbv; (try cbv); (try cbv)); intro hT; clear hT; with_reducible refine Sh.mk (by kernel_rfl) ?_)
  repeat' (first
    | with_reducible refine Ck.mk (C := tt) tt_intro ?_
    | with_reducible refine Ck.mk (show drawOk _ _ = true by kernel_rfl) ?_
    | with_reducible refine Ck.all_cons ?_
    | with_reducible refine Ck.all_nil ?_
    | with_reducible refine Ck.mk (by assumption) ?_
    | with_reducible refine Ck.mk (decide_eq_true (by assumption)) ?_
    | with_reducible refine Ck.mk (decide_eq_false (by assumption)) ?_
    | with_reducible refine Ck.mk ?_ ?_
    | (with_reducible refine Both.mk (fun h => ?_) (fun h => ?_) <;> (have hk := h) <;> (try simp only [decide_eq_true_eq, decide_eq_false_iff_not, Bool.not_eq_true', Bool.not_eq_false', Bool.not_eq_true, Bool.not_eq_false, Bool.not_true, Bool.not_false, ne_eq, Bool.false_eq_true, Bool.true_eq_false, reduceCtorEq, beq_iff_eq, beq_eq_false_iff_ne, not_true_eq_false, not_false_eq_true, pair_eta, map_idL] at h) <;> (try dsimp only [bookSpec, balSpec, Ty.T, Ty.dflt, KT.T, getM, putM, delM] at h) <;> (try simp only [natCast_eq] at h) <;> (try simp only [ofN0, ofN1, ofN2, ofN3, ofN4] at h) <;> (try (refine Exists.elim (z.step hok h) ?_; rintro v ⟨y, e1, hy0, hy1⟩)) <;> (try (refine Exists.elim (fin_step hok hb t.lo h) ?_; rintro w ⟨v, e1, g0, g1, g2, g3, g4, g5, g6, g7, g8, g9⟩)) <;> (try simp only [pair_eta, map_idL, he, hb, e1] at h) <;> (try first | rw [if_pos h] at hr | rw [if_neg h] at hr | rw [ifF h] at hr | rw [ifN h] at hr) <;> (try (have hb : (_ : Bool) = _ := h; clear h; subst hb; (try first | rw [if_pos rfl] at hr | rw [if_neg Bool.false_ne_true] at hr))) <;> first | (exfalso; omega) | exact absurd (h.symm.trans (by assumption) : true = false) Bool.noConfusion | exact absurd (h.symm.trans (by assumption) : false = true) Bool.noConfusion | (with_reducible refine (?_ : T1 _ ?_) ?_; rotate_left 1; (conv => lhs; cbv; (try cbv); (try cbv)); intro hT; clear hT; with_reducible refine Sh.mk (by kernel_rfl) ?_))
    | (with_reducible refine Alt.mk (fun h => ?_) (fun h => ?_) <;> (have hk := h) <;> (try simp only [decide_eq_true_eq, decide_eq_false_iff_not, Bool.not_eq_true', Bool.not_eq_false', Bool.not_eq_true, Bool.not_eq_false, Bool.not_true, Bool.not_false, ne_eq, Bool.false_eq_true, Bool.true_eq_false, reduceCtorEq, beq_iff_eq, beq_eq_false_iff_ne, not_true_eq_false, not_false_eq_true, pair_eta, map_idL] at h) <;> (try dsimp only [bookSpec, balSpec, Ty.T, Ty.dflt, KT.T, getM, putM, delM] at h) <;> (try simp only [natCast_eq] at h) <;> (try simp only [ofN0, ofN1, ofN2, ofN3, ofN4] at h) <;> (try (refine Exists.elim (z.step hok h) ?_; rintro v ⟨y, e1, hy0, hy1⟩)) <;> (try (refine Exists.elim (fin_step hok hb t.lo h) ?_; rintro w ⟨v, e1, g0, g1, g2, g3, g4, g5, g6, g7, g8, g9⟩)) <;> (try simp only [pair_eta, map_idL, he, hb, e1] at h) <;> (try first | rw [if_pos h] at hr | rw [if_neg h] at hr | rw [ifF h] at hr | rw [ifN h] at hr) <;> (try (have hb : (_ : Bool) = _ := h; clear h; subst hb; (try first | rw [if_pos rfl] at hr | rw [if_neg Bool.false_ne_true] at hr))) <;> first | (exfalso; omega) | exact absurd (h.symm.trans (by assumption) : true = false) Bool.noConfusion | exact absurd (h.symm.trans (by assumption) : false = true) Bool.noConfusion | (with_reducible refine (?_ : T1 _ ?_) ?_; rotate_left 1; (conv => lhs; cbv; (try cbv); (try cbv)); intro hT; clear hT; with_reducible refine Sh.mk (by kernel_rfl) ?_))
    | (with_reducible refine Pick.mk (fun h => ?_) (fun l1 x l2 h => ?_) <;> (with_reducible refine (?_ : T1 _ ?_) ?_; rotate_left 1; (conv => lhs; cbv; (try cbv); (try cbv)); intro hT; clear hT; with_reducible refine Sh.mk (by kernel_rfl) ?_))
    | ((with_reducible refine End.mk ?_); (try ((repeat (first | rw [if_pos (by first | assumption | omega)] at hr | rw [if_neg (by first | assumption | omega | (simp only [Bool.false_eq_true, Bool.true_eq_false, reduceCtorEq, not_false_eq_true]; done) | (simp only [Bool.not_eq_true]; assumption) | (simp only [Bool.not_eq_false]; assumption))] at hr | rw [if_pos rfl] at hr)); subst hr)))
    | with_reducible exact True.intro)
  all_goals first
    | (fail_if_success (with_reducible refine Exists.intro ?_ ?_)
       first
         | with_reducible rfl
         | with_reducible assumption
         | (dsimp only [bookSpec, balSpec, Ty.T, Ty.dflt, KT.T, getM, putM, delM, inI64, maxRow]; done)
         | (symm; with_reducible assumption)
         | (dsimp only [bookSpec, balSpec, Ty.T, Ty.dflt, KT.T, getM, putM, delM, inI64, maxRow]; first | with_reducible rfl | with_reducible assumption | (symm; with_reducible assumption) | (simp only [natCast_eq]; with_reducible rfl) | omega)
         | omega
         | (dsimp only [bookSpec, balSpec, Ty.T, Ty.dflt, KT.T, getM, putM, delM, inI64, maxRow]; (try simp only [natCast_eq, List.nil_append]); first | with_reducible rfl | exact take_cg (by omega) | exact drop_cg (by omega) | exact take_drop_cg (by omega) (by omega) | exact take_all (by omega) | exact take_drop_all (by omega) (by omega) | exact drop_take_cg (by omega) (by omega) (by omega))
         | ((try dsimp only [bookSpec, balSpec, Ty.T, Ty.dflt, KT.T, getM, putM, delM, inI64, maxRow]); simp only [decide_eq_true_eq, decide_eq_false_iff_not, Bool.not_eq_true', Bool.not_eq_false', Bool.not_eq_true, Bool.not_eq_false, Bool.not_true, Bool.not_false, ne_eq, Bool.false_eq_true, Bool.true_eq_false, reduceCtorEq, beq_iff_eq, beq_eq_false_iff_ne, not_true_eq_false, not_false_eq_true, pair_eta, map_idL, natCast_eq, inI64, maxRow]; first | done | with_reducible assumption | omega)
         | exact map_pair_id _
         | ((try dsimp only [bookSpec, balSpec, Ty.T, Ty.dflt, KT.T, getM, putM, delM, inI64, maxRow]) <;> (try simp only [natCast_eq]) <;> omega)
         | ((try dsimp only [bookSpec, balSpec, Ty.T, Ty.dflt, KT.T, getM, putM, delM, inI64, maxRow] at *) <;> (try simp only [natCast_eq] at *) <;> omega)
         | ((try dsimp only [bookSpec, balSpec, Ty.T, Ty.dflt, KT.T, getM, putM, delM, inI64, maxRow] at *) <;> (try simp only [List.length_append, List.length_cons, List.length_nil, List.length_replicate, List.length_take, List.length_drop, natCast_eq] at *) <;> omega)
         | assumption
         | (symm; assumption)
         | (dsimp only; simp only [Bool.or_true, Bool.true_or, Bool.or_false, Bool.false_or, Bool.and_true, Bool.true_and, Bool.and_false, Bool.false_and, Bool.not_true, Bool.not_false, *]; done)
         | (simp; done)
         | (and_intros <;> first | trivial | with_reducible assumption | omega)
         | ((try dsimp only [bookSpec, balSpec, Ty.T, Ty.dflt, KT.T, getM, putM, delM, inI64, maxRow] at *) <;> simp [*] <;> done))
    | skip
  obtain ⟨x0, hx0, hx1⟩ : ∃ x : LK L, x.i = 0 ∧ x.S = ⟨[], []⟩ := ⟨⟨0, ⟨[], []⟩, Int.le_refl _, by omega, rfl⟩, rfl, rfl⟩
  refine ⟨⟨LK L, fun x => ⟨[(3, Sx.one (.ptr 0 0)), (18, Sx.one (.ro fvE (fun _ => L))), (19, Sx.one (.int .i64 (fun _ => L.length))), (20, Sx.one (.int .i64 (fun _ => x.i)))], [.abs (.led (fun _ => x.S))]⟩, fun x => (L.length - x.i).toNat, x0⟩, ?_, fun (x : LK L) => ?_⟩
  · (try (conv in (LoopInv.inv _ _) => dsimp only)); (try (conv in (SS.mk _ _) => cbv; (try dsimp only [bookSpec, balSpec, Ty.T, Ty.dflt, KT.T]); (try simp only [natCast_eq])))
    (with_reducible refine (?_ : T1 _ ?_) ?_; rotate_left 1; (conv => lhs; cbv; (try cbv); (try cbv)); intro hT; clear hT; with_reducible refine Sh.mk (by kernel_rfl) ?_)
    repeat' (first
      | with_reducible refine Ck.mk (C := tt) tt_intro ?_
      | with_reducible refine Ck.mk (show drawOk _ _ = true by kernel_rfl) ?_
      | with_reducible refine Ck.all_cons ?_
      | with_reducible refine Ck.all_nil ?_
      | with_reducible refine Ck.mk (by assumption) ?_
      | with_reducible refine Ck.mk (decide_eq_true (by assumption)) ?_
      | with_reducible refine Ck.mk (decide_eq_false (by assumption)) ?_
      | with_reducible refine Ck.mk ?_ ?_
      | (with_reducible refine Both.mk (fun h => ?_) (fun h => ?_) <;> (have hk := h) <;> (try simp only [decide_eq_true_eq, decide_eq_false_iff_not, Bool.not_eq_true', Bool.not_eq_false', Bool.not_eq_true, Bool.not_eq_false, Bool.not_true, Bool.not_false, ne_eq, Bool.false_eq_true, Bool.true_eq_false, reduceCtorEq, beq_iff_eq, beq_eq_false_iff_ne, not_true_eq_false, not_false_eq_true, pair_eta, map_idL] at h) <;> (try dsimp only [bookSpec, balSpec, Ty.T, Ty.dflt, KT.T, getM, putM, delM] at h) <;> (try simp only [natCast_eq] at h) <;> (try simp only [ofN0, ofN1, ofN2, ofN3, ofN4] at h) <;> (try (refine Exists.elim (z.step hok h) ?_; rintro v ⟨y, e1, hy0, hy1⟩)) <;> (try (refine Exists.elim (fin_step hok hb t.lo h) ?_; rintro w ⟨v, e1, g0, g1, g2, g3, g4, g5, g6, g7, g8, g9⟩)) <;> (try simp only [pair_eta, map_idL, he, hb, e1] at h) <;> (try first | rw [if_pos h] at hr | rw [if_neg h] at hr | rw [ifF h] at hr | rw [ifN h] at hr) <;> (try (have hb : (_ : Bool) = _ := h; clear h; subst hb; (try first | rw [if_pos rfl] at hr | rw [if_neg Bool.false_ne_true] at hr))) <;> first | (exfalso; omega) | exact absurd (h.symm.trans (by assumption) : true = false) Bool.noConfusion | exact absurd (h.symm.trans (by assumption) : false = true) Bool.noConfusion | (with_reducible refine (?_ : T1 _ ?_) ?_; rotate_left 1; (conv => lhs; cbv; (try cbv); (try cbv)); intro hT; clear hT; with_reducible refine Sh.mk (by kernel_rfl) ?_))
      | (with_reducible refine Alt.mk (fun h => ?_) (fun h => ?_) <;> (have hk := h) <;> (try simp only [decide_eq_true_eq, decide_eq_false_iff_not, Bool.not_eq_true', Bool.not_eq_false', Bool.not_eq_true, Bool.not_eq_false, Bool.not_true, Bool.not_false, ne_eq, Bool.false_eq_true, Bool.true_eq_false, reduceCtorEq, beq_iff_eq, beq_eq_false_iff_ne, not_true_eq_false, not_false_eq_true, pair_eta, map_idL] at h) <;> (try dsimp only [bookSpec, balSpec, Ty.T, Ty.dflt, KT.T, getM, putM, delM] at h) <;> (try simp only [natCast_eq] at h) <;> (try simp only [ofN0, ofN1, ofN2, ofN3, ofN4] at h) <;> (try (refine Exists.elim (z.step hok h) ?_; rintro v ⟨y, e1, hy0, hy1⟩)) <;> (try (refine Exists.elim (fin_step hok hb t.lo h) ?_; rintro w ⟨v, e1, g0, g1, g2, g3, g4, g5, g6, g7, g8, g9⟩)) <;> (try simp only [pair_eta, map_idL, he, hb, e1] at h) <;> (try first | rw [if_pos h] at hr | rw [if_neg h] at hr | rw [ifF h] at hr | rw [ifN h] at hr) <;> (try (have hb : (_ : Bool) = _ := h; clear h; subst hb; (try first | rw [if_pos rfl] at hr | rw [if_neg Bool.false_ne_true] at hr))) <;> first | (exfalso; omega) | exact absurd (h.symm.trans (by assumption) : true = false) Bool.noConfusion | exact absurd (h.symm.trans (by assumption) : false = true) Bool.noConfusion | (with_reducible refine (?_ : T1 _ ?_) ?_; rotate_left 1; (conv => lhs; cbv; (try cbv); (try cbv)); intro hT; clear hT; with_reducible refine Sh.mk (by kernel_rfl) ?_))
      | (with_reducible refine Pick.mk (fun h => ?_) (fun l1 x l2 h => ?_) <;> (with_reducible refine (?_ : T1 _ ?_) ?_; rotate_left 1; (conv => lhs; cbv; (try cbv); (try cbv)); intro hT; clear hT; with_reducible refine Sh.mk (by kernel_rfl) ?_))
      | ((with_reducible refine End.mk ?_); skip)
      | with_reducible exact True.intro)
    all_goals first
      | (fail_if_success (with_reducible refine Exists.intro ?_ ?_)
         first
           | with_reducible rfl
           | with_reducible assumption
           | (dsimp only [bookSpec, balSpec, Ty.T, Ty.dflt, KT.T, getM, putM, delM, inI64, maxRow]; done)
           | (symm; with_reducible assumption)
           | (dsimp only [bookSpec, balSpec, Ty.T, Ty.dflt, KT.T, getM, putM, delM, inI64, maxRow]; first | with_reducible rfl | with_reducible assumption | (symm; with_reducible assumption) | (simp only [natCast_eq]; with_reducible rfl) | omega)
           | omega
           | (dsimp only [bookSpec, balSpec, Ty.T, Ty.dflt, KT.T, getM, putM, delM, inI64, maxRow]; (try simp only [natCast_eq, List.nil_append]); first | with_reducible rfl | exact take_cg (by omega) | exact drop_cg (by omega) | exact take_drop_cg (by omega) (by omega) | exact take_all (by omega) | exact take_drop_all (by omega) (by omega) | exact drop_take_cg (by omega) (by omega) (by omega))
           | first | exact hx0.symm | exact hx1.symm
           | ((try dsimp only [bookSpec, balSpec, Ty.T, Ty.dflt, KT.T, getM, putM, delM, inI64, maxRow]); simp only [decide_eq_true_eq, decide_eq_false_iff_not, Bool.not_eq_true', Bool.not_eq_false', Bool.not_eq_true, Bool.not_eq_false, Bool.not_true, Bool.not_false, ne_eq, Bool.false_eq_true, Bool.true_eq_false, reduceCtorEq, beq_iff_eq, beq_eq_false_iff_ne, not_true_eq_false, not_false_eq_true, pair_eta, map_idL, natCast_eq, inI64, maxRow]; first | done | with_reducible assumption | omega)
           | exact map_pair_id _
           | ((try dsimp only [bookSpec, balSpec, Ty.T, Ty.dflt, KT.T, getM, putM, delM, inI64, maxRow]) <;> (try simp only [natCast_eq]) <;> omega)
           | ((try dsimp only [bookSpec, balSpec, Ty.T, Ty.dflt, KT.T, getM, putM, delM, inI64, maxRow] at *) <;> (try simp only [natCast_eq] at *) <;> omega)
           | ((try dsimp only [bookSpec, balSpec, Ty.T, Ty.dflt, KT.T, getM, putM, delM, inI64, maxRow] at *) <;> (try simp only [List.length_append, List.length_cons, List.length_nil, List.length_replicate, List.length_take, List.length_drop, natCast_eq] at *) <;> omega)
           | assumption
           | (symm; assumption)
           | (dsimp only; simp only [Bool.or_true, Bool.true_or, Bool.or_false, Bool.false_or, Bool.and_true, Bool.true_and, Bool.and_false, Bool.false_and, Bool.not_true, Bool.not_false, *]; done)
           | (simp; done)
           | (and_intros <;> first | trivial | with_reducible assumption | omega)
           | ((try dsimp only [bookSpec, balSpec, Ty.T, Ty.dflt, KT.T, getM, putM, delM, inI64, maxRow] at *) <;> simp [*] <;> done))
      | skip
  have hlo := x.lo
  have hhi := x.hi
  have hok := x.ok
  obtain ⟨e, he⟩ : ∃ e, L.getD x.i.toNat (0, 0, 0, 0, 0) = e := ⟨_, rfl⟩
  (try (conv in (LoopInv.inv _ _) => dsimp only)); (try (conv in (SS.mk _ _) => cbv; (try dsimp only [bookSpec, balSpec, Ty.T, Ty.dflt, KT.T]); (try simp only [natCast_eq])))
  (with_reducible refine (?_ : T1 _ ?_) ?_; rotate_left 1; (conv => lhs; cbv; (try cbv); (try cbv)); intro hT; clear hT; with_reducible refine Sh.mk (by kernel_rfl) ?_)
  repeat' (first
    | with_reducible refine Ck.mk (C := tt) tt_intro ?_
    | with_reducible refine Ck.mk (show drawOk _ _ = true by kernel_rfl) ?_
    | with_reducible refine Ck.all_cons ?_
    | with_reducible refine Ck.all_nil ?_
    | with_reducible refine Ck.mk (by assumption) ?_
    | with_reducible refine Ck.mk (decide_eq_true (by assumption)) ?_
    | with_reducible refine Ck.mk (decide_eq_false (by assumption)) ?_
    | with_reducible refine Ck.mk ?_ ?_
    | (with_reducible refine Both.mk (fun h => ?_) (fun h => ?_) <;> (have hk := h) <;> (try simp only [decide_eq_true_eq, decide_eq_false_iff_not, Bool.not_eq_true', Bool.not_eq_false', Bool.not_eq_true, Bool.not_eq_false, Bool.not_true, Bool.not_false, ne_eq, Bool.false_eq_true, Bool.true_eq_false, reduceCtorEq, beq_iff_eq, beq_eq_false_iff_ne, not_true_eq_false, not_false_eq_true, pair_eta, map_idL] at h) <;> (try dsimp only [bookSpec, balSpec, Ty.T, Ty.dflt, KT.T, getM, putM, delM] at h) <;> (try simp only [natCast_eq] at h) <;> (try simp only [ofN0, ofN1, ofN2, ofN3, ofN4] at h) <;> (try (refine Exists.elim (z.step hok h) ?_; rintro v ⟨y, e1, hy0, hy1⟩)) <;> (try (refine Exists.elim (fin_step hok hb t.lo h) ?_; rintro w ⟨v, e1, g0, g1, g2, g3, g4, g5, g6, g7, g8, g9⟩)) <;> (try simp only [pair_eta, map_idL, he, hb, e1] at h) <;> (try first | rw [if_pos h] at hr | rw [if_neg h] at hr | rw [ifF h] at hr | rw [ifN h] at hr) <;> (try (have hb : (_ : Bool) = _ := h; clear h; subst hb; (try first | rw [if_pos rfl] at hr | rw [if_neg Bool.false_ne_true] at hr))) <;> first | (exfalso; omega) | exact absurd (h.symm.trans (by assumption) : true = false) Bool.noConfusion | exact absurd (h.symm.trans (by assumption) : false = true) Bool.noConfusion | (with_reducible refine (?_ : T1 _ ?_) ?_; rotate_left 1; (conv => lhs; cbv; (try cbv); (try cbv)); intro hT; clear hT; with_reducible refine Sh.mk (by kernel_rfl) ?_))
    | (with_reducible refine Alt.mk (fun h => ?_) (fun h => ?_) <;> (have hk := h) <;> (try simp only [decide_eq_true_eq, decide_eq_false_iff_not, Bool.not_eq_true', Bool.not_eq_false', Bool.not_eq_true, Bool.not_eq_false, Bool.not_true, Bool.not_false, ne_eq, Bool.false_eq_true, Bool.true_eq_false, reduceCtorEq, beq_iff_eq, beq_eq_false_iff_ne, not_true_eq_false, not_false_eq_true, pair_eta, map_idL] at h) <;> (try dsimp only [bookSpec, balSpec, Ty.T, Ty.dflt, KT.T, getM, putM, delM] at h) <;> (try simp only [natCast_eq] at h) <;> (try simp only [ofN0, ofN1, ofN2, ofN3, ofN4] at h) <;> (try (refine Exists.elim (z.step hok h) ?_; rintro v ⟨y, e1, hy0, hy1⟩)) <;> (try (refine Exists.elim (fin_step hok hb t.lo h) ?_; rintro w ⟨v, e1, g0, g1, g2, g3, g4, g5, g6, g7, g8, g9⟩)) <;> (try simp only [pair_eta, map_idL, he, hb, e1] at h) <;> (try first | rw [if_pos h] at hr | rw [if_neg h] at hr | rw [ifF h] at hr | rw [ifN h] at hr) <;> (try (have hb : (_ : Bool) = _ := h; clear h; subst hb; (try first | rw [if_pos rfl] at hr | rw [if_neg Bool.false_ne_true] at hr))) <;> first | (exfalso; omega) | exact absurd (h.symm.trans (by assumption) : true = false) Bool.noConfusion | exact absurd (h.symm.trans (by assumption) : false = true) Bool.noConfusion | (with_reducible refine (?_ : T1 _ ?_) ?_; rotate_left 1; (conv => lhs; cbv; (try cbv); (try cbv)); intro hT; clear hT; with_reducible refine Sh.mk (by kernel_rfl) ?_))
    | (with_reducible refine Pick.mk (fun h => ?_) (fun l1 x l2 h => ?_) <;> (with_reducible refine (?_ : T1 _ ?_) ?_; rotate_left 1; (conv => lhs; cbv; (try cbv); (try cbv)); intro hT; clear hT; with_reducible refine Sh.mk (by kernel_rfl) ?_))
    | ((with_reducible refine End.mk ?_); skip)
    | with_reducible exact True.intro)
  all_goals first
    | (fail_if_success (with_reducible refine Exists.intro ?_ ?_)
       first
         | with_reducible rfl
         | with_reducible assumption
         | (dsimp only [bookSpec, balSpec, Ty.T, Ty.dflt, KT.T, getM, putM, delM, inI64, maxRow]; done)
         | (symm; with_reducible assumption)
         | (dsimp only [bookSpec, balSpec, Ty.T, Ty.dflt, KT.T, getM, putM, delM, inI64, maxRow]; first | with_reducible rfl | with_reducible assumption | (symm; with_reducible assumption) | (simp only [natCast_eq]; with_reducible rfl) | omega)
         | omega
         | (dsimp only [bookSpec, balSpec, Ty.T, Ty.dflt, KT.T, getM, putM, delM, inI64, maxRow]; (try simp only [natCast_eq, List.nil_append]); first | with_reducible rfl | exact take_cg (by omega) | exact drop_cg (by omega) | exact take_drop_cg (by omega) (by omega) | exact take_all (by omega) | exact take_drop_all (by omega) (by omega) | exact drop_take_cg (by omega) (by omega) (by omega))
         | exact congrArg Prod.fst hr
         | ((try dsimp only [bookSpec, balSpec, Ty.T, Ty.dflt, KT.T, getM, putM, delM, inI64, maxRow]); simp only [decide_eq_true_eq, decide_eq_false_iff_not, Bool.not_eq_true', Bool.not_eq_false', Bool.not_eq_true, Bool.not_eq_false, Bool.not_true, Bool.not_false, ne_eq, Bool.false_eq_true, Bool.true_eq_false, reduceCtorEq, beq_iff_eq, beq_eq_false_iff_ne, not_true_eq_false, not_false_eq_true, pair_eta, map_idL, natCast_eq, inI64, maxRow]; first | done | with_reducible assumption | omega)
         | exact map_pair_id _
         | ((try dsimp only [bookSpec, balSpec, Ty.T, Ty.dflt, KT.T, getM, putM, delM, inI64, maxRow]) <;> (try simp only [natCast_eq]) <;> omega)
         | ((try dsimp only [bookSpec, balSpec, Ty.T, Ty.dflt, KT.T, getM, putM, delM, inI64, maxRow] at *) <;> (try simp only [natCast_eq] at *) <;> omega)
         | ((try dsimp only [bookSpec, balSpec, Ty.T, Ty.dflt, KT.T, getM, putM, delM, inI64, maxRow] at *) <;> (try simp only [List.length_append, List.length_cons, List.length_nil, List.length_replicate, List.length_take, List.length_drop, natCast_eq] at *) <;> omega)
         | assumption
         | (symm; assumption)
         | (dsimp only; simp only [Bool.or_true, Bool.true_or, Bool.or_false, Bool.false_or, Bool.and_true, Bool.true_and, Bool.and_false, Bool.false_and, Bool.not_true, Bool.not_false, *]; done)
         | (simp; done)
         | (and_intros <;> first | trivial | with_reducible assumption | omega)
         | ((try dsimp only [bookSpec, balSpec, Ty.T, Ty.dflt, KT.T, getM, putM, delM, inI64, maxRow] at *) <;> simp [*] <;> done))
    | skip
  all_goals
    (obtain ⟨z0, hz0, hz1⟩ : ∃ z : LF x.S.ents e.2.1, z.i = 0 ∧ z.b = (0, 0, 0, 0, 0) := ⟨⟨0, (0, 0, 0, 0, 0), Int.le_refl _, by omega, fun a g0 g1 => by omega⟩, rfl, rfl⟩
     dsimp only
     refine ⟨⟨LF x.S.ents e.2.1, fun z => ⟨[(3, Sx.one (.ptr 0 0)), (5, Sx.one (.ptr 1 0)), (6, Sx.one (.ptr 2 0)), (18, Sx.one (.ro fvE (fun _ => L))), (19, Sx.one (.int .i64 (fun _ => L.length))), (20, Sx.one (.int .i64 (fun _ => x.i))), (24, Sx.one (.int .i64 (fun _ => z.i)))],
        [.abs (.led (fun _ => x.S)), .cells 28 [.int .i64 (fun _ => e.1), .int .i64 (fun _ => e.2.1), .int .i64 (fun _ => e.2.2.1), .int .i64 (fun _ => e.2.2.2.1), .int .i64 (fun _ => e.2.2.2.2)], .cells 38 [.int .i64 (fun _ => z.b.1), .int .i64 (fun _ => z.b.2.1), .int .i64 (fun _ => z.b.2.2.1), .int .i64 (fun _ => z.b.2.2.2.1), .int .i64 (fun _ => z.b.2.2.2.2)]]⟩, fun z => (5 - z.i).toNat, z0⟩, ?_, fun (z : LF x.S.ents e.2.1) => ?_⟩
     · (try (conv in (LoopInv.inv _ _) => dsimp only)); (try (conv in (SS.mk _ _) => cbv; (try dsimp only [bookSpec, balSpec, Ty.T, Ty.dflt, KT.T]); (try simp only [natCast_eq])))
       (with_reducible refine (?_ : T1 _ ?_) ?_; rotate_left 1; (conv => lhs; cbv; (try cbv); (try cbv)); intro hT; clear hT; with_reducible refine Sh.mk (by kernel_rfl) ?_)
       repeat' (first
         | with_reducible refine Ck.mk (C := tt) tt_intro ?_
         | with_reducible refine Ck.mk (show drawOk _ _ = true by kernel_rfl) ?_
         | with_reducible refine Ck.all_cons ?_
         | with_reducible refine Ck.all_nil ?_
         | with_reducible refine Ck.mk (by assumption) ?_
         | with_reducible refine Ck.mk (decide_eq_true (by assumption)) ?_
         | with_reducible refine Ck.mk (decide_eq_false (by assumption)) ?_
         | with_reducible refine Ck.mk ?_ ?_
         | (with_reducible refine Both.mk (fun h => ?_) (fun h => ?_) <;> (have hk := h) <;> (try simp only [decide_eq_true_eq, decide_eq_false_iff_not, Bool.not_eq_true', Bool.not_eq_false', Bool.not_eq_true, Bool.not_eq_false, Bool.not_true, Bool.not_false, ne_eq, Bool.false_eq_true, Bool.true_eq_false, reduceCtorEq, beq_iff_eq, beq_eq_false_iff_ne, not_true_eq_false, not_false_eq_true, pair_eta, map_idL] at h) <;> (try dsimp only [bookSpec, balSpec, Ty.T, Ty.dflt, KT.T, getM, putM, delM] at h) <;> (try simp only [natCast_eq] at h) <;> (try simp only [ofN0, ofN1, ofN2, ofN3, ofN4] at h) <;> (try (refine Exists.elim (z.step hok h) ?_; rintro v ⟨y, e1, hy0, hy1⟩)) <;> (try (refine Exists.elim (fin_step hok hb t.lo h) ?_; rintro w ⟨v, e1, g0, g1, g2, g3, g4, g5, g6, g7, g8, g9⟩)) <;> (try simp only [pair_eta, map_idL, he, hb, e1] at h) <;> (try first | rw [if_pos h] at hr | rw [if_neg h] at hr | rw [ifF h] at hr | rw [ifN h] at hr) <;> (try (have hb : (_ : Bool) = _ := h; clear h; subst hb; (try first | rw [if_pos rfl] at hr | rw [if_neg Bool.false_ne_true] at hr))) <;> first | (exfalso; omega) | exact absurd (h.symm.trans (by assumption) : true = false) Bool.noConfusion | exact absurd (h.symm.trans (by assumption) : false = true) Bool.noConfusion | (with_reducible refine (?_ : T1 _ ?_) ?_; rotate_left 1; (conv => lhs; cbv; (try cbv); (try cbv)); intro hT; clear hT; with_reducible refine Sh.mk (by kernel_rfl) ?_))
         | (with_reducible refine Alt.mk (fun h => ?_) (fun h => ?_) <;> (have hk := h) <;> (try simp only [decide_eq_true_eq, decide_eq_false_iff_not, Bool.not_eq_true', Bool.not_eq_false', Bool.not_eq_true, Bool.not_eq_false, Bool.not_true, Bool.not_false, ne_eq, Bool.false_eq_true, Bool.true_eq_false, reduceCtorEq, beq_iff_eq, beq_eq_false_iff_ne, not_true_eq_false, not_false_eq_true, pair_eta, map_idL] at h) <;> (try dsimp only [bookSpec, balSpec, Ty.T, Ty.dflt, KT.T, getM, putM, delM] at h) <;> (try simp only [natCast_eq] at h) <;> (try simp only [ofN0, ofN1, ofN2, ofN3, ofN4] at h) <;> (try (refine Exists.elim (z.step hok h) ?_; rintro v ⟨y, e1, hy0, hy1⟩)) <;> (try (refine Exists.elim (fin_step hok hb t.lo h) ?_; rintro w ⟨v, e1, g0, g1, g2, g3, g4, g5, g6, g7, g8, g9⟩)) <;> (try simp only [pair_eta, map_idL, he, hb, e1] at h) <;> (try first | rw [if_pos h] at hr | rw [if_neg h] at hr | rw [ifF h] at hr | rw [ifN h] at hr) <;> (try (have hb : (_ : Bool) = _ := h; clear h; subst hb; (try first | rw [if_pos rfl] at hr | rw [if_neg Bool.false_ne_true] at hr))) <;> first | (exfalso; omega) | exact absurd (h.symm.trans (by assumption) : true = false) Bool.noConfusion | exact absurd (h.symm.trans (by assumption) : false = true) Bool.noConfusion | (with_reducible refine (?_ : T1 _ ?_) ?_; rotate_left 1; (conv => lhs; cbv; (try cbv); (try cbv)); intro hT; clear hT; with_reducible refine Sh.mk (by kernel_rfl) ?_))
         | (with_reducible refine Pick.mk (fun h => ?_) (fun l1 x l2 h => ?_) <;> (with_reducible refine (?_ : T1 _ ?_) ?_; rotate_left 1; (conv => lhs; cbv; (try cbv); (try cbv)); intro hT; clear hT; with_reducible refine Sh.mk (by kernel_rfl) ?_))
         | ((with_reducible refine End.mk ?_); skip)
         | with_reducible exact True.intro)
       all_goals first
         | (fail_if_success (with_reducible refine Exists.intro ?_ ?_)
            first
              | with_reducible rfl
              | with_reducible assumption
              | (dsimp only [bookSpec, balSpec, Ty.T, Ty.dflt, KT.T, getM, putM, delM, inI64, maxRow]; done)
              | (symm; with_reducible assumption)
              | (dsimp only [bookSpec, balSpec, Ty.T, Ty.dflt, KT.T, getM, putM, delM, inI64, maxRow]; first | with_reducible rfl | with_reducible assumption | (symm; with_reducible assumption) | (simp only [natCast_eq]; with_reducible rfl) | omega)
              | omega
              | (dsimp only [bookSpec, balSpec, Ty.T, Ty.dflt, KT.T, getM, putM, delM, inI64, maxRow]; (try simp only [natCast_eq, List.nil_append]); first | with_reducible rfl | exact take_cg (by omega) | exact drop_cg (by omega) | exact take_drop_cg (by omega) (by omega) | exact take_all (by omega) | exact take_drop_all (by omega) (by omega) | exact drop_take_cg (by omega) (by omega) (by omega))
              | first | exact hz0.symm | (rw [hz1]; done) | ((try dsimp only [bookSpec, balSpec, Ty.T, Ty.dflt, KT.T]); (try simp only [he]); done)
              | ((try dsimp only [bookSpec, balSpec, Ty.T, Ty.dflt, KT.T, getM, putM, delM, inI64, maxRow]); simp only [decide_eq_true_eq, decide_eq_false_iff_not, Bool.not_eq_true', Bool.not_eq_false', Bool.not_eq_true, Bool.not_eq_false, Bool.not_true, Bool.not_false, ne_eq, Bool.false_eq_true, Bool.true_eq_false, reduceCtorEq, beq_iff_eq, beq_eq_false_iff_ne, not_true_eq_false, not_false_eq_true, pair_eta, map_idL, natCast_eq, inI64, maxRow]; first | done | with_reducible assumption | omega)
              | exact map_pair_id _
              | ((try dsimp only [bookSpec, balSpec, Ty.T, Ty.dflt, KT.T, getM, putM, delM, inI64, maxRow]) <;> (try simp only [natCast_eq]) <;> omega)
              | ((try dsimp only [bookSpec, balSpec, Ty.T, Ty.dflt, KT.T, getM, putM, delM, inI64, maxRow] at *) <;> (try simp only [natCast_eq] at *) <;> omega)
              | ((try dsimp only [bookSpec, balSpec, Ty.T, Ty.dflt, KT.T, getM, putM, delM, inI64, maxRow] at *) <;> (try simp only [List.length_append, List.length_cons, List.length_nil, List.length_replicate, List.length_take, List.length_drop, natCast_eq] at *) <;> omega)
              | assumption
              | (symm; assumption)
              | (dsimp only; simp only [Bool.or_true, Bool.true_or, Bool.or_false, Bool.false_or, Bool.and_true, Bool.true_and, Bool.and_false, Bool.false_and, Bool.not_true, Bool.not_false, *]; done)
              | (simp; done)
              | (and_intros <;> first | trivial | with_reducible assumption | omega)
              | ((try dsimp only [bookSpec, balSpec, Ty.T, Ty.dflt, KT.T, getM, putM, delM, inI64, maxRow] at *) <;> simp [*] <;> done))
         | skip
     have hzlo := z.lo
     have hzhi := z.hi
     (try (conv in (LoopInv.inv _ _) => dsimp only)); (try (conv in (SS.mk _ _) => cbv; (try dsimp only [bookSpec, balSpec, Ty.T, Ty.dflt, KT.T]); (try simp only [natCast_eq])))
     (with_reducible refine (?_ : T1 _ ?_) ?_; rotate_left 1; (conv => lhs; cbv; (try cbv); (try cbv)); intro hT; clear hT; with_reducible refine Sh.mk (by kernel_rfl) ?_)
     repeat' (first
       | with_reducible refine Ck.mk (C := tt) tt_intro ?_
       | with_reducible refine Ck.mk (show drawOk _ _ = true by kernel_rfl) ?_
       | with_reducible refine Ck.all_cons ?_
       | with_reducible refine Ck.all_nil ?_
       | with_reducible refine Ck.mk (by assumption) ?_
       | with_reducible refine Ck.mk (decide_eq_true (by assumption)) ?_
       | with_reducible refine Ck.mk (decide_eq_false (by assumption)) ?_
       | with_reducible refine Ck.mk ?_ ?_
       | (with_reducible refine Both.mk (fun h => ?_) (fun h => ?_) <;> (have hk := h) <;> (try simp only [decide_eq_true_eq, decide_eq_false_iff_not, Bool.not_eq_true', Bool.not_eq_false', Bool.not_eq_true, Bool.not_eq_false, Bool.not_true, Bool.not_false, ne_eq, Bool.false_eq_true, Bool.true_eq_false, reduceCtorEq, beq_iff_eq, beq_eq_false_iff_ne, not_true_eq_false, not_false_eq_true, pair_eta, map_idL] at h) <;> (try dsimp only [bookSpec, balSpec, Ty.T, Ty.dflt, KT.T, getM, putM, delM] at h) <;> (try simp only [natCast_eq] at h) <;> (try simp only [ofN0, ofN1, ofN2, ofN3, ofN4] at h) <;> (try (refine Exists.elim (z.step hok h) ?_; rintro v ⟨y, e1, hy0, hy1⟩)) <;> (try (refine Exists.elim (fin_step hok hb t.lo h) ?_; rintro w ⟨v, e1, g0, g1, g2, g3, g4, g5, g6, g7, g8, g9⟩)) <;> (try simp only [pair_eta, map_idL, he, hb, e1] at h) <;> (try first | rw [if_pos h] at hr | rw [if_neg h] at hr | rw [ifF h] at hr | rw [ifN h] at hr) <;> (try (have hb : (_ : Bool) = _ := h; clear h; subst hb; (try first | rw [if_pos rfl] at hr | rw [if_neg Bool.false_ne_true] at hr))) <;> first | (exfalso; omega) | exact absurd (h.symm.trans (by assumption) : true = false) Bool.noConfusion | exact absurd (h.symm.trans (by assumption) : false = true) Bool.noConfusion | (with_reducible refine (?_ : T1 _ ?_) ?_; rotate_left 1; (conv => lhs; cbv; (try cbv); (try cbv)); intro hT; clear hT; with_reducible refine Sh.mk (by kernel_rfl) ?_))
       | (with_reducible refine Alt.mk (fun h => ?_) (fun h => ?_) <;> (have hk := h) <;> (try simp only [decide_eq_true_eq, decide_eq_false_iff_not, Bool.not_eq_true', Bool.not_eq_false', Bool.not_eq_true, Bool.not_eq_false, Bool.not_true, Bool.not_false, ne_eq, Bool.false_eq_true, Bool.true_eq_false, reduceCtorEq, beq_iff_eq, beq_eq_false_iff_ne, not_true_eq_false, not_false_eq_true, pair_eta, map_idL] at h) <;> (try dsimp only [bookSpec, balSpec, Ty.T, Ty.dflt, KT.T, getM, putM, delM] at h) <;> (try simp only [natCast_eq] at h) <;> (try simp only [ofN0, ofN1, ofN2, ofN3, ofN4] at h) <;> (try (refine Exists.elim (z.step hok h) ?_; rintro v ⟨y, e1, hy0, hy1⟩)) <;> (try (refine Exists.elim (fin_step hok hb t.lo h) ?_; rintro w ⟨v, e1, g0, g1, g2, g3, g4, g5, g6, g7, g8, g9⟩)) <;> (try simp only [pair_eta, map_idL, he, hb, e1] at h) <;> (try first | rw [if_pos h] at hr | rw [if_neg h] at hr | rw [ifF h] at hr | rw [ifN h] at hr) <;> (try (have hb : (_ : Bool) = _ := h; clear h; subst hb; (try first | rw [if_pos rfl] at hr | rw [if_neg Bool.false_ne_true] at hr))) <;> first | (exfalso; omega) | exact absurd (h.symm.trans (by assumption) : true = false) Bool.noConfusion | exact absurd (h.symm.trans (by assumption) : false = true) Bool.noConfusion | (with_reducible refine (?_ : T1 _ ?_) ?_; rotate_left 1; (conv => lhs; cbv; (try cbv); (try cbv)); intro hT; clear hT; with_reducible refine Sh.mk (by kernel_rfl) ?_))
       | (with_reducible refine Pick.mk (fun h => ?_) (fun l1 x l2 h => ?_) <;> (with_reducible refine (?_ : T1 _ ?_) ?_; rotate_left 1; (conv => lhs; cbv; (try cbv); (try cbv)); intro hT; clear hT; with_reducible refine Sh.mk (by kernel_rfl) ?_))
       | ((with_reducible refine End.mk ?_); skip)
       | with_reducible exact True.intro)
     all_goals first
       | (fail_if_success (with_reducible refine Exists.intro ?_ ?_)
          first
            | with_reducible rfl
            | with_reducible assumption
            | (dsimp only [bookSpec, balSpec, Ty.T, Ty.dflt, KT.T, getM, putM, delM, inI64, maxRow]; done)
            | (symm; with_reducible assumption)
            | (dsimp only [bookSpec, balSpec, Ty.T, Ty.dflt, KT.T, getM, putM, delM, inI64, maxRow]; first | with_reducible rfl | with_reducible assumption | (symm; with_reducible assumption) | (simp only [natCast_eq]; with_reducible rfl) | omega)
            | omega
            | (dsimp only [bookSpec, balSpec, Ty.T, Ty.dflt, KT.T, getM, putM, delM, inI64, maxRow]; (try simp only [natCast_eq, List.nil_append]); first | with_reducible rfl | exact take_cg (by omega) | exact drop_cg (by omega) | exact take_drop_cg (by omega) (by omega) | exact take_all (by omega) | exact take_drop_all (by omega) (by omega) | exact drop_take_cg (by omega) (by omega) (by omega))
            | first | exact hok.okL | (rw [ofN4]; omega)
            | ((try dsimp only [bookSpec, balSpec, Ty.T, Ty.dflt, KT.T, getM, putM, delM, inI64, maxRow]); simp only [decide_eq_true_eq, decide_eq_false_iff_not, Bool.not_eq_true', Bool.not_eq_false', Bool.not_eq_true, Bool.not_eq_false, Bool.not_true, Bool.not_false, ne_eq, Bool.false_eq_true, Bool.true_eq_false, reduceCtorEq, beq_iff_eq, beq_eq_false_iff_ne, not_true_eq_false, not_false_eq_true, pair_eta, map_idL, natCast_eq, inI64, maxRow]; first | done | with_reducible assumption | omega)
            | exact map_pair_id _
            | ((try dsimp only [bookSpec, balSpec, Ty.T, Ty.dflt, KT.T, getM, putM, delM, inI64, maxRow]) <;> (try simp only [natCast_eq]) <;> omega)
            | ((try dsimp only [bookSpec, balSpec, Ty.T, Ty.dflt, KT.T, getM, putM, delM, inI64, maxRow] at *) <;> (try simp only [natCast_eq] at *) <;> omega)
            | ((try dsimp only [bookSpec, balSpec, Ty.T, Ty.dflt, KT.T, getM, putM, delM, inI64, maxRow] at *) <;> (try simp only [List.length_append, List.length_cons, List.length_nil, List.length_replicate, List.length_take, List.length_drop, natCast_eq] at *) <;> omega)
            | assumption
            | (symm; assumption)
            | (dsimp only; simp only [Bool.or_true, Bool.true_or, Bool.or_false, Bool.false_or, Bool.and_true, Bool.true_and, Bool.and_false, Bool.false_and, Bool.not_true, Bool.not_false, *]; done)
            | (simp; done)
            | (and_intros <;> first | trivial | with_reducible assumption | omega)
            | ((try dsimp only [bookSpec, balSpec, Ty.T, Ty.dflt, KT.T, getM, putM, delM, inI64, maxRow] at *) <;> simp [*] <;> done))
       | skip
     all_goals
       (first
         | (refine ⟨y, by (try dsimp only); (try simp only [natCast_eq]); omega, ?_⟩
            (try (conv in (LoopInv.inv _ _) => dsimp only)); (try (conv in (SS.mk _ _) => cbv; (try dsimp only [bookSpec, balSpec, Ty.T, Ty.dflt, KT.T]); (try simp only [natCast_eq])))
            (with_reducible refine (?_ : T1 _ ?_) ?_; rotate_left 1; (conv => lhs; cbv; (try cbv); (try cbv)); intro hT; clear hT; with_reducible refine Sh.mk (by kernel_rfl) ?_)
            repeat' (first
              | with_reducible refine Ck.mk (C := tt) tt_intro ?_
              | with_reducible refine Ck.mk (show drawOk _ _ = true by kernel_rfl) ?_
              | with_reducible refine Ck.all_cons ?_
              | with_reducible refine Ck.all_nil ?_
              | with_reducible refine Ck.mk (by assumption) ?_
              | with_reducible refine Ck.mk (decide_eq_true (by assumption)) ?_
              | with_reducible refine Ck.mk (decide_eq_false (by assumption)) ?_
              | with_reducible refine Ck.mk ?_ ?_
              | (with_reducible refine Both.mk (fun h => ?_) (fun h => ?_) <;> (have hk := h) <;> (try simp only [decide_eq_true_eq, decide_eq_false_iff_not, Bool.not_eq_true', Bool.not_eq_false', Bool.not_eq_true, Bool.not_eq_false, Bool.not_true, Bool.not_false, ne_eq, Bool.false_eq_true, Bool.true_eq_false, reduceCtorEq, beq_iff_eq, beq_eq_false_iff_ne, not_true_eq_false, not_false_eq_true, pair_eta, map_idL] at h) <;> (try dsimp only [bookSpec, balSpec, Ty.T, Ty.dflt, KT.T, getM, putM, delM] at h) <;> (try simp only [natCast_eq] at h) <;> (try simp only [ofN0, ofN1, ofN2, ofN3, ofN4] at h) <;> (try (refine Exists.elim (z.step hok h) ?_; rintro v ⟨y, e1, hy0, hy1⟩)) <;> (try (refine Exists.elim (fin_step hok hb t.lo h) ?_; rintro w ⟨v, e1, g0, g1, g2, g3, g4, g5, g6, g7, g8, g9⟩)) <;> (try simp only [pair_eta, map_idL, he, hb, e1] at h) <;> (try first | rw [if_pos h] at hr | rw [if_neg h] at hr | rw [ifF h] at hr | rw [ifN h] at hr) <;> (try (have hb : (_ : Bool) = _ := h; clear h; subst hb; (try first | rw [if_pos rfl] at hr | rw [if_neg Bool.false_ne_true] at hr))) <;> first | (exfalso; omega) | exact absurd (h.symm.trans (by assumption) : true = false) Bool.noConfusion | exact absurd (h.symm.trans (by assumption) : false = true) Bool.noConfusion | (with_reducible refine (?_ : T1 _ ?_) ?_; rotate_left 1; (conv => lhs; cbv; (try cbv); (try cbv)); intro hT; clear hT; with_reducible refine Sh.mk (by kernel_rfl) ?_))
              | (with_reducible refine Alt.mk (fun h => ?_) (fun h => ?_) <;> (have hk := h) <;> (try simp only [decide_eq_true_eq, decide_eq_false_iff_not, Bool.not_eq_true', Bool.not_eq_false', Bool.not_eq_true, Bool.not_eq_false, Bool.not_true, Bool.not_false, ne_eq, Bool.false_eq_true, Bool.true_eq_false, reduceCtorEq, beq_iff_eq, beq_eq_false_iff_ne, not_true_eq_false, not_false_eq_true, pair_eta, map_idL] at h) <;> (try dsimp only [bookSpec, balSpec, Ty.T, Ty.dflt, KT.T, getM, putM, delM] at h) <;> (try simp only [natCast_eq] at h) <;> (try simp only [ofN0, ofN1, ofN2, ofN3, ofN4] at h) <;> (try (refine Exists.elim (z.step hok h) ?_; rintro v ⟨y, e1, hy0, hy1⟩)) <;> (try (refine Exists.elim (fin_step hok hb t.lo h) ?_; rintro w ⟨v, e1, g0, g1, g2, g3, g4, g5, g6, g7, g8, g9⟩)) <;> (try simp only [pair_eta, map_idL, he, hb, e1] at h) <;> (try first | rw [if_pos h] at hr | rw [if_neg h] at hr | rw [ifF h] at hr | rw [ifN h] at hr) <;> (try (have hb : (_ : Bool) = _ := h; clear h; subst hb; (try first | rw [if_pos rfl] at hr | rw [if_neg Bool.false_ne_true] at hr))) <;> first | (exfalso; omega) | exact absurd (h.symm.trans (by assumption) : true = false) Bool.noConfusion | exact absurd (h.symm.trans (by assumption) : false = true) Bool.noConfusion | (with_reducible refine (?_ : T1 _ ?_) ?_; rotate_left 1; (conv => lhs; cbv; (try cbv); (try cbv)); intro hT; clear hT; with_reducible refine Sh.mk (by kernel_rfl) ?_))
              | (with_reducible refine Pick.mk (fun h => ?_) (fun l1 x l2 h => ?_) <;> (with_reducible refine (?_ : T1 _ ?_) ?_; rotate_left 1; (conv => lhs; cbv; (try cbv); (try cbv)); intro hT; clear hT; with_reducible refine Sh.mk (by kernel_rfl) ?_))
              | ((with_reducible refine End.mk ?_); skip)
              | with_reducible exact True.intro)
            all_goals first
              | (fail_if_success (with_reducible refine Exists.intro ?_ ?_)
                 first
                   | with_reducible rfl
                   | with_reducible assumption
                   | (dsimp only [bookSpec, balSpec, Ty.T, Ty.dflt, KT.T, getM, putM, delM, inI64, maxRow]; done)
                   | (symm; with_reducible assumption)
                   | (dsimp only [bookSpec, balSpec, Ty.T, Ty.dflt, KT.T, getM, putM, delM, inI64, maxRow]; first | with_reducible rfl | with_reducible assumption | (symm; with_reducible assumption) | (simp only [natCast_eq]; with_reducible rfl) | omega)
                   | omega
                   | (dsimp only [bookSpec, balSpec, Ty.T, Ty.dflt, KT.T, getM, putM, delM, inI64, maxRow]; (try simp only [natCast_eq, List.nil_append]); first | with_reducible rfl | exact take_cg (by omega) | exact drop_cg (by omega) | exact take_drop_cg (by omega) (by omega) | exact take_all (by omega) | exact take_drop_all (by omega) (by omega) | exact drop_take_cg (by omega) (by omega) (by omega))
                   | first | exact hy0.symm | ((try dsimp only [bookSpec, balSpec, Ty.T, Ty.dflt, KT.T]); (try simp only [e1]); rw [hy1]; unfold setN; (repeat (first | rw [if_pos (by omega)] | rw [if_neg (by omega)])); done)
                   | ((try dsimp only [bookSpec, balSpec, Ty.T, Ty.dflt, KT.T, getM, putM, delM, inI64, maxRow]); simp only [decide_eq_true_eq, decide_eq_false_iff_not, Bool.not_eq_true', Bool.not_eq_false', Bool.not_eq_true, Bool.not_eq_false, Bool.not_true, Bool.not_false, ne_eq, Bool.false_eq_true, Bool.true_eq_false, reduceCtorEq, beq_iff_eq, beq_eq_false_iff_ne, not_true_eq_false, not_false_eq_true, pair_eta, map_idL, natCast_eq, inI64, maxRow]; first | done | with_reducible assumption | omega)
                   | exact map_pair_id _
                   | ((try dsimp only [bookSpec, balSpec, Ty.T, Ty.dflt, KT.T, getM, putM, delM, inI64, maxRow]) <;> (try simp only [natCast_eq]) <;> omega)
                   | ((try dsimp only [bookSpec, balSpec, Ty.T, Ty.dflt, KT.T, getM, putM, delM, inI64, maxRow] at *) <;> (try simp only [natCast_eq] at *) <;> omega)
                   | ((try dsimp only [bookSpec, balSpec, Ty.T, Ty.dflt, KT.T, getM, putM, delM, inI64, maxRow] at *) <;> (try simp only [List.length_append, List.length_cons, List.length_nil, List.length_replicate, List.length_take, List.length_drop, natCast_eq] at *) <;> omega)
                   | assumption
                   | (symm; assumption)
                   | (dsimp only; simp only [Bool.or_true, Bool.true_or, Bool.or_false, Bool.false_or, Bool.and_true, Bool.true_and, Bool.and_false, Bool.false_and, Bool.not_true, Bool.not_false, *]; done)
                   | (simp; done)
                   | (and_intros <;> first | trivial | with_reducible assumption | omega)
                   | ((try dsimp only [bookSpec, balSpec, Ty.T, Ty.dflt, KT.T, getM, putM, delM, inI64, maxRow] at *) <;> simp [*] <;> done))
              | skip
            skip)
         | skip)
     all_goals
       (obtain ⟨d0, d1, d2, d3, d4⟩ := z.done (by assumption)
        obtain ⟨⟨q, S'⟩, hb⟩ : ∃ p, bookF x.S e = p := ⟨_, rfl⟩
        obtain ⟨f, u⟩ := q
        have hb : bookF x.S e = ((f, ()), S') := hb
        obtain ⟨t0, ht0⟩ := ix0 (n := 5) (by omega)
        have hb5 := balR_b5 hok e.2.1
        dsimp only
        refine ⟨⟨Ix 5, fun t => ⟨[(3, Sx.one (.ptr 0 0)), (5, Sx.one (.ptr 1 0)), (6, Sx.one (.ptr 2 0)), (8, Sx.one (.int .i64 (fun _ => f))), (18, Sx.one (.ro fvE (fun _ => L))), (19, Sx.one (.int .i64 (fun _ => L.length))), (20, Sx.one (.int .i64 (fun _ => x.i))), (38, Sx.one (.int .i64 (fun _ => t.i)))],
          [.abs (.led (fun _ => S')), .cells 28 [.int .i64 (fun _ => e.1), .int .i64 (fun _ => e.2.1), .int .i64 (fun _ => e.2.2.1), .int .i64 (fun _ => e.2.2.2.1), .int .i64 (fun _ => e.2.2.2.2)], .cells 38 [.int .i64 (fun _ => balR x.S.ents e.2.1 0), .int .i64 (fun _ => balR x.S.ents e.2.1 1), .int .i64 (fun _ => balR x.S.ents e.2.1 2), .int .i64 (fun _ => balR x.S.ents e.2.1 3), .int .i64 (fun _ => balR x.S.ents e.2.1 4)]]⟩, fun t => (5 - t.i).toNat, t0⟩, ?_, fun (t : Ix 5) => ?_⟩
        · (try (conv in (LoopInv.inv _ _) => dsimp only)); (try (conv in (SS.mk _ _) => cbv; (try dsimp only [bookSpec, balSpec, Ty.T, Ty.dflt, KT.T]); (try simp only [natCast_eq])))
          (with_reducible refine (?_ : T1 _ ?_) ?_; rotate_left 1; (conv => lhs; cbv; (try cbv); (try cbv)); intro hT; clear hT; with_reducible refine Sh.mk (by kernel_rfl) ?_)
          repeat' (first
            | with_reducible refine Ck.mk (C := tt) tt_intro ?_
            | with_reducible refine Ck.mk (show drawOk _ _ = true by kernel_rfl) ?_
            | with_reducible refine Ck.all_cons ?_
            | with_reducible refine Ck.all_nil ?_
            | with_reducible refine Ck.mk (by assumption) ?_
            | with_reducible refine Ck.mk (decide_eq_true (by assumption)) ?_
            | with_reducible refine Ck.mk (decide_eq_false (by assumption)) ?_
            | with_reducible refine Ck.mk ?_ ?_
            | (with_reducible refine Both.mk (fun h => ?_) (fun h => ?_) <;> (have hk := h) <;> (try simp only [decide_eq_true_eq, decide_eq_false_iff_not, Bool.not_eq_true', Bool.not_eq_false', Bool.not_eq_true, Bool.not_eq_false, Bool.not_true, Bool.not_false, ne_eq, Bool.false_eq_true, Bool.true_eq_false, reduceCtorEq, beq_iff_eq, beq_eq_false_iff_ne, not_true_eq_false, not_false_eq_true, pair_eta, map_idL] at h) <;> (try dsimp only [bookSpec, balSpec, Ty.T, Ty.dflt, KT.T, getM, putM, delM] at h) <;> (try simp only [natCast_eq] at h) <;> (try simp only [ofN0, ofN1, ofN2, ofN3, ofN4] at h) <;> (try (refine Exists.elim (z.step hok h) ?_; rintro v ⟨y, e1, hy0, hy1⟩)) <;> (try (refine Exists.elim (fin_step hok hb t.lo h) ?_; rintro w ⟨v, e1, g0, g1, g2, g3, g4, g5, g6, g7, g8, g9⟩)) <;> (try simp only [pair_eta, map_idL, he, hb, e1] at h) <;> (try first | rw [if_pos h] at hr | rw [if_neg h] at hr | rw [ifF h] at hr | rw [ifN h] at hr) <;> (try (have hb : (_ : Bool) = _ := h; clear h; subst hb; (try first | rw [if_pos rfl] at hr | rw [if_neg Bool.false_ne_true] at hr))) <;> first | (exfalso; omega) | exact absurd (h.symm.trans (by assumption) : true = false) Bool.noConfusion | exact absurd (h.symm.trans (by assumption) : false = true) Bool.noConfusion | (with_reducible refine (?_ : T1 _ ?_) ?_; rotate_left 1; (conv => lhs; cbv; (try cbv); (try cbv)); intro hT; clear hT; with_reducible refine Sh.mk (by kernel_rfl) ?_))
            | (with_reducible refine Alt.mk (fun h => ?_) (fun h => ?_) <;> (have hk := h) <;> (try simp only [decide_eq_true_eq, decide_eq_false_iff_not, Bool.not_eq_true', Bool.not_eq_false', Bool.not_eq_true, Bool.not_eq_false, Bool.not_true, Bool.not_false, ne_eq, Bool.false_eq_true, Bool.true_eq_false, reduceCtorEq, beq_iff_eq, beq_eq_false_iff_ne, not_true_eq_false, not_false_eq_true, pair_eta, map_idL] at h) <;> (try dsimp only [bookSpec, balSpec, Ty.T, Ty.dflt, KT.T, getM, putM, delM] at h) <;> (try simp only [natCast_eq] at h) <;> (try simp only [ofN0, ofN1, ofN2, ofN3, ofN4] at h) <;> (try (refine Exists.elim (z.step hok h) ?_; rintro v ⟨y, e1, hy0, hy1⟩)) <;> (try (refine Exists.elim (fin_step hok hb t.lo h) ?_; rintro w ⟨v, e1, g0, g1, g2, g3, g4, g5, g6, g7, g8, g9⟩)) <;> (try simp only [pair_eta, map_idL, he, hb, e1] at h) <;> (try first | rw [if_pos h] at hr | rw [if_neg h] at hr | rw [ifF h] at hr | rw [ifN h] at hr) <;> (try (have hb : (_ : Bool) = _ := h; clear h; subst hb; (try first | rw [if_pos rfl] at hr | rw [if_neg Bool.false_ne_true] at hr))) <;> first | (exfalso; omega) | exact absurd (h.symm.trans (by assumption) : true = false) Bool.noConfusion | exact absurd (h.symm.trans (by assumption) : false = true) Bool.noConfusion | (with_reducible refine (?_ : T1 _ ?_) ?_; rotate_left 1; (conv => lhs; cbv; (try cbv); (try cbv)); intro hT; clear hT; with_reducible refine Sh.mk (by kernel_rfl) ?_))
            | (with_reducible refine Pick.mk (fun h => ?_) (fun l1 x l2 h => ?_) <;> (with_reducible refine (?_ : T1 _ ?_) ?_; rotate_left 1; (conv => lhs; cbv; (try cbv); (try cbv)); intro hT; clear hT; with_reducible refine Sh.mk (by kernel_rfl) ?_))
            | ((with_reducible refine End.mk ?_); skip)
            | with_reducible exact True.intro)
          all_goals first
            | (fail_if_success (with_reducible refine Exists.intro ?_ ?_)
               first
                 | with_reducible rfl
                 | with_reducible assumption
                 | (dsimp only [bookSpec, balSpec, Ty.T, Ty.dflt, KT.T, getM, putM, delM, inI64, maxRow]; done)
                 | (symm; with_reducible assumption)
                 | (dsimp only [bookSpec, balSpec, Ty.T, Ty.dflt, KT.T, getM, putM, delM, inI64, maxRow]; first | with_reducible rfl | with_reducible assumption | (symm; with_reducible assumption) | (simp only [natCast_eq]; with_reducible rfl) | omega)
                 | omega
                 | (dsimp only [bookSpec, balSpec, Ty.T, Ty.dflt, KT.T, getM, putM, delM, inI64, maxRow]; (try simp only [natCast_eq, List.nil_append]); first | with_reducible rfl | exact take_cg (by omega) | exact drop_cg (by omega) | exact take_drop_cg (by omega) (by omega) | exact take_all (by omega) | exact take_drop_all (by omega) (by omega) | exact drop_take_cg (by omega) (by omega) (by omega))
                 | first | exact ht0.symm | exact d0 | exact d1 | exact d2 | exact d3 | exact d4 | ((try dsimp only [bookSpec, balSpec, Ty.T, Ty.dflt, KT.T]); (try simp only [pair_eta, map_idL, hb]); done)
                 | ((try dsimp only [bookSpec, balSpec, Ty.T, Ty.dflt, KT.T, getM, putM, delM, inI64, maxRow]); simp only [decide_eq_true_eq, decide_eq_false_iff_not, Bool.not_eq_true', Bool.not_eq_false', Bool.not_eq_true, Bool.not_eq_false, Bool.not_true, Bool.not_false, ne_eq, Bool.false_eq_true, Bool.true_eq_false, reduceCtorEq, beq_iff_eq, beq_eq_false_iff_ne, not_true_eq_false, not_false_eq_true, pair_eta, map_idL, natCast_eq, inI64, maxRow]; first | done | with_reducible assumption | omega)
                 | exact map_pair_id _
                 | ((try dsimp only [bookSpec, balSpec, Ty.T, Ty.dflt, KT.T, getM, putM, delM, inI64, maxRow]) <;> (try simp only [natCast_eq]) <;> omega)
                 | ((try dsimp only [bookSpec, balSpec, Ty.T, Ty.dflt, KT.T, getM, putM, delM, inI64, maxRow] at *) <;> (try simp only [natCast_eq] at *) <;> omega)
                 | ((try dsimp only [bookSpec, balSpec, Ty.T, Ty.dflt, KT.T, getM, putM, delM, inI64, maxRow] at *) <;> (try simp only [List.length_append, List.length_cons, List.length_nil, List.length_replicate, List.length_take, List.length_drop, natCast_eq] at *) <;> omega)
                 | assumption
                 | (symm; assumption)
                 | (dsimp only; simp only [Bool.or_true, Bool.true_or, Bool.or_false, Bool.false_or, Bool.and_true, Bool.true_and, Bool.and_false, Bool.false_and, Bool.not_true, Bool.not_false, *]; done)
                 | (simp; done)
                 | (and_intros <;> first | trivial | with_reducible assumption | omega)
                 | ((try dsimp only [bookSpec, balSpec, Ty.T, Ty.dflt, KT.T, getM, putM, delM, inI64, maxRow] at *) <;> simp [*] <;> done))
            | skip
        have htlo := t.lo
        have hthi := t.hi
        (try (conv in (LoopInv.inv _ _) => dsimp only)); (try (conv in (SS.mk _ _) => cbv; (try dsimp only [bookSpec, balSpec, Ty.T, Ty.dflt, KT.T]); (try simp only [natCast_eq])))
        (with_reducible refine (?_ : T1 _ ?_) ?_; rotate_left 1; (conv => lhs; cbv; (try cbv); (try cbv)); intro hT; clear hT; with_reducible refine Sh.mk (by kernel_rfl) ?_)
        repeat' (first
          | with_reducible refine Ck.mk (C := tt) tt_intro ?_
          | with_reducible refine Ck.mk (show drawOk _ _ = true by kernel_rfl) ?_
          | with_reducible refine Ck.all_cons ?_
          | with_reducible refine Ck.all_nil ?_
          | with_reducible refine Ck.mk (by assumption) ?_
          | with_reducible refine Ck.mk (decide_eq_true (by assumption)) ?_
          | with_reducible refine Ck.mk (decide_eq_false (by assumption)) ?_
          | with_reducible refine Ck.mk ?_ ?_
          | (with_reducible refine Both.mk (fun h => ?_) (fun h => ?_) <;> (have hk := h) <;> (try simp only [decide_eq_true_eq, decide_eq_false_iff_not, Bool.not_eq_true', Bool.not_eq_false', Bool.not_eq_true, Bool.not_eq_false, Bool.not_true, Bool.not_false, ne_eq, Bool.false_eq_true, Bool.true_eq_false, reduceCtorEq, beq_iff_eq, beq_eq_false_iff_ne, not_true_eq_false, not_false_eq_true, pair_eta, map_idL] at h) <;> (try dsimp only [bookSpec, balSpec, Ty.T, Ty.dflt, KT.T, getM, putM, delM] at h) <;> (try simp only [natCast_eq] at h) <;> (try simp only [ofN0, ofN1, ofN2, ofN3, ofN4] at h) <;> (try (refine Exists.elim (z.step hok h) ?_; rintro v ⟨y, e1, hy0, hy1⟩)) <;> (try (refine Exists.elim (fin_step hok hb t.lo h) ?_; rintro w ⟨v, e1, g0, g1, g2, g3, g4, g5, g6, g7, g8, g9⟩)) <;> (try simp only [pair_eta, map_idL, he, hb, e1] at h) <;> (try first | rw [if_pos h] at hr | rw [if_neg h] at hr | rw [ifF h] at hr | rw [ifN h] at hr) <;> (try (have hb : (_ : Bool) = _ := h; clear h; subst hb; (try first | rw [if_pos rfl] at hr | rw [if_neg Bool.false_ne_true] at hr))) <;> first | (exfalso; omega) | exact absurd (h.symm.trans (by assumption) : true = false) Bool.noConfusion | exact absurd (h.symm.trans (by assumption) : false = true) Bool.noConfusion | (with_reducible refine (?_ : T1 _ ?_) ?_; rotate_left 1; (conv => lhs; cbv; (try cbv); (try cbv)); intro hT; clear hT; with_reducible refine Sh.mk (by kernel_rfl) ?_))
          | (with_reducible refine Alt.mk (fun h => ?_) (fun h => ?_) <;> (have hk := h) <;> (try simp only [decide_eq_true_eq, decide_eq_false_iff_not, Bool.not_eq_true', Bool.not_eq_false', Bool.not_eq_true, Bool.not_eq_false, Bool.not_true, Bool.not_false, ne_eq, Bool.false_eq_true, Bool.true_eq_false, reduceCtorEq, beq_iff_eq, beq_eq_false_iff_ne, not_true_eq_false, not_false_eq_true, pair_eta, map_idL] at h) <;> (try dsimp only [bookSpec, balSpec, Ty.T, Ty.dflt, KT.T, getM, putM, delM] at h) <;> (try simp only [natCast_eq] at h) <;> (try simp only [ofN0, ofN1, ofN2, ofN3, ofN4] at h) <;> (try (refine Exists.elim (z.step hok h) ?_; rintro v ⟨y, e1, hy0, hy1⟩)) <;> (try (refine Exists.elim (fin_step hok hb t.lo h) ?_; rintro w ⟨v, e1, g0, g1, g2, g3, g4, g5, g6, g7, g8, g9⟩)) <;> (try simp only [pair_eta, map_idL, he, hb, e1] at h) <;> (try first | rw [if_pos h] at hr | rw [if_neg h] at hr | rw [ifF h] at hr | rw [ifN h] at hr) <;> (try (have hb : (_ : Bool) = _ := h; clear h; subst hb; (try first | rw [if_pos rfl] at hr | rw [if_neg Bool.false_ne_true] at hr))) <;> first | (exfalso; omega) | exact absurd (h.symm.trans (by assumption) : true = false) Bool.noConfusion | exact absurd (h.symm.trans (by assumption) : false = true) Bool.noConfusion | (with_reducible refine (?_ : T1 _ ?_) ?_; rotate_left 1; (conv => lhs; cbv; (try cbv); (try cbv)); intro hT; clear hT; with_reducible refine Sh.mk (by kernel_rfl) ?_))
          | (with_reducible refine Pick.mk (fun h => ?_) (fun l1 x l2 h => ?_) <;> (with_reducible refine (?_ : T1 _ ?_) ?_; rotate_left 1; (conv => lhs; cbv; (try cbv); (try cbv)); intro hT; clear hT; with_reducible refine Sh.mk (by kernel_rfl) ?_))
          | ((with_reducible refine End.mk ?_); skip)
          | with_reducible exact True.intro)
        all_goals first
          | (fail_if_success (with_reducible refine Exists.intro ?_ ?_)
             first
               | with_reducible rfl
               | with_reducible assumption
               | (dsimp only [bookSpec, balSpec, Ty.T, Ty.dflt, KT.T, getM, putM, delM, inI64, maxRow]; done)
               | (symm; with_reducible assumption)
               | (dsimp only [bookSpec, balSpec, Ty.T, Ty.dflt, KT.T, getM, putM, delM, inI64, maxRow]; first | with_reducible rfl | with_reducible assumption | (symm; with_reducible assumption) | (simp only [natCast_eq]; with_reducible rfl) | omega)
               | omega
               | (dsimp only [bookSpec, balSpec, Ty.T, Ty.dflt, KT.T, getM, putM, delM, inI64, maxRow]; (try simp only [natCast_eq, List.nil_append]); first | with_reducible rfl | exact take_cg (by omega) | exact drop_cg (by omega) | exact take_drop_cg (by omega) (by omega) | exact take_all (by omega) | exact take_drop_all (by omega) (by omega) | exact drop_take_cg (by omega) (by omega) (by omega))
               | first | (rw [ofN4]; omega) | ((try dsimp only [bookSpec, balSpec, Ty.T, Ty.dflt, KT.T]); (try simp only [e1]); (try unfold inI64); omega)
               | ((try dsimp only [bookSpec, balSpec, Ty.T, Ty.dflt, KT.T, getM, putM, delM, inI64, maxRow]); simp only [decide_eq_true_eq, decide_eq_false_iff_not, Bool.not_eq_true', Bool.not_eq_false', Bool.not_eq_true, Bool.not_eq_false, Bool.not_true, Bool.not_false, ne_eq, Bool.false_eq_true, Bool.true_eq_false, reduceCtorEq, beq_iff_eq, beq_eq_false_iff_ne, not_true_eq_false, not_false_eq_true, pair_eta, map_idL, natCast_eq, inI64, maxRow]; first | done | with_reducible assumption | omega)
               | exact map_pair_id _
               | ((try dsimp only [bookSpec, balSpec, Ty.T, Ty.dflt, KT.T, getM, putM, delM, inI64, maxRow]) <;> (try simp only [natCast_eq]) <;> omega)
               | ((try dsimp only [bookSpec, balSpec, Ty.T, Ty.dflt, KT.T, getM, putM, delM, inI64, maxRow] at *) <;> (try simp only [natCast_eq] at *) <;> omega)
               | ((try dsimp only [bookSpec, balSpec, Ty.T, Ty.dflt, KT.T, getM, putM, delM, inI64, maxRow] at *) <;> (try simp only [List.length_append, List.length_cons, List.length_nil, List.length_replicate, List.length_take, List.length_drop, natCast_eq] at *) <;> omega)
               | assumption
               | (symm; assumption)
               | (dsimp only; simp only [Bool.or_true, Bool.true_or, Bool.or_false, Bool.false_or, Bool.and_true, Bool.true_and, Bool.and_false, Bool.false_and, Bool.not_true, Bool.not_false, *]; done)
               | (simp; done)
               | (and_intros <;> first | trivial | with_reducible assumption | omega)
               | ((try dsimp only [bookSpec, balSpec, Ty.T, Ty.dflt, KT.T, getM, putM, delM, inI64, maxRow] at *) <;> simp [*] <;> done))
          | skip
        all_goals
          (first
            | (refine Exists.elim (t.next (by assumption)) ?_
               intro y hy
               refine ⟨y, by (try dsimp only); (try simp only [natCast_eq]); omega, ?_⟩
               (try (conv in (LoopInv.inv _ _) => dsimp only)); (try (conv in (SS.mk _ _) => cbv; (try dsimp only [bookSpec, balSpec, Ty.T, Ty.dflt, KT.T]); (try simp only [natCast_eq])))
               (with_reducible refine (?_ : T1 _ ?_) ?_; rotate_left 1; (conv => lhs; cbv; (try cbv); (try cbv)); intro hT; clear hT; with_reducible refine Sh.mk (by kernel_rfl) ?_)
               repeat' (first
                 | with_reducible refine Ck.mk (C := tt) tt_intro ?_
                 | with_reducible refine Ck.mk (show drawOk _ _ = true by kernel_rfl) ?_
                 | with_reducible refine Ck.all_cons ?_
                 | with_reducible refine Ck.all_nil ?_
                 | with_reducible refine Ck.mk (by assumption) ?_
                 | with_reducible refine Ck.mk (decide_eq_true (by assumption)) ?_
                 | with_reducible refine Ck.mk (decide_eq_false (by assumption)) ?_
                 | with_reducible refine Ck.mk ?_ ?_
                 | (with_reducible refine Both.mk (fun h => ?_) (fun h => ?_) <;> (have hk := h) <;> (try simp only [decide_eq_true_eq, decide_eq_false_iff_not, Bool.not_eq_true', Bool.not_eq_false', Bool.not_eq_true, Bool.not_eq_false, Bool.not_true, Bool.not_false, ne_eq, Bool.false_eq_true, Bool.true_eq_false, reduceCtorEq, beq_iff_eq, beq_eq_false_iff_ne, not_true_eq_false, not_false_eq_true, pair_eta, map_idL] at h) <;> (try dsimp only [bookSpec, balSpec, Ty.T, Ty.dflt, KT.T, getM, putM, delM] at h) <;> (try simp only [natCast_eq] at h) <;> (try simp only [ofN0, ofN1, ofN2, ofN3, ofN4] at h) <;> (try (refine Exists.elim (z.step hok h) ?_; rintro v ⟨y, e1, hy0, hy1⟩)) <;> (try (refine Exists.elim (fin_step hok hb t.lo h) ?_; rintro w ⟨v, e1, g0, g1, g2, g3, g4, g5, g6, g7, g8, g9⟩)) <;> (try simp only [pair_eta, map_idL, he, hb, e1] at h) <;> (try first | rw [if_pos h] at hr | rw [if_neg h] at hr | rw [ifF h] at hr | rw [ifN h] at hr) <;> (try (have hb : (_ : Bool) = _ := h; clear h; subst hb; (try first | rw [if_pos rfl] at hr | rw [if_neg Bool.false_ne_true] at hr))) <;> first | (exfalso; omega) | exact absurd (h.symm.trans (by assumption) : true = false) Bool.noConfusion | exact absurd (h.symm.trans (by assumption) : false = true) Bool.noConfusion | (with_reducible refine (?_ : T1 _ ?_) ?_; rotate_left 1; (conv => lhs; cbv; (try cbv); (try cbv)); intro hT; clear hT; with_reducible refine Sh.mk (by kernel_rfl) ?_))
                 | (with_reducible refine Alt.mk (fun h => ?_) (fun h => ?_) <;> (have hk := h) <;> (try simp only [decide_eq_true_eq, decide_eq_false_iff_not, Bool.not_eq_true', Bool.not_eq_false', Bool.not_eq_true, Bool.not_eq_false, Bool.not_true, Bool.not_false, ne_eq, Bool.false_eq_true, Bool.true_eq_false, reduceCtorEq, beq_iff_eq, beq_eq_false_iff_ne, not_true_eq_false, not_false_eq_true, pair_eta, map_idL] at h) <;> (try dsimp only [bookSpec, balSpec, Ty.T, Ty.dflt, KT.T, getM, putM, delM] at h) <;> (try simp only [natCast_eq] at h) <;> (try simp only [ofN0, ofN1, ofN2, ofN3, ofN4] at h) <;> (try (refine Exists.elim (z.step hok h) ?_; rintro v ⟨y, e1, hy0, hy1⟩)) <;> (try (refine Exists.elim (fin_step hok hb t.lo h) ?_; rintro w ⟨v, e1, g0, g1, g2, g3, g4, g5, g6, g7, g8, g9⟩)) <;> (try simp only [pair_eta, map_idL, he, hb, e1] at h) <;> (try first | rw [if_pos h] at hr | rw [if_neg h] at hr | rw [ifF h] at hr | rw [ifN h] at hr) <;> (try (have hb : (_ : Bool) = _ := h; clear h; subst hb; (try first | rw [if_pos rfl] at hr | rw [if_neg Bool.false_ne_true] at hr))) <;> first | (exfalso; omega) | exact absurd (h.symm.trans (by assumption) : true = false) Bool.noConfusion | exact absurd (h.symm.trans (by assumption) : false = true) Bool.noConfusion | (with_reducible refine (?_ : T1 _ ?_) ?_; rotate_left 1; (conv => lhs; cbv; (try cbv); (try cbv)); intro hT; clear hT; with_reducible refine Sh.mk (by kernel_rfl) ?_))
                 | (with_reducible refine Pick.mk (fun h => ?_) (fun l1 x l2 h => ?_) <;> (with_reducible refine (?_ : T1 _ ?_) ?_; rotate_left 1; (conv => lhs; cbv; (try cbv); (try cbv)); intro hT; clear hT; with_reducible refine Sh.mk (by kernel_rfl) ?_))
                 | ((with_reducible refine End.mk ?_); skip)
                 | with_reducible exact True.intro)
               all_goals first
                 | (fail_if_success (with_reducible refine Exists.intro ?_ ?_)
                    first
                      | with_reducible rfl
                      | with_reducible assumption
                      | (dsimp only [bookSpec, balSpec, Ty.T, Ty.dflt, KT.T, getM, putM, delM, inI64, maxRow]; done)
                      | (symm; with_reducible assumption)
                      | (dsimp only [bookSpec, balSpec, Ty.T, Ty.dflt, KT.T, getM, putM, delM, inI64, maxRow]; first | with_reducible rfl | with_reducible assumption | (symm; with_reducible assumption) | (simp only [natCast_eq]; with_reducible rfl) | omega)
                      | omega
                      | (dsimp only [bookSpec, balSpec, Ty.T, Ty.dflt, KT.T, getM, putM, delM, inI64, maxRow]; (try simp only [natCast_eq, List.nil_append]); first | with_reducible rfl | exact take_cg (by omega) | exact drop_cg (by omega) | exact take_drop_cg (by omega) (by omega) | exact take_all (by omega) | exact take_drop_all (by omega) (by omega) | exact drop_take_cg (by omega) (by omega) (by omega))
                      | first | exact hy.symm
                      | ((try dsimp only [bookSpec, balSpec, Ty.T, Ty.dflt, KT.T, getM, putM, delM, inI64, maxRow]); simp only [decide_eq_true_eq, decide_eq_false_iff_not, Bool.not_eq_true', Bool.not_eq_false', Bool.not_eq_true, Bool.not_eq_false, Bool.not_true, Bool.not_false, ne_eq, Bool.false_eq_true, Bool.true_eq_false, reduceCtorEq, beq_iff_eq, beq_eq_false_iff_ne, not_true_eq_false, not_false_eq_true, pair_eta, map_idL, natCast_eq, inI64, maxRow]; first | done | with_reducible assumption | omega)
                      | exact map_pair_id _
                      | ((try dsimp only [bookSpec, balSpec, Ty.T, Ty.dflt, KT.T, getM, putM, delM, inI64, maxRow]) <;> (try simp only [natCast_eq]) <;> omega)
                      | ((try dsimp only [bookSpec, balSpec, Ty.T, Ty.dflt, KT.T, getM, putM, delM, inI64, maxRow] at *) <;> (try simp only [natCast_eq] at *) <;> omega)
                      | ((try dsimp only [bookSpec, balSpec, Ty.T, Ty.dflt, KT.T, getM, putM, delM, inI64, maxRow] at *) <;> (try simp only [List.length_append, List.length_cons, List.length_nil, List.length_replicate, List.length_take, List.length_drop, natCast_eq] at *) <;> omega)
                      | assumption
                      | (symm; assumption)
                      | (dsimp only; simp only [Bool.or_true, Bool.true_or, Bool.or_false, Bool.false_or, Bool.and_true, Bool.true_and, Bool.and_false, Bool.false_and, Bool.not_true, Bool.not_false, *]; done)
                      | (simp; done)
                      | (and_intros <;> first | trivial | with_reducible assumption | omega)
                      | ((try dsimp only [bookSpec, balSpec, Ty.T, Ty.dflt, KT.T, getM, putM, delM, inI64, maxRow] at *) <;> simp [*] <;> done))
                 | skip
               skip)
            | (refine Exists.elim (x.step (by assumption)) ?_
               rintro e9 ⟨y, he9, hy0, hy1⟩
               have hee : e9 = e := he9.symm.trans he
               subst hee
               refine ⟨y, by (try dsimp only); (try simp only [natCast_eq]); omega, ?_⟩
               (try (conv in (LoopInv.inv _ _) => dsimp only)); (try (conv in (SS.mk _ _) => cbv; (try dsimp only [bookSpec, balSpec, Ty.T, Ty.dflt, KT.T]); (try simp only [natCast_eq])))
               (with_reducible refine (?_ : T1 _ ?_) ?_; rotate_left 1; (conv => lhs; cbv; (try cbv); (try cbv)); intro hT; clear hT; with_reducible refine Sh.mk (by kernel_rfl) ?_)
               repeat' (first
                 | with_reducible refine Ck.mk (C := tt) tt_intro ?_
                 | with_reducible refine Ck.mk (show drawOk _ _ = true by kernel_rfl) ?_
                 | with_reducible refine Ck.all_cons ?_
                 | with_reducible refine Ck.all_nil ?_
                 | with_reducible refine Ck.mk (by assumption) ?_
                 | with_reducible refine Ck.mk (decide_eq_true (by assumption)) ?_
                 | with_reducible refine Ck.mk (decide_eq_false (by assumption)) ?_
                 | with_reducible refine Ck.mk ?_ ?_
                 | (with_reducible refine Both.mk (fun h => ?_) (fun h => ?_) <;> (have hk := h) <;> (try simp only [decide_eq_true_eq, decide_eq_false_iff_not, Bool.not_eq_true', Bool.not_eq_false', Bool.not_eq_true, Bool.not_eq_false, Bool.not_true, Bool.not_false, ne_eq, Bool.false_eq_true, Bool.true_eq_false, reduceCtorEq, beq_iff_eq, beq_eq_false_iff_ne, not_true_eq_false, not_false_eq_true, pair_eta, map_idL] at h) <;> (try dsimp only [bookSpec, balSpec, Ty.T, Ty.dflt, KT.T, getM, putM, delM] at h) <;> (try simp only [natCast_eq] at h) <;> (try simp only [ofN0, ofN1, ofN2, ofN3, ofN4] at h) <;> (try (refine Exists.elim (z.step hok h) ?_; rintro v ⟨y, e1, hy0, hy1⟩)) <;> (try (refine Exists.elim (fin_step hok hb t.lo h) ?_; rintro w ⟨v, e1, g0, g1, g2, g3, g4, g5, g6, g7, g8, g9⟩)) <;> (try simp only [pair_eta, map_idL, he, hb, e1] at h) <;> (try first | rw [if_pos h] at hr | rw [if_neg h] at hr | rw [ifF h] at hr | rw [ifN h] at hr) <;> (try (have hb : (_ : Bool) = _ := h; clear h; subst hb; (try first | rw [if_pos rfl] at hr | rw [if_neg Bool.false_ne_true] at hr))) <;> first | (exfalso; omega) | exact absurd (h.symm.trans (by assumption) : true = false) Bool.noConfusion | exact absurd (h.symm.trans (by assumption) : false = true) Bool.noConfusion | (with_reducible refine (?_ : T1 _ ?_) ?_; rotate_left 1; (conv => lhs; cbv; (try cbv); (try cbv)); intro hT; clear hT; with_reducible refine Sh.mk (by kernel_rfl) ?_))
                 | (with_reducible refine Alt.mk (fun h => ?_) (fun h => ?_) <;> (have hk := h) <;> (try simp only [decide_eq_true_eq, decide_eq_false_iff_not, Bool.not_eq_true', Bool.not_eq_false', Bool.not_eq_true, Bool.not_eq_false, Bool.not_true, Bool.not_false, ne_eq, Bool.false_eq_true, Bool.true_eq_false, reduceCtorEq, beq_iff_eq, beq_eq_false_iff_ne, not_true_eq_false, not_false_eq_true, pair_eta, map_idL] at h) <;> (try dsimp only [bookSpec, balSpec, Ty.T, Ty.dflt, KT.T, getM, putM, delM] at h) <;> (try simp only [natCast_eq] at h) <;> (try simp only [ofN0, ofN1, ofN2, ofN3, ofN4] at h) <;> (try (refine Exists.elim (z.step hok h) ?_; rintro v ⟨y, e1, hy0, hy1⟩)) <;> (try (refine Exists.elim (fin_step hok hb t.lo h) ?_; rintro w ⟨v, e1, g0, g1, g2, g3, g4, g5, g6, g7, g8, g9⟩)) <;> (try simp only [pair_eta, map_idL, he, hb, e1] at h) <;> (try first | rw [if_pos h] at hr | rw [if_neg h] at hr | rw [ifF h] at hr | rw [ifN h] at hr) <;> (try (have hb : (_ : Bool) = _ := h; clear h; subst hb; (try first | rw [if_pos rfl] at hr | rw [if_neg Bool.false_ne_true] at hr))) <;> first | (exfalso; omega) | exact absurd (h.symm.trans (by assumption) : true = false) Bool.noConfusion | exact absurd (h.symm.trans (by assumption) : false = true) Bool.noConfusion | (with_reducible refine (?_ : T1 _ ?_) ?_; rotate_left 1; (conv => lhs; cbv; (try cbv); (try cbv)); intro hT; clear hT; with_reducible refine Sh.mk (by kernel_rfl) ?_))
                 | (with_reducible refine Pick.mk (fun h => ?_) (fun l1 x l2 h => ?_) <;> (with_reducible refine (?_ : T1 _ ?_) ?_; rotate_left 1; (conv => lhs; cbv; (try cbv); (try cbv)); intro hT; clear hT; with_reducible refine Sh.mk (by kernel_rfl) ?_))
                 | ((with_reducible refine End.mk ?_); skip)
                 | with_reducible exact True.intro)
               all_goals first
                 | (fail_if_success (with_reducible refine Exists.intro ?_ ?_)
                    first
                      | with_reducible rfl
                      | with_reducible assumption
                      | (dsimp only [bookSpec, balSpec, Ty.T, Ty.dflt, KT.T, getM, putM, delM, inI64, maxRow]; done)
                      | (symm; with_reducible assumption)
                      | (dsimp only [bookSpec, balSpec, Ty.T, Ty.dflt, KT.T, getM, putM, delM, inI64, maxRow]; first | with_reducible rfl | with_reducible assumption | (symm; with_reducible assumption) | (simp only [natCast_eq]; with_reducible rfl) | omega)
                      | omega
                      | (dsimp only [bookSpec, balSpec, Ty.T, Ty.dflt, KT.T, getM, putM, delM, inI64, maxRow]; (try simp only [natCast_eq, List.nil_append]); first | with_reducible rfl | exact take_cg (by omega) | exact drop_cg (by omega) | exact take_drop_cg (by omega) (by omega) | exact take_all (by omega) | exact take_drop_all (by omega) (by omega) | exact drop_take_cg (by omega) (by omega) (by omega))
                      | first | exact hy0.symm | exact ((congrArg Prod.snd hb).symm.trans hy1.symm)
                      | ((try dsimp only [bookSpec, balSpec, Ty.T, Ty.dflt, KT.T, getM, putM, delM, inI64, maxRow]); simp only [decide_eq_true_eq, decide_eq_false_iff_not, Bool.not_eq_true', Bool.not_eq_false', Bool.not_eq_true, Bool.not_eq_false, Bool.not_true, Bool.not_false, ne_eq, Bool.false_eq_true, Bool.true_eq_false, reduceCtorEq, beq_iff_eq, beq_eq_false_iff_ne, not_true_eq_false, not_false_eq_true, pair_eta, map_idL, natCast_eq, inI64, maxRow]; first | done | with_reducible assumption | omega)
                      | exact map_pair_id _
                      | ((try dsimp only [bookSpec, balSpec, Ty.T, Ty.dflt, KT.T, getM, putM, delM, inI64, maxRow]) <;> (try simp only [natCast_eq]) <;> omega)
                      | ((try dsimp only [bookSpec, balSpec, Ty.T, Ty.dflt, KT.T, getM, putM, delM, inI64, maxRow] at *) <;> (try simp only [natCast_eq] at *) <;> omega)
                      | ((try dsimp only [bookSpec, balSpec, Ty.T, Ty.dflt, KT.T, getM, putM, delM, inI64, maxRow] at *) <;> (try simp only [List.length_append, List.length_cons, List.length_nil, List.length_replicate, List.length_take, List.length_drop, natCast_eq] at *) <;> omega)
                      | assumption
                      | (symm; assumption)
                      | (dsimp only; simp only [Bool.or_true, Bool.true_or, Bool.or_false, Bool.false_or, Bool.and_true, Bool.true_and, Bool.and_false, Bool.false_and, Bool.not_true, Bool.not_false, *]; done)
                      | (simp; done)
                      | (and_intros <;> first | trivial | with_reducible assumption | omega)
                      | ((try dsimp only [bookSpec, balSpec, Ty.T, Ty.dflt, KT.T, getM, putM, delM, inI64, maxRow] at *) <;> simp [*] <;> done))
                 | skip
               skip)
            | skip)))
theorem fin_sound : ConSound Tryd.prog AI 5 finSpec.con := PureSpec.sound Tryd.call5 (fun x h => fin_ok x.1 h)
end Go.Proofs.YtfgfcbncnngniaaDoor
