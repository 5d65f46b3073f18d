/-
  Layer 47: SessionAsks, the walk.
-/
import Derived.Test.YtldabjgegpmmiaaAwk
import Derived.Test.YtldabjgegpmmiaaEng3
namespace Go.Proofs.Ytldabjgegpmmiaa
set_option linter.all false
set_option linter.unusedVariables false
set_option linter.unusedSimpArgs false
set_option linter.unusedSectionVars false
open Go.RowKit Go.Sx
set_option maxRecDepth 100000
set_option maxHeartbeats 16000000
noncomputable abbrev Eas : Env Ab := ⟨tis, [(21, smmSpec.con), (23, orCon erpSpec.con (inl E0 Try.f23 0)), (17, orCon estSpec.con (inl E0 Try.f17 0)), (19, orCon ercSpec.con (inl E0 Try.f19 2)), (20, orCon etkSpec.con (inl E0 Try.f20 1)), (22, orCon erdSpec.con (inl E0 Try.f22 0)), (29, orCon eclSpec.con (inl E0 Try.f29 0)), (28, orCon ewrSpec.con (inl E0 Try.f28 0)), (27, orCon connSpec.con (inl E0 Try.f27 0)), (26, newESpec.con), (11, awakeSpec.con)] ++ E0.con⟩
theorem easOk : EnvOk Try.prog AI Eas := (((((((((((e0Ok.add awake_sound).add newE_sound).add (orCon_sound conn_sound (inl_sound e0Ok mixed (fn := Try.f27) (c := bodyOf Try.f27) Try.call27 (by kernel_rfl) (by kernel_rfl) (by kernel_rfl) 0))).add (orCon_sound ewr_sound (inl_sound e0Ok mixed (fn := Try.f28) (c := bodyOf Try.f28) Try.call28 (by kernel_rfl) (by kernel_rfl) (by kernel_rfl) 0))).add (orCon_sound ecl_sound (inl_sound e0Ok mixed (fn := Try.f29) (c := bodyOf Try.f29) Try.call29 (by kernel_rfl) (by kernel_rfl) (by kernel_rfl) 0))).add (orCon_sound erd_sound (inl_sound e0Ok mixed (fn := Try.f22) (c := bodyOf Try.f22) Try.call22 (by kernel_rfl) (by kernel_rfl) (by kernel_rfl) 0))).add (orCon_sound etk_sound (inl_sound e0Ok mixed (fn := Try.f20) (c := bodyOf Try.f20) Try.call20 (by kernel_rfl) (by kernel_rfl) (by kernel_rfl) 1))).add (orCon_sound erc_sound (inl_sound e0Ok mixed (fn := Try.f19) (c := bodyOf Try.f19) Try.call19 (by kernel_rfl) (by kernel_rfl) (by kernel_rfl) 2))).add (orCon_sound est_sound (inl_sound e0Ok mixed (fn := Try.f17) (c := bodyOf Try.f17) Try.call17 (by kernel_rfl) (by kernel_rfl) (by kernel_rfl) 0))).add (orCon_sound erp_sound (inl_sound e0Ok mixed (fn := Try.f23) (c := bodyOf Try.f23) Try.call23 (by kernel_rfl) (by kernel_rfl) (by kernel_rfl) 0))).add smm_sound)
abbrev askW (n : Int) : Wri := newW 8 n
def askE (n w : Int) : Edd := ⟨10, 0, 1, n, w, newW 8 n, ⟨newS 8, 8⟩, false, false⟩
abbrev helloA : Msg := (1, 10, 0, (0, [], false), 0, 0, false)
theorem etk_new (n : Int) : etkF (newEd 10 8 n) 5 = (([], ()), newEd 10 8 n) := by
  unfold etkF newEd; simp
theorem etk_ask0 (n : Int) : etkF (askE n 0) 5 = (([helloA], ()), askE n (n - 1)) := rfl
theorem etk_ask1 {n w : Int} (h : w ≠ 0) : etkF (askE n w) 5 = (([], ()), askE n (w - 1)) := by
  show (if (1 : Int) = 1 then (if w = 0 then _ else _) else _) = _
  rw [if_pos rfl, if_neg h]; rfl
theorem ok_ask {n w : Int} (h1 : 1 ≤ n) (h2 : n ≤ 20) (h3 : 0 ≤ w) (h4 : w < n) : OkE (askE n w) := by
  refine ⟨⟨?_, ?_, ?_, ?_, ?_, ?_, ?_, ?_, ?_, ?_⟩, ⟨?_, ?_, ?_, ?_, ?_⟩, rfl, ?_, ?_⟩ <;> dsimp only [askE, newW, newS, List.length_nil] <;> (try intro p hp; cases hp) <;> omega
structure LAs (n t : Int) where
  i : Int
  w : Int
  lo : 0 ≤ i
  hi : i ≤ t
  w0 : 0 ≤ w
  w1 : w < n
  md : (i + w) % n = 0
theorem as_next0 {n t i : Int} (hn : 1 ≤ n) (h0 : 0 ≤ i) (hi : i < t) (hm : (i + 0) % n = 0) : ∃ y : LAs n t, y.i = i + 1 ∧ y.w = n - 1 :=
  ⟨⟨i + 1, n - 1, by omega, by omega, by omega, by omega, by rw [show i + 1 + (n - 1) = i + 0 + n by omega, Int.add_emod_right]; exact hm⟩, rfl, rfl⟩
theorem as_next1 {n t i w : Int} (h0 : 0 ≤ i) (hi : i < t) (hw : 0 ≤ w) (hw0 : w ≠ 0) (hw1 : w < n) (hm : (i + w) % n = 0) : ∃ y : LAs n t, y.i = i + 1 ∧ y.w = w - 1 :=
  ⟨⟨i + 1, w - 1, by omega, by omega, by omega, by omega, by rw [show i + 1 + (w - 1) = i + w by omega]; exact hm⟩, rfl, rfl⟩
theorem as_mod0 {n i : Int} (h0 : 0 ≤ i) (hm : (i + 0) % n = 0) : i % n = 0 := by
  simpa using hm
theorem as_mod1 {n i w : Int} (h0 : 0 ≤ i) (hw : 0 ≤ w) (hw0 : w ≠ 0) (hw1 : w < n) (hm : (i + w) % n = 0) : ¬ i % n = 0 := by
  intro e
  rw [Int.add_emod, e, Int.zero_add, Int.emod_emod_of_dvd _ (Int.dvd_refl n), Int.emod_eq_of_lt hw hw1] at hm
  exact hw0 hm
theorem ok_new47 {n : Int} (h1 : 1 ≤ n) (h2 : n ≤ 20) : OkE (newEd 10 8 n) := by
  refine ⟨⟨?_, ?_, ?_, ?_, ?_, ?_, ?_, ?_, ?_, ?_⟩, ⟨?_, ?_, ?_, ?_, ?_⟩, rfl, ?_, ?_⟩ <;> dsimp only [newW, newS, List.length_nil] <;> (try intro p hp; cases hp) <;> omega
def askF (_ _ : Int) : Tup [DT.cell .bool] := (true, ())
def askSpec : PureSpec := ⟨[.cell (.int .u8), .cell (.int .u8)], fun (x : Int × Int × Unit) => (0 ≤ x.1 ∧ x.1 ≤ 255) ∧ 0 ≤ x.2.1 ∧ x.2.1 ≤ 255, [.cell .bool], fun (x : Int × Int × Unit) => askF x.1 x.2.1⟩
theorem ask_ok (o : Int) (t : Int) (h : askSpec.pre (o, t, ())) : TmplOk Try.prog AI 8 (argS askSpec.ds (fun _ => (o, t, ()))) [] (resOf (svs askSpec.rs (fun _ => askSpec.f (o, t, ())))) [] := by
  dsimp only [askSpec] at h ⊢
  generalize hr : askF o t = r
  obtain ⟨⟨h1, h2⟩, h3, h4⟩ := h
  have e0 := etk_new (1 + o % 20)
  have ok0 : OkE (newEd 10 8 (1 + o % 20)) := ok_new47 (by omega) (by omega)
  dsimp only [askF] at hr
  refine tmpl_of_body easOk mixed (fn := Try.f8) (c := bodyOf Try.f8) (by kernel_rfl) (by kernel_rfl) (by kernel_rfl) (Nat.le_of_ble_eq_true (by kernel_rfl)) ?_
  (try (conv in (LoopInv.inv _ _) => dsimp only)); (try (conv in (SS.mk _ _) => cbv; (try dsimp only [connSpec, ewrSpec, eclSpec, erdSpec, etkSpec, ercSpec, estSpec, erpSpec, newESpec, connF, Ty.T, Ty.dflt, KT.T]); (try simp only [natCast_eq])))
  (with_reducible refine (?_ : T1 _ ?_) ?_; rotate_left 1; (conv => lhs; cbv; (try cbv); (try cbv)); intro hT; clear hT; with_reducible refine Sh.mk (by kernel_rfl) ?_)
  repeat' (first
    | with_reducible refine Ck.mk (C := tt) tt_intro ?_
    | with_reducible refine Ck.mk (show drawOk _ _ = true by kernel_rfl) ?_
    | with_reducible refine Ck.all_cons ?_
    | with_reducible refine Ck.all_nil ?_
    | with_reducible refine Ck.mk (by assumption) ?_
    | with_reducible refine Ck.mk (decide_eq_true (by assumption)) ?_
    | with_reducible refine Ck.mk (decide_eq_false (by assumption)) ?_
    | with_reducible refine Ck.mk ?_ ?_
    | (with_reducible refine Both.mk (fun h => ?_) (fun h => ?_) <;> (have hk := h) <;> (try simp only [decide_eq_true_eq, decide_eq_false_iff_not, Bool.not_eq_true', Bool.not_eq_false', Bool.not_eq_true, Bool.not_eq_false, Bool.not_true, Bool.not_false, ne_eq, Bool.false_eq_true, Bool.true_eq_false, reduceCtorEq, beq_iff_eq, beq_eq_false_iff_ne, not_true_eq_false, not_false_eq_true, pair_eta, map_idL] at h) <;> (try dsimp only [connSpec, ewrSpec, eclSpec, erdSpec, etkSpec, ercSpec, estSpec, erpSpec, newESpec, connF, Ty.T, Ty.dflt, KT.T, getM, putM, delM] at h) <;> (try simp only [natCast_eq] at h) <;> (try simp only [e0, e1, hm, List.length_cons, List.length_nil] at h) <;> (try (exfalso; first | exact absurd rfl h | exact absurd h (by with_reducible decide))) <;> (try first | rw [if_pos h] at hr | rw [if_neg h] at hr | rw [ifF h] at hr | rw [ifN h] at hr) <;> (try (have hb : (_ : Bool) = _ := h; clear h; subst hb; (try first | rw [if_pos rfl] at hr | rw [if_neg Bool.false_ne_true] at hr))) <;> first | (exfalso; omega) | exact absurd (h.symm.trans (by assumption) : true = false) Bool.noConfusion | exact absurd (h.symm.trans (by assumption) : false = true) Bool.noConfusion | (with_reducible refine (?_ : T1 _ ?_) ?_; rotate_left 1; (conv => lhs; cbv; (try cbv); (try cbv)); intro hT; clear hT; with_reducible refine Sh.mk (by kernel_rfl) ?_))
    | (with_reducible refine Alt.mk (fun h => ?_) (fun h => ?_) <;> (have hk := h) <;> (try simp only [decide_eq_true_eq, decide_eq_false_iff_not, Bool.not_eq_true', Bool.not_eq_false', Bool.not_eq_true, Bool.not_eq_false, Bool.not_true, Bool.not_false, ne_eq, Bool.false_eq_true, Bool.true_eq_false, reduceCtorEq, beq_iff_eq, beq_eq_false_iff_ne, not_true_eq_false, not_false_eq_true, pair_eta, map_idL] at h) <;> (try dsimp only [connSpec, ewrSpec, eclSpec, erdSpec, etkSpec, ercSpec, estSpec, erpSpec, newESpec, connF, Ty.T, Ty.dflt, KT.T, getM, putM, delM] at h) <;> (try simp only [natCast_eq] at h) <;> (try simp only [e0, e1, hm, List.length_cons, List.length_nil] at h) <;> (try (exfalso; first | exact absurd rfl h | exact absurd h (by with_reducible decide))) <;> (try first | rw [if_pos h] at hr | rw [if_neg h] at hr | rw [ifF h] at hr | rw [ifN h] at hr) <;> (try (have hb : (_ : Bool) = _ := h; clear h; subst hb; (try first | rw [if_pos rfl] at hr | rw [if_neg Bool.false_ne_true] at hr))) <;> first | (exfalso; omega) | exact absurd (h.symm.trans (by assumption) : true = false) Bool.noConfusion | exact absurd (h.symm.trans (by assumption) : false = true) Bool.noConfusion | (with_reducible refine (?_ : T1 _ ?_) ?_; rotate_left 1; (conv => lhs; cbv; (try cbv); (try cbv)); intro hT; clear hT; with_reducible refine Sh.mk (by kernel_rfl) ?_))
    | (with_reducible refine Pick.mk (fun h => ?_) (fun l1 x l2 h => ?_) <;> (with_reducible refine (?_ : T1 _ ?_) ?_; rotate_left 1; (conv => lhs; cbv; (try cbv); (try cbv)); intro hT; clear hT; with_reducible refine Sh.mk (by kernel_rfl) ?_))
    | ((with_reducible refine End.mk ?_); (try ((repeat (first | rw [if_pos (by first | assumption | omega)] at hr | rw [if_neg (by first | assumption | omega | (simp only [Bool.false_eq_true, Bool.true_eq_false, reduceCtorEq, not_false_eq_true]; done) | (simp only [Bool.not_eq_true]; assumption) | (simp only [Bool.not_eq_false]; assumption))] at hr | rw [if_pos rfl] at hr)); subst hr)))
    | with_reducible exact True.intro)
  all_goals first
    | (fail_if_success (with_reducible refine Exists.intro ?_ ?_)
       first
         | with_reducible rfl
         | with_reducible assumption
         | (dsimp only [connSpec, ewrSpec, eclSpec, erdSpec, etkSpec, ercSpec, estSpec, erpSpec, newESpec, connF, Ty.T, Ty.dflt, KT.T, getM, putM, delM, inI64, maxRow]; done)
         | (symm; with_reducible assumption)
         | (dsimp only [connSpec, ewrSpec, eclSpec, erdSpec, etkSpec, ercSpec, estSpec, erpSpec, newESpec, connF, Ty.T, Ty.dflt, KT.T, getM, putM, delM, inI64, maxRow]; first | with_reducible rfl | with_reducible assumption | (symm; with_reducible assumption) | (simp only [natCast_eq]; with_reducible rfl) | omega)
         | omega
         | (dsimp only [connSpec, ewrSpec, eclSpec, erdSpec, etkSpec, ercSpec, estSpec, erpSpec, newESpec, connF, Ty.T, Ty.dflt, KT.T, getM, putM, delM, inI64, maxRow]; (try simp only [natCast_eq, List.nil_append]); first | with_reducible rfl | exact take_cg (by omega) | exact drop_cg (by omega) | exact take_drop_cg (by omega) (by omega) | exact take_all (by omega) | exact take_drop_all (by omega) (by omega) | exact drop_take_cg (by omega) (by omega) (by omega))
         | exact ok0
         | ((try dsimp only [connSpec, ewrSpec, eclSpec, erdSpec, etkSpec, ercSpec, estSpec, erpSpec, newESpec, connF, Ty.T, Ty.dflt, KT.T, getM, putM, delM, inI64, maxRow]); simp only [decide_eq_true_eq, decide_eq_false_iff_not, Bool.not_eq_true', Bool.not_eq_false', Bool.not_eq_true, Bool.not_eq_false, Bool.not_true, Bool.not_false, ne_eq, Bool.false_eq_true, Bool.true_eq_false, reduceCtorEq, beq_iff_eq, beq_eq_false_iff_ne, not_true_eq_false, not_false_eq_true, pair_eta, map_idL, natCast_eq, inI64, maxRow]; first | done | with_reducible assumption | omega)
         | exact map_pair_id _
         | ((try dsimp only [connSpec, ewrSpec, eclSpec, erdSpec, etkSpec, ercSpec, estSpec, erpSpec, newESpec, connF, Ty.T, Ty.dflt, KT.T, getM, putM, delM, inI64, maxRow]) <;> (try simp only [natCast_eq]) <;> omega)
         | ((try dsimp only [connSpec, ewrSpec, eclSpec, erdSpec, etkSpec, ercSpec, estSpec, erpSpec, newESpec, connF, Ty.T, Ty.dflt, KT.T, getM, putM, delM, inI64, maxRow] at *) <;> (try simp only [natCast_eq] at *) <;> omega)
         | ((try dsimp only [connSpec, ewrSpec, eclSpec, erdSpec, etkSpec, ercSpec, estSpec, erpSpec, newESpec, connF, Ty.T, Ty.dflt, KT.T, getM, putM, delM, inI64, maxRow] at *) <;> (try simp only [List.length_append, List.length_cons, List.length_nil, List.length_replicate, List.length_take, List.length_drop, natCast_eq] at *) <;> omega)
         | assumption
         | (symm; assumption)
         | (dsimp only; simp only [Bool.or_true, Bool.true_or, Bool.or_false, Bool.false_or, Bool.and_true, Bool.true_and, Bool.and_false, Bool.false_and, Bool.not_true, Bool.not_false, *]; done)
         | (simp; done)
         | (and_intros <;> first | trivial | with_reducible assumption | omega)
         | ((try dsimp only [connSpec, ewrSpec, eclSpec, erdSpec, etkSpec, ercSpec, estSpec, erpSpec, newESpec, connF, Ty.T, Ty.dflt, KT.T, getM, putM, delM, inI64, maxRow] at *) <;> simp [*] <;> done))
    | skip
  obtain ⟨x0, hx0, hx1⟩ : ∃ x : LAs (1 + o % 20) (t % 61), x.i = 0 ∧ x.w = 0 := ⟨⟨0, 0, Int.le_refl _, by omega, Int.le_refl _, by omega, by simp⟩, rfl, rfl⟩
  refine ⟨⟨LAs (1 + o % 20) (t % 61), fun x => ⟨[(5, Sx.one (.int .i64 (fun _ => 1 + o % 20))), (6, Sx.one (.ptr 0 0)), (56, Sx.one (.int .i64 (fun _ => t % 61))), (57, Sx.one (.int .i64 (fun _ => x.i)))], [.abs (.edd (fun _ => askE (1 + o % 20) x.w))]⟩, fun x => (t % 61 - x.i).toNat, x0⟩, ?_, fun (x : LAs (1 + o % 20) (t % 61)) => ?_⟩
  · (try (conv in (LoopInv.inv _ _) => dsimp only)); (try (conv in (SS.mk _ _) => cbv; (try dsimp only [connSpec, ewrSpec, eclSpec, erdSpec, etkSpec, ercSpec, estSpec, erpSpec, newESpec, connF, Ty.T, Ty.dflt, KT.T]); (try simp only [natCast_eq])))
    (with_reducible refine (?_ : T1 _ ?_) ?_; rotate_left 1; (conv => lhs; cbv; (try cbv); (try cbv)); intro hT; clear hT; with_reducible refine Sh.mk (by kernel_rfl) ?_)
    repeat' (first
      | with_reducible refine Ck.mk (C := tt) tt_intro ?_
      | with_reducible refine Ck.mk (show drawOk _ _ = true by kernel_rfl) ?_
      | with_reducible refine Ck.all_cons ?_
      | with_reducible refine Ck.all_nil ?_
      | with_reducible refine Ck.mk (by assumption) ?_
      | with_reducible refine Ck.mk (decide_eq_true (by assumption)) ?_
      | with_reducible refine Ck.mk (decide_eq_false (by assumption)) ?_
      | with_reducible refine Ck.mk ?_ ?_
      | (with_reducible refine Both.mk (fun h => ?_) (fun h => ?_) <;> (have hk := h) <;> (try simp only [decide_eq_true_eq, decide_eq_false_iff_not, Bool.not_eq_true', Bool.not_eq_false', Bool.not_eq_true, Bool.not_eq_false, Bool.not_true, Bool.not_false, ne_eq, Bool.false_eq_true, Bool.true_eq_false, reduceCtorEq, beq_iff_eq, beq_eq_false_iff_ne, not_true_eq_false, not_false_eq_true, pair_eta, map_idL] at h) <;> (try dsimp only [connSpec, ewrSpec, eclSpec, erdSpec, etkSpec, ercSpec, estSpec, erpSpec, newESpec, connF, Ty.T, Ty.dflt, KT.T, getM, putM, delM] at h) <;> (try simp only [natCast_eq] at h) <;> (try simp only [e0, e1, hm, List.length_cons, List.length_nil] at h) <;> (try (exfalso; first | exact absurd rfl h | exact absurd h (by with_reducible decide))) <;> (try first | rw [if_pos h] at hr | rw [if_neg h] at hr | rw [ifF h] at hr | rw [ifN h] at hr) <;> (try (have hb : (_ : Bool) = _ := h; clear h; subst hb; (try first | rw [if_pos rfl] at hr | rw [if_neg Bool.false_ne_true] at hr))) <;> first | (exfalso; omega) | exact absurd (h.symm.trans (by assumption) : true = false) Bool.noConfusion | exact absurd (h.symm.trans (by assumption) : false = true) Bool.noConfusion | (with_reducible refine (?_ : T1 _ ?_) ?_; rotate_left 1; (conv => lhs; cbv; (try cbv); (try cbv)); intro hT; clear hT; with_reducible refine Sh.mk (by kernel_rfl) ?_))
      | (with_reducible refine Alt.mk (fun h => ?_) (fun h => ?_) <;> (have hk := h) <;> (try simp only [decide_eq_true_eq, decide_eq_false_iff_not, Bool.not_eq_true', Bool.not_eq_false', Bool.not_eq_true, Bool.not_eq_false, Bool.not_true, Bool.not_false, ne_eq, Bool.false_eq_true, Bool.true_eq_false, reduceCtorEq, beq_iff_eq, beq_eq_false_iff_ne, not_true_eq_false, not_false_eq_true, pair_eta, map_idL] at h) <;> (try dsimp only [connSpec, ewrSpec, eclSpec, erdSpec, etkSpec, ercSpec, estSpec, erpSpec, newESpec, connF, Ty.T, Ty.dflt, KT.T, getM, putM, delM] at h) <;> (try simp only [natCast_eq] at h) <;> (try simp only [e0, e1, hm, List.length_cons, List.length_nil] at h) <;> (try (exfalso; first | exact absurd rfl h | exact absurd h (by with_reducible decide))) <;> (try first | rw [if_pos h] at hr | rw [if_neg h] at hr | rw [ifF h] at hr | rw [ifN h] at hr) <;> (try (have hb : (_ : Bool) = _ := h; clear h; subst hb; (try first | rw [if_pos rfl] at hr | rw [if_neg Bool.false_ne_true] at hr))) <;> first | (exfalso; omega) | exact absurd (h.symm.trans (by assumption) : true = false) Bool.noConfusion | exact absurd (h.symm.trans (by assumption) : false = true) Bool.noConfusion | (with_reducible refine (?_ : T1 _ ?_) ?_; rotate_left 1; (conv => lhs; cbv; (try cbv); (try cbv)); intro hT; clear hT; with_reducible refine Sh.mk (by kernel_rfl) ?_))
      | (with_reducible refine Pick.mk (fun h => ?_) (fun l1 x l2 h => ?_) <;> (with_reducible refine (?_ : T1 _ ?_) ?_; rotate_left 1; (conv => lhs; cbv; (try cbv); (try cbv)); intro hT; clear hT; with_reducible refine Sh.mk (by kernel_rfl) ?_))
      | ((with_reducible refine End.mk ?_); skip)
      | with_reducible exact True.intro)
    all_goals first
      | (fail_if_success (with_reducible refine Exists.intro ?_ ?_)
         first
           | with_reducible rfl
           | with_reducible assumption
           | (dsimp only [connSpec, ewrSpec, eclSpec, erdSpec, etkSpec, ercSpec, estSpec, erpSpec, newESpec, connF, Ty.T, Ty.dflt, KT.T, getM, putM, delM, inI64, maxRow]; done)
           | (symm; with_reducible assumption)
           | (dsimp only [connSpec, ewrSpec, eclSpec, erdSpec, etkSpec, ercSpec, estSpec, erpSpec, newESpec, connF, Ty.T, Ty.dflt, KT.T, getM, putM, delM, inI64, maxRow]; first | with_reducible rfl | with_reducible assumption | (symm; with_reducible assumption) | (simp only [natCast_eq]; with_reducible rfl) | omega)
           | omega
           | (dsimp only [connSpec, ewrSpec, eclSpec, erdSpec, etkSpec, ercSpec, estSpec, erpSpec, newESpec, connF, Ty.T, Ty.dflt, KT.T, getM, putM, delM, inI64, maxRow]; (try simp only [natCast_eq, List.nil_append]); first | with_reducible rfl | exact take_cg (by omega) | exact drop_cg (by omega) | exact take_drop_cg (by omega) (by omega) | exact take_all (by omega) | exact take_drop_all (by omega) (by omega) | exact drop_take_cg (by omega) (by omega) (by omega))
           | first | exact hx0.symm | (rw [hx1]; simp only [e0]; rfl)
           | ((try dsimp only [connSpec, ewrSpec, eclSpec, erdSpec, etkSpec, ercSpec, estSpec, erpSpec, newESpec, connF, Ty.T, Ty.dflt, KT.T, getM, putM, delM, inI64, maxRow]); simp only [decide_eq_true_eq, decide_eq_false_iff_not, Bool.not_eq_true', Bool.not_eq_false', Bool.not_eq_true, Bool.not_eq_false, Bool.not_true, Bool.not_false, ne_eq, Bool.false_eq_true, Bool.true_eq_false, reduceCtorEq, beq_iff_eq, beq_eq_false_iff_ne, not_true_eq_false, not_false_eq_true, pair_eta, map_idL, natCast_eq, inI64, maxRow]; first | done | with_reducible assumption | omega)
           | exact map_pair_id _
           | ((try dsimp only [connSpec, ewrSpec, eclSpec, erdSpec, etkSpec, ercSpec, estSpec, erpSpec, newESpec, connF, Ty.T, Ty.dflt, KT.T, getM, putM, delM, inI64, maxRow]) <;> (try simp only [natCast_eq]) <;> omega)
           | ((try dsimp only [connSpec, ewrSpec, eclSpec, erdSpec, etkSpec, ercSpec, estSpec, erpSpec, newESpec, connF, Ty.T, Ty.dflt, KT.T, getM, putM, delM, inI64, maxRow] at *) <;> (try simp only [natCast_eq] at *) <;> omega)
           | ((try dsimp only [connSpec, ewrSpec, eclSpec, erdSpec, etkSpec, ercSpec, estSpec, erpSpec, newESpec, connF, Ty.T, Ty.dflt, KT.T, getM, putM, delM, inI64, maxRow] at *) <;> (try simp only [List.length_append, List.length_cons, List.length_nil, List.length_replicate, List.length_take, List.length_drop, natCast_eq] at *) <;> omega)
           | assumption
           | (symm; assumption)
           | (dsimp only; simp only [Bool.or_true, Bool.true_or, Bool.or_false, Bool.false_or, Bool.and_true, Bool.true_and, Bool.and_false, Bool.false_and, Bool.not_true, Bool.not_false, *]; done)
           | (simp; done)
           | (and_intros <;> first | trivial | with_reducible assumption | omega)
           | ((try dsimp only [connSpec, ewrSpec, eclSpec, erdSpec, etkSpec, ercSpec, estSpec, erpSpec, newESpec, connF, Ty.T, Ty.dflt, KT.T, getM, putM, delM, inI64, maxRow] at *) <;> simp [*] <;> done))
      | skip
  obtain ⟨i, w, hlo, hhi, hw0, hw1, hmd⟩ := x
  have okA := ok_ask (n := 1 + o % 20) (w := w) (by omega) (by omega) hw0 hw1
  by_cases hw : w = 0
  · subst hw
    have e1 := etk_ask0 (1 + o % 20)
    have hm := as_mod0 hlo hmd
    (try (conv in (LoopInv.inv _ _) => dsimp only)); (try (conv in (SS.mk _ _) => cbv; (try dsimp only [connSpec, ewrSpec, eclSpec, erdSpec, etkSpec, ercSpec, estSpec, erpSpec, newESpec, connF, Ty.T, Ty.dflt, KT.T]); (try simp only [natCast_eq])))
    (with_reducible refine (?_ : T1 _ ?_) ?_; rotate_left 1; (conv => lhs; cbv; (try cbv); (try cbv)); intro hT; clear hT; with_reducible refine Sh.mk (by kernel_rfl) ?_)
    repeat' (first
      | with_reducible refine Ck.mk (C := tt) tt_intro ?_
      | with_reducible refine Ck.mk (show drawOk _ _ = true by kernel_rfl) ?_
      | with_reducible refine Ck.all_cons ?_
      | with_reducible refine Ck.all_nil ?_
      | with_reducible refine Ck.mk (by assumption) ?_
      | with_reducible refine Ck.mk (decide_eq_true (by assumption)) ?_
      | with_reducible refine Ck.mk (decide_eq_false (by assumption)) ?_
      | with_reducible refine Ck.mk ?_ ?_
      | (with_reducible refine Both.mk (fun h => ?_) (fun h => ?_) <;> (have hk := h) <;> (try simp only [decide_eq_true_eq, decide_eq_false_iff_not, Bool.not_eq_true', Bool.not_eq_false', Bool.not_eq_true, Bool.not_eq_false, Bool.not_true, Bool.not_false, ne_eq, Bool.false_eq_true, Bool.true_eq_false, reduceCtorEq, beq_iff_eq, beq_eq_false_iff_ne, not_true_eq_false, not_false_eq_true, pair_eta, map_idL] at h) <;> (try dsimp only [connSpec, ewrSpec, eclSpec, erdSpec, etkSpec, ercSpec, estSpec, erpSpec, newESpec, connF, Ty.T, Ty.dflt, KT.T, getM, putM, delM] at h) <;> (try simp only [natCast_eq] at h) <;> (try simp only [e0, e1, hm, List.length_cons, List.length_nil] at h) <;> (try (exfalso; first | exact absurd rfl h | exact absurd h (by with_reducible decide))) <;> (try first | rw [if_pos h] at hr | rw [if_neg h] at hr | rw [ifF h] at hr | rw [ifN h] at hr) <;> (try (have hb : (_ : Bool) = _ := h; clear h; subst hb; (try first | rw [if_pos rfl] at hr | rw [if_neg Bool.false_ne_true] at hr))) <;> first | (exfalso; omega) | exact absurd (h.symm.trans (by assumption) : true = false) Bool.noConfusion | exact absurd (h.symm.trans (by assumption) : false = true) Bool.noConfusion | (with_reducible refine (?_ : T1 _ ?_) ?_; rotate_left 1; (conv => lhs; cbv; (try cbv); (try cbv)); intro hT; clear hT; with_reducible refine Sh.mk (by kernel_rfl) ?_))
      | (with_reducible refine Alt.mk (fun h => ?_) (fun h => ?_) <;> (have hk := h) <;> (try simp only [decide_eq_true_eq, decide_eq_false_iff_not, Bool.not_eq_true', Bool.not_eq_false', Bool.not_eq_true, Bool.not_eq_false, Bool.not_true, Bool.not_false, ne_eq, Bool.false_eq_true, Bool.true_eq_false, reduceCtorEq, beq_iff_eq, beq_eq_false_iff_ne, not_true_eq_false, not_false_eq_true, pair_eta, map_idL] at h) <;> (try dsimp only [connSpec, ewrSpec, eclSpec, erdSpec, etkSpec, ercSpec, estSpec, erpSpec, newESpec, connF, Ty.T, Ty.dflt, KT.T, getM, putM, delM] at h) <;> (try simp only [natCast_eq] at h) <;> (try simp only [e0, e1, hm, List.length_cons, List.length_nil] at h) <;> (try (exfalso; first | exact absurd rfl h | exact absurd h (by with_reducible decide))) <;> (try first | rw [if_pos h] at hr | rw [if_neg h] at hr | rw [ifF h] at hr | rw [ifN h] at hr) <;> (try (have hb : (_ : Bool) = _ := h; clear h; subst hb; (try first | rw [if_pos rfl] at hr | rw [if_neg Bool.false_ne_true] at hr))) <;> first | (exfalso; omega) | exact absurd (h.symm.trans (by assumption) : true = false) Bool.noConfusion | exact absurd (h.symm.trans (by assumption) : false = true) Bool.noConfusion | (with_reducible refine (?_ : T1 _ ?_) ?_; rotate_left 1; (conv => lhs; cbv; (try cbv); (try cbv)); intro hT; clear hT; with_reducible refine Sh.mk (by kernel_rfl) ?_))
      | (with_reducible refine Pick.mk (fun h => ?_) (fun l1 x l2 h => ?_) <;> (with_reducible refine (?_ : T1 _ ?_) ?_; rotate_left 1; (conv => lhs; cbv; (try cbv); (try cbv)); intro hT; clear hT; with_reducible refine Sh.mk (by kernel_rfl) ?_))
      | ((with_reducible refine End.mk ?_); (try ((repeat (first | rw [if_pos (by first | assumption | omega)] at hr | rw [if_neg (by first | assumption | omega | (simp only [Bool.false_eq_true, Bool.true_eq_false, reduceCtorEq, not_false_eq_true]; done) | (simp only [Bool.not_eq_true]; assumption) | (simp only [Bool.not_eq_false]; assumption))] at hr | rw [if_pos rfl] at hr)); subst hr)))
      | with_reducible exact True.intro)
    all_goals first
      | (fail_if_success (with_reducible refine Exists.intro ?_ ?_)
         first
           | with_reducible rfl
           | with_reducible assumption
           | (dsimp only [connSpec, ewrSpec, eclSpec, erdSpec, etkSpec, ercSpec, estSpec, erpSpec, newESpec, connF, Ty.T, Ty.dflt, KT.T, getM, putM, delM, inI64, maxRow]; done)
           | (symm; with_reducible assumption)
           | (dsimp only [connSpec, ewrSpec, eclSpec, erdSpec, etkSpec, ercSpec, estSpec, erpSpec, newESpec, connF, Ty.T, Ty.dflt, KT.T, getM, putM, delM, inI64, maxRow]; first | with_reducible rfl | with_reducible assumption | (symm; with_reducible assumption) | (simp only [natCast_eq]; with_reducible rfl) | omega)
           | omega
           | (dsimp only [connSpec, ewrSpec, eclSpec, erdSpec, etkSpec, ercSpec, estSpec, erpSpec, newESpec, connF, Ty.T, Ty.dflt, KT.T, getM, putM, delM, inI64, maxRow]; (try simp only [natCast_eq, List.nil_append]); first | with_reducible rfl | exact take_cg (by omega) | exact drop_cg (by omega) | exact take_drop_cg (by omega) (by omega) | exact take_all (by omega) | exact take_drop_all (by omega) (by omega) | exact drop_take_cg (by omega) (by omega) (by omega))
           | first | exact okA | exact ⟨fun y hy => absurd (show y ∈ ([] : List Int) from hy) List.not_mem_nil, fun y hy => absurd (show y ∈ ([] : List Int) from hy) List.not_mem_nil⟩
           | ((try dsimp only [connSpec, ewrSpec, eclSpec, erdSpec, etkSpec, ercSpec, estSpec, erpSpec, newESpec, connF, Ty.T, Ty.dflt, KT.T, getM, putM, delM, inI64, maxRow]); simp only [decide_eq_true_eq, decide_eq_false_iff_not, Bool.not_eq_true', Bool.not_eq_false', Bool.not_eq_true, Bool.not_eq_false, Bool.not_true, Bool.not_false, ne_eq, Bool.false_eq_true, Bool.true_eq_false, reduceCtorEq, beq_iff_eq, beq_eq_false_iff_ne, not_true_eq_false, not_false_eq_true, pair_eta, map_idL, natCast_eq, inI64, maxRow]; first | done | with_reducible assumption | omega)
           | exact map_pair_id _
           | ((try dsimp only [connSpec, ewrSpec, eclSpec, erdSpec, etkSpec, ercSpec, estSpec, erpSpec, newESpec, connF, Ty.T, Ty.dflt, KT.T, getM, putM, delM, inI64, maxRow]) <;> (try simp only [natCast_eq]) <;> omega)
           | ((try dsimp only [connSpec, ewrSpec, eclSpec, erdSpec, etkSpec, ercSpec, estSpec, erpSpec, newESpec, connF, Ty.T, Ty.dflt, KT.T, getM, putM, delM, inI64, maxRow] at *) <;> (try simp only [natCast_eq] at *) <;> omega)
           | ((try dsimp only [connSpec, ewrSpec, eclSpec, erdSpec, etkSpec, ercSpec, estSpec, erpSpec, newESpec, connF, Ty.T, Ty.dflt, KT.T, getM, putM, delM, inI64, maxRow] at *) <;> (try simp only [List.length_append, List.length_cons, List.length_nil, List.length_replicate, List.length_take, List.length_drop, natCast_eq] at *) <;> omega)
           | assumption
           | (symm; assumption)
           | (dsimp only; simp only [Bool.or_true, Bool.true_or, Bool.or_false, Bool.false_or, Bool.and_true, Bool.true_and, Bool.and_false, Bool.false_and, Bool.not_true, Bool.not_false, *]; done)
           | (simp; done)
           | (and_intros <;> first | trivial | with_reducible assumption | omega)
           | ((try dsimp only [connSpec, ewrSpec, eclSpec, erdSpec, etkSpec, ercSpec, estSpec, erpSpec, newESpec, connF, Ty.T, Ty.dflt, KT.T, getM, putM, delM, inI64, maxRow] at *) <;> simp [*] <;> done))
      | skip
    all_goals
      (obtain ⟨y, hy1, hy2⟩ := as_next0 (n := 1 + o % 20) (t := t % 61) (by omega) hlo (by assumption) hmd
       refine ⟨y, by dsimp only; (try simp only [natCast_eq]); omega, ?_⟩
       (try (conv in (LoopInv.inv _ _) => dsimp only)); (try (conv in (SS.mk _ _) => cbv; (try dsimp only [connSpec, ewrSpec, eclSpec, erdSpec, etkSpec, ercSpec, estSpec, erpSpec, newESpec, connF, Ty.T, Ty.dflt, KT.T]); (try simp only [natCast_eq])))
       (with_reducible refine (?_ : T1 _ ?_) ?_; rotate_left 1; (conv => lhs; cbv; (try cbv); (try cbv)); intro hT; clear hT; with_reducible refine Sh.mk (by kernel_rfl) ?_)
       repeat' (first
         | with_reducible refine Ck.mk (C := tt) tt_intro ?_
         | with_reducible refine Ck.mk (show drawOk _ _ = true by kernel_rfl) ?_
         | with_reducible refine Ck.all_cons ?_
         | with_reducible refine Ck.all_nil ?_
         | with_reducible refine Ck.mk (by assumption) ?_
         | with_reducible refine Ck.mk (decide_eq_true (by assumption)) ?_
         | with_reducible refine Ck.mk (decide_eq_false (by assumption)) ?_
         | with_reducible refine Ck.mk ?_ ?_
         | (with_reducible refine Both.mk (fun h => ?_) (fun h => ?_) <;> (have hk := h) <;> (try simp only [decide_eq_true_eq, decide_eq_false_iff_not, Bool.not_eq_true', Bool.not_eq_false', Bool.not_eq_true, Bool.not_eq_false, Bool.not_true, Bool.not_false, ne_eq, Bool.false_eq_true, Bool.true_eq_false, reduceCtorEq, beq_iff_eq, beq_eq_false_iff_ne, not_true_eq_false, not_false_eq_true, pair_eta, map_idL] at h) <;> (try dsimp only [connSpec, ewrSpec, eclSpec, erdSpec, etkSpec, ercSpec, estSpec, erpSpec, newESpec, connF, Ty.T, Ty.dflt, KT.T, getM, putM, delM] at h) <;> (try simp only [natCast_eq] at h) <;> (try simp only [e0, e1, hm, List.length_cons, List.length_nil] at h) <;> (try (exfalso; first | exact absurd rfl h | exact absurd h (by with_reducible decide))) <;> (try first | rw [if_pos h] at hr | rw [if_neg h] at hr | rw [ifF h] at hr | rw [ifN h] at hr) <;> (try (have hb : (_ : Bool) = _ := h; clear h; subst hb; (try first | rw [if_pos rfl] at hr | rw [if_neg Bool.false_ne_true] at hr))) <;> first | (exfalso; omega) | exact absurd (h.symm.trans (by assumption) : true = false) Bool.noConfusion | exact absurd (h.symm.trans (by assumption) : false = true) Bool.noConfusion | (with_reducible refine (?_ : T1 _ ?_) ?_; rotate_left 1; (conv => lhs; cbv; (try cbv); (try cbv)); intro hT; clear hT; with_reducible refine Sh.mk (by kernel_rfl) ?_))
         | (with_reducible refine Alt.mk (fun h => ?_) (fun h => ?_) <;> (have hk := h) <;> (try simp only [decide_eq_true_eq, decide_eq_false_iff_not, Bool.not_eq_true', Bool.not_eq_false', Bool.not_eq_true, Bool.not_eq_false, Bool.not_true, Bool.not_false, ne_eq, Bool.false_eq_true, Bool.true_eq_false, reduceCtorEq, beq_iff_eq, beq_eq_false_iff_ne, not_true_eq_false, not_false_eq_true, pair_eta, map_idL] at h) <;> (try dsimp only [connSpec, ewrSpec, eclSpec, erdSpec, etkSpec, ercSpec, estSpec, erpSpec, newESpec, connF, Ty.T, Ty.dflt, KT.T, getM, putM, delM] at h) <;> (try simp only [natCast_eq] at h) <;> (try simp only [e0, e1, hm, List.length_cons, List.length_nil] at h) <;> (try (exfalso; first | exact absurd rfl h | exact absurd h (by with_reducible decide))) <;> (try first | rw [if_pos h] at hr | rw [if_neg h] at hr | rw [ifF h] at hr | rw [ifN h] at hr) <;> (try (have hb : (_ : Bool) = _ := h; clear h; subst hb; (try first | rw [if_pos rfl] at hr | rw [if_neg Bool.false_ne_true] at hr))) <;> first | (exfalso; omega) | exact absurd (h.symm.trans (by assumption) : true = false) Bool.noConfusion | exact absurd (h.symm.trans (by assumption) : false = true) Bool.noConfusion | (with_reducible refine (?_ : T1 _ ?_) ?_; rotate_left 1; (conv => lhs; cbv; (try cbv); (try cbv)); intro hT; clear hT; with_reducible refine Sh.mk (by kernel_rfl) ?_))
         | (with_reducible refine Pick.mk (fun h => ?_) (fun l1 x l2 h => ?_) <;> (with_reducible refine (?_ : T1 _ ?_) ?_; rotate_left 1; (conv => lhs; cbv; (try cbv); (try cbv)); intro hT; clear hT; with_reducible refine Sh.mk (by kernel_rfl) ?_))
         | ((with_reducible refine End.mk ?_); skip)
         | with_reducible exact True.intro)
       all_goals first
         | (fail_if_success (with_reducible refine Exists.intro ?_ ?_)
            first
              | with_reducible rfl
              | with_reducible assumption
              | (dsimp only [connSpec, ewrSpec, eclSpec, erdSpec, etkSpec, ercSpec, estSpec, erpSpec, newESpec, connF, Ty.T, Ty.dflt, KT.T, getM, putM, delM, inI64, maxRow]; done)
              | (symm; with_reducible assumption)
              | (dsimp only [connSpec, ewrSpec, eclSpec, erdSpec, etkSpec, ercSpec, estSpec, erpSpec, newESpec, connF, Ty.T, Ty.dflt, KT.T, getM, putM, delM, inI64, maxRow]; first | with_reducible rfl | with_reducible assumption | (symm; with_reducible assumption) | (simp only [natCast_eq]; with_reducible rfl) | omega)
              | omega
              | (dsimp only [connSpec, ewrSpec, eclSpec, erdSpec, etkSpec, ercSpec, estSpec, erpSpec, newESpec, connF, Ty.T, Ty.dflt, KT.T, getM, putM, delM, inI64, maxRow]; (try simp only [natCast_eq, List.nil_append]); first | with_reducible rfl | exact take_cg (by omega) | exact drop_cg (by omega) | exact take_drop_cg (by omega) (by omega) | exact take_all (by omega) | exact take_drop_all (by omega) (by omega) | exact drop_take_cg (by omega) (by omega) (by omega))
              | first | exact hy1.symm | (rw [hy2]; (try dsimp only [etkSpec]); simp only [e1]; done)
              | ((try dsimp only [connSpec, ewrSpec, eclSpec, erdSpec, etkSpec, ercSpec, estSpec, erpSpec, newESpec, connF, Ty.T, Ty.dflt, KT.T, getM, putM, delM, inI64, maxRow]); simp only [decide_eq_true_eq, decide_eq_false_iff_not, Bool.not_eq_true', Bool.not_eq_false', Bool.not_eq_true, Bool.not_eq_false, Bool.not_true, Bool.not_false, ne_eq, Bool.false_eq_true, Bool.true_eq_false, reduceCtorEq, beq_iff_eq, beq_eq_false_iff_ne, not_true_eq_false, not_false_eq_true, pair_eta, map_idL, natCast_eq, inI64, maxRow]; first | done | with_reducible assumption | omega)
              | exact map_pair_id _
              | ((try dsimp only [connSpec, ewrSpec, eclSpec, erdSpec, etkSpec, ercSpec, estSpec, erpSpec, newESpec, connF, Ty.T, Ty.dflt, KT.T, getM, putM, delM, inI64, maxRow]) <;> (try simp only [natCast_eq]) <;> omega)
              | ((try dsimp only [connSpec, ewrSpec, eclSpec, erdSpec, etkSpec, ercSpec, estSpec, erpSpec, newESpec, connF, Ty.T, Ty.dflt, KT.T, getM, putM, delM, inI64, maxRow] at *) <;> (try simp only [natCast_eq] at *) <;> omega)
              | ((try dsimp only [connSpec, ewrSpec, eclSpec, erdSpec, etkSpec, ercSpec, estSpec, erpSpec, newESpec, connF, Ty.T, Ty.dflt, KT.T, getM, putM, delM, inI64, maxRow] at *) <;> (try simp only [List.length_append, List.length_cons, List.length_nil, List.length_replicate, List.length_take, List.length_drop, natCast_eq] at *) <;> omega)
              | assumption
              | (symm; assumption)
              | (dsimp only; simp only [Bool.or_true, Bool.true_or, Bool.or_false, Bool.false_or, Bool.and_true, Bool.true_and, Bool.and_false, Bool.false_and, Bool.not_true, Bool.not_false, *]; done)
              | (simp; done)
              | (and_intros <;> first | trivial | with_reducible assumption | omega)
              | ((try dsimp only [connSpec, ewrSpec, eclSpec, erdSpec, etkSpec, ercSpec, estSpec, erpSpec, newESpec, connF, Ty.T, Ty.dflt, KT.T, getM, putM, delM, inI64, maxRow] at *) <;> simp [*] <;> done))
         | skip)
  · have e1 := etk_ask1 (n := 1 + o % 20) hw
    have hm := as_mod1 hlo hw0 hw hw1 hmd
    (try (conv in (LoopInv.inv _ _) => dsimp only)); (try (conv in (SS.mk _ _) => cbv; (try dsimp only [connSpec, ewrSpec, eclSpec, erdSpec, etkSpec, ercSpec, estSpec, erpSpec, newESpec, connF, Ty.T, Ty.dflt, KT.T]); (try simp only [natCast_eq])))
    (with_reducible refine (?_ : T1 _ ?_) ?_; rotate_left 1; (conv => lhs; cbv; (try cbv); (try cbv)); intro hT; clear hT; with_reducible refine Sh.mk (by kernel_rfl) ?_)
    repeat' (first
      | with_reducible refine Ck.mk (C := tt) tt_intro ?_
      | with_reducible refine Ck.mk (show drawOk _ _ = true by kernel_rfl) ?_
      | with_reducible refine Ck.all_cons ?_
      | with_reducible refine Ck.all_nil ?_
      | with_reducible refine Ck.mk (by assumption) ?_
      | with_reducible refine Ck.mk (decide_eq_true (by assumption)) ?_
      | with_reducible refine Ck.mk (decide_eq_false (by assumption)) ?_
      | with_reducible refine Ck.mk ?_ ?_
      | (with_reducible refine Both.mk (fun h => ?_) (fun h => ?_) <;> (have hk := h) <;> (try simp only [decide_eq_true_eq, decide_eq_false_iff_not, Bool.not_eq_true', Bool.not_eq_false', Bool.not_eq_true, Bool.not_eq_false, Bool.not_true, Bool.not_false, ne_eq, Bool.false_eq_true, Bool.true_eq_false, reduceCtorEq, beq_iff_eq, beq_eq_false_iff_ne, not_true_eq_false, not_false_eq_true, pair_eta, map_idL] at h) <;> (try dsimp only [connSpec, ewrSpec, eclSpec, erdSpec, etkSpec, ercSpec, estSpec, erpSpec, newESpec, connF, Ty.T, Ty.dflt, KT.T, getM, putM, delM] at h) <;> (try simp only [natCast_eq] at h) <;> (try simp only [e0, e1, hm, List.length_cons, List.length_nil] at h) <;> (try (exfalso; first | exact absurd rfl h | exact absurd h (by with_reducible decide))) <;> (try first | rw [if_pos h] at hr | rw [if_neg h] at hr | rw [ifF h] at hr | rw [ifN h] at hr) <;> (try (have hb : (_ : Bool) = _ := h; clear h; subst hb; (try first | rw [if_pos rfl] at hr | rw [if_neg Bool.false_ne_true] at hr))) <;> first | (exfalso; omega) | exact absurd (h.symm.trans (by assumption) : true = false) Bool.noConfusion | exact absurd (h.symm.trans (by assumption) : false = true) Bool.noConfusion | (with_reducible refine (?_ : T1 _ ?_) ?_; rotate_left 1; (conv => lhs; cbv; (try cbv); (try cbv)); intro hT; clear hT; with_reducible refine Sh.mk (by kernel_rfl) ?_))
      | (with_reducible refine Alt.mk (fun h => ?_) (fun h => ?_) <;> (have hk := h) <;> (try simp only [decide_eq_true_eq, decide_eq_false_iff_not, Bool.not_eq_true', Bool.not_eq_false', Bool.not_eq_true, Bool.not_eq_false, Bool.not_true, Bool.not_false, ne_eq, Bool.false_eq_true, Bool.true_eq_false, reduceCtorEq, beq_iff_eq, beq_eq_false_iff_ne, not_true_eq_false, not_false_eq_true, pair_eta, map_idL] at h) <;> (try dsimp only [connSpec, ewrSpec, eclSpec, erdSpec, etkSpec, ercSpec, estSpec, erpSpec, newESpec, connF, Ty.T, Ty.dflt, KT.T, getM, putM, delM] at h) <;> (try simp only [natCast_eq] at h) <;> (try simp only [e0, e1, hm, List.length_cons, List.length_nil] at h) <;> (try (exfalso; first | exact absurd rfl h | exact absurd h (by with_reducible decide))) <;> (try first | rw [if_pos h] at hr | rw [if_neg h] at hr | rw [ifF h] at hr | rw [ifN h] at hr) <;> (try (have hb : (_ : Bool) = _ := h; clear h; subst hb; (try first | rw [if_pos rfl] at hr | rw [if_neg Bool.false_ne_true] at hr))) <;> first | (exfalso; omega) | exact absurd (h.symm.trans (by assumption) : true = false) Bool.noConfusion | exact absurd (h.symm.trans (by assumption) : false = true) Bool.noConfusion | (with_reducible refine (?_ : T1 _ ?_) ?_; rotate_left 1; (conv => lhs; cbv; (try cbv); (try cbv)); intro hT; clear hT; with_reducible refine Sh.mk (by kernel_rfl) ?_))
      | (with_reducible refine Pick.mk (fun h => ?_) (fun l1 x l2 h => ?_) <;> (with_reducible refine (?_ : T1 _ ?_) ?_; rotate_left 1; (conv => lhs; cbv; (try cbv); (try cbv)); intro hT; clear hT; with_reducible refine Sh.mk (by kernel_rfl) ?_))
      | ((with_reducible refine End.mk ?_); (try ((repeat (first | rw [if_pos (by first | assumption | omega)] at hr | rw [if_neg (by first | assumption | omega | (simp only [Bool.false_eq_true, Bool.true_eq_false, reduceCtorEq, not_false_eq_true]; done) | (simp only [Bool.not_eq_true]; assumption) | (simp only [Bool.not_eq_false]; assumption))] at hr | rw [if_pos rfl] at hr)); subst hr)))
      | with_reducible exact True.intro)
    all_goals first
      | (fail_if_success (with_reducible refine Exists.intro ?_ ?_)
         first
           | with_reducible rfl
           | with_reducible assumption
           | (dsimp only [connSpec, ewrSpec, eclSpec, erdSpec, etkSpec, ercSpec, estSpec, erpSpec, newESpec, connF, Ty.T, Ty.dflt, KT.T, getM, putM, delM, inI64, maxRow]; done)
           | (symm; with_reducible assumption)
           | (dsimp only [connSpec, ewrSpec, eclSpec, erdSpec, etkSpec, ercSpec, estSpec, erpSpec, newESpec, connF, Ty.T, Ty.dflt, KT.T, getM, putM, delM, inI64, maxRow]; first | with_reducible rfl | with_reducible assumption | (symm; with_reducible assumption) | (simp only [natCast_eq]; with_reducible rfl) | omega)
           | omega
           | (dsimp only [connSpec, ewrSpec, eclSpec, erdSpec, etkSpec, ercSpec, estSpec, erpSpec, newESpec, connF, Ty.T, Ty.dflt, KT.T, getM, putM, delM, inI64, maxRow]; (try simp only [natCast_eq, List.nil_append]); first | with_reducible rfl | exact take_cg (by omega) | exact drop_cg (by omega) | exact take_drop_cg (by omega) (by omega) | exact take_all (by omega) | exact take_drop_all (by omega) (by omega) | exact drop_take_cg (by omega) (by omega) (by omega))
           | exact okA
           | ((try dsimp only [connSpec, ewrSpec, eclSpec, erdSpec, etkSpec, ercSpec, estSpec, erpSpec, newESpec, connF, Ty.T, Ty.dflt, KT.T, getM, putM, delM, inI64, maxRow]); simp only [decide_eq_true_eq, decide_eq_false_iff_not, Bool.not_eq_true', Bool.not_eq_false', Bool.not_eq_true, Bool.not_eq_false, Bool.not_true, Bool.not_false, ne_eq, Bool.false_eq_true, Bool.true_eq_false, reduceCtorEq, beq_iff_eq, beq_eq_false_iff_ne, not_true_eq_false, not_false_eq_true, pair_eta, map_idL, natCast_eq, inI64, maxRow]; first | done | with_reducible assumption | omega)
           | exact map_pair_id _
           | ((try dsimp only [connSpec, ewrSpec, eclSpec, erdSpec, etkSpec, ercSpec, estSpec, erpSpec, newESpec, connF, Ty.T, Ty.dflt, KT.T, getM, putM, delM, inI64, maxRow]) <;> (try simp only [natCast_eq]) <;> omega)
           | ((try dsimp only [connSpec, ewrSpec, eclSpec, erdSpec, etkSpec, ercSpec, estSpec, erpSpec, newESpec, connF, Ty.T, Ty.dflt, KT.T, getM, putM, delM, inI64, maxRow] at *) <;> (try simp only [natCast_eq] at *) <;> omega)
           | ((try dsimp only [connSpec, ewrSpec, eclSpec, erdSpec, etkSpec, ercSpec, estSpec, erpSpec, newESpec, connF, Ty.T, Ty.dflt, KT.T, getM, putM, delM, inI64, maxRow] at *) <;> (try simp only [List.length_append, List.length_cons, List.length_nil, List.length_replicate, List.length_take, List.length_drop, natCast_eq] at *) <;> omega)
           | assumption
           | (symm; assumption)
           | (dsimp only; simp only [Bool.or_true, Bool.true_or, Bool.or_false, Bool.false_or, Bool.and_true, Bool.true_and, Bool.and_false, Bool.false_and, Bool.not_true, Bool.not_false, *]; done)
           | (simp; done)
           | (and_intros <;> first | trivial | with_reducible assumption | omega)
           | ((try dsimp only [connSpec, ewrSpec, eclSpec, erdSpec, etkSpec, ercSpec, estSpec, erpSpec, newESpec, connF, Ty.T, Ty.dflt, KT.T, getM, putM, delM, inI64, maxRow] at *) <;> simp [*] <;> done))
      | skip
    all_goals
      (obtain ⟨y, hy1, hy2⟩ := as_next1 (n := 1 + o % 20) (t := t % 61) (i := i) (w := w) hlo (by assumption) hw0 hw hw1 hmd
       refine ⟨y, by dsimp only; (try simp only [natCast_eq]); omega, ?_⟩
       (try (conv in (LoopInv.inv _ _) => dsimp only)); (try (conv in (SS.mk _ _) => cbv; (try dsimp only [connSpec, ewrSpec, eclSpec, erdSpec, etkSpec, ercSpec, estSpec, erpSpec, newESpec, connF, Ty.T, Ty.dflt, KT.T]); (try simp only [natCast_eq])))
       (with_reducible refine (?_ : T1 _ ?_) ?_; rotate_left 1; (conv => lhs; cbv; (try cbv); (try cbv)); intro hT; clear hT; with_reducible refine Sh.mk (by kernel_rfl) ?_)
       repeat' (first
         | with_reducible refine Ck.mk (C := tt) tt_intro ?_
         | with_reducible refine Ck.mk (show drawOk _ _ = true by kernel_rfl) ?_
         | with_reducible refine Ck.all_cons ?_
         | with_reducible refine Ck.all_nil ?_
         | with_reducible refine Ck.mk (by assumption) ?_
         | with_reducible refine Ck.mk (decide_eq_true (by assumption)) ?_
         | with_reducible refine Ck.mk (decide_eq_false (by assumption)) ?_
         | with_reducible refine Ck.mk ?_ ?_
         | (with_reducible refine Both.mk (fun h => ?_) (fun h => ?_) <;> (have hk := h) <;> (try simp only [decide_eq_true_eq, decide_eq_false_iff_not, Bool.not_eq_true', Bool.not_eq_false', Bool.not_eq_true, Bool.not_eq_false, Bool.not_true, Bool.not_false, ne_eq, Bool.false_eq_true, Bool.true_eq_false, reduceCtorEq, beq_iff_eq, beq_eq_false_iff_ne, not_true_eq_false, not_false_eq_true, pair_eta, map_idL] at h) <;> (try dsimp only [connSpec, ewrSpec, eclSpec, erdSpec, etkSpec, ercSpec, estSpec, erpSpec, newESpec, connF, Ty.T, Ty.dflt, KT.T, getM, putM, delM] at h) <;> (try simp only [natCast_eq] at h) <;> (try simp only [e0, e1, hm, List.length_cons, List.length_nil] at h) <;> (try (exfalso; first | exact absurd rfl h | exact absurd h (by with_reducible decide))) <;> (try first | rw [if_pos h] at hr | rw [if_neg h] at hr | rw [ifF h] at hr | rw [ifN h] at hr) <;> (try (have hb : (_ : Bool) = _ := h; clear h; subst hb; (try first | rw [if_pos rfl] at hr | rw [if_neg Bool.false_ne_true] at hr))) <;> first | (exfalso; omega) | exact absurd (h.symm.trans (by assumption) : true = false) Bool.noConfusion | exact absurd (h.symm.trans (by assumption) : false = true) Bool.noConfusion | (with_reducible refine (?_ : T1 _ ?_) ?_; rotate_left 1; (conv => lhs; cbv; (try cbv); (try cbv)); intro hT; clear hT; with_reducible refine Sh.mk (by kernel_rfl) ?_))
         | (with_reducible refine Alt.mk (fun h => ?_) (fun h => ?_) <;> (have hk := h) <;> (try simp only [decide_eq_true_eq, decide_eq_false_iff_not, Bool.not_eq_true', Bool.not_eq_false', Bool.not_eq_true, Bool.not_eq_false, Bool.not_true, Bool.not_false, ne_eq, Bool.false_eq_true, Bool.true_eq_false, reduceCtorEq, beq_iff_eq, beq_eq_false_iff_ne, not_true_eq_false, not_false_eq_true, pair_eta, map_idL] at h) <;> (try dsimp only [connSpec, ewrSpec, eclSpec, erdSpec, etkSpec, ercSpec, estSpec, erpSpec, newESpec, connF, Ty.T, Ty.dflt, KT.T, getM, putM, delM] at h) <;> (try simp only [natCast_eq] at h) <;> (try simp only [e0, e1, hm, List.length_cons, List.length_nil] at h) <;> (try (exfalso; first | exact absurd rfl h | exact absurd h (by with_reducible decide))) <;> (try first | rw [if_pos h] at hr | rw [if_neg h] at hr | rw [ifF h] at hr | rw [ifN h] at hr) <;> (try (have hb : (_ : Bool) = _ := h; clear h; subst hb; (try first | rw [if_pos rfl] at hr | rw [if_neg Bool.false_ne_true] at hr))) <;> first | (exfalso; omega) | exact absurd (h.symm.trans (by assumption) : true = false) Bool.noConfusion | exact absurd (h.symm.trans (by assumption) : false = true) Bool.noConfusion | (with_reducible refine (?_ : T1 _ ?_) ?_; rotate_left 1; (conv => lhs; cbv; (try cbv); (try cbv)); intro hT; clear hT; with_reducible refine Sh.mk (by kernel_rfl) ?_))
         | (with_reducible refine Pick.mk (fun h => ?_) (fun l1 x l2 h => ?_) <;> (with_reducible refine (?_ : T1 _ ?_) ?_; rotate_left 1; (conv => lhs; cbv; (try cbv); (try cbv)); intro hT; clear hT; with_reducible refine Sh.mk (by kernel_rfl) ?_))
         | ((with_reducible refine End.mk ?_); skip)
         | with_reducible exact True.intro)
       all_goals first
         | (fail_if_success (with_reducible refine Exists.intro ?_ ?_)
            first
              | with_reducible rfl
              | with_reducible assumption
              | (dsimp only [connSpec, ewrSpec, eclSpec, erdSpec, etkSpec, ercSpec, estSpec, erpSpec, newESpec, connF, Ty.T, Ty.dflt, KT.T, getM, putM, delM, inI64, maxRow]; done)
              | (symm; with_reducible assumption)
              | (dsimp only [connSpec, ewrSpec, eclSpec, erdSpec, etkSpec, ercSpec, estSpec, erpSpec, newESpec, connF, Ty.T, Ty.dflt, KT.T, getM, putM, delM, inI64, maxRow]; first | with_reducible rfl | with_reducible assumption | (symm; with_reducible assumption) | (simp only [natCast_eq]; with_reducible rfl) | omega)
              | omega
              | (dsimp only [connSpec, ewrSpec, eclSpec, erdSpec, etkSpec, ercSpec, estSpec, erpSpec, newESpec, connF, Ty.T, Ty.dflt, KT.T, getM, putM, delM, inI64, maxRow]; (try simp only [natCast_eq, List.nil_append]); first | with_reducible rfl | exact take_cg (by omega) | exact drop_cg (by omega) | exact take_drop_cg (by omega) (by omega) | exact take_all (by omega) | exact take_drop_all (by omega) (by omega) | exact drop_take_cg (by omega) (by omega) (by omega))
              | first | exact hy1.symm | (rw [hy2]; (try dsimp only [etkSpec]); simp only [e1]; done)
              | ((try dsimp only [connSpec, ewrSpec, eclSpec, erdSpec, etkSpec, ercSpec, estSpec, erpSpec, newESpec, connF, Ty.T, Ty.dflt, KT.T, getM, putM, delM, inI64, maxRow]); simp only [decide_eq_true_eq, decide_eq_false_iff_not, Bool.not_eq_true', Bool.not_eq_false', Bool.not_eq_true, Bool.not_eq_false, Bool.not_true, Bool.not_false, ne_eq, Bool.false_eq_true, Bool.true_eq_false, reduceCtorEq, beq_iff_eq, beq_eq_false_iff_ne, not_true_eq_false, not_false_eq_true, pair_eta, map_idL, natCast_eq, inI64, maxRow]; first | done | with_reducible assumption | omega)
              | exact map_pair_id _
              | ((try dsimp only [connSpec, ewrSpec, eclSpec, erdSpec, etkSpec, ercSpec, estSpec, erpSpec, newESpec, connF, Ty.T, Ty.dflt, KT.T, getM, putM, delM, inI64, maxRow]) <;> (try simp only [natCast_eq]) <;> omega)
              | ((try dsimp only [connSpec, ewrSpec, eclSpec, erdSpec, etkSpec, ercSpec, estSpec, erpSpec, newESpec, connF, Ty.T, Ty.dflt, KT.T, getM, putM, delM, inI64, maxRow] at *) <;> (try simp only [natCast_eq] at *) <;> omega)
              | ((try dsimp only [connSpec, ewrSpec, eclSpec, erdSpec, etkSpec, ercSpec, estSpec, erpSpec, newESpec, connF, Ty.T, Ty.dflt, KT.T, getM, putM, delM, inI64, maxRow] at *) <;> (try simp only [List.length_append, List.length_cons, List.length_nil, List.length_replicate, List.length_take, List.length_drop, natCast_eq] at *) <;> omega)
              | assumption
              | (symm; assumption)
              | (dsimp only; simp only [Bool.or_true, Bool.true_or, Bool.or_false, Bool.false_or, Bool.and_true, Bool.true_and, Bool.and_false, Bool.false_and, Bool.not_true, Bool.not_false, *]; done)
              | (simp; done)
              | (and_intros <;> first | trivial | with_reducible assumption | omega)
              | ((try dsimp only [connSpec, ewrSpec, eclSpec, erdSpec, etkSpec, ercSpec, estSpec, erpSpec, newESpec, connF, Ty.T, Ty.dflt, KT.T, getM, putM, delM, inI64, maxRow] at *) <;> simp [*] <;> done))
         | skip)
theorem ask_sound : ConSound Try.prog AI 8 askSpec.con := PureSpec.sound Try.call8 (fun x h => ask_ok x.1 x.2.1 h)
end Go.Proofs.Ytldabjgegpmmiaa
