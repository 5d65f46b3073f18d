/-
  Layer 40: NamesLeases, the walk.
-/
import Derived.Test.YtehdhnkkkocffaaSeq
import Derived.Test.YtehdhnkkkocffaaEng3
namespace Go.Proofs.Ytehdhnkkkocffaa
set_option linter.all false
set_option linter.unusedVariables false
set_option linter.unusedSimpArgs false
set_option linter.unusedSectionVars false
open Go.RowKit Go.Sx
set_option maxRecDepth 100000
set_option maxHeartbeats 16000000
noncomputable abbrev Ev0 : Env Ab := ⟨tis, [(25, seqSpec.conA), (23, namesSpec.con), (17, lookSpec.con)] ++ Eo.con⟩
theorem ev0Ok : EnvOk Try.prog AI Ev0 := (((eoOk.add look_sound).add names_sound).add seq_sound)
theorem lv_inl : ConSound Try.prog AI 24 (inl Ev0 Try.f24 2) := inl_sound ev0Ok mixed (fn := Try.f24) (c := bodyOf Try.f24) Try.call24 (by kernel_rfl) (by kernel_rfl) (by kernel_rfl) 2
noncomputable abbrev Ev : Env Ab := ⟨tis, [(19, renewSpec.con), (15, bindSpec.con), (13, newDSpec.con), (12, awakeSpec.con), (24, inl Ev0 Try.f24 2)] ++ E0.con⟩
theorem evOk : EnvOk Try.prog AI Ev := (((((e0Ok.add lv_inl).add awake_sound).add newD_sound).add bind_sound).add renew_sound)
/-- The directory with one name. -/
abbrev D1 (n e : Int) : DirL := [([97], (1, 1, 1), true, n, e)]
theorem litA : List.map (fun x : UInt8 => (x.toNat : Int)) [97] = [97] := rfl
theorem vldA : vldF [97] = true := by decide +kernel
theorem okD1 {n e : Int} (hn : 1 ≤ n ∧ n ≤ 1048576) (he : 0 ≤ e ∧ e ≤ 4194304) : OkD (D1 n e) := by
  refine ⟨by simp, fun p hp => ?_, by show (1 : Nat) ≤ 1048576; decide⟩
  rw [List.mem_singleton.1 hp]
  refine ⟨fun x hx => ?_, ⟨by show (0 : Int) ≤ 1 ∧ (1 : Int) ≤ _; decide, ?_, ?_⟩⟩
  · rw [List.mem_singleton.1 hx]; decide
  · show 0 ≤ n ∧ n ≤ _; omega
  · show 0 ≤ e ∧ e ≤ _; omega
theorem bind1 {t n : Int} (ht : 0 ≤ t ∧ t < 1048576) (hn : 1 ≤ n ∧ n ≤ 1048576) : bindF [] [97] 1 1 t n = (((1, 1, 1), 0, ()), D1 n (t + n)) := by
  unfold bindF
  rw [if_pos vldA, if_pos (by omega)]
  rfl
theorem look1 {n e k : Int} (h0 : 0 ≤ k) (h1 : k ≤ 1073741824) : lookF (D1 n e) [97] k = if k < e then ((1, 1, 1), 0, ()) else ((0, 0, 0), 7, ()) := by
  unfold lookF
  rw [if_pos vldA, if_pos ⟨h0, h1⟩]
  rfl
theorem names1 {n e k : Int} (h0 : 0 ≤ k) (h1 : k ≤ 1073741824) : namesF (D1 n e) k = if k < e then ([[97]], ()) else ([], ()) := by
  unfold namesF
  rw [if_pos ⟨h0, h1⟩]
  have e1 : liveK k (D1 n e) = if k < e then [[97]] else [] := by
    unfold liveK
    by_cases c : k < e
    · rw [if_pos c]; simp [liveB, c]
    · rw [if_neg c]; simp [liveB, c]
  rw [e1]
  by_cases c : k < e
  · rw [if_pos c, if_pos c]
    exact congrArg (fun z => (z, ())) (List.perm_singleton.1 (sortS_perm [[97]]))
  · rw [if_neg c, if_neg c, sortS_nil]
theorem renew1 {n e v k : Int} (h0 : 0 ≤ k) (h1 : k ≤ 1073741824) : renewF (D1 n e) [97] v k = if k < e then (if 1 = v then ((0, ()), D1 n (max e (k + n))) else ((17, ()), D1 n e)) else ((7, ()), D1 n e) := by
  unfold renewF
  rw [if_pos vldA, if_pos ⟨h0, h1⟩]
  rfl
theorem liv1 {n e k : Int} (h0 : 0 ≤ k) (h1 : k ≤ 1073741824) (h : k < e) : lookF (D1 n e) [97] k = ((1, 1, 1), 0, ()) ∧ namesF (D1 n e) k = ([[97]], ()) := by
  rw [look1 h0 h1, names1 h0 h1, if_pos h, if_pos h]; exact ⟨rfl, rfl⟩
theorem ded1 {n e k : Int} (h0 : 0 ≤ k) (h1 : k ≤ 1073741824) (h : ¬ k < e) : lookF (D1 n e) [97] k = ((0, 0, 0), 7, ()) ∧ namesF (D1 n e) k = ([], ()) := by
  rw [look1 h0 h1, names1 h0 h1, if_neg h, if_neg h]; exact ⟨rfl, rfl⟩
theorem ren_no {n e k : Int} (h0 : 0 ≤ k) (h1 : k ≤ 1073741824) (h : e ≤ k) : renewF (D1 n e) [97] 1 k = ((7, ()), D1 n e) := by rw [renew1 h0 h1, if_neg (by omega)]
theorem ren_yes {n e k : Int} (h0 : 0 ≤ k) (h1 : k ≤ 1073741824) (h : ¬ e ≤ k) : renewF (D1 n e) [97] 1 k = ((0, ()), D1 n (max e (k + n))) := by rw [renew1 h0 h1, if_pos (by omega), if_pos rfl]
theorem ren_two {n e k : Int} (h0 : 0 ≤ k) (h1 : k ≤ 1073741824) (h : k < e) : renewF (D1 n e) [97] 2 k = ((17, ()), D1 n e) := by rw [renew1 h0 h1, if_pos h, if_neg (by decide)]
theorem names_byt {D : DirL} (h : OkD D) (t : Int) : ((namesF D t).1.length ≤ 1048577 ∧ ∀ y ∈ (namesF D t).1, inBytes y) := by
  unfold namesF
  split
  · refine ⟨?_, fun y hy => ?_⟩
    · show (sortS (liveK t D)).length ≤ _
      rw [sortS_len]
      have h1 : (liveK t D).length ≤ D.length := by unfold liveK; rw [List.length_map]; exact List.length_filter_le _ _
      have := h.len; omega
    · have hy : y ∈ sortS (liveK t D) := hy
      have hy := (sortS_perm _).subset hy
      obtain ⟨p, hp1, rfl⟩ := List.mem_map.1 hy
      exact (h.el p (List.mem_filter.1 hp1).1).1
  · exact ⟨Nat.zero_le _, fun y hy => by cases hy⟩
theorem okD0 : OkD [] := ⟨List.nodup_nil, fun p hp => (by cases hp), Nat.zero_le _⟩
theorem byA : inBytes [97] := fun x hx => by rw [List.mem_singleton.1 hx]; decide
theorem byL : ∀ y ∈ [[97]], inBytes y := fun y hy => by rw [List.mem_singleton.1 hy]; exact byA
theorem okRn {t n k : Int} (ht : 0 ≤ t ∧ t < 1048576) (hn : 1 ≤ n ∧ n ≤ 1048576) (hk : 0 ≤ k ∧ k < t + n + 5) : OkD (renewF (bindF [] [97] 1 1 t n).2 [97] (bindF [] [97] 1 1 t n).1.1.2.2 k).2 := by
  rw [bind1 ht hn]
  show OkD (renewF (D1 n (t + n)) [97] 1 k).2
  by_cases c : t + n ≤ k
  · rw [ren_no hk.1 (by omega) c]; exact okD1 hn (by omega)
  · rw [ren_yes hk.1 (by omega) c]; exact okD1 hn (by omega)
theorem lastL {t n k e e2 : Int} (eB : bindF [] [97] 1 1 t n = (((1, 1, 1), 0, ()), D1 n e)) (R : renewF (D1 n e) [97] 1 k = ((0, ()), D1 n e2)) (m3 : renewF (D1 n e2) [97] 2 k = ((17, ()), D1 n e2)) :
    decide ((renewF (renewF (bindF [] [97] 1 1 t n).2 [97] (bindF [] [97] 1 1 t n).1.1.2.2 k).2 [97] ((bindF [] [97] 1 1 t n).1.1.2.2 + 1) k).1.1 = (17 : Int)) = ((true, ()) : Tup [DT.cell .bool]).1 := by
  rw [eB]
  show decide ((renewF (renewF (D1 n e) [97] 1 k).2 [97] 2 k).1.1 = (17 : Int)) = true
  rw [R]
  show decide ((renewF (D1 n e2) [97] 2 k).1.1 = (17 : Int)) = true
  rw [m3]; rfl
theorem lt_u32 {n : Int} (h : (Ty.int .u32).ok n) : 0 ≤ n ∧ n < 4294967296 := by
  obtain ⟨a, b⟩ := h
  have e1 : IntKind.u32.min = 0 := by decide
  have e2 : IntKind.u32.max = 4294967295 := by decide
  have a2 : 0 ≤ n := e1 ▸ a
  have b2 : n ≤ 4294967295 := e2 ▸ b
  exact ⟨a2, by omega⟩
def leaF (_ _ _ : Int) : Tup [DT.cell .bool] := (true, ())
def leaSpec : PureSpec := ⟨[.cell (.int .u32), .cell (.int .u32), .cell (.int .u32)], fun (x : Int × Int × Int × Unit) => (0 ≤ x.1 ∧ x.1 < 4294967296) ∧ (0 ≤ x.2.1 ∧ x.2.1 < 4294967296) ∧ (0 ≤ x.2.2.1 ∧ x.2.2.1 < 4294967296), [.cell .bool], fun (x : Int × Int × Int × Unit) => leaF x.1 x.2.1 x.2.2.1⟩
theorem lea_ok (st : Int) (lg : Int) (ag : Int) (h : leaSpec.pre (st, lg, ag, ())) : TmplOk Try.prog AI 8 (argS leaSpec.ds (fun _ => (st, lg, ag, ()))) [] (resOf (svs leaSpec.rs (fun _ => leaSpec.f (st, lg, ag, ())))) [] := by
  dsimp only [leaSpec] at h ⊢
  generalize hr : leaF st lg ag = r
  obtain ⟨hst, hlg, hag⟩ := h
  have ht : 0 ≤ st % 1048576 ∧ st % 1048576 < 1048576 := by omega
  have hn : 1 ≤ 1 + lg % 1048576 ∧ 1 + lg % 1048576 ≤ 1048576 := by omega
  have eB := bind1 ht hn
  have l0 := liv1 (n := 1 + lg % 1048576) (e := st % 1048576 + (1 + lg % 1048576)) (k := st % 1048576) (by omega) (by omega) (by omega)
  have l1 := liv1 (n := 1 + lg % 1048576) (e := st % 1048576 + (1 + lg % 1048576)) (k := st % 1048576 + (1 + lg % 1048576) - 1) (by omega) (by omega) (by omega)
  have l2 := ded1 (n := 1 + lg % 1048576) (e := st % 1048576 + (1 + lg % 1048576)) (k := st % 1048576 + (1 + lg % 1048576)) (by omega) (by omega) (by omega)
  have l3 := ded1 (n := 1 + lg % 1048576) (e := st % 1048576 + (1 + lg % 1048576)) (k := st % 1048576 + (1 + lg % 1048576) + 5) (by omega) (by omega) (by omega)
  have l4 := liv1 (n := 1 + lg % 1048576) (e := st % 1048576 + (1 + lg % 1048576)) (k := 0) (by omega) (by omega) (by omega)
  have hK0 : 0 ≤ ag % (st % 1048576 + (1 + lg % 1048576) + 5) ∧ ag % (st % 1048576 + (1 + lg % 1048576) + 5) < st % 1048576 + (1 + lg % 1048576) + 5 := ⟨Int.emod_nonneg _ (by omega), Int.emod_lt_of_pos _ (by omega)⟩
  have hK : 0 ≤ ag % (st % 1048576 + (1 + lg % 1048576) + 5) ∧ ag % (st % 1048576 + (1 + lg % 1048576) + 5) ≤ 1073741824 := ⟨hK0.1, by omega⟩
  have okE := okD1 (e := st % 1048576 + (1 + lg % 1048576)) hn (by omega)
  have okM := okD1 (e := max (st % 1048576 + (1 + lg % 1048576)) (ag % (st % 1048576 + (1 + lg % 1048576) + 5) + (1 + lg % 1048576))) hn (by omega)
  have okB : OkD (bindF [] [97] 1 1 (st % 1048576) (1 + lg % 1048576)).2 := by rw [eB]; exact okE
  have okR2 := okRn ht hn hK0
  have mxL : ¬ st % 1048576 + (1 + lg % 1048576) ≤ ag % (st % 1048576 + (1 + lg % 1048576) + 5) → _ := fun c => liv1 (n := (1 + lg % 1048576)) (e := max (st % 1048576 + (1 + lg % 1048576)) (ag % (st % 1048576 + (1 + lg % 1048576) + 5) + (1 + lg % 1048576))) (k := max (st % 1048576 + (1 + lg % 1048576)) (ag % (st % 1048576 + (1 + lg % 1048576) + 5) + (1 + lg % 1048576)) - 1) (by omega) (by omega) (by omega)
  have mxD : ¬ st % 1048576 + (1 + lg % 1048576) ≤ ag % (st % 1048576 + (1 + lg % 1048576) + 5) → _ := fun c => ded1 (n := (1 + lg % 1048576)) (e := max (st % 1048576 + (1 + lg % 1048576)) (ag % (st % 1048576 + (1 + lg % 1048576) + 5) + (1 + lg % 1048576))) (k := max (st % 1048576 + (1 + lg % 1048576)) (ag % (st % 1048576 + (1 + lg % 1048576) + 5) + (1 + lg % 1048576))) (by omega) (by omega) (by omega)
  have mxR : ¬ st % 1048576 + (1 + lg % 1048576) ≤ ag % (st % 1048576 + (1 + lg % 1048576) + 5) → _ := fun c => ren_two (n := (1 + lg % 1048576)) (e := max (st % 1048576 + (1 + lg % 1048576)) (ag % (st % 1048576 + (1 + lg % 1048576) + 5) + (1 + lg % 1048576))) hK.1 hK.2 (by omega)
  dsimp only [leaF] at hr
  refine tmpl_of_body evOk mixed (fn := Try.f8) (c := bodyOf Try.f8) (by kernel_rfl) (by kernel_rfl) (by kernel_rfl) (Nat.le_of_ble_eq_true (by kernel_rfl)) ?_
  (try (conv in (LoopInv.inv _ _) => dsimp only)); (try (conv in (SS.mk _ _) => cbv; (try dsimp only [bindSpec, lookSpec, namesSpec, renewSpec, seqSpec, seqF, Ty.T, Ty.dflt, KT.T]); (try simp only [natCast_eq])))
  (with_reducible refine (?_ : T1 _ ?_) ?_; rotate_left 1; (conv => lhs; cbv; (try cbv); (try cbv)); intro hT; clear hT; with_reducible refine Sh.mk (by kernel_rfl) ?_)
  repeat' (first
    | with_reducible refine Ck.mk (C := tt) tt_intro ?_
    | with_reducible refine Ck.mk (show drawOk _ _ = true by kernel_rfl) ?_
    | with_reducible refine Ck.all_cons ?_
    | with_reducible refine Ck.all_nil ?_
    | with_reducible refine Ck.mk (by assumption) ?_
    | with_reducible refine Ck.mk (decide_eq_true (by assumption)) ?_
    | with_reducible refine Ck.mk (decide_eq_false (by assumption)) ?_
    | with_reducible refine Ck.mk ?_ ?_
    | (with_reducible refine Both.mk (fun h => ?_) (fun h => ?_) <;> (have hk := h) <;> (try simp only [decide_eq_true_eq, decide_eq_false_iff_not, Bool.not_eq_true', Bool.not_eq_false', Bool.not_eq_true, Bool.not_eq_false, Bool.not_true, Bool.not_false, ne_eq, Bool.false_eq_true, Bool.true_eq_false, reduceCtorEq, beq_iff_eq, beq_eq_false_iff_ne, not_true_eq_false, not_false_eq_true, pair_eta, map_idL] at h) <;> (try dsimp only [bindSpec, lookSpec, namesSpec, renewSpec, seqSpec, seqF, Ty.T, Ty.dflt, KT.T, getM, putM, delM] at h) <;> (try simp only [natCast_eq] at h) <;> (try simp only [litA] at h) <;> (try (have R := ren_no (n := 1 + lg % 1048576) hK.1 hK.2 h)) <;> (try (have R := ren_yes (n := 1 + lg % 1048576) hK.1 hK.2 h; have m1 := mxL h; have m2 := mxD h; have m3 := mxR h)) <;> (try simp only [eB, l0.1, l0.2, l1.1, l1.2, l2.1, l2.2, l3.1, l3.2, l4.1, l4.2, eq_self, not_true_eq_false, not_false_eq_true, decide_true, decide_false, Bool.and_true, Bool.and_self, Bool.true_eq_false, Bool.false_eq_true] at h) <;> (try simp only [eB, l0.1, l0.2, l1.1, l1.2, l2.1, l2.2, l3.1, l3.2, l4.1, l4.2, R, m1.1, m1.2, m2.1, m2.2, m3, eq_self, not_true_eq_false, not_false_eq_true, decide_true, decide_false, Bool.and_true, Bool.and_self, Bool.true_eq_false, Bool.false_eq_true] at h) <;> (try simp only [eB, l0.1, l0.2, l1.1, l1.2, l2.1, l2.2, l3.1, l3.2, l4.1, l4.2, R, eq_self, not_true_eq_false, not_false_eq_true, decide_true, decide_false, Bool.and_true, Bool.and_self, Bool.true_eq_false, Bool.false_eq_true] at h) <;> (try (exfalso; revert h; decide)) <;> (try first | rw [if_pos h] at hr | rw [if_neg h] at hr | rw [ifF h] at hr | rw [ifN h] at hr) <;> (try (have hb : (_ : Bool) = _ := h; clear h; subst hb; (try first | rw [if_pos rfl] at hr | rw [if_neg Bool.false_ne_true] at hr))) <;> first | (exfalso; omega) | exact absurd (h.symm.trans (by assumption) : true = false) Bool.noConfusion | exact absurd (h.symm.trans (by assumption) : false = true) Bool.noConfusion | (with_reducible refine (?_ : T1 _ ?_) ?_; rotate_left 1; (conv => lhs; cbv; (try cbv); (try cbv)); intro hT; clear hT; with_reducible refine Sh.mk (by kernel_rfl) ?_))
    | (with_reducible refine Alt.mk (fun h => ?_) (fun h => ?_) <;> (have hk := h) <;> (try simp only [decide_eq_true_eq, decide_eq_false_iff_not, Bool.not_eq_true', Bool.not_eq_false', Bool.not_eq_true, Bool.not_eq_false, Bool.not_true, Bool.not_false, ne_eq, Bool.false_eq_true, Bool.true_eq_false, reduceCtorEq, beq_iff_eq, beq_eq_false_iff_ne, not_true_eq_false, not_false_eq_true, pair_eta, map_idL] at h) <;> (try dsimp only [bindSpec, lookSpec, namesSpec, renewSpec, seqSpec, seqF, Ty.T, Ty.dflt, KT.T, getM, putM, delM] at h) <;> (try simp only [natCast_eq] at h) <;> (try simp only [litA] at h) <;> (try (have R := ren_no (n := 1 + lg % 1048576) hK.1 hK.2 h)) <;> (try (have R := ren_yes (n := 1 + lg % 1048576) hK.1 hK.2 h; have m1 := mxL h; have m2 := mxD h; have m3 := mxR h)) <;> (try simp only [eB, l0.1, l0.2, l1.1, l1.2, l2.1, l2.2, l3.1, l3.2, l4.1, l4.2, eq_self, not_true_eq_false, not_false_eq_true, decide_true, decide_false, Bool.and_true, Bool.and_self, Bool.true_eq_false, Bool.false_eq_true] at h) <;> (try simp only [eB, l0.1, l0.2, l1.1, l1.2, l2.1, l2.2, l3.1, l3.2, l4.1, l4.2, R, m1.1, m1.2, m2.1, m2.2, m3, eq_self, not_true_eq_false, not_false_eq_true, decide_true, decide_false, Bool.and_true, Bool.and_self, Bool.true_eq_false, Bool.false_eq_true] at h) <;> (try simp only [eB, l0.1, l0.2, l1.1, l1.2, l2.1, l2.2, l3.1, l3.2, l4.1, l4.2, R, eq_self, not_true_eq_false, not_false_eq_true, decide_true, decide_false, Bool.and_true, Bool.and_self, Bool.true_eq_false, Bool.false_eq_true] at h) <;> (try (exfalso; revert h; decide)) <;> (try first | rw [if_pos h] at hr | rw [if_neg h] at hr | rw [ifF h] at hr | rw [ifN h] at hr) <;> (try (have hb : (_ : Bool) = _ := h; clear h; subst hb; (try first | rw [if_pos rfl] at hr | rw [if_neg Bool.false_ne_true] at hr))) <;> first | (exfalso; omega) | exact absurd (h.symm.trans (by assumption) : true = false) Bool.noConfusion | exact absurd (h.symm.trans (by assumption) : false = true) Bool.noConfusion | (with_reducible refine (?_ : T1 _ ?_) ?_; rotate_left 1; (conv => lhs; cbv; (try cbv); (try cbv)); intro hT; clear hT; with_reducible refine Sh.mk (by kernel_rfl) ?_))
    | (with_reducible refine Pick.mk (fun h => ?_) (fun l1 x l2 h => ?_) <;> (with_reducible refine (?_ : T1 _ ?_) ?_; rotate_left 1; (conv => lhs; cbv; (try cbv); (try cbv)); intro hT; clear hT; with_reducible refine Sh.mk (by kernel_rfl) ?_))
    | ((with_reducible refine End.mk ?_); (try ((repeat (first | rw [if_pos (by first | assumption | omega)] at hr | rw [if_neg (by first | assumption | omega | (simp only [Bool.false_eq_true, Bool.true_eq_false, reduceCtorEq, not_false_eq_true]; done) | (simp only [Bool.not_eq_true]; assumption) | (simp only [Bool.not_eq_false]; assumption))] at hr | rw [if_pos rfl] at hr)); subst hr)))
    | with_reducible exact True.intro)
  all_goals first
    | (fail_if_success (with_reducible refine Exists.intro ?_ ?_)
       first
         | with_reducible rfl
         | with_reducible assumption
         | (dsimp only [bindSpec, lookSpec, namesSpec, renewSpec, seqSpec, seqF, Ty.T, Ty.dflt, KT.T, getM, putM, delM, inI64, maxRow]; done)
         | (symm; with_reducible assumption)
         | (dsimp only [bindSpec, lookSpec, namesSpec, renewSpec, seqSpec, seqF, Ty.T, Ty.dflt, KT.T, getM, putM, delM, inI64, maxRow]; first | with_reducible rfl | with_reducible assumption | (symm; with_reducible assumption) | (simp only [natCast_eq]; with_reducible rfl) | omega)
         | omega
         | (dsimp only [bindSpec, lookSpec, namesSpec, renewSpec, seqSpec, seqF, Ty.T, Ty.dflt, KT.T, getM, putM, delM, inI64, maxRow]; (try simp only [natCast_eq, List.nil_append]); first | with_reducible rfl | exact take_cg (by omega) | exact drop_cg (by omega) | exact take_drop_cg (by omega) (by omega) | exact take_all (by omega) | exact take_drop_all (by omega) (by omega) | exact drop_take_cg (by omega) (by omega) (by omega))
         | first | exact lastL eB R m3 | exact ⟨okD0, byA⟩ | exact ⟨okB, byA⟩ | exact okB | exact ⟨names_byt okB _, byL⟩ | exact ⟨okR2, byA⟩ | exact okR2 | exact ⟨names_byt okR2 _, byL⟩ | (exfalso; omega)
         | ((try dsimp only [bindSpec, lookSpec, namesSpec, renewSpec, seqSpec, seqF, Ty.T, Ty.dflt, KT.T, getM, putM, delM, inI64, maxRow]); simp only [decide_eq_true_eq, decide_eq_false_iff_not, Bool.not_eq_true', Bool.not_eq_false', Bool.not_eq_true, Bool.not_eq_false, Bool.not_true, Bool.not_false, ne_eq, Bool.false_eq_true, Bool.true_eq_false, reduceCtorEq, beq_iff_eq, beq_eq_false_iff_ne, not_true_eq_false, not_false_eq_true, pair_eta, map_idL, natCast_eq, inI64, maxRow]; first | done | with_reducible assumption | omega)
         | exact map_pair_id _
         | ((try dsimp only [bindSpec, lookSpec, namesSpec, renewSpec, seqSpec, seqF, Ty.T, Ty.dflt, KT.T, getM, putM, delM, inI64, maxRow]) <;> (try simp only [natCast_eq]) <;> omega)
         | ((try dsimp only [bindSpec, lookSpec, namesSpec, renewSpec, seqSpec, seqF, Ty.T, Ty.dflt, KT.T, getM, putM, delM, inI64, maxRow] at *) <;> (try simp only [natCast_eq] at *) <;> omega)
         | ((try dsimp only [bindSpec, lookSpec, namesSpec, renewSpec, seqSpec, seqF, Ty.T, Ty.dflt, KT.T, getM, putM, delM, inI64, maxRow] at *) <;> (try simp only [List.length_append, List.length_cons, List.length_nil, List.length_replicate, List.length_take, List.length_drop, natCast_eq] at *) <;> omega)
         | assumption
         | (symm; assumption)
         | (dsimp only; simp only [Bool.or_true, Bool.true_or, Bool.or_false, Bool.false_or, Bool.and_true, Bool.true_and, Bool.and_false, Bool.false_and, Bool.not_true, Bool.not_false, *]; done)
         | (simp; done)
         | (and_intros <;> first | trivial | with_reducible assumption | omega)
         | ((try dsimp only [bindSpec, lookSpec, namesSpec, renewSpec, seqSpec, seqF, Ty.T, Ty.dflt, KT.T, getM, putM, delM, inI64, maxRow] at *) <;> simp [*] <;> done))
    | skip
theorem lea_sound : ConSound Try.prog AI 8 leaSpec.con := PureSpec.sound Try.call8 (fun x h => lea_ok x.1 x.2.1 x.2.2.1 h)
end Go.Proofs.Ytehdhnkkkocffaa
