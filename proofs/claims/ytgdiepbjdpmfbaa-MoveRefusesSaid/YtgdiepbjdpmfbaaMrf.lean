/-
  Layer 48: MoveRefuses, the walk.
-/
import Derived.Test.YtgdiepbjdpmfbaaDo
import Derived.Test.YtgdiepbjdpmfbaaEqf
namespace Go.Proofs.Ytgdiepbjdpmfbaa
set_option linter.all false
set_option linter.unusedVariables false
set_option linter.unusedSimpArgs false
set_option linter.unusedSectionVars false
open Go.RowKit Go.Sx
set_option maxRecDepth 100000
set_option maxHeartbeats 16000000
noncomputable abbrev Eu : Env Ab := ⟨tis, [(25, eqfSpec.conF 26), (24, mdoSpec.con), (22, maccSpec.con), (21, mphaseSpec.con), (17, mhandSpec.con), (16, mstartSpec.con), (15, mreadSpec.con), (13, mrcvSpec.con), (12, newMovSpec.con), (11, awakeSpec.con), (18, inl E0 Try.f18 0)] ++ E0.con⟩
theorem euOk : EnvOk Try.prog AI Eu := (((((((((((e0Ok.add beq_inl).add awake_sound).add newMov_sound).add mrcv_sound).add mread_sound).add mstart_sound).add mhand_sound).add mphase_sound).add macc_sound).add mdo_sound).add eqf_sound)
abbrev elA (L : List TA) (i : Int) : TA := L.getD i.toNat (0, 0, 0, 0, [], false)
structure LRx (n : Nat) where
  i : Int
  M : Mov
  lo : 0 ≤ i
  hi : i ≤ n
  sz : SzM M 20 (20 * i)
theorem el_byt {L : List TA} (hL : ∀ a ∈ L, actE.ok a) {i : Int} (h0 : 0 ≤ i) (h : i < (L.length : Int)) : inBytes (elA L i).2.2.2.2.1 := by
  have hlt : i.toNat < L.length := by omega
  have hm := hL (elA L i) (by rw [elA, List.getD_eq_getElem?_getD, List.getElem?_eq_getElem hlt]; exact List.getElem_mem hlt)
  exact hm.2.2.2.2.1.2
theorem el_len {n : Nat} (h : ¬ 60 < (n : Int)) : n ≤ 1048576 := by omega
theorem rf_a {e p : Int} (h : e = if p = 0 ∨ p = 1 then 6 else 2) (h1 : ¬ e = 6) (h2 : ¬ e = 2) : False := by
  split at h <;> omega
theorem rf_b {e p : Int} (h : e = if p = 0 ∨ p = 1 then 6 else 2) (h0 : ¬ p = 0) : decide (e = 2) = !decide (p = 1) := by
  by_cases c : p = 1
  · rw [if_pos (.inr c)] at h; subst h; subst c; rfl
  · rw [if_neg (by omega)] at h; subst h; rw [decide_eq_false c]; rfl
theorem rf_c {e p : Int} (h : e = if p = 0 ∨ p = 1 then 6 else 2) (h0 : p = 0) : ¬ e = 2 := by
  rw [if_pos (.inl h0)] at h; omega
theorem hand_segs {M : Mov} {w n : Int} (h : SzM M w n) : (((handM M).1.1 : List Seg).length ≤ 2097152 ∧ ∀ s ∈ ((handM M).1.1 : List Seg), inBytes s.2.1) ∧ ∀ s ∈ ((handM M).1.1 : List Seg), inBytes s.2.1 := by
  have hpH := h.pH
  obtain ⟨mw, ph, a, b⟩ := M
  have hw := h.win; have ha := h.a
  cases ph
  · exact ⟨⟨Nat.zero_le _, fun s hs => by cases hs⟩, fun s hs => by cases hs⟩
  · have ha := ha (fun e => by cases e)
    obtain ⟨p1, p2⟩ := hpH.2 rfl
    have hw : mw = w := hw
    subst hw
    have haw : a.win = mw := ha.win
    have hF := hnF (w := mw) ⟨ha.ok, by rw [haw]; exact p1⟩ haw p2
    exact ⟨⟨Nat.le_trans (hn_hl hF) (by decide), fun s hs => (hn_hs hF s hs).byt⟩, fun s hs => (hn_hs hF s hs).byt⟩
  · exact ⟨⟨Nat.zero_le _, fun s hs => by cases hs⟩, fun s hs => by cases hs⟩
abbrev mpS (l : List Seg) : List Seg := l.map (fun x => ((fun l => l) x.1, (fun x => ((fun l => l) x.1, (fun l => l) x.2)) x.2))
theorem hand_segs2 {M : Mov} {w n : Int} (h : SzM M w n) : ((mpS (handM M).1.1).length ≤ 2097152 ∧ ∀ s ∈ mpS (handM M).1.1, inBytes s.2.1) ∧ ∀ s ∈ mpS (handM M).1.1, inBytes s.2.1 := by
  have e : mpS (handM M).1.1 = (handM M).1.1 := map_seg_id _
  rw [e]; exact hand_segs h
theorem m_byt {M : Mov} {w n : Int} (h : SzM M w n) (m : Int) : inBytes (readM M m).1.1 ∧ inBytes (readM M m).1.1 := by
  have hh : inBytes (readM M m).1.1 := by
    obtain ⟨mw, ph, a, b⟩ := M
    cases ph
    · exact read_byt (h.a (fun e => by cases e)).ok m
    · exact read_byt (h.b (fun e => by cases e)).ok m
    · exact read_byt (h.b (fun e => by cases e)).ok m
  exact ⟨hh, hh⟩
theorem next_LRx {n : Nat} {i : Int} {M : Mov} (h0 : 0 ≤ i) (h : i < (n : Int)) (hs : SzM M 20 (20 * i + 20)) : ∃ y : LRx n, y.i = i + 1 ∧ y.M = M := ⟨⟨i + 1, M, by omega, by omega, by rw [show 20 * (i + 1) = 20 * i + 20 by omega]; exact hs⟩, rfl, rfl⟩
def mrfF (_ : List TA) (_ : Seg) (_ : Int) : Tup [DT.cell .bool] := (true, ())
def mrfSpec : PureSpec := ⟨[.lst actE, SegT, .cell (.int .i64)], fun (x : (List TA) × Seg × Int × Unit) => (x.1.length ≤ maxLen ∧ ∀ a ∈ x.1, actE.ok a) ∧ inBytes x.2.1.2.1, [.cell .bool], fun (x : (List TA) × Seg × Int × Unit) => mrfF x.1 x.2.1 x.2.2.1⟩
theorem mrf_ok (L : List TA) (s : Seg) (p : Int) (h : mrfSpec.pre (L, s, p, ())) : TmplOk Try.prog AI 9 (argS mrfSpec.ds (fun _ => (L, s, p, ()))) [] (resOf (svs mrfSpec.rs (fun _ => mrfSpec.f (L, s, p, ())))) [] := by
  dsimp only [mrfSpec] at h ⊢
  generalize hr : mrfF L s p = r
  obtain ⟨⟨hL0, hL⟩, hs⟩ := h; obtain ⟨so, sd, sl⟩ := s
  dsimp only [mrfF] at hr
  refine tmpl_of_body euOk mixed (fn := Try.f9) (c := bodyOf Try.f9) (by kernel_rfl) (by kernel_rfl) (by kernel_rfl) (Nat.le_of_ble_eq_true (by kernel_rfl)) ?_
  (try (conv in (LoopInv.inv _ _) => dsimp only)); (try (conv in (SS.mk _ _) => cbv; (try dsimp only [newMovSpec, mrcvSpec, mreadSpec, mstartSpec, mhandSpec, mphaseSpec, maccSpec, accM, mdoSpec, doM, eqfSpec, Ty.T, Ty.dflt, KT.T]); (try simp only [natCast_eq])))
  (refine (?_ : T1 _ ?_) ?_; rotate_left 1; (conv => lhs; cbv; (try cbv); (try cbv)); intro hT; clear hT; refine Sh.mk (by kernel_rfl) ?_)
  repeat' (first
    | with_reducible refine Ck.mk (C := tt) tt_intro ?_
    | with_reducible refine Ck.mk (show drawOk _ _ = true by kernel_rfl) ?_
    | with_reducible refine Ck.all_cons ?_
    | with_reducible refine Ck.all_nil ?_
    | with_reducible refine Ck.mk (by assumption) ?_
    | with_reducible refine Ck.mk (decide_eq_true (by assumption)) ?_
    | with_reducible refine Ck.mk (decide_eq_false (by assumption)) ?_
    | with_reducible refine Ck.mk ?_ ?_
    | (with_reducible refine Both.mk (fun h => ?_) (fun h => ?_) <;> (have hk := h) <;> (try simp only [decide_eq_true_eq, decide_eq_false_iff_not, Bool.not_eq_true', Bool.not_eq_false', Bool.not_eq_true, Bool.not_eq_false, Bool.not_true, Bool.not_false, ne_eq, Bool.false_eq_true, Bool.true_eq_false, reduceCtorEq, beq_iff_eq, beq_eq_false_iff_ne, not_true_eq_false, not_false_eq_true, pair_eta, map_idL] at h) <;> (try dsimp only [newMovSpec, mrcvSpec, mreadSpec, mstartSpec, mhandSpec, mphaseSpec, maccSpec, accM, mdoSpec, doM, eqfSpec, Ty.T, Ty.dflt, KT.T, getM, putM, delM] at h) <;> (try simp only [natCast_eq] at h) <;> (try (have hb := el_byt hL hlo h)) <;> (try (have hN := sz_do (x := elA L i) hsz (by omega) hb (el_len h))) <;> (try (have hR := rcv_refused (s := (so, sd, sl)) h)) <;> (try first | rw [if_pos h] at hr | rw [if_neg h] at hr | rw [ifF h] at hr | rw [ifN h] at hr) <;> (try (have hb : (_ : Bool) = _ := h; clear h; subst hb; (try first | rw [if_pos rfl] at hr | rw [if_neg Bool.false_ne_true] at hr))) <;> first | (exfalso; omega) | exact absurd (h.symm.trans (by assumption) : true = false) Bool.noConfusion | exact absurd (h.symm.trans (by assumption) : false = true) Bool.noConfusion | (refine (?_ : T1 _ ?_) ?_; rotate_left 1; (conv => lhs; cbv; (try cbv); (try cbv)); intro hT; clear hT; refine Sh.mk (by kernel_rfl) ?_))
    | (with_reducible refine Alt.mk (fun h => ?_) (fun h => ?_) <;> (have hk := h) <;> (try simp only [decide_eq_true_eq, decide_eq_false_iff_not, Bool.not_eq_true', Bool.not_eq_false', Bool.not_eq_true, Bool.not_eq_false, Bool.not_true, Bool.not_false, ne_eq, Bool.false_eq_true, Bool.true_eq_false, reduceCtorEq, beq_iff_eq, beq_eq_false_iff_ne, not_true_eq_false, not_false_eq_true, pair_eta, map_idL] at h) <;> (try dsimp only [newMovSpec, mrcvSpec, mreadSpec, mstartSpec, mhandSpec, mphaseSpec, maccSpec, accM, mdoSpec, doM, eqfSpec, Ty.T, Ty.dflt, KT.T, getM, putM, delM] at h) <;> (try simp only [natCast_eq] at h) <;> (try (have hb := el_byt hL hlo h)) <;> (try (have hN := sz_do (x := elA L i) hsz (by omega) hb (el_len h))) <;> (try (have hR := rcv_refused (s := (so, sd, sl)) h)) <;> (try first | rw [if_pos h] at hr | rw [if_neg h] at hr | rw [ifF h] at hr | rw [ifN h] at hr) <;> (try (have hb : (_ : Bool) = _ := h; clear h; subst hb; (try first | rw [if_pos rfl] at hr | rw [if_neg Bool.false_ne_true] at hr))) <;> first | (exfalso; omega) | exact absurd (h.symm.trans (by assumption) : true = false) Bool.noConfusion | exact absurd (h.symm.trans (by assumption) : false = true) Bool.noConfusion | (refine (?_ : T1 _ ?_) ?_; rotate_left 1; (conv => lhs; cbv; (try cbv); (try cbv)); intro hT; clear hT; refine Sh.mk (by kernel_rfl) ?_))
    | (with_reducible refine Pick.mk (fun h => ?_) (fun l1 x l2 h => ?_) <;> (refine (?_ : T1 _ ?_) ?_; rotate_left 1; (conv => lhs; cbv; (try cbv); (try cbv)); intro hT; clear hT; refine Sh.mk (by kernel_rfl) ?_))
    | ((with_reducible refine End.mk ?_); (try ((repeat (first | rw [if_pos (by first | assumption | omega)] at hr | rw [if_neg (by first | assumption | omega | (simp only [Bool.false_eq_true, Bool.true_eq_false, reduceCtorEq, not_false_eq_true]; done) | (simp only [Bool.not_eq_true]; assumption) | (simp only [Bool.not_eq_false]; assumption))] at hr | rw [if_pos rfl] at hr)); subst hr)))
    | with_reducible exact True.intro)
  all_goals first
    | (fail_if_success (with_reducible refine Exists.intro ?_ ?_)
       first
         | with_reducible rfl
         | with_reducible assumption
         | (dsimp only [newMovSpec, mrcvSpec, mreadSpec, mstartSpec, mhandSpec, mphaseSpec, maccSpec, accM, mdoSpec, doM, eqfSpec, Ty.T, Ty.dflt, KT.T, getM, putM, delM, inI64, maxRow]; done)
         | (symm; with_reducible assumption)
         | (dsimp only [newMovSpec, mrcvSpec, mreadSpec, mstartSpec, mhandSpec, mphaseSpec, maccSpec, accM, mdoSpec, doM, eqfSpec, Ty.T, Ty.dflt, KT.T, getM, putM, delM, inI64, maxRow]; first | with_reducible rfl | with_reducible assumption | (symm; with_reducible assumption) | (simp only [natCast_eq]; with_reducible rfl) | omega)
         | omega
         | (dsimp only [newMovSpec, mrcvSpec, mreadSpec, mstartSpec, mhandSpec, mphaseSpec, maccSpec, accM, mdoSpec, doM, eqfSpec, Ty.T, Ty.dflt, KT.T, getM, putM, delM, inI64, maxRow]; (try simp only [natCast_eq, List.nil_append]); first | with_reducible rfl | exact take_cg (by omega) | exact drop_cg (by omega) | exact take_drop_cg (by omega) (by omega) | exact take_all (by omega) | exact take_drop_all (by omega) (by omega) | exact drop_take_cg (by omega) (by omega) (by omega))
         | ((try dsimp only [newMovSpec, mrcvSpec, mreadSpec, mstartSpec, mhandSpec, mphaseSpec, maccSpec, accM, mdoSpec, doM, eqfSpec, Ty.T, Ty.dflt, KT.T, getM, putM, delM, inI64, maxRow]); simp only [decide_eq_true_eq, decide_eq_false_iff_not, Bool.not_eq_true', Bool.not_eq_false', Bool.not_eq_true, Bool.not_eq_false, Bool.not_true, Bool.not_false, ne_eq, Bool.false_eq_true, Bool.true_eq_false, reduceCtorEq, beq_iff_eq, beq_eq_false_iff_ne, not_true_eq_false, not_false_eq_true, pair_eta, map_idL, natCast_eq, inI64, maxRow]; first | done | with_reducible assumption | omega)
         | exact map_pair_id _
         | ((try dsimp only [newMovSpec, mrcvSpec, mreadSpec, mstartSpec, mhandSpec, mphaseSpec, maccSpec, accM, mdoSpec, doM, eqfSpec, Ty.T, Ty.dflt, KT.T, getM, putM, delM, inI64, maxRow]) <;> (try simp only [natCast_eq]) <;> omega)
         | ((try dsimp only [newMovSpec, mrcvSpec, mreadSpec, mstartSpec, mhandSpec, mphaseSpec, maccSpec, accM, mdoSpec, doM, eqfSpec, Ty.T, Ty.dflt, KT.T, getM, putM, delM, inI64, maxRow] at *) <;> (try simp only [natCast_eq] at *) <;> omega)
         | ((try dsimp only [newMovSpec, mrcvSpec, mreadSpec, mstartSpec, mhandSpec, mphaseSpec, maccSpec, accM, mdoSpec, doM, eqfSpec, Ty.T, Ty.dflt, KT.T, getM, putM, delM, inI64, maxRow] at *) <;> (try simp only [List.length_append, List.length_cons, List.length_nil, List.length_replicate, List.length_take, List.length_drop, natCast_eq] at *) <;> omega)
         | assumption
         | (symm; assumption)
         | (dsimp only; simp only [Bool.or_true, Bool.true_or, Bool.or_false, Bool.false_or, Bool.and_true, Bool.true_and, Bool.and_false, Bool.false_and, Bool.not_true, Bool.not_false, *]; done)
         | (simp; done)
         | (and_intros <;> first | trivial | with_reducible assumption | omega)
         | ((try dsimp only [newMovSpec, mrcvSpec, mreadSpec, mstartSpec, mhandSpec, mphaseSpec, maccSpec, accM, mdoSpec, doM, eqfSpec, Ty.T, Ty.dflt, KT.T, getM, putM, delM, inI64, maxRow] at *) <;> simp [*] <;> done))
    | skip
  obtain ⟨x0, hx0, hx1⟩ : ∃ x : LRx L.length, x.i = 0 ∧ x.M = newM 20 := ⟨⟨0, newM 20, by omega, by omega, szM_new (by decide) (by decide)⟩, rfl, rfl⟩
  refine ⟨⟨LRx L.length, fun x => ⟨[(2, Sx.one (.int .i64 (fun _ => p))), (4, Sx.one (.ptr 0 0)), (7, Sx.one (.ptr 1 0)), (9, Sx.one (.ptr 2 0)), (51, Sx.one (.ro actE (fun _ => L))), (52, Sx.one (.int .i64 (fun _ => L.length))), (53, Sx.one (.int .i64 (fun _ => x.i)))], [.cells 32 [.int .i64 (fun _ => so), .ro (.int .u8) (fun _ => sd), .sb (fun _ => sl)], .abs (.mov (fun _ => x.M)), .abs (.mov (fun _ => x.M))]⟩, fun x => (L.length - x.i).toNat, x0⟩, ?_, fun (x : LRx L.length) => ?_⟩
  · (try (conv in (LoopInv.inv _ _) => dsimp only)); (try (conv in (SS.mk _ _) => cbv; (try dsimp only [newMovSpec, mrcvSpec, mreadSpec, mstartSpec, mhandSpec, mphaseSpec, maccSpec, accM, mdoSpec, doM, eqfSpec, Ty.T, Ty.dflt, KT.T]); (try simp only [natCast_eq])))
    (refine (?_ : T1 _ ?_) ?_; rotate_left 1; (conv => lhs; cbv; (try cbv); (try cbv)); intro hT; clear hT; refine Sh.mk (by kernel_rfl) ?_)
    repeat' (first
      | with_reducible refine Ck.mk (C := tt) tt_intro ?_
      | with_reducible refine Ck.mk (show drawOk _ _ = true by kernel_rfl) ?_
      | with_reducible refine Ck.all_cons ?_
      | with_reducible refine Ck.all_nil ?_
      | with_reducible refine Ck.mk (by assumption) ?_
      | with_reducible refine Ck.mk (decide_eq_true (by assumption)) ?_
      | with_reducible refine Ck.mk (decide_eq_false (by assumption)) ?_
      | with_reducible refine Ck.mk ?_ ?_
      | (with_reducible refine Both.mk (fun h => ?_) (fun h => ?_) <;> (have hk := h) <;> (try simp only [decide_eq_true_eq, decide_eq_false_iff_not, Bool.not_eq_true', Bool.not_eq_false', Bool.not_eq_true, Bool.not_eq_false, Bool.not_true, Bool.not_false, ne_eq, Bool.false_eq_true, Bool.true_eq_false, reduceCtorEq, beq_iff_eq, beq_eq_false_iff_ne, not_true_eq_false, not_false_eq_true, pair_eta, map_idL] at h) <;> (try dsimp only [newMovSpec, mrcvSpec, mreadSpec, mstartSpec, mhandSpec, mphaseSpec, maccSpec, accM, mdoSpec, doM, eqfSpec, Ty.T, Ty.dflt, KT.T, getM, putM, delM] at h) <;> (try simp only [natCast_eq] at h) <;> (try (have hb := el_byt hL hlo h)) <;> (try (have hN := sz_do (x := elA L i) hsz (by omega) hb (el_len h))) <;> (try (have hR := rcv_refused (s := (so, sd, sl)) h)) <;> (try first | rw [if_pos h] at hr | rw [if_neg h] at hr | rw [ifF h] at hr | rw [ifN h] at hr) <;> (try (have hb : (_ : Bool) = _ := h; clear h; subst hb; (try first | rw [if_pos rfl] at hr | rw [if_neg Bool.false_ne_true] at hr))) <;> first | (exfalso; omega) | exact absurd (h.symm.trans (by assumption) : true = false) Bool.noConfusion | exact absurd (h.symm.trans (by assumption) : false = true) Bool.noConfusion | (refine (?_ : T1 _ ?_) ?_; rotate_left 1; (conv => lhs; cbv; (try cbv); (try cbv)); intro hT; clear hT; refine Sh.mk (by kernel_rfl) ?_))
      | (with_reducible refine Alt.mk (fun h => ?_) (fun h => ?_) <;> (have hk := h) <;> (try simp only [decide_eq_true_eq, decide_eq_false_iff_not, Bool.not_eq_true', Bool.not_eq_false', Bool.not_eq_true, Bool.not_eq_false, Bool.not_true, Bool.not_false, ne_eq, Bool.false_eq_true, Bool.true_eq_false, reduceCtorEq, beq_iff_eq, beq_eq_false_iff_ne, not_true_eq_false, not_false_eq_true, pair_eta, map_idL] at h) <;> (try dsimp only [newMovSpec, mrcvSpec, mreadSpec, mstartSpec, mhandSpec, mphaseSpec, maccSpec, accM, mdoSpec, doM, eqfSpec, Ty.T, Ty.dflt, KT.T, getM, putM, delM] at h) <;> (try simp only [natCast_eq] at h) <;> (try (have hb := el_byt hL hlo h)) <;> (try (have hN := sz_do (x := elA L i) hsz (by omega) hb (el_len h))) <;> (try (have hR := rcv_refused (s := (so, sd, sl)) h)) <;> (try first | rw [if_pos h] at hr | rw [if_neg h] at hr | rw [ifF h] at hr | rw [ifN h] at hr) <;> (try (have hb : (_ : Bool) = _ := h; clear h; subst hb; (try first | rw [if_pos rfl] at hr | rw [if_neg Bool.false_ne_true] at hr))) <;> first | (exfalso; omega) | exact absurd (h.symm.trans (by assumption) : true = false) Bool.noConfusion | exact absurd (h.symm.trans (by assumption) : false = true) Bool.noConfusion | (refine (?_ : T1 _ ?_) ?_; rotate_left 1; (conv => lhs; cbv; (try cbv); (try cbv)); intro hT; clear hT; refine Sh.mk (by kernel_rfl) ?_))
      | (with_reducible refine Pick.mk (fun h => ?_) (fun l1 x l2 h => ?_) <;> (refine (?_ : T1 _ ?_) ?_; rotate_left 1; (conv => lhs; cbv; (try cbv); (try cbv)); intro hT; clear hT; refine Sh.mk (by kernel_rfl) ?_))
      | ((with_reducible refine End.mk ?_); skip)
      | with_reducible exact True.intro)
    all_goals first
      | (fail_if_success (with_reducible refine Exists.intro ?_ ?_)
         first
           | with_reducible rfl
           | with_reducible assumption
           | (dsimp only [newMovSpec, mrcvSpec, mreadSpec, mstartSpec, mhandSpec, mphaseSpec, maccSpec, accM, mdoSpec, doM, eqfSpec, Ty.T, Ty.dflt, KT.T, getM, putM, delM, inI64, maxRow]; done)
           | (symm; with_reducible assumption)
           | (dsimp only [newMovSpec, mrcvSpec, mreadSpec, mstartSpec, mhandSpec, mphaseSpec, maccSpec, accM, mdoSpec, doM, eqfSpec, Ty.T, Ty.dflt, KT.T, getM, putM, delM, inI64, maxRow]; first | with_reducible rfl | with_reducible assumption | (symm; with_reducible assumption) | (simp only [natCast_eq]; with_reducible rfl) | omega)
           | omega
           | (dsimp only [newMovSpec, mrcvSpec, mreadSpec, mstartSpec, mhandSpec, mphaseSpec, maccSpec, accM, mdoSpec, doM, eqfSpec, Ty.T, Ty.dflt, KT.T, getM, putM, delM, inI64, maxRow]; (try simp only [natCast_eq, List.nil_append]); first | with_reducible rfl | exact take_cg (by omega) | exact drop_cg (by omega) | exact take_drop_cg (by omega) (by omega) | exact take_all (by omega) | exact take_drop_all (by omega) (by omega) | exact drop_take_cg (by omega) (by omega) (by omega))
           | (show _ = x0.M; rw [hx1])
           | ((try dsimp only [newMovSpec, mrcvSpec, mreadSpec, mstartSpec, mhandSpec, mphaseSpec, maccSpec, accM, mdoSpec, doM, eqfSpec, Ty.T, Ty.dflt, KT.T, getM, putM, delM, inI64, maxRow]); simp only [decide_eq_true_eq, decide_eq_false_iff_not, Bool.not_eq_true', Bool.not_eq_false', Bool.not_eq_true, Bool.not_eq_false, Bool.not_true, Bool.not_false, ne_eq, Bool.false_eq_true, Bool.true_eq_false, reduceCtorEq, beq_iff_eq, beq_eq_false_iff_ne, not_true_eq_false, not_false_eq_true, pair_eta, map_idL, natCast_eq, inI64, maxRow]; first | done | with_reducible assumption | omega)
           | exact map_pair_id _
           | ((try dsimp only [newMovSpec, mrcvSpec, mreadSpec, mstartSpec, mhandSpec, mphaseSpec, maccSpec, accM, mdoSpec, doM, eqfSpec, Ty.T, Ty.dflt, KT.T, getM, putM, delM, inI64, maxRow]) <;> (try simp only [natCast_eq]) <;> omega)
           | ((try dsimp only [newMovSpec, mrcvSpec, mreadSpec, mstartSpec, mhandSpec, mphaseSpec, maccSpec, accM, mdoSpec, doM, eqfSpec, Ty.T, Ty.dflt, KT.T, getM, putM, delM, inI64, maxRow] at *) <;> (try simp only [natCast_eq] at *) <;> omega)
           | ((try dsimp only [newMovSpec, mrcvSpec, mreadSpec, mstartSpec, mhandSpec, mphaseSpec, maccSpec, accM, mdoSpec, doM, eqfSpec, Ty.T, Ty.dflt, KT.T, getM, putM, delM, inI64, maxRow] at *) <;> (try simp only [List.length_append, List.length_cons, List.length_nil, List.length_replicate, List.length_take, List.length_drop, natCast_eq] at *) <;> omega)
           | assumption
           | (symm; assumption)
           | (dsimp only; simp only [Bool.or_true, Bool.true_or, Bool.or_false, Bool.false_or, Bool.and_true, Bool.true_and, Bool.and_false, Bool.false_and, Bool.not_true, Bool.not_false, *]; done)
           | (simp; done)
           | (and_intros <;> first | trivial | with_reducible assumption | omega)
           | ((try dsimp only [newMovSpec, mrcvSpec, mreadSpec, mstartSpec, mhandSpec, mphaseSpec, maccSpec, accM, mdoSpec, doM, eqfSpec, Ty.T, Ty.dflt, KT.T, getM, putM, delM, inI64, maxRow] at *) <;> simp [*] <;> done))
      | skip
  obtain ⟨i, M, hlo, hhi, hsz⟩ := x
  have hLL : ¬ 30 < (L.length : Int) := by assumption
  have hNN : i < (L.length : Int) → ¬ 60 < (((elA L i).2.2.2.2.1.length : Nat) : Int) → SzM (doN M (elA L i)) 20 (20 * i + 20) ∧ (elA L i).2.2.2.2.1.length ≤ 1048576 := fun h1 h2 => ⟨sz_do hsz (by omega) (el_byt hL hlo h1) (el_len h2), el_len h2⟩
  (try (conv in (LoopInv.inv _ _) => dsimp only)); (try (conv in (SS.mk _ _) => cbv; (try dsimp only [newMovSpec, mrcvSpec, mreadSpec, mstartSpec, mhandSpec, mphaseSpec, maccSpec, accM, mdoSpec, doM, eqfSpec, Ty.T, Ty.dflt, KT.T]); (try simp only [natCast_eq])))
  (refine (?_ : T1 _ ?_) ?_; rotate_left 1; (conv => lhs; cbv; (try cbv); (try cbv)); intro hT; clear hT; refine Sh.mk (by kernel_rfl) ?_)
  repeat' (first
    | with_reducible refine Ck.mk (C := tt) tt_intro ?_
    | with_reducible refine Ck.mk (show drawOk _ _ = true by kernel_rfl) ?_
    | with_reducible refine Ck.all_cons ?_
    | with_reducible refine Ck.all_nil ?_
    | with_reducible refine Ck.mk (by assumption) ?_
    | with_reducible refine Ck.mk (decide_eq_true (by assumption)) ?_
    | with_reducible refine Ck.mk (decide_eq_false (by assumption)) ?_
    | with_reducible refine Ck.mk ?_ ?_
    | (with_reducible refine Both.mk (fun h => ?_) (fun h => ?_) <;> (have hk := h) <;> (try simp only [decide_eq_true_eq, decide_eq_false_iff_not, Bool.not_eq_true', Bool.not_eq_false', Bool.not_eq_true, Bool.not_eq_false, Bool.not_true, Bool.not_false, ne_eq, Bool.false_eq_true, Bool.true_eq_false, reduceCtorEq, beq_iff_eq, beq_eq_false_iff_ne, not_true_eq_false, not_false_eq_true, pair_eta, map_idL] at h) <;> (try dsimp only [newMovSpec, mrcvSpec, mreadSpec, mstartSpec, mhandSpec, mphaseSpec, maccSpec, accM, mdoSpec, doM, eqfSpec, Ty.T, Ty.dflt, KT.T, getM, putM, delM] at h) <;> (try simp only [natCast_eq] at h) <;> (try (have hb := el_byt hL hlo h)) <;> (try (have hN := sz_do (x := elA L i) hsz (by omega) hb (el_len h))) <;> (try (have hR := rcv_refused (s := (so, sd, sl)) h)) <;> (try first | rw [if_pos h] at hr | rw [if_neg h] at hr | rw [ifF h] at hr | rw [ifN h] at hr) <;> (try (have hb : (_ : Bool) = _ := h; clear h; subst hb; (try first | rw [if_pos rfl] at hr | rw [if_neg Bool.false_ne_true] at hr))) <;> first | (exfalso; omega) | exact absurd (h.symm.trans (by assumption) : true = false) Bool.noConfusion | exact absurd (h.symm.trans (by assumption) : false = true) Bool.noConfusion | (refine (?_ : T1 _ ?_) ?_; rotate_left 1; (conv => lhs; cbv; (try cbv); (try cbv)); intro hT; clear hT; refine Sh.mk (by kernel_rfl) ?_))
    | (with_reducible refine Alt.mk (fun h => ?_) (fun h => ?_) <;> (have hk := h) <;> (try simp only [decide_eq_true_eq, decide_eq_false_iff_not, Bool.not_eq_true', Bool.not_eq_false', Bool.not_eq_true, Bool.not_eq_false, Bool.not_true, Bool.not_false, ne_eq, Bool.false_eq_true, Bool.true_eq_false, reduceCtorEq, beq_iff_eq, beq_eq_false_iff_ne, not_true_eq_false, not_false_eq_true, pair_eta, map_idL] at h) <;> (try dsimp only [newMovSpec, mrcvSpec, mreadSpec, mstartSpec, mhandSpec, mphaseSpec, maccSpec, accM, mdoSpec, doM, eqfSpec, Ty.T, Ty.dflt, KT.T, getM, putM, delM] at h) <;> (try simp only [natCast_eq] at h) <;> (try (have hb := el_byt hL hlo h)) <;> (try (have hN := sz_do (x := elA L i) hsz (by omega) hb (el_len h))) <;> (try (have hR := rcv_refused (s := (so, sd, sl)) h)) <;> (try first | rw [if_pos h] at hr | rw [if_neg h] at hr | rw [ifF h] at hr | rw [ifN h] at hr) <;> (try (have hb : (_ : Bool) = _ := h; clear h; subst hb; (try first | rw [if_pos rfl] at hr | rw [if_neg Bool.false_ne_true] at hr))) <;> first | (exfalso; omega) | exact absurd (h.symm.trans (by assumption) : true = false) Bool.noConfusion | exact absurd (h.symm.trans (by assumption) : false = true) Bool.noConfusion | (refine (?_ : T1 _ ?_) ?_; rotate_left 1; (conv => lhs; cbv; (try cbv); (try cbv)); intro hT; clear hT; refine Sh.mk (by kernel_rfl) ?_))
    | (with_reducible refine Pick.mk (fun h => ?_) (fun l1 x l2 h => ?_) <;> (refine (?_ : T1 _ ?_) ?_; rotate_left 1; (conv => lhs; cbv; (try cbv); (try cbv)); intro hT; clear hT; refine Sh.mk (by kernel_rfl) ?_))
    | ((with_reducible refine End.mk ?_); skip)
    | with_reducible exact True.intro)
  all_goals first
    | (fail_if_success (with_reducible refine Exists.intro ?_ ?_)
       first
         | with_reducible rfl
         | with_reducible assumption
         | (dsimp only [newMovSpec, mrcvSpec, mreadSpec, mstartSpec, mhandSpec, mphaseSpec, maccSpec, accM, mdoSpec, doM, eqfSpec, Ty.T, Ty.dflt, KT.T, getM, putM, delM, inI64, maxRow]; done)
         | (symm; with_reducible assumption)
         | (dsimp only [newMovSpec, mrcvSpec, mreadSpec, mstartSpec, mhandSpec, mphaseSpec, maccSpec, accM, mdoSpec, doM, eqfSpec, Ty.T, Ty.dflt, KT.T, getM, putM, delM, inI64, maxRow]; first | with_reducible rfl | with_reducible assumption | (symm; with_reducible assumption) | (simp only [natCast_eq]; with_reducible rfl) | omega)
         | omega
         | (dsimp only [newMovSpec, mrcvSpec, mreadSpec, mstartSpec, mhandSpec, mphaseSpec, maccSpec, accM, mdoSpec, doM, eqfSpec, Ty.T, Ty.dflt, KT.T, getM, putM, delM, inI64, maxRow]; (try simp only [natCast_eq, List.nil_append]); first | with_reducible rfl | exact take_cg (by omega) | exact drop_cg (by omega) | exact take_drop_cg (by omega) (by omega) | exact take_all (by omega) | exact take_drop_all (by omega) (by omega) | exact drop_take_cg (by omega) (by omega) (by omega))
         | first | exact congrArg Prod.fst hr | exact ⟨⟨20, 20 * i, hsz⟩, (hNN (by assumption) h).2⟩ | exact ⟨⟨20, 20 * i, hsz⟩, el_len h⟩ | exact ⟨(hNN (by assumption) (by assumption)).1.ok, by show sd.length ≤ 1048576; omega⟩ | exact (rf_a hR.2 (by assumption) h).elim | exact absurd (rf_b hR.2 (by assumption)) h | exact absurd (rf_c hR.2 (by assumption)) h | exact hsz.pS | exact (sz_start hsz).pH | exact hand_segs2 (sz_start hsz) | exact (sz_hand (sz_start hsz)).ok | exact m_byt (sz_hand (sz_start hsz)) 100 | exact (decide_eq_true rfl).trans (congrArg Prod.fst hr)
         | ((try dsimp only [newMovSpec, mrcvSpec, mreadSpec, mstartSpec, mhandSpec, mphaseSpec, maccSpec, accM, mdoSpec, doM, eqfSpec, Ty.T, Ty.dflt, KT.T, getM, putM, delM, inI64, maxRow]); simp only [decide_eq_true_eq, decide_eq_false_iff_not, Bool.not_eq_true', Bool.not_eq_false', Bool.not_eq_true, Bool.not_eq_false, Bool.not_true, Bool.not_false, ne_eq, Bool.false_eq_true, Bool.true_eq_false, reduceCtorEq, beq_iff_eq, beq_eq_false_iff_ne, not_true_eq_false, not_false_eq_true, pair_eta, map_idL, natCast_eq, inI64, maxRow]; first | done | with_reducible assumption | omega)
         | exact map_pair_id _
         | ((try dsimp only [newMovSpec, mrcvSpec, mreadSpec, mstartSpec, mhandSpec, mphaseSpec, maccSpec, accM, mdoSpec, doM, eqfSpec, Ty.T, Ty.dflt, KT.T, getM, putM, delM, inI64, maxRow]) <;> (try simp only [natCast_eq]) <;> omega)
         | ((try dsimp only [newMovSpec, mrcvSpec, mreadSpec, mstartSpec, mhandSpec, mphaseSpec, maccSpec, accM, mdoSpec, doM, eqfSpec, Ty.T, Ty.dflt, KT.T, getM, putM, delM, inI64, maxRow] at *) <;> (try simp only [natCast_eq] at *) <;> omega)
         | ((try dsimp only [newMovSpec, mrcvSpec, mreadSpec, mstartSpec, mhandSpec, mphaseSpec, maccSpec, accM, mdoSpec, doM, eqfSpec, Ty.T, Ty.dflt, KT.T, getM, putM, delM, inI64, maxRow] at *) <;> (try simp only [List.length_append, List.length_cons, List.length_nil, List.length_replicate, List.length_take, List.length_drop, natCast_eq] at *) <;> omega)
         | assumption
         | (symm; assumption)
         | (dsimp only; simp only [Bool.or_true, Bool.true_or, Bool.or_false, Bool.false_or, Bool.and_true, Bool.true_and, Bool.and_false, Bool.false_and, Bool.not_true, Bool.not_false, *]; done)
         | (simp; done)
         | (and_intros <;> first | trivial | with_reducible assumption | omega)
         | ((try dsimp only [newMovSpec, mrcvSpec, mreadSpec, mstartSpec, mhandSpec, mphaseSpec, maccSpec, accM, mdoSpec, doM, eqfSpec, Ty.T, Ty.dflt, KT.T, getM, putM, delM, inI64, maxRow] at *) <;> simp [*] <;> done))
    | skip
  all_goals
    (obtain ⟨y, hy0, hy1⟩ := next_LRx (n := L.length) hlo (by assumption) (hNN (by assumption) (by assumption)).1
     refine ⟨y, by dsimp only; (try simp only [natCast_eq]); omega, ?_⟩
     (try (conv in (LoopInv.inv _ _) => dsimp only)); (try (conv in (SS.mk _ _) => cbv; (try dsimp only [newMovSpec, mrcvSpec, mreadSpec, mstartSpec, mhandSpec, mphaseSpec, maccSpec, accM, mdoSpec, doM, eqfSpec, Ty.T, Ty.dflt, KT.T]); (try simp only [natCast_eq])))
     (refine (?_ : T1 _ ?_) ?_; rotate_left 1; (conv => lhs; cbv; (try cbv); (try cbv)); intro hT; clear hT; refine Sh.mk (by kernel_rfl) ?_)
     repeat' (first
       | with_reducible refine Ck.mk (C := tt) tt_intro ?_
       | with_reducible refine Ck.mk (show drawOk _ _ = true by kernel_rfl) ?_
       | with_reducible refine Ck.all_cons ?_
       | with_reducible refine Ck.all_nil ?_
       | with_reducible refine Ck.mk (by assumption) ?_
       | with_reducible refine Ck.mk (decide_eq_true (by assumption)) ?_
       | with_reducible refine Ck.mk (decide_eq_false (by assumption)) ?_
       | with_reducible refine Ck.mk ?_ ?_
       | (with_reducible refine Both.mk (fun h => ?_) (fun h => ?_) <;> (have hk := h) <;> (try simp only [decide_eq_true_eq, decide_eq_false_iff_not, Bool.not_eq_true', Bool.not_eq_false', Bool.not_eq_true, Bool.not_eq_false, Bool.not_true, Bool.not_false, ne_eq, Bool.false_eq_true, Bool.true_eq_false, reduceCtorEq, beq_iff_eq, beq_eq_false_iff_ne, not_true_eq_false, not_false_eq_true, pair_eta, map_idL] at h) <;> (try dsimp only [newMovSpec, mrcvSpec, mreadSpec, mstartSpec, mhandSpec, mphaseSpec, maccSpec, accM, mdoSpec, doM, eqfSpec, Ty.T, Ty.dflt, KT.T, getM, putM, delM] at h) <;> (try simp only [natCast_eq] at h) <;> (try (have hb := el_byt hL hlo h)) <;> (try (have hN := sz_do (x := elA L i) hsz (by omega) hb (el_len h))) <;> (try (have hR := rcv_refused (s := (so, sd, sl)) h)) <;> (try first | rw [if_pos h] at hr | rw [if_neg h] at hr | rw [ifF h] at hr | rw [ifN h] at hr) <;> (try (have hb : (_ : Bool) = _ := h; clear h; subst hb; (try first | rw [if_pos rfl] at hr | rw [if_neg Bool.false_ne_true] at hr))) <;> first | (exfalso; omega) | exact absurd (h.symm.trans (by assumption) : true = false) Bool.noConfusion | exact absurd (h.symm.trans (by assumption) : false = true) Bool.noConfusion | (refine (?_ : T1 _ ?_) ?_; rotate_left 1; (conv => lhs; cbv; (try cbv); (try cbv)); intro hT; clear hT; refine Sh.mk (by kernel_rfl) ?_))
       | (with_reducible refine Alt.mk (fun h => ?_) (fun h => ?_) <;> (have hk := h) <;> (try simp only [decide_eq_true_eq, decide_eq_false_iff_not, Bool.not_eq_true', Bool.not_eq_false', Bool.not_eq_true, Bool.not_eq_false, Bool.not_true, Bool.not_false, ne_eq, Bool.false_eq_true, Bool.true_eq_false, reduceCtorEq, beq_iff_eq, beq_eq_false_iff_ne, not_true_eq_false, not_false_eq_true, pair_eta, map_idL] at h) <;> (try dsimp only [newMovSpec, mrcvSpec, mreadSpec, mstartSpec, mhandSpec, mphaseSpec, maccSpec, accM, mdoSpec, doM, eqfSpec, Ty.T, Ty.dflt, KT.T, getM, putM, delM] at h) <;> (try simp only [natCast_eq] at h) <;> (try (have hb := el_byt hL hlo h)) <;> (try (have hN := sz_do (x := elA L i) hsz (by omega) hb (el_len h))) <;> (try (have hR := rcv_refused (s := (so, sd, sl)) h)) <;> (try first | rw [if_pos h] at hr | rw [if_neg h] at hr | rw [ifF h] at hr | rw [ifN h] at hr) <;> (try (have hb : (_ : Bool) = _ := h; clear h; subst hb; (try first | rw [if_pos rfl] at hr | rw [if_neg Bool.false_ne_true] at hr))) <;> first | (exfalso; omega) | exact absurd (h.symm.trans (by assumption) : true = false) Bool.noConfusion | exact absurd (h.symm.trans (by assumption) : false = true) Bool.noConfusion | (refine (?_ : T1 _ ?_) ?_; rotate_left 1; (conv => lhs; cbv; (try cbv); (try cbv)); intro hT; clear hT; refine Sh.mk (by kernel_rfl) ?_))
       | (with_reducible refine Pick.mk (fun h => ?_) (fun l1 x l2 h => ?_) <;> (refine (?_ : T1 _ ?_) ?_; rotate_left 1; (conv => lhs; cbv; (try cbv); (try cbv)); intro hT; clear hT; refine Sh.mk (by kernel_rfl) ?_))
       | ((with_reducible refine End.mk ?_); skip)
       | with_reducible exact True.intro)
     all_goals first
       | (fail_if_success (with_reducible refine Exists.intro ?_ ?_)
          first
            | with_reducible rfl
            | with_reducible assumption
            | (dsimp only [newMovSpec, mrcvSpec, mreadSpec, mstartSpec, mhandSpec, mphaseSpec, maccSpec, accM, mdoSpec, doM, eqfSpec, Ty.T, Ty.dflt, KT.T, getM, putM, delM, inI64, maxRow]; done)
            | (symm; with_reducible assumption)
            | (dsimp only [newMovSpec, mrcvSpec, mreadSpec, mstartSpec, mhandSpec, mphaseSpec, maccSpec, accM, mdoSpec, doM, eqfSpec, Ty.T, Ty.dflt, KT.T, getM, putM, delM, inI64, maxRow]; first | with_reducible rfl | with_reducible assumption | (symm; with_reducible assumption) | (simp only [natCast_eq]; with_reducible rfl) | omega)
            | omega
            | (dsimp only [newMovSpec, mrcvSpec, mreadSpec, mstartSpec, mhandSpec, mphaseSpec, maccSpec, accM, mdoSpec, doM, eqfSpec, Ty.T, Ty.dflt, KT.T, getM, putM, delM, inI64, maxRow]; (try simp only [natCast_eq, List.nil_append]); first | with_reducible rfl | exact take_cg (by omega) | exact drop_cg (by omega) | exact take_drop_cg (by omega) (by omega) | exact take_all (by omega) | exact take_drop_all (by omega) (by omega) | exact drop_take_cg (by omega) (by omega) (by omega))
            | first | exact hy1.symm | exact hR.1.trans hy1.symm
            | ((try dsimp only [newMovSpec, mrcvSpec, mreadSpec, mstartSpec, mhandSpec, mphaseSpec, maccSpec, accM, mdoSpec, doM, eqfSpec, Ty.T, Ty.dflt, KT.T, getM, putM, delM, inI64, maxRow]); simp only [decide_eq_true_eq, decide_eq_false_iff_not, Bool.not_eq_true', Bool.not_eq_false', Bool.not_eq_true, Bool.not_eq_false, Bool.not_true, Bool.not_false, ne_eq, Bool.false_eq_true, Bool.true_eq_false, reduceCtorEq, beq_iff_eq, beq_eq_false_iff_ne, not_true_eq_false, not_false_eq_true, pair_eta, map_idL, natCast_eq, inI64, maxRow]; first | done | with_reducible assumption | omega)
            | exact map_pair_id _
            | ((try dsimp only [newMovSpec, mrcvSpec, mreadSpec, mstartSpec, mhandSpec, mphaseSpec, maccSpec, accM, mdoSpec, doM, eqfSpec, Ty.T, Ty.dflt, KT.T, getM, putM, delM, inI64, maxRow]) <;> (try simp only [natCast_eq]) <;> omega)
            | ((try dsimp only [newMovSpec, mrcvSpec, mreadSpec, mstartSpec, mhandSpec, mphaseSpec, maccSpec, accM, mdoSpec, doM, eqfSpec, Ty.T, Ty.dflt, KT.T, getM, putM, delM, inI64, maxRow] at *) <;> (try simp only [natCast_eq] at *) <;> omega)
            | ((try dsimp only [newMovSpec, mrcvSpec, mreadSpec, mstartSpec, mhandSpec, mphaseSpec, maccSpec, accM, mdoSpec, doM, eqfSpec, Ty.T, Ty.dflt, KT.T, getM, putM, delM, inI64, maxRow] at *) <;> (try simp only [List.length_append, List.length_cons, List.length_nil, List.length_replicate, List.length_take, List.length_drop, natCast_eq] at *) <;> omega)
            | assumption
            | (symm; assumption)
            | (dsimp only; simp only [Bool.or_true, Bool.true_or, Bool.or_false, Bool.false_or, Bool.and_true, Bool.true_and, Bool.and_false, Bool.false_and, Bool.not_true, Bool.not_false, *]; done)
            | (simp; done)
            | (and_intros <;> first | trivial | with_reducible assumption | omega)
            | ((try dsimp only [newMovSpec, mrcvSpec, mreadSpec, mstartSpec, mhandSpec, mphaseSpec, maccSpec, accM, mdoSpec, doM, eqfSpec, Ty.T, Ty.dflt, KT.T, getM, putM, delM, inI64, maxRow] at *) <;> simp [*] <;> done))
       | skip)
theorem mrf_sound : ConSound Try.prog AI 9 mrfSpec.con := PureSpec.sound Try.call9 (fun x h => mrf_ok x.1 x.2.1 x.2.2.1 h)
end Go.Proofs.Ytgdiepbjdpmfbaa
