/-
  Layer 48: MovePlays, the walk.
-/
import Derived.Test.YtgdiepbjdpmfbaaMrl
import Derived.Test.YtgdiepbjdpmfbaaBig
import Derived.Test.YtgdiepbjdpmfbaaEqf
namespace Go.Proofs.Ytgdiepbjdpmfbaa
set_option linter.all false
set_option linter.unusedVariables false
set_option linter.unusedSimpArgs false
set_option linter.unusedSectionVars false
open Go.RowKit Go.Sx
set_option maxRecDepth 100000
set_option maxHeartbeats 16000000
abbrev elA (L : List TA) (i : Int) : TA := L.getD i.toNat (0, 0, 0, 0, [], false)
theorem el_byt {L : List TA} (hL : ∀ a ∈ L, actE.ok a) {i : Int} (h0 : 0 ≤ i) (h : i < (L.length : Int)) : inBytes (elA L i).2.2.2.2.1 := by
  have hlt : i.toNat < L.length := by omega
  have hm := hL (elA L i) (by rw [elA, List.getD_eq_getElem?_getD, List.getElem?_eq_getElem hlt]; exact List.getElem_mem hlt)
  exact hm.2.2.2.2.1.2
theorem hand_segs {M : Mov} {w n : Int} (h : SzM M w n) : (((handM M).1.1 : List Seg).length ≤ 2097152 ∧ ∀ s ∈ ((handM M).1.1 : List Seg), inBytes s.2.1) ∧ ∀ s ∈ ((handM M).1.1 : List Seg), inBytes s.2.1 := by
  have hpH := h.pH
  obtain ⟨mw, ph, a, b⟩ := M
  have hw := h.win; have ha := h.a
  cases ph
  · exact ⟨⟨Nat.zero_le _, fun s hs => by cases hs⟩, fun s hs => by cases hs⟩
  · have ha := ha (fun e => by cases e)
    obtain ⟨p1, p2⟩ := hpH.2 rfl
    have hw : mw = w := hw
    subst hw
    have haw : a.win = mw := ha.win
    have hF := hnF (w := mw) ⟨ha.ok, by rw [haw]; exact p1⟩ haw p2
    exact ⟨⟨Nat.le_trans (hn_hl hF) (by decide), fun s hs => (hn_hs hF s hs).byt⟩, fun s hs => (hn_hs hF s hs).byt⟩
  · exact ⟨⟨Nat.zero_le _, fun s hs => by cases hs⟩, fun s hs => by cases hs⟩
abbrev mpS (l : List Seg) : List Seg := l.map (fun x => ((fun l => l) x.1, (fun x => ((fun l => l) x.1, (fun l => l) x.2)) x.2))
theorem hand_segs2 {M : Mov} {w n : Int} (h : SzM M w n) : ((mpS (handM M).1.1).length ≤ 2097152 ∧ ∀ s ∈ mpS (handM M).1.1, inBytes s.2.1) ∧ ∀ s ∈ mpS (handM M).1.1, inBytes s.2.1 := by
  have e : mpS (handM M).1.1 = (handM M).1.1 := map_seg_id _
  rw [e]; exact hand_segs h
theorem m_byt {M : Mov} {w n : Int} (h : SzM M w n) (m : Int) : inBytes (readM M m).1.1 ∧ inBytes (readM M m).1.1 := by
  have hh : inBytes (readM M m).1.1 := by
    obtain ⟨mw, ph, a, b⟩ := M
    cases ph
    · exact read_byt (h.a (fun e => by cases e)).ok m
    · exact read_byt (h.b (fun e => by cases e)).ok m
    · exact read_byt (h.b (fun e => by cases e)).ok m
  exact ⟨hh, hh⟩
noncomputable abbrev Emp : Env Ab := ⟨tis, [(27, cntSpec.conF 28), (25, eqfSpec.conF 26), (22, maccSpec.con), (21, mphaseSpec.con), (20, mfinSpec.con), (17, mhandSpec.con), (16, mstartSpec.con), (15, mreadSpec.con), (13, mrcvSpec.con), (12, newMovSpec.con), (11, awakeSpec.con), (18, inl E0 Try.f18 0)] ++ E0.con⟩
theorem empOk : EnvOk Try.prog AI Emp := ((((((((((((e0Ok.add beq_inl).add awake_sound).add newMov_sound).add mrcv_sound).add mread_sound).add mstart_sound).add mhand_sound).add mfin_sound).add mphase_sound).add macc_sound).add eqf_sound).add cnt_sound)
noncomputable abbrev Emq : Env Ab := ⟨tis, [(34, rrmSpec.con), (33, rfnSpec.con), (32, rhnSpec.con), (31, rstSpec.con), (30, rrvSpec.con), (35, raccSpec.con), (29, rmkSpec.con)] ++ Emp.con⟩
theorem emqOk : EnvOk Try.prog AI Emq := (((((((empOk.add rmk_sound).add racc_sound).add rrv_sound).add rst_sound).add rhn_sound).add rfn_sound).add rrm_sound)
theorem RelM.mono {M : Mov} {m : TM} {w n k : Int} (h : RelM M m w n) (hk : n ≤ k) (hk2 : k ≤ 1000000) : RelM M m w k := ⟨h.sz.mono hk hk2, h.ph, h.a, h.b, h.b0, h.pa⟩
structure LMp (L : List TA) (w : Int) where
  i : Int
  M : Mov
  m : TM
  lo : 0 ≤ i
  hi : i ≤ L.length
  rel : RelM M m w (100 * i)
theorem LMp.next {L : List TA} {w i : Int} {M : Mov} {m : TM} (lo : 0 ≤ i) (hi : i < L.length) (h : RelM M m w (100 * i + 100)) : ∃ y : LMp L w, y.i = i + 1 ∧ y.M = M ∧ y.m = m := ⟨⟨i + 1, M, m, by omega, by omega, by rw [show 100 * (i + 1) = 100 * i + 100 by omega]; exact h⟩, rfl, rfl, rfl⟩
structure AllM (M : Mov) (m : TM) (w n : Int) (a : TA) : Prop where
  a0 : ((rcvM M a.2.1 a.2.2.2).1.1 : Int) = (rrvF m a.2.1 a.2.2.2).2.1
  r0 : RelM (rcvM M a.2.1 a.2.2.2).2 (rrvF m a.2.1 a.2.2.2).1 w (n + 100)
  a1 : ((startM M).1.1 : Int) = (rstF m).2.1
  b1 : ((startM M).1.2.1 : Int) = (rstF m).2.2.1
  r1 : RelM (startM M).2 (rstF m).1 w (n + 100)
  a2 : ((handM M).1.1 : List Seg) = (rhnF m).2.1
  b2 : ((handM M).1.2.1 : Int) = (rhnF m).2.2.1
  r2 : RelM (handM M).2 (rhnF m).1 w (n + 100)
  a3 : ((finM M).1.1 : Int) = (rfnF m).2.1
  r3 : RelM (finM M).2 (rfnF m).1 w (n + 100)
  a4 : ((readM M a.2.2.1).1.1 : List Int) = (rrmF m a.2.2.1).2.1
  r4 : RelM (readM M a.2.2.1).2 (rrmF m a.2.2.1).1 w (n + 100)
theorem RelM.all {M : Mov} {m : TM} {w n : Int} (h : RelM M m w n) {a : TA} (hb : inBytes a.2.2.2.2.1) (hl : a.2.2.2.2.1.length ≤ 60) (hw : w ≤ 100) (hn : n + 100 ≤ 1000000) : AllM M m w n a := by
  have h0 := h.rcv a.2.1 hb (Nat.le_trans hl (by decide))
  have h1 := h.start
  have h2 := h.hand
  have h3 := h.fin
  have h4 := h.read (by omega) a.2.2.1
  exact ⟨h0.1, h0.2.mono (by omega) hn, h1.1, h1.2.1, h1.2.2.mono (by omega) hn, h2.1, h2.2.1, h2.2.2.mono (by omega) hn, h3.1, h3.2.mono (by omega) hn, h4.1, h4.2.mono (by omega) hn⟩
theorem five {K : Int} {P0 P1 P2 P3 P4 : Prop} (h0 : P0) (h1 : P1) (h2 : P2) (h3 : P3) (h4 : P4) : (K = 0 ∧ P0) ∨ (K = 1 ∧ P1) ∨ (K = 2 ∧ P2) ∨ (K = 3 ∧ P3) ∨ ((¬ K = 0 ∧ ¬ K = 1 ∧ ¬ K = 2 ∧ ¬ K = 3) ∧ P4) := by
  by_cases k0 : K = 0
  · exact .inl ⟨k0, h0⟩
  by_cases k1 : K = 1
  · exact .inr (.inl ⟨k1, h1⟩)
  by_cases k2 : K = 2
  · exact .inr (.inr (.inl ⟨k2, h2⟩))
  by_cases k3 : K = 3
  · exact .inr (.inr (.inr (.inl ⟨k3, h3⟩)))
  exact .inr (.inr (.inr (.inr ⟨⟨k0, k1, k2, k3⟩, h4⟩)))
def mplF (_ : Int) (_ : List TA) : Tup [DT.cell .bool] := (true, ())
def mplSpec : PureSpec := ⟨[.cell (.int .i64), .lst actE], fun (x : Int × (List TA) × Unit) => x.2.1.length ≤ maxLen ∧ ∀ a ∈ x.2.1, actE.ok a, [.cell .bool], fun (x : Int × (List TA) × Unit) => mplF x.1 x.2.1⟩
theorem mpl_ok (w : Int) (L : List TA) (h : mplSpec.pre (w, L, ())) : TmplOk Try.prog AI 10 (argS mplSpec.ds (fun _ => (w, L, ()))) [] (resOf (svs mplSpec.rs (fun _ => mplSpec.f (w, L, ())))) [] := by
  dsimp only [mplSpec] at h ⊢
  generalize hr : mplF w L = r
  obtain ⟨hL0, hL⟩ := h
  dsimp only [mplF] at hr
  refine tmpl_of_body emqOk mixed (fn := Try.f10) (c := bodyOf Try.f10) (by kernel_rfl) (by kernel_rfl) (by kernel_rfl) (Nat.le_of_ble_eq_true (by kernel_rfl)) ?_
  (try (conv in (LoopInv.inv _ _) => dsimp only)); (try (conv in (SS.mk _ _) => cbv; (try dsimp only [newMovSpec, mrcvSpec, mreadSpec, mstartSpec, mhandSpec, mfinSpec, mphaseSpec, phaseM, maccSpec, accM, eqfSpec, cntSpec, rmkSpec, rmkF, raccSpec, raccF, rrvSpec, rstSpec, rhnSpec, rfnSpec, rrmSpec, Ty.T, Ty.dflt, KT.T]); (try simp only [natCast_eq])))
  (with_reducible refine (?_ : T1 _ ?_) ?_; rotate_left 1; (conv => lhs; cbv; (try cbv); (try cbv)); intro hT; clear hT; with_reducible refine Sh.mk (by kernel_rfl) ?_)
  repeat' (first
    | with_reducible (first | refine Ck.mk (C := tt) tt_intro ?_ | refine Ck.mk (show drawOk _ _ = true by kernel_rfl) ?_ | refine Ck.all_cons ?_ | refine Ck.all_nil ?_ | refine Ck.mk (by assumption) ?_ | refine Ck.mk (decide_eq_true (by assumption)) ?_ | refine Ck.mk (decide_eq_false (by assumption)) ?_ | refine Ck.mk ?_ ?_)
    | (with_reducible (first | refine Both.mk (fun h => ?_) (fun h => ?_) | refine Alt.mk (fun h => ?_) (fun h => ?_) | refine Pick.mk (fun h => ?_) (fun l1 x l2 h => ?_)) <;> (have hk := h) <;> (try simp only [nrm, reduceCtorEq, pair_eta, map_idL] at h) <;> (try dsimp only [newMovSpec, mrcvSpec, mreadSpec, mstartSpec, mhandSpec, mfinSpec, mphaseSpec, phaseM, maccSpec, accM, eqfSpec, cntSpec, rmkSpec, rmkF, raccSpec, raccF, rrvSpec, rstSpec, rhnSpec, rfnSpec, rrmSpec, Ty.T, Ty.dflt, KT.T, getM, putM, delM] at h) <;> (try simp only [natCast_eq] at h) <;> (try simp only [pair_eta, map_idL, map_seg_id, a0, a1, b1, a2, b2, a3, a4, p0, p1, p2, p3, p4, c0, c1, c2, c3, c4] at h) <;> (try (exfalso; first | exact absurd rfl h | exact absurd trivial h | exact absurd kk h | exact absurd h kk.1 | exact absurd h kk.2.1 | exact absurd h kk.2.2.1 | exact absurd h kk.2.2.2 | omega)) <;> (try first | rw [if_pos h] at hr | rw [if_neg h] at hr | rw [ifF h] at hr | rw [ifN h] at hr) <;> (try (have hb : (_ : Bool) = _ := h; clear h; subst hb; (try first | rw [if_pos rfl] at hr | rw [if_neg Bool.false_ne_true] at hr))) <;> first | (exfalso; omega) | exact absurd (h.symm.trans (by assumption) : true = false) Bool.noConfusion | exact absurd (h.symm.trans (by assumption) : false = true) Bool.noConfusion | (with_reducible refine (?_ : T1 _ ?_) ?_; rotate_left 1; (conv => lhs; cbv; (try cbv); (try cbv)); intro hT; clear hT; with_reducible refine Sh.mk (by kernel_rfl) ?_))
    | ((with_reducible refine End.mk ?_); (try ((repeat (first | rw [if_pos (by first | assumption | omega)] at hr | rw [if_neg (by first | assumption | omega | (simp only [Bool.false_eq_true, Bool.true_eq_false, reduceCtorEq, not_false_eq_true]; done) | (simp only [Bool.not_eq_true]; assumption) | (simp only [Bool.not_eq_false]; assumption))] at hr | rw [if_pos rfl] at hr)); subst hr)))
    | with_reducible exact True.intro)
  all_goals first
    | (fail_if_success (with_reducible refine Exists.intro ?_ ?_)
       first
         | with_reducible rfl
         | with_reducible assumption
         | (symm; with_reducible assumption)
         | omega
         | ((try dsimp only [newMovSpec, mrcvSpec, mreadSpec, mstartSpec, mhandSpec, mfinSpec, mphaseSpec, phaseM, maccSpec, accM, eqfSpec, cntSpec, rmkSpec, rmkF, raccSpec, raccF, rrvSpec, rstSpec, rhnSpec, rfnSpec, rrmSpec, Ty.T, Ty.dflt, KT.T, getM, putM, delM, inI64, maxRow]); first | done | with_reducible rfl | with_reducible assumption | (symm; with_reducible assumption) | ((try simp only [natCast_eq, List.nil_append]); first | done | with_reducible rfl | omega | exact take_cg (by omega) | exact drop_cg (by omega) | exact take_drop_cg (by omega) (by omega) | exact take_all (by omega) | exact take_drop_all (by omega) (by omega) | exact drop_take_cg (by omega) (by omega) (by omega)))
         | ((try dsimp only [newMovSpec, mrcvSpec, mreadSpec, mstartSpec, mhandSpec, mfinSpec, mphaseSpec, phaseM, maccSpec, accM, eqfSpec, cntSpec, rmkSpec, rmkF, raccSpec, raccF, rrvSpec, rstSpec, rhnSpec, rfnSpec, rrmSpec, Ty.T, Ty.dflt, KT.T, getM, putM, delM, inI64, maxRow]); first | (simp only [nrm, reduceCtorEq, pair_eta, map_idL, natCast_eq, inI64, maxRow]; first | done | with_reducible assumption | omega) | exact map_pair_id _)
         | ((try dsimp only [newMovSpec, mrcvSpec, mreadSpec, mstartSpec, mhandSpec, mfinSpec, mphaseSpec, phaseM, maccSpec, accM, eqfSpec, cntSpec, rmkSpec, rmkF, raccSpec, raccF, rrvSpec, rstSpec, rhnSpec, rfnSpec, rrmSpec, Ty.T, Ty.dflt, KT.T, getM, putM, delM, inI64, maxRow] at *); first | ((try simp only [natCast_eq] at *) <;> omega) | ((try simp only [lens, natCast_eq] at *) <;> omega))
         | assumption
         | (symm; assumption)
         | (dsimp only; simp only [nrb, *]; done)
         | (simp; done)
         | (and_intros <;> first | trivial | with_reducible assumption | omega)
         | ((try dsimp only [newMovSpec, mrcvSpec, mreadSpec, mstartSpec, mhandSpec, mfinSpec, mphaseSpec, phaseM, maccSpec, accM, eqfSpec, cntSpec, rmkSpec, rmkF, raccSpec, raccF, rrvSpec, rstSpec, rhnSpec, rfnSpec, rrmSpec, Ty.T, Ty.dflt, KT.T, getM, putM, delM, inI64, maxRow] at *) <;> simp [*] <;> done))
    | skip
  have hw : 1 ≤ w ∧ w ≤ 100 := by omega
  have hLn : (L.length : Int) ≤ 40 := by omega
  have hsm := idxG_pos L 0 (Int.le_refl _) (by omega)
  obtain ⟨x0, hx0, hx1, hx2⟩ : ∃ x : LMp L w, x.i = 0 ∧ x.M = newM w ∧ x.m = (0, (w, 0, -1, []), (w, 0, -1, [])) := ⟨⟨0, newM w, _, Int.le_refl _, by omega, RelM.new hw.1 (by omega)⟩, rfl, rfl, rfl⟩
  refine ⟨⟨LMp L w, fun x => ⟨[(5, Sx.one (.ptr 0 0)), (7, Sx.one (.ptr 1 0)), (60, Sx.one (.ro actE (fun _ => L))), (61, Sx.one (.int .i64 (fun _ => L.length))), (62, Sx.one (.int .i64 (fun _ => x.i)))], [.abs (.mov (fun _ => x.M)),
    .cells 64 [.int .i64 (fun _ => x.m.1), .int .i64 (fun _ => x.m.2.1.1), .int .i64 (fun _ => x.m.2.1.2.1), .int .i64 (fun _ => x.m.2.1.2.2.1), .ro kvE (fun _ => x.m.2.1.2.2.2), .int .i64 (fun _ => x.m.2.2.1), .int .i64 (fun _ => x.m.2.2.2.1), .int .i64 (fun _ => x.m.2.2.2.2.1), .ro kvE (fun _ => x.m.2.2.2.2.2)]]⟩, fun x => (L.length - x.i).toNat, x0⟩, ?_, fun (x : LMp L w) => ?_⟩
  · (try (conv in (LoopInv.inv _ _) => dsimp only)); (try (conv in (SS.mk _ _) => cbv; (try dsimp only [newMovSpec, mrcvSpec, mreadSpec, mstartSpec, mhandSpec, mfinSpec, mphaseSpec, phaseM, maccSpec, accM, eqfSpec, cntSpec, rmkSpec, rmkF, raccSpec, raccF, rrvSpec, rstSpec, rhnSpec, rfnSpec, rrmSpec, Ty.T, Ty.dflt, KT.T]); (try simp only [natCast_eq])))
    (with_reducible refine (?_ : T1 _ ?_) ?_; rotate_left 1; (conv => lhs; cbv; (try cbv); (try cbv)); intro hT; clear hT; with_reducible refine Sh.mk (by kernel_rfl) ?_)
    repeat' (first
      | with_reducible (first | refine Ck.mk (C := tt) tt_intro ?_ | refine Ck.mk (show drawOk _ _ = true by kernel_rfl) ?_ | refine Ck.all_cons ?_ | refine Ck.all_nil ?_ | refine Ck.mk (by assumption) ?_ | refine Ck.mk (decide_eq_true (by assumption)) ?_ | refine Ck.mk (decide_eq_false (by assumption)) ?_ | refine Ck.mk ?_ ?_)
      | (with_reducible (first | refine Both.mk (fun h => ?_) (fun h => ?_) | refine Alt.mk (fun h => ?_) (fun h => ?_) | refine Pick.mk (fun h => ?_) (fun l1 x l2 h => ?_)) <;> (have hk := h) <;> (try simp only [nrm, reduceCtorEq, pair_eta, map_idL] at h) <;> (try dsimp only [newMovSpec, mrcvSpec, mreadSpec, mstartSpec, mhandSpec, mfinSpec, mphaseSpec, phaseM, maccSpec, accM, eqfSpec, cntSpec, rmkSpec, rmkF, raccSpec, raccF, rrvSpec, rstSpec, rhnSpec, rfnSpec, rrmSpec, Ty.T, Ty.dflt, KT.T, getM, putM, delM] at h) <;> (try simp only [natCast_eq] at h) <;> (try simp only [pair_eta, map_idL, map_seg_id, a0, a1, b1, a2, b2, a3, a4, p0, p1, p2, p3, p4, c0, c1, c2, c3, c4] at h) <;> (try (exfalso; first | exact absurd rfl h | exact absurd trivial h | exact absurd kk h | exact absurd h kk.1 | exact absurd h kk.2.1 | exact absurd h kk.2.2.1 | exact absurd h kk.2.2.2 | omega)) <;> (try first | rw [if_pos h] at hr | rw [if_neg h] at hr | rw [ifF h] at hr | rw [ifN h] at hr) <;> (try (have hb : (_ : Bool) = _ := h; clear h; subst hb; (try first | rw [if_pos rfl] at hr | rw [if_neg Bool.false_ne_true] at hr))) <;> first | (exfalso; omega) | exact absurd (h.symm.trans (by assumption) : true = false) Bool.noConfusion | exact absurd (h.symm.trans (by assumption) : false = true) Bool.noConfusion | (with_reducible refine (?_ : T1 _ ?_) ?_; rotate_left 1; (conv => lhs; cbv; (try cbv); (try cbv)); intro hT; clear hT; with_reducible refine Sh.mk (by kernel_rfl) ?_))
      | ((with_reducible refine End.mk ?_); skip)
      | with_reducible exact True.intro)
    all_goals first
      | (fail_if_success (with_reducible refine Exists.intro ?_ ?_)
         first
           | with_reducible rfl
           | with_reducible assumption
           | (symm; with_reducible assumption)
           | omega
           | ((try dsimp only [newMovSpec, mrcvSpec, mreadSpec, mstartSpec, mhandSpec, mfinSpec, mphaseSpec, phaseM, maccSpec, accM, eqfSpec, cntSpec, rmkSpec, rmkF, raccSpec, raccF, rrvSpec, rstSpec, rhnSpec, rfnSpec, rrmSpec, Ty.T, Ty.dflt, KT.T, getM, putM, delM, inI64, maxRow]); first | done | with_reducible rfl | with_reducible assumption | (symm; with_reducible assumption) | ((try simp only [natCast_eq, List.nil_append]); first | done | with_reducible rfl | omega | exact take_cg (by omega) | exact drop_cg (by omega) | exact take_drop_cg (by omega) (by omega) | exact take_all (by omega) | exact take_drop_all (by omega) (by omega) | exact drop_take_cg (by omega) (by omega) (by omega)))
           | first | exact hx0.symm | exact hx1.symm | (rw [hx2]; rfl) | (rw [hx2]; done)
           | ((try dsimp only [newMovSpec, mrcvSpec, mreadSpec, mstartSpec, mhandSpec, mfinSpec, mphaseSpec, phaseM, maccSpec, accM, eqfSpec, cntSpec, rmkSpec, rmkF, raccSpec, raccF, rrvSpec, rstSpec, rhnSpec, rfnSpec, rrmSpec, Ty.T, Ty.dflt, KT.T, getM, putM, delM, inI64, maxRow]); first | (simp only [nrm, reduceCtorEq, pair_eta, map_idL, natCast_eq, inI64, maxRow]; first | done | with_reducible assumption | omega) | exact map_pair_id _)
           | ((try dsimp only [newMovSpec, mrcvSpec, mreadSpec, mstartSpec, mhandSpec, mfinSpec, mphaseSpec, phaseM, maccSpec, accM, eqfSpec, cntSpec, rmkSpec, rmkF, raccSpec, raccF, rrvSpec, rstSpec, rhnSpec, rfnSpec, rrmSpec, Ty.T, Ty.dflt, KT.T, getM, putM, delM, inI64, maxRow] at *); first | ((try simp only [natCast_eq] at *) <;> omega) | ((try simp only [lens, natCast_eq] at *) <;> omega))
           | assumption
           | (symm; assumption)
           | (dsimp only; simp only [nrb, *]; done)
           | (simp; done)
           | (and_intros <;> first | trivial | with_reducible assumption | omega)
           | ((try dsimp only [newMovSpec, mrcvSpec, mreadSpec, mstartSpec, mhandSpec, mfinSpec, mphaseSpec, phaseM, maccSpec, accM, eqfSpec, cntSpec, rmkSpec, rmkF, raccSpec, raccF, rrvSpec, rstSpec, rhnSpec, rfnSpec, rrmSpec, Ty.T, Ty.dflt, KT.T, getM, putM, delM, inI64, maxRow] at *) <;> simp [*] <;> done))
      | skip
  clear hx0 hx1 hx2
  obtain ⟨i, M, m, hlo, hhi, hrel⟩ := x
  by_cases hi : i < (L.length : Int)
  · have hb := el_byt hL hlo hi
    have hl : (elA L i).2.2.2.2.1.length ≤ 60 := by
      apply hsm
      rw [elA, List.getD_eq_getElem?_getD, List.getElem?_eq_getElem (by omega)]
      exact List.getElem_mem _
    obtain ⟨a0, r0, a1, b1, r1, a2, b2, r2, a3, r3, a4, r4⟩ := hrel.all hb hl hw.2 (by omega)
    have p0 := r0.ph.symm; have p1 := r1.ph.symm; have p2 := r2.ph.symm; have p3 := r3.ph.symm; have p4 := r4.ph.symm
    have c0 := r0.acc (elA L i).2.1; have c1 := r1.acc (elA L i).2.1; have c2 := r2.acc (elA L i).2.1; have c3 := r3.acc (elA L i).2.1; have c4 := r4.acc (elA L i).2.1
    dsimp only [elA] at a0 a4 p0 p4 c0 c1 c2 c3 c4
    have hs2 := hand_segs2 hrel.sz
    have hs6 := hand_segs hrel.sz
    have hs5 : (((handM M).1.1 : List Seg).length ≤ 2097152 ∧ ∀ s ∈ ((handM M).1.1 : List Seg), inBytes s.2.1) ∧ ∀ s ∈ (rhnF m).2.1, inBytes s.2.1 := ⟨hs6.1, by rw [← a2]; exact hs6.2⟩
    have hs3 : ((mpS (handM M).1.1).length ≤ 2097152 ∧ ∀ s ∈ mpS (handM M).1.1, inBytes s.2.1) ∧ ∀ s ∈ mpS (rhnF m).2.1, inBytes s.2.1 := ⟨hs2.1, by rw [← a2]; exact hs2.2⟩
    have hs4 : inBytes (readM M (elA L i).2.2.1).1.1 ∧ inBytes (rrmF m (elA L i).2.2.1).2.1 := ⟨(m_byt hrel.sz _).1, by rw [show (rrmF m (elA L i).2.2.1).2.1 = _ from a4.symm]; exact (m_byt hrel.sz _).1⟩
    rcases five (K := (elA L i).1) r0 r1 r2 r3 r4 with ⟨kk, rr⟩ | ⟨kk, rr⟩ | ⟨kk, rr⟩ | ⟨kk, rr⟩ | ⟨kk, rr⟩
    all_goals
      (dsimp only [elA] at kk
       (try (conv in (LoopInv.inv _ _) => dsimp only)); (try (conv in (SS.mk _ _) => cbv; (try dsimp only [newMovSpec, mrcvSpec, mreadSpec, mstartSpec, mhandSpec, mfinSpec, mphaseSpec, phaseM, maccSpec, accM, eqfSpec, cntSpec, rmkSpec, rmkF, raccSpec, raccF, rrvSpec, rstSpec, rhnSpec, rfnSpec, rrmSpec, Ty.T, Ty.dflt, KT.T]); (try simp only [natCast_eq])))
       (with_reducible refine (?_ : T1 _ ?_) ?_; rotate_left 1; (conv => lhs; cbv; (try cbv); (try cbv)); intro hT; clear hT; with_reducible refine Sh.mk (by kernel_rfl) ?_)
       repeat' (first
         | with_reducible (first | refine Ck.mk (C := tt) tt_intro ?_ | refine Ck.mk (show drawOk _ _ = true by kernel_rfl) ?_ | refine Ck.all_cons ?_ | refine Ck.all_nil ?_ | refine Ck.mk (by assumption) ?_ | refine Ck.mk (decide_eq_true (by assumption)) ?_ | refine Ck.mk (decide_eq_false (by assumption)) ?_ | refine Ck.mk ?_ ?_)
         | (with_reducible (first | refine Both.mk (fun h => ?_) (fun h => ?_) | refine Alt.mk (fun h => ?_) (fun h => ?_) | refine Pick.mk (fun h => ?_) (fun l1 x l2 h => ?_)) <;> (have hk := h) <;> (try simp only [nrm, reduceCtorEq, pair_eta, map_idL] at h) <;> (try dsimp only [newMovSpec, mrcvSpec, mreadSpec, mstartSpec, mhandSpec, mfinSpec, mphaseSpec, phaseM, maccSpec, accM, eqfSpec, cntSpec, rmkSpec, rmkF, raccSpec, raccF, rrvSpec, rstSpec, rhnSpec, rfnSpec, rrmSpec, Ty.T, Ty.dflt, KT.T, getM, putM, delM] at h) <;> (try simp only [natCast_eq] at h) <;> (try simp only [pair_eta, map_idL, map_seg_id, a0, a1, b1, a2, b2, a3, a4, p0, p1, p2, p3, p4, c0, c1, c2, c3, c4] at h) <;> (try (exfalso; first | exact absurd rfl h | exact absurd trivial h | exact absurd kk h | exact absurd h kk.1 | exact absurd h kk.2.1 | exact absurd h kk.2.2.1 | exact absurd h kk.2.2.2 | omega)) <;> (try first | rw [if_pos h] at hr | rw [if_neg h] at hr | rw [ifF h] at hr | rw [ifN h] at hr) <;> (try (have hb : (_ : Bool) = _ := h; clear h; subst hb; (try first | rw [if_pos rfl] at hr | rw [if_neg Bool.false_ne_true] at hr))) <;> first | (exfalso; omega) | exact absurd (h.symm.trans (by assumption) : true = false) Bool.noConfusion | exact absurd (h.symm.trans (by assumption) : false = true) Bool.noConfusion | (with_reducible refine (?_ : T1 _ ?_) ?_; rotate_left 1; (conv => lhs; cbv; (try cbv); (try cbv)); intro hT; clear hT; with_reducible refine Sh.mk (by kernel_rfl) ?_))
         | ((with_reducible refine End.mk ?_); skip)
         | with_reducible exact True.intro)
       all_goals first
         | (fail_if_success (with_reducible refine Exists.intro ?_ ?_)
            first
              | with_reducible rfl
              | with_reducible assumption
              | (symm; with_reducible assumption)
              | omega
              | ((try dsimp only [newMovSpec, mrcvSpec, mreadSpec, mstartSpec, mhandSpec, mfinSpec, mphaseSpec, phaseM, maccSpec, accM, eqfSpec, cntSpec, rmkSpec, rmkF, raccSpec, raccF, rrvSpec, rstSpec, rhnSpec, rfnSpec, rrmSpec, Ty.T, Ty.dflt, KT.T, getM, putM, delM, inI64, maxRow]); first | done | with_reducible rfl | with_reducible assumption | (symm; with_reducible assumption) | ((try simp only [natCast_eq, List.nil_append]); first | done | with_reducible rfl | omega | exact take_cg (by omega) | exact drop_cg (by omega) | exact take_drop_cg (by omega) (by omega) | exact take_all (by omega) | exact take_drop_all (by omega) (by omega) | exact drop_take_cg (by omega) (by omega) (by omega)))
              | first | exact ⟨⟨hrel.pa, hrel.pb⟩, Nat.le_trans hl (by decide)⟩ | exact ⟨hrel.sz.ok, Nat.le_trans hl (by decide)⟩ | exact hrel.sz.pS | exact hrel.handok | exact hrel.sz.pH | exact hs3 | exact hrel.sz.ok | exact ⟨hrel.pa, hrel.pb⟩ | exact hs4 | ((try dsimp only [Ty.T, Ty.dflt]); (try simp only [pair_eta, map_idL, map_seg_id]); first | exact ⟨⟨hrel.pa, hrel.pb⟩, Nat.le_trans hl (by decide)⟩ | exact hrel.handok | exact ⟨hrel.pa, hrel.pb⟩ | exact hs5 | exact hs4)
              | ((try dsimp only [newMovSpec, mrcvSpec, mreadSpec, mstartSpec, mhandSpec, mfinSpec, mphaseSpec, phaseM, maccSpec, accM, eqfSpec, cntSpec, rmkSpec, rmkF, raccSpec, raccF, rrvSpec, rstSpec, rhnSpec, rfnSpec, rrmSpec, Ty.T, Ty.dflt, KT.T, getM, putM, delM, inI64, maxRow]); first | (simp only [nrm, reduceCtorEq, pair_eta, map_idL, natCast_eq, inI64, maxRow]; first | done | with_reducible assumption | omega) | exact map_pair_id _)
              | ((try dsimp only [newMovSpec, mrcvSpec, mreadSpec, mstartSpec, mhandSpec, mfinSpec, mphaseSpec, phaseM, maccSpec, accM, eqfSpec, cntSpec, rmkSpec, rmkF, raccSpec, raccF, rrvSpec, rstSpec, rhnSpec, rfnSpec, rrmSpec, Ty.T, Ty.dflt, KT.T, getM, putM, delM, inI64, maxRow] at *); first | ((try simp only [natCast_eq] at *) <;> omega) | ((try simp only [lens, natCast_eq] at *) <;> omega))
              | assumption
              | (symm; assumption)
              | (dsimp only; simp only [nrb, *]; done)
              | (simp; done)
              | (and_intros <;> first | trivial | with_reducible assumption | omega)
              | ((try dsimp only [newMovSpec, mrcvSpec, mreadSpec, mstartSpec, mhandSpec, mfinSpec, mphaseSpec, phaseM, maccSpec, accM, eqfSpec, cntSpec, rmkSpec, rmkF, raccSpec, raccF, rrvSpec, rstSpec, rhnSpec, rfnSpec, rrmSpec, Ty.T, Ty.dflt, KT.T, getM, putM, delM, inI64, maxRow] at *) <;> simp [*] <;> done))
         | skip
       all_goals
         (refine Exists.elim (LMp.next (L := L) hlo hi rr) ?_
          rintro y ⟨hy0, hy1, hy2⟩
          refine ⟨y, by (try dsimp only); (try simp only [natCast_eq]); omega, ?_⟩
          (try (conv in (LoopInv.inv _ _) => dsimp only)); (try (conv in (SS.mk _ _) => cbv; (try dsimp only [newMovSpec, mrcvSpec, mreadSpec, mstartSpec, mhandSpec, mfinSpec, mphaseSpec, phaseM, maccSpec, accM, eqfSpec, cntSpec, rmkSpec, rmkF, raccSpec, raccF, rrvSpec, rstSpec, rhnSpec, rfnSpec, rrmSpec, Ty.T, Ty.dflt, KT.T]); (try simp only [natCast_eq])))
          (with_reducible refine (?_ : T1 _ ?_) ?_; rotate_left 1; (conv => lhs; cbv; (try cbv); (try cbv)); intro hT; clear hT; with_reducible refine Sh.mk (by kernel_rfl) ?_)
          repeat' (first
            | with_reducible (first | refine Ck.mk (C := tt) tt_intro ?_ | refine Ck.mk (show drawOk _ _ = true by kernel_rfl) ?_ | refine Ck.all_cons ?_ | refine Ck.all_nil ?_ | refine Ck.mk (by assumption) ?_ | refine Ck.mk (decide_eq_true (by assumption)) ?_ | refine Ck.mk (decide_eq_false (by assumption)) ?_ | refine Ck.mk ?_ ?_)
            | (with_reducible (first | refine Both.mk (fun h => ?_) (fun h => ?_) | refine Alt.mk (fun h => ?_) (fun h => ?_) | refine Pick.mk (fun h => ?_) (fun l1 x l2 h => ?_)) <;> (have hk := h) <;> (try simp only [nrm, reduceCtorEq, pair_eta, map_idL] at h) <;> (try dsimp only [newMovSpec, mrcvSpec, mreadSpec, mstartSpec, mhandSpec, mfinSpec, mphaseSpec, phaseM, maccSpec, accM, eqfSpec, cntSpec, rmkSpec, rmkF, raccSpec, raccF, rrvSpec, rstSpec, rhnSpec, rfnSpec, rrmSpec, Ty.T, Ty.dflt, KT.T, getM, putM, delM] at h) <;> (try simp only [natCast_eq] at h) <;> (try simp only [pair_eta, map_idL, map_seg_id, a0, a1, b1, a2, b2, a3, a4, p0, p1, p2, p3, p4, c0, c1, c2, c3, c4] at h) <;> (try (exfalso; first | exact absurd rfl h | exact absurd trivial h | exact absurd kk h | exact absurd h kk.1 | exact absurd h kk.2.1 | exact absurd h kk.2.2.1 | exact absurd h kk.2.2.2 | omega)) <;> (try first | rw [if_pos h] at hr | rw [if_neg h] at hr | rw [ifF h] at hr | rw [ifN h] at hr) <;> (try (have hb : (_ : Bool) = _ := h; clear h; subst hb; (try first | rw [if_pos rfl] at hr | rw [if_neg Bool.false_ne_true] at hr))) <;> first | (exfalso; omega) | exact absurd (h.symm.trans (by assumption) : true = false) Bool.noConfusion | exact absurd (h.symm.trans (by assumption) : false = true) Bool.noConfusion | (with_reducible refine (?_ : T1 _ ?_) ?_; rotate_left 1; (conv => lhs; cbv; (try cbv); (try cbv)); intro hT; clear hT; with_reducible refine Sh.mk (by kernel_rfl) ?_))
            | ((with_reducible refine End.mk ?_); skip)
            | with_reducible exact True.intro)
          all_goals (first | rfl | exact hy0.symm | exact hy1.symm | ((try dsimp only); (try simp only [pair_eta, map_idL]); first | done | (rw [hy1]; done) | (rw [hy2]; done) | (rw [hy2]; rfl)))))
  · skip
    (try (conv in (LoopInv.inv _ _) => dsimp only)); (try (conv in (SS.mk _ _) => cbv; (try dsimp only [newMovSpec, mrcvSpec, mreadSpec, mstartSpec, mhandSpec, mfinSpec, mphaseSpec, phaseM, maccSpec, accM, eqfSpec, cntSpec, rmkSpec, rmkF, raccSpec, raccF, rrvSpec, rstSpec, rhnSpec, rfnSpec, rrmSpec, Ty.T, Ty.dflt, KT.T]); (try simp only [natCast_eq])))
    (with_reducible refine (?_ : T1 _ ?_) ?_; rotate_left 1; (conv => lhs; cbv; (try cbv); (try cbv)); intro hT; clear hT; with_reducible refine Sh.mk (by kernel_rfl) ?_)
    repeat' (first
      | with_reducible (first | refine Ck.mk (C := tt) tt_intro ?_ | refine Ck.mk (show drawOk _ _ = true by kernel_rfl) ?_ | refine Ck.all_cons ?_ | refine Ck.all_nil ?_ | refine Ck.mk (by assumption) ?_ | refine Ck.mk (decide_eq_true (by assumption)) ?_ | refine Ck.mk (decide_eq_false (by assumption)) ?_ | refine Ck.mk ?_ ?_)
      | (with_reducible (first | refine Both.mk (fun h => ?_) (fun h => ?_) | refine Alt.mk (fun h => ?_) (fun h => ?_) | refine Pick.mk (fun h => ?_) (fun l1 x l2 h => ?_)) <;> (have hk := h) <;> (try simp only [nrm, reduceCtorEq, pair_eta, map_idL] at h) <;> (try dsimp only [newMovSpec, mrcvSpec, mreadSpec, mstartSpec, mhandSpec, mfinSpec, mphaseSpec, phaseM, maccSpec, accM, eqfSpec, cntSpec, rmkSpec, rmkF, raccSpec, raccF, rrvSpec, rstSpec, rhnSpec, rfnSpec, rrmSpec, Ty.T, Ty.dflt, KT.T, getM, putM, delM] at h) <;> (try simp only [natCast_eq] at h) <;> (try simp only [pair_eta, map_idL, map_seg_id, a0, a1, b1, a2, b2, a3, a4, p0, p1, p2, p3, p4, c0, c1, c2, c3, c4] at h) <;> (try (exfalso; first | exact absurd rfl h | exact absurd trivial h | exact absurd kk h | exact absurd h kk.1 | exact absurd h kk.2.1 | exact absurd h kk.2.2.1 | exact absurd h kk.2.2.2 | omega)) <;> (try first | rw [if_pos h] at hr | rw [if_neg h] at hr | rw [ifF h] at hr | rw [ifN h] at hr) <;> (try (have hb : (_ : Bool) = _ := h; clear h; subst hb; (try first | rw [if_pos rfl] at hr | rw [if_neg Bool.false_ne_true] at hr))) <;> first | (exfalso; omega) | exact absurd (h.symm.trans (by assumption) : true = false) Bool.noConfusion | exact absurd (h.symm.trans (by assumption) : false = true) Bool.noConfusion | (with_reducible refine (?_ : T1 _ ?_) ?_; rotate_left 1; (conv => lhs; cbv; (try cbv); (try cbv)); intro hT; clear hT; with_reducible refine Sh.mk (by kernel_rfl) ?_))
      | ((with_reducible refine End.mk ?_); (try ((repeat (first | rw [if_pos (by first | assumption | omega)] at hr | rw [if_neg (by first | assumption | omega | (simp only [Bool.false_eq_true, Bool.true_eq_false, reduceCtorEq, not_false_eq_true]; done) | (simp only [Bool.not_eq_true]; assumption) | (simp only [Bool.not_eq_false]; assumption))] at hr | rw [if_pos rfl] at hr)); subst hr)))
      | with_reducible exact True.intro)
    all_goals first
      | (fail_if_success (with_reducible refine Exists.intro ?_ ?_)
         first
           | with_reducible rfl
           | with_reducible assumption
           | (symm; with_reducible assumption)
           | omega
           | ((try dsimp only [newMovSpec, mrcvSpec, mreadSpec, mstartSpec, mhandSpec, mfinSpec, mphaseSpec, phaseM, maccSpec, accM, eqfSpec, cntSpec, rmkSpec, rmkF, raccSpec, raccF, rrvSpec, rstSpec, rhnSpec, rfnSpec, rrmSpec, Ty.T, Ty.dflt, KT.T, getM, putM, delM, inI64, maxRow]); first | done | with_reducible rfl | with_reducible assumption | (symm; with_reducible assumption) | ((try simp only [natCast_eq, List.nil_append]); first | done | with_reducible rfl | omega | exact take_cg (by omega) | exact drop_cg (by omega) | exact take_drop_cg (by omega) (by omega) | exact take_all (by omega) | exact take_drop_all (by omega) (by omega) | exact drop_take_cg (by omega) (by omega) (by omega)))
           | ((try dsimp only [newMovSpec, mrcvSpec, mreadSpec, mstartSpec, mhandSpec, mfinSpec, mphaseSpec, phaseM, maccSpec, accM, eqfSpec, cntSpec, rmkSpec, rmkF, raccSpec, raccF, rrvSpec, rstSpec, rhnSpec, rfnSpec, rrmSpec, Ty.T, Ty.dflt, KT.T, getM, putM, delM, inI64, maxRow]); first | (simp only [nrm, reduceCtorEq, pair_eta, map_idL, natCast_eq, inI64, maxRow]; first | done | with_reducible assumption | omega) | exact map_pair_id _)
           | ((try dsimp only [newMovSpec, mrcvSpec, mreadSpec, mstartSpec, mhandSpec, mfinSpec, mphaseSpec, phaseM, maccSpec, accM, eqfSpec, cntSpec, rmkSpec, rmkF, raccSpec, raccF, rrvSpec, rstSpec, rhnSpec, rfnSpec, rrmSpec, Ty.T, Ty.dflt, KT.T, getM, putM, delM, inI64, maxRow] at *); first | ((try simp only [natCast_eq] at *) <;> omega) | ((try simp only [lens, natCast_eq] at *) <;> omega))
           | assumption
           | (symm; assumption)
           | (dsimp only; simp only [nrb, *]; done)
           | (simp; done)
           | (and_intros <;> first | trivial | with_reducible assumption | omega)
           | ((try dsimp only [newMovSpec, mrcvSpec, mreadSpec, mstartSpec, mhandSpec, mfinSpec, mphaseSpec, phaseM, maccSpec, accM, eqfSpec, cntSpec, rmkSpec, rmkF, raccSpec, raccF, rrvSpec, rstSpec, rhnSpec, rfnSpec, rrmSpec, Ty.T, Ty.dflt, KT.T, getM, putM, delM, inI64, maxRow] at *) <;> simp [*] <;> done))
      | skip
    skip
theorem mpl_sound : ConSound Try.prog AI 10 mplSpec.con := PureSpec.sound Try.call10 (fun x h => mpl_ok x.1 x.2.1 h)
end Go.Proofs.Ytgdiepbjdpmfbaa
