/-
  Layer 47: SessionRestart, the walk.
-/
import Derived.Test.YtldabjgegpmmiaaRtt
import Derived.Test.YtldabjgegpmmiaaEvt
import Derived.Test.YtldabjgegpmmiaaEng3
namespace Go.Proofs.Ytldabjgegpmmiaa
set_option linter.all false
set_option linter.unusedVariables false
set_option linter.unusedSimpArgs false
set_option linter.unusedSectionVars false
open Go.RowKit Go.Sx
set_option maxRecDepth 100000
set_option maxHeartbeats 16000000
abbrev lp : List Nat := [0, 1, 9, 3, 4, 5, 6, 7, 10, 2, 8]
abbrev mp : List Nat := [0, 1, 9, 3, 4, 5, 6, 7, 10, 2, 8]
noncomputable abbrev Ert2 : Env Ab := ⟨tis, [(28, frzCon ewrSpec.con), (29, eclSpec.con), (22, erdSpec.con), (23, erpSpec.con), (17, estSpec.con), (27, connSpec.con), (26, newESpec.con), (14, permCon lp mp parSpec.con), (13, permCon lp mp ptickSpec.con), (16, pcalSpec.con), (24, pevSpec.con), (12, conSpec.con), (11, awakeSpec.con)] ++ E0.con⟩
theorem ert2Ok : EnvOk Try.prog AI Ert2 := (((((((((((((e0Ok.add awake_sound).add con_sound).add pev_sound).add pcal_sound).add (permCon_sound lp mp ptick_sound)).add (permCon_sound lp mp par_sound)).add newE_sound).add conn_sound).add est_sound).add erp_sound).add erd_sound).add ecl_sound).add (frzCon_sound ewr_sound))
/-- The pair with its fresh end. -/
def rsC (x : U Pr) (old : List Int) : List (Chunk Ab) := [.cells 37 [.ptr 1 0, .ptr 9 0, .hd 3 0, .hd 4 0, .hd 5 0, .hd 6 0, .hd 7 0, .hd 10 0, .sb (fun _ => (x ()).n0), .sb (fun _ => (x ()).n1)],
  .abs (.edd (fun _ => (x ()).e0)), .gone, .row 47 msgE 0 (fun _ => (x ()).f0), .row 47 msgE 0 (fun _ => (x ()).f1),
  .row 5 (.int .u8) 0 (fun _ => (x ()).w0), .row 5 (.int .u8) 0 (fun _ => (x ()).w1), .row 5 (.int .u8) 0 (fun _ => (x ()).r0), .row 5 (.int .u8) 0 (fun _ => old), .abs (.edd (fun _ => (x ()).e1)), .row 5 (.int .u8) 0 (fun _ => (x ()).r1)]
structure LRs (L : List Int) (w : Int) where
  i : Int
  S : Pr
  lo : 0 ≤ i
  hi : i ≤ L.length
  pp : PP (1 + w % 16) (1 + w / 16 % 16) S
  good : GoodP S (12 + 4 * i.toNat) (600 + 100 * i.toNat)
  qx : QX false S
  jb : Jb S
theorem LRs.next {L : List Int} {w i : Int} {S : Pr} (lo : 0 ≤ i) (h : i < L.length) (hp : PP (1 + w % 16) (1 + w / 16 % 16) S) (hg : GoodP S (12 + 4 * i.toNat) (600 + 100 * i.toNat)) (hq : QX false S) (hj : Jb S) {e : Int} (he : 0 ≤ e ∧ e ≤ 255) : ∃ y : LRs L w, y.i = i + 1 ∧ y.S = (evtF S e).2 :=
  ⟨⟨i + 1, (evtF S e).2, by omega, by omega, hp.evt hg he, (hg.evt he).1.mono (by omega) (by omega), hq.evt hp e, Jb.evt hp hj e⟩, rfl, rfl⟩
theorem pcal_N (S : Pr) (t : Int) (n : Nat) (h : t.toNat = n) : (pcalF S t).2 = calN n S := by rw [← h]; rfl
theorem QX.calN {u v : Int} {S : Pr} (hp : PP u v S) (h : QX false S) : ∀ n : Nat, QX false (Go.Proofs.Ytldabjgegpmmiaa.calN n S)
  | 0 => h
  | n + 1 => QX.calR (hp.calN n) (QX.calN hp h n)
theorem LRs.mk0 {L : List Int} {w : Int} (T : Pr) (pp : PP (1 + w % 16) (1 + w / 16 % 16) T) (good : GoodP T 12 600) (qx : QX false T) (jb : Jb T) : ∃ y : LRs L w, y.i = 0 ∧ y.S = T :=
  ⟨⟨0, T, Int.le_refl _, by omega, pp, good.mono (by omega) (by omega), qx, jb⟩, rfl, rfl⟩
theorem LRs.newG {L : List Int} {w : Int} (S : Pr) (pp : PP (1 + w % 16) (1 + w / 16 % 16) S) (hg : GoodP S 0 0) (qx : QX false S) (jb : Jb (Go.Proofs.Ytldabjgegpmmiaa.calN 3 S)) : ∃ y : LRs L w, y.i = 0 ∧ y.S = (pcalF S 3).2 := by
  rw [pcal_N S 3 3 rfl]
  exact LRs.mk0 _ (pp.calN 3) ((hg.calN 3).mono (by omega) (by omega)) (QX.calN pp qx 3) jb
theorem LRs.new (L : List Int) (w : Int) : ∃ y : LRs L w, y.i = 0 ∧ y.S = (pcalF (conP w 1) 3).2 := LRs.newG (conP w 1) (PP.new w 1) (conP_good w 1) (QX.new w 1) (joined3 w)
theorem byteOf {L : List Int} (hL : inBytes L) {i : Int} (h0 : 0 ≤ i) (hi : i < L.length) : 0 ≤ L.getD i.toNat 0 ∧ L.getD i.toNat 0 ≤ 255 := by
  have h : L.getD i.toNat 0 ∈ L := by
    rw [List.getD_eq_getElem?_getD, List.getElem?_eq_getElem (by omega)]
    exact List.getElem_mem _
  have := hL _ h
  omega
/-- The rounds. -/
structure LRt (N : Int) (W : List Int) where
  i : Nat
  S : Pr
  hi : i ≤ 8
  rr : RR N S (252 + 4 * i)
  w : S.w0 = W
  br : (i = 0 ∧ S.e1.st = 1 ∧ S.e1.wait = 0) ∨ Br N S (320 - 40 * i)
structure LRu (N : Int) (W : List Int) (i : Nat) where
  j : Nat
  S : Pr
  hj : j ≤ 40
  rr : RR N S (252 + 4 * i + 4)
  w : S.w0 = W
  br : Br N S (320 - 40 * i - j)
theorem LRt.tick {N : Int} {W : List Int} (hN : 21 ≤ N ∧ N < 1000) (x : LRt N W) : ∃ z : LRu N W x.i, (z.j : Int) = 0 ∧ z.S = (ptickF x.S 9).2 := by
  obtain ⟨h1, h2⟩ := x.rr.tick hN
  have hi := x.hi
  refine ⟨⟨0, (ptickF x.S 9).2, Nat.zero_le _, h1, x.w, ?_⟩, rfl, rfl⟩
  rcases x.br with ⟨q1, q2⟩ | q
  · have := rstP_br hN x.rr (by omega) q2
    rw [q1]; exact this
  · exact h2 _ (by show Br N x.S (320 - 40 * (x.i : Int) - ((0 : Nat) : Int)); rw [Int.natCast_zero, Int.sub_zero]; exact q)
theorem LRu.next {N : Int} {W : List Int} {i : Nat} (hN : 21 ≤ N ∧ N < 1000) (z : LRu N W i) (h : (z.j : Int) < 40) : ∃ y : LRu N W i, (y.j : Int) = z.j + 1 ∧ y.S = (paF (paF z.S 0 0 false).2 1 0 false).2 := by
  obtain ⟨a1, a2, a3⟩ := z.rr.arrA hN
  obtain ⟨b1, b2, b3⟩ := a1.arrB hN
  refine ⟨⟨z.j + 1, _, by omega, b1, (b2.trans a2).trans z.w, ?_⟩, by show ((z.j + 1 : Nat) : Int) = _; omega, rfl⟩
  have := b3 _ (a3 _ z.br)
  rw [show (320 - 40 * (i : Int) - ((z.j + 1 : Nat) : Int)) = 320 - 40 * (i : Int) - z.j - 1 by omega]
  exact this
theorem LRt.next {N : Int} {W : List Int} (x : LRt N W) (h : (x.i : Int) < 8) (z : LRu N W x.i) (hz : ¬ (z.j : Int) < 40) : ∃ y : LRt N W, (y.i : Int) = x.i + 1 ∧ y.S = z.S := by
  have hj := z.hj
  refine ⟨⟨x.i + 1, z.S, by omega, by have := z.rr; rwa [show 252 + 4 * (x.i + 1) = 252 + 4 * x.i + 4 by omega], z.w, .inr ?_⟩, by show ((x.i + 1 : Nat) : Int) = _; omega, rfl⟩
  have := z.br
  rw [show (320 - 40 * ((x.i + 1 : Nat) : Int)) = 320 - 40 * (x.i : Int) - z.j by omega]
  exact this
theorem LRt.fin {N : Int} {W : List Int} (x : LRt N W) (h : ¬ (x.i : Int) < 8) : RtE x.S := by
  have hi := x.hi
  refine x.rr.fin ?_
  rcases x.br with ⟨q, _⟩ | q
  · omega
  · rw [show (320 - 40 * (x.i : Int)) = 0 by omega] at q; exact q
def rtwF (_ : Int) (_ : List Int) (_ : Int) : Tup [DT.cell .bool] := (true, ())
def rtwSpec : PureSpec := ⟨[.cell (.int .u8), .lst (.int .u8), .cell (.int .u8)], fun (x : Int × (List Int) × Int × Unit) => (0 ≤ x.1 ∧ x.1 ≤ 255) ∧ (inBytes x.2.1 ∧ x.2.1.length ≤ maxLen) ∧ 0 ≤ x.2.2.1 ∧ x.2.2.1 ≤ 255, [.cell .bool], fun (x : Int × (List Int) × Int × Unit) => rtwF x.1 x.2.1 x.2.2.1⟩
theorem rtw_ok (w : Int) (L : List Int) (mo : Int) (h : rtwSpec.pre (w, L, mo, ())) : TmplOk Try.prog AI 7 (argS rtwSpec.ds (fun _ => (w, L, mo, ()))) [] (resOf (svs rtwSpec.rs (fun _ => rtwSpec.f (w, L, mo, ())))) [] := by
  dsimp only [rtwSpec] at h ⊢
  generalize hr : rtwF w L mo = r
  obtain ⟨hw, ⟨hL, hL0⟩, hm1, hm2⟩ := h
  dsimp only [rtwF] at hr
  refine tmpl_of_body ert2Ok mixed (fn := Try.f7) (c := bodyOf Try.f7) (by kernel_rfl) (by kernel_rfl) (by kernel_rfl) (Nat.le_of_ble_eq_true (by kernel_rfl)) ?_
  (try (conv in (LoopInv.inv _ _) => dsimp only)); (try (conv in (SS.mk _ _) => cbv; (try dsimp only [conSpec, estSpec, estF, ptickSpec, parSpec, erpSpec, erpF, erdSpec, eclSpec, ewrSpec, newESpec, connSpec, Ty.T, Ty.dflt, KT.T]); (try simp only [natCast_eq])))
  (with_reducible refine (?_ : T1 _ ?_) ?_; rotate_left 1; (conv => lhs; cbv; (try cbv); (try cbv)); intro hT; clear hT; with_reducible refine Sh.mk (by kernel_rfl) ?_)
  repeat' (first
    | with_reducible (first | refine Ck.mk (C := tt) tt_intro ?_ | refine Ck.mk (show drawOk _ _ = true by kernel_rfl) ?_ | refine Ck.all_cons ?_ | refine Ck.all_nil ?_ | refine Ck.mk (by assumption) ?_ | refine Ck.mk (decide_eq_true (by assumption)) ?_ | refine Ck.mk (decide_eq_false (by assumption)) ?_ | refine Ck.mk ?_ ?_)
    | (with_reducible (first | refine Both.mk (fun h => ?_) (fun h => ?_) | refine Alt.mk (fun h => ?_) (fun h => ?_) | refine Pick.mk (fun h => ?_) (fun l1 x l2 h => ?_)) <;> (have hk := h) <;> (try simp only [nrm, reduceCtorEq, pair_eta, map_idL] at h) <;> (try dsimp only [conSpec, estSpec, estF, ptickSpec, parSpec, erpSpec, erpF, erdSpec, eclSpec, ewrSpec, newESpec, connSpec, Ty.T, Ty.dflt, KT.T, getM, putM, delM] at h) <;> (try simp only [natCast_eq] at h) <;> (try (exfalso; first | exact absurd rfl h | exact absurd ht h | exact absurd hst h | exact absurd fs h | exact absurd f1 h | exact absurd f2 h | exact absurd f3 h | exact absurd f4 h | exact absurd f5 h | exact absurd f6 h | exact absurd f7 h | exact absurd f8 h | exact absurd f9 h | omega)) <;> (try first | rw [if_pos h] at hr | rw [if_neg h] at hr | rw [ifF h] at hr | rw [ifN h] at hr) <;> (try (have hb : (_ : Bool) = _ := h; clear h; subst hb; (try first | rw [if_pos rfl] at hr | rw [if_neg Bool.false_ne_true] at hr))) <;> first | (exfalso; omega) | exact absurd (h.symm.trans (by assumption) : true = false) Bool.noConfusion | exact absurd (h.symm.trans (by assumption) : false = true) Bool.noConfusion | (with_reducible refine (?_ : T1 _ ?_) ?_; rotate_left 1; (conv => lhs; cbv; (try cbv); (try cbv)); intro hT; clear hT; with_reducible refine Sh.mk (by kernel_rfl) ?_))
    | ((with_reducible refine End.mk ?_); (try ((repeat (first | rw [if_pos (by first | assumption | omega)] at hr | rw [if_neg (by first | assumption | omega | (simp only [Bool.false_eq_true, Bool.true_eq_false, reduceCtorEq, not_false_eq_true]; done) | (simp only [Bool.not_eq_true]; assumption) | (simp only [Bool.not_eq_false]; assumption))] at hr | rw [if_pos rfl] at hr)); subst hr)))
    | with_reducible exact True.intro)
  all_goals first
    | (fail_if_success (with_reducible refine Exists.intro ?_ ?_)
       first
         | with_reducible rfl
         | with_reducible assumption
         | (symm; with_reducible assumption)
         | omega
         | ((try dsimp only [conSpec, estSpec, estF, ptickSpec, parSpec, erpSpec, erpF, erdSpec, eclSpec, ewrSpec, newESpec, connSpec, Ty.T, Ty.dflt, KT.T, getM, putM, delM, inI64, maxRow]); first | done | with_reducible rfl | with_reducible assumption | (symm; with_reducible assumption) | ((try simp only [natCast_eq, List.nil_append]); first | done | with_reducible rfl | omega | exact take_cg (by omega) | exact drop_cg (by omega) | exact take_drop_cg (by omega) (by omega) | exact take_all (by omega) | exact take_drop_all (by omega) (by omega) | exact drop_take_cg (by omega) (by omega) (by omega)))
         | first | exact ⟨hw, by decide, by decide⟩ | exact ⟨(conP_good w 1).mono (by decide) (by decide), by decide, by decide⟩
         | ((try dsimp only [conSpec, estSpec, estF, ptickSpec, parSpec, erpSpec, erpF, erdSpec, eclSpec, ewrSpec, newESpec, connSpec, Ty.T, Ty.dflt, KT.T, getM, putM, delM, inI64, maxRow]); first | (simp only [nrm, reduceCtorEq, pair_eta, map_idL, natCast_eq, inI64, maxRow]; first | done | with_reducible assumption | omega) | exact map_pair_id _)
         | ((try dsimp only [conSpec, estSpec, estF, ptickSpec, parSpec, erpSpec, erpF, erdSpec, eclSpec, ewrSpec, newESpec, connSpec, Ty.T, Ty.dflt, KT.T, getM, putM, delM, inI64, maxRow] at *); first | ((try simp only [natCast_eq] at *) <;> omega) | ((try simp only [lens, natCast_eq] at *) <;> omega))
         | assumption
         | (symm; assumption)
         | (dsimp only; simp only [nrb, *]; done)
         | (simp; done)
         | (and_intros <;> first | trivial | with_reducible assumption | omega)
         | ((try dsimp only [conSpec, estSpec, estF, ptickSpec, parSpec, erpSpec, erpF, erdSpec, eclSpec, ewrSpec, newESpec, connSpec, Ty.T, Ty.dflt, KT.T, getM, putM, delM, inI64, maxRow] at *) <;> simp [*] <;> done))
    | skip
  obtain ⟨x0, hx0, hx1⟩ := LRs.new L w
  refine ⟨⟨LRs L w, fun x => ⟨[(2, Sx.one (.int .u8 (fun _ => mo))), (7, Sx.one (.ptr 0 0)), (32, Sx.one (.ro (.int .u8) (fun _ => L))), (33, Sx.one (.int .i64 (fun _ => (L.length : Int)))), (34, Sx.one (.int .i64 (fun _ => x.i)))], parC (fun _ => x.S)⟩, fun x => (L.length - x.i).toNat, x0⟩, ?_, fun (x : LRs L w) => ?_⟩
  · (try (conv in (LoopInv.inv _ _) => dsimp only)); (try (conv in (SS.mk _ _) => cbv; (try dsimp only [conSpec, estSpec, estF, ptickSpec, parSpec, erpSpec, erpF, erdSpec, eclSpec, ewrSpec, newESpec, connSpec, Ty.T, Ty.dflt, KT.T]); (try simp only [natCast_eq])))
    (with_reducible refine (?_ : T1 _ ?_) ?_; rotate_left 1; (conv => lhs; cbv; (try cbv); (try cbv)); intro hT; clear hT; with_reducible refine Sh.mk (by kernel_rfl) ?_)
    repeat' (first
      | with_reducible (first | refine Ck.mk (C := tt) tt_intro ?_ | refine Ck.mk (show drawOk _ _ = true by kernel_rfl) ?_ | refine Ck.all_cons ?_ | refine Ck.all_nil ?_ | refine Ck.mk (by assumption) ?_ | refine Ck.mk (decide_eq_true (by assumption)) ?_ | refine Ck.mk (decide_eq_false (by assumption)) ?_ | refine Ck.mk ?_ ?_)
      | (with_reducible (first | refine Both.mk (fun h => ?_) (fun h => ?_) | refine Alt.mk (fun h => ?_) (fun h => ?_) | refine Pick.mk (fun h => ?_) (fun l1 x l2 h => ?_)) <;> (have hk := h) <;> (try simp only [nrm, reduceCtorEq, pair_eta, map_idL] at h) <;> (try dsimp only [conSpec, estSpec, estF, ptickSpec, parSpec, erpSpec, erpF, erdSpec, eclSpec, ewrSpec, newESpec, connSpec, Ty.T, Ty.dflt, KT.T, getM, putM, delM] at h) <;> (try simp only [natCast_eq] at h) <;> (try (exfalso; first | exact absurd rfl h | exact absurd ht h | exact absurd hst h | exact absurd fs h | exact absurd f1 h | exact absurd f2 h | exact absurd f3 h | exact absurd f4 h | exact absurd f5 h | exact absurd f6 h | exact absurd f7 h | exact absurd f8 h | exact absurd f9 h | omega)) <;> (try first | rw [if_pos h] at hr | rw [if_neg h] at hr | rw [ifF h] at hr | rw [ifN h] at hr) <;> (try (have hb : (_ : Bool) = _ := h; clear h; subst hb; (try first | rw [if_pos rfl] at hr | rw [if_neg Bool.false_ne_true] at hr))) <;> first | (exfalso; omega) | exact absurd (h.symm.trans (by assumption) : true = false) Bool.noConfusion | exact absurd (h.symm.trans (by assumption) : false = true) Bool.noConfusion | (with_reducible refine (?_ : T1 _ ?_) ?_; rotate_left 1; (conv => lhs; cbv; (try cbv); (try cbv)); intro hT; clear hT; with_reducible refine Sh.mk (by kernel_rfl) ?_))
      | ((with_reducible refine End.mk ?_); skip)
      | with_reducible exact True.intro)
    have hx2 : x0.S = (pcalF ⟨(conP w 1).e0, (conP w 1).e1, (conP w 1).f0, (conP w 1).f1, (conP w 1).w0, (conP w 1).w1, (conP w 1).r0, (conP w 1).r1, (conP w 1).n0, (conP w 1).n1⟩ 3).2 := hx1
    all_goals (first | with_reducible rfl | with_reducible exact hx0.symm | (with_reducible rw [hx2]; done) | with_reducible exact (congrArg Pr.n1 hx1).symm | with_reducible exact (congrArg Pr.n0 hx1).symm | (dsimp only; rw [hx1]; done) | (dsimp only; simp only [pair_eta, map_idL]; rw [hx1]; done))
  clear hx0 hx1
  obtain ⟨i, S, hlo, hhi, hpp, hgd, hqx, hjb⟩ := x
  by_cases hin : i < L.length
  · have hb := byteOf hL hlo hin
    have ht := (hgd.evt hb).2
    (try (conv in (LoopInv.inv _ _) => dsimp only)); (try (conv in (SS.mk _ _) => cbv; (try dsimp only [conSpec, estSpec, estF, ptickSpec, parSpec, erpSpec, erpF, erdSpec, eclSpec, ewrSpec, newESpec, connSpec, Ty.T, Ty.dflt, KT.T]); (try simp only [natCast_eq])))
    (with_reducible refine (?_ : T1 _ ?_) ?_; rotate_left 1; (conv => lhs; cbv; (try cbv); (try cbv)); intro hT; clear hT; with_reducible refine Sh.mk (by kernel_rfl) ?_)
    repeat' (first
      | with_reducible (first | refine Ck.mk (C := tt) tt_intro ?_ | refine Ck.mk (show drawOk _ _ = true by kernel_rfl) ?_ | refine Ck.all_cons ?_ | refine Ck.all_nil ?_ | refine Ck.mk (by assumption) ?_ | refine Ck.mk (decide_eq_true (by assumption)) ?_ | refine Ck.mk (decide_eq_false (by assumption)) ?_ | refine Ck.mk ?_ ?_)
      | (with_reducible (first | refine Both.mk (fun h => ?_) (fun h => ?_) | refine Alt.mk (fun h => ?_) (fun h => ?_) | refine Pick.mk (fun h => ?_) (fun l1 x l2 h => ?_)) <;> (have hk := h) <;> (try simp only [nrm, reduceCtorEq, pair_eta, map_idL] at h) <;> (try dsimp only [conSpec, estSpec, estF, ptickSpec, parSpec, erpSpec, erpF, erdSpec, eclSpec, ewrSpec, newESpec, connSpec, Ty.T, Ty.dflt, KT.T, getM, putM, delM] at h) <;> (try simp only [natCast_eq] at h) <;> (try (exfalso; first | exact absurd rfl h | exact absurd ht h | exact absurd hst h | exact absurd fs h | exact absurd f1 h | exact absurd f2 h | exact absurd f3 h | exact absurd f4 h | exact absurd f5 h | exact absurd f6 h | exact absurd f7 h | exact absurd f8 h | exact absurd f9 h | omega)) <;> (try first | rw [if_pos h] at hr | rw [if_neg h] at hr | rw [ifF h] at hr | rw [ifN h] at hr) <;> (try (have hb : (_ : Bool) = _ := h; clear h; subst hb; (try first | rw [if_pos rfl] at hr | rw [if_neg Bool.false_ne_true] at hr))) <;> first | (exfalso; omega) | exact absurd (h.symm.trans (by assumption) : true = false) Bool.noConfusion | exact absurd (h.symm.trans (by assumption) : false = true) Bool.noConfusion | (with_reducible refine (?_ : T1 _ ?_) ?_; rotate_left 1; (conv => lhs; cbv; (try cbv); (try cbv)); intro hT; clear hT; with_reducible refine Sh.mk (by kernel_rfl) ?_))
      | ((with_reducible refine End.mk ?_); skip)
      | with_reducible exact True.intro)
    all_goals first
      | (fail_if_success (with_reducible refine Exists.intro ?_ ?_)
         first
           | with_reducible rfl
           | with_reducible assumption
           | (symm; with_reducible assumption)
           | omega
           | ((try dsimp only [conSpec, estSpec, estF, ptickSpec, parSpec, erpSpec, erpF, erdSpec, eclSpec, ewrSpec, newESpec, connSpec, Ty.T, Ty.dflt, KT.T, getM, putM, delM, inI64, maxRow]); first | done | with_reducible rfl | with_reducible assumption | (symm; with_reducible assumption) | ((try simp only [natCast_eq, List.nil_append]); first | done | with_reducible rfl | omega | exact take_cg (by omega) | exact drop_cg (by omega) | exact take_drop_cg (by omega) (by omega) | exact take_all (by omega) | exact take_drop_all (by omega) (by omega) | exact drop_take_cg (by omega) (by omega) (by omega)))
           | first | exact ⟨hgd.mono (by omega) (by omega), hb⟩
           | ((try dsimp only [conSpec, estSpec, estF, ptickSpec, parSpec, erpSpec, erpF, erdSpec, eclSpec, ewrSpec, newESpec, connSpec, Ty.T, Ty.dflt, KT.T, getM, putM, delM, inI64, maxRow]); first | (simp only [nrm, reduceCtorEq, pair_eta, map_idL, natCast_eq, inI64, maxRow]; first | done | with_reducible assumption | omega) | exact map_pair_id _)
           | ((try dsimp only [conSpec, estSpec, estF, ptickSpec, parSpec, erpSpec, erpF, erdSpec, eclSpec, ewrSpec, newESpec, connSpec, Ty.T, Ty.dflt, KT.T, getM, putM, delM, inI64, maxRow] at *); first | ((try simp only [natCast_eq] at *) <;> omega) | ((try simp only [lens, natCast_eq] at *) <;> omega))
           | assumption
           | (symm; assumption)
           | (dsimp only; simp only [nrb, *]; done)
           | (simp; done)
           | (and_intros <;> first | trivial | with_reducible assumption | omega)
           | ((try dsimp only [conSpec, estSpec, estF, ptickSpec, parSpec, erpSpec, erpF, erdSpec, eclSpec, ewrSpec, newESpec, connSpec, Ty.T, Ty.dflt, KT.T, getM, putM, delM, inI64, maxRow] at *) <;> simp [*] <;> done))
      | skip
    all_goals
      (refine Exists.elim (LRs.next hlo hin hpp hgd hqx hjb hb) ?_
       rintro y ⟨hy0, hy1⟩
       refine ⟨y, by (try dsimp only); (try simp only [natCast_eq]); omega, ?_⟩
       (try (conv in (LoopInv.inv _ _) => dsimp only)); (try (conv in (SS.mk _ _) => cbv; (try dsimp only [conSpec, estSpec, estF, ptickSpec, parSpec, erpSpec, erpF, erdSpec, eclSpec, ewrSpec, newESpec, connSpec, Ty.T, Ty.dflt, KT.T]); (try simp only [natCast_eq])))
       (with_reducible refine (?_ : T1 _ ?_) ?_; rotate_left 1; (conv => lhs; cbv; (try cbv); (try cbv)); intro hT; clear hT; with_reducible refine Sh.mk (by kernel_rfl) ?_)
       repeat' (first
         | with_reducible (first | refine Ck.mk (C := tt) tt_intro ?_ | refine Ck.mk (show drawOk _ _ = true by kernel_rfl) ?_ | refine Ck.all_cons ?_ | refine Ck.all_nil ?_ | refine Ck.mk (by assumption) ?_ | refine Ck.mk (decide_eq_true (by assumption)) ?_ | refine Ck.mk (decide_eq_false (by assumption)) ?_ | refine Ck.mk ?_ ?_)
         | (with_reducible (first | refine Both.mk (fun h => ?_) (fun h => ?_) | refine Alt.mk (fun h => ?_) (fun h => ?_) | refine Pick.mk (fun h => ?_) (fun l1 x l2 h => ?_)) <;> (have hk := h) <;> (try simp only [nrm, reduceCtorEq, pair_eta, map_idL] at h) <;> (try dsimp only [conSpec, estSpec, estF, ptickSpec, parSpec, erpSpec, erpF, erdSpec, eclSpec, ewrSpec, newESpec, connSpec, Ty.T, Ty.dflt, KT.T, getM, putM, delM] at h) <;> (try simp only [natCast_eq] at h) <;> (try (exfalso; first | exact absurd rfl h | exact absurd ht h | exact absurd hst h | exact absurd fs h | exact absurd f1 h | exact absurd f2 h | exact absurd f3 h | exact absurd f4 h | exact absurd f5 h | exact absurd f6 h | exact absurd f7 h | exact absurd f8 h | exact absurd f9 h | omega)) <;> (try first | rw [if_pos h] at hr | rw [if_neg h] at hr | rw [ifF h] at hr | rw [ifN h] at hr) <;> (try (have hb : (_ : Bool) = _ := h; clear h; subst hb; (try first | rw [if_pos rfl] at hr | rw [if_neg Bool.false_ne_true] at hr))) <;> first | (exfalso; omega) | exact absurd (h.symm.trans (by assumption) : true = false) Bool.noConfusion | exact absurd (h.symm.trans (by assumption) : false = true) Bool.noConfusion | (with_reducible refine (?_ : T1 _ ?_) ?_; rotate_left 1; (conv => lhs; cbv; (try cbv); (try cbv)); intro hT; clear hT; with_reducible refine Sh.mk (by kernel_rfl) ?_))
         | ((with_reducible refine End.mk ?_); skip)
         | with_reducible exact True.intro)
       all_goals first
         | (fail_if_success (with_reducible refine Exists.intro ?_ ?_)
            first
              | with_reducible rfl
              | with_reducible assumption
              | (symm; with_reducible assumption)
              | omega
              | ((try dsimp only [conSpec, estSpec, estF, ptickSpec, parSpec, erpSpec, erpF, erdSpec, eclSpec, ewrSpec, newESpec, connSpec, Ty.T, Ty.dflt, KT.T, getM, putM, delM, inI64, maxRow]); first | done | with_reducible rfl | with_reducible assumption | (symm; with_reducible assumption) | ((try simp only [natCast_eq, List.nil_append]); first | done | with_reducible rfl | omega | exact take_cg (by omega) | exact drop_cg (by omega) | exact take_drop_cg (by omega) (by omega) | exact take_all (by omega) | exact take_drop_all (by omega) (by omega) | exact drop_take_cg (by omega) (by omega) (by omega)))
              | first | exact hy0.symm | ((try dsimp only); (try simp only [pair_eta, map_idL]); rw [hy1]; done)
              | ((try dsimp only [conSpec, estSpec, estF, ptickSpec, parSpec, erpSpec, erpF, erdSpec, eclSpec, ewrSpec, newESpec, connSpec, Ty.T, Ty.dflt, KT.T, getM, putM, delM, inI64, maxRow]); first | (simp only [nrm, reduceCtorEq, pair_eta, map_idL, natCast_eq, inI64, maxRow]; first | done | with_reducible assumption | omega) | exact map_pair_id _)
              | ((try dsimp only [conSpec, estSpec, estF, ptickSpec, parSpec, erpSpec, erpF, erdSpec, eclSpec, ewrSpec, newESpec, connSpec, Ty.T, Ty.dflt, KT.T, getM, putM, delM, inI64, maxRow] at *); first | ((try simp only [natCast_eq] at *) <;> omega) | ((try simp only [lens, natCast_eq] at *) <;> omega))
              | assumption
              | (symm; assumption)
              | (dsimp only; simp only [nrb, *]; done)
              | (simp; done)
              | (and_intros <;> first | trivial | with_reducible assumption | omega)
              | ((try dsimp only [conSpec, estSpec, estF, ptickSpec, parSpec, erpSpec, erpF, erdSpec, eclSpec, ewrSpec, newESpec, connSpec, Ty.T, Ty.dflt, KT.T, getM, putM, delM, inI64, maxRow] at *) <;> simp [*] <;> done))
         | skip
       skip)
  · have hst : S.e0.st = 2 := hjb.1.resolve_right (st_not4 hpp.ef hpp.ea hqx.1)
    have hN : 21 ≤ 21 + mo ∧ 21 + mo < 1000 := by omega
    have hrr := rstP_rr hN hpp hgd hqx hst
    have hol : (S.r1.length : Int) ≤ S.w0.length := by have := hpp.ef.rdl; have := hpp.ef.topd; have := hpp.ef.st.nxt; have := hpp.ef.st.off; omega
    (try (conv in (LoopInv.inv _ _) => dsimp only)); (try (conv in (SS.mk _ _) => cbv; (try dsimp only [conSpec, estSpec, estF, ptickSpec, parSpec, erpSpec, erpF, erdSpec, eclSpec, ewrSpec, newESpec, connSpec, Ty.T, Ty.dflt, KT.T]); (try simp only [natCast_eq])))
    (with_reducible refine (?_ : T1 _ ?_) ?_; rotate_left 1; (conv => lhs; cbv; (try cbv); (try cbv)); intro hT; clear hT; with_reducible refine Sh.mk (by kernel_rfl) ?_)
    repeat' (first
      | with_reducible (first | refine Ck.mk (C := tt) tt_intro ?_ | refine Ck.mk (show drawOk _ _ = true by kernel_rfl) ?_ | refine Ck.all_cons ?_ | refine Ck.all_nil ?_ | refine Ck.mk (by assumption) ?_ | refine Ck.mk (decide_eq_true (by assumption)) ?_ | refine Ck.mk (decide_eq_false (by assumption)) ?_ | refine Ck.mk ?_ ?_)
      | (with_reducible (first | refine Both.mk (fun h => ?_) (fun h => ?_) | refine Alt.mk (fun h => ?_) (fun h => ?_) | refine Pick.mk (fun h => ?_) (fun l1 x l2 h => ?_)) <;> (have hk := h) <;> (try simp only [nrm, reduceCtorEq, pair_eta, map_idL] at h) <;> (try dsimp only [conSpec, estSpec, estF, ptickSpec, parSpec, erpSpec, erpF, erdSpec, eclSpec, ewrSpec, newESpec, connSpec, Ty.T, Ty.dflt, KT.T, getM, putM, delM] at h) <;> (try simp only [natCast_eq] at h) <;> (try (exfalso; first | exact absurd rfl h | exact absurd ht h | exact absurd hst h | exact absurd fs h | exact absurd f1 h | exact absurd f2 h | exact absurd f3 h | exact absurd f4 h | exact absurd f5 h | exact absurd f6 h | exact absurd f7 h | exact absurd f8 h | exact absurd f9 h | omega)) <;> (try first | rw [if_pos h] at hr | rw [if_neg h] at hr | rw [ifF h] at hr | rw [ifN h] at hr) <;> (try (have hb : (_ : Bool) = _ := h; clear h; subst hb; (try first | rw [if_pos rfl] at hr | rw [if_neg Bool.false_ne_true] at hr))) <;> first | (exfalso; omega) | exact absurd (h.symm.trans (by assumption) : true = false) Bool.noConfusion | exact absurd (h.symm.trans (by assumption) : false = true) Bool.noConfusion | (with_reducible refine (?_ : T1 _ ?_) ?_; rotate_left 1; (conv => lhs; cbv; (try cbv); (try cbv)); intro hT; clear hT; with_reducible refine Sh.mk (by kernel_rfl) ?_))
      | ((with_reducible refine End.mk ?_); (try ((repeat (first | rw [if_pos (by first | assumption | omega)] at hr | rw [if_neg (by first | assumption | omega | (simp only [Bool.false_eq_true, Bool.true_eq_false, reduceCtorEq, not_false_eq_true]; done) | (simp only [Bool.not_eq_true]; assumption) | (simp only [Bool.not_eq_false]; assumption))] at hr | rw [if_pos rfl] at hr)); subst hr)))
      | with_reducible exact True.intro)
    all_goals first
      | (fail_if_success (with_reducible refine Exists.intro ?_ ?_)
         first
           | with_reducible rfl
           | with_reducible assumption
           | (symm; with_reducible assumption)
           | omega
           | ((try dsimp only [conSpec, estSpec, estF, ptickSpec, parSpec, erpSpec, erpF, erdSpec, eclSpec, ewrSpec, newESpec, connSpec, Ty.T, Ty.dflt, KT.T, getM, putM, delM, inI64, maxRow]); first | done | with_reducible rfl | with_reducible assumption | (symm; with_reducible assumption) | ((try simp only [natCast_eq, List.nil_append]); first | done | with_reducible rfl | omega | exact take_cg (by omega) | exact drop_cg (by omega) | exact take_drop_cg (by omega) (by omega) | exact take_all (by omega) | exact take_drop_all (by omega) (by omega) | exact drop_take_cg (by omega) (by omega) (by omega)))
           | ((try dsimp only [conSpec, estSpec, estF, ptickSpec, parSpec, erpSpec, erpF, erdSpec, eclSpec, ewrSpec, newESpec, connSpec, Ty.T, Ty.dflt, KT.T, getM, putM, delM, inI64, maxRow]); first | (simp only [nrm, reduceCtorEq, pair_eta, map_idL, natCast_eq, inI64, maxRow]; first | done | with_reducible assumption | omega) | exact map_pair_id _)
           | ((try dsimp only [conSpec, estSpec, estF, ptickSpec, parSpec, erpSpec, erpF, erdSpec, eclSpec, ewrSpec, newESpec, connSpec, Ty.T, Ty.dflt, KT.T, getM, putM, delM, inI64, maxRow] at *); first | ((try simp only [natCast_eq] at *) <;> omega) | ((try simp only [lens, natCast_eq] at *) <;> omega))
           | assumption
           | (symm; assumption)
           | (dsimp only; simp only [nrb, *]; done)
           | (simp; done)
           | (and_intros <;> first | trivial | with_reducible assumption | omega)
           | ((try dsimp only [conSpec, estSpec, estF, ptickSpec, parSpec, erpSpec, erpF, erdSpec, eclSpec, ewrSpec, newESpec, connSpec, Ty.T, Ty.dflt, KT.T, getM, putM, delM, inI64, maxRow] at *) <;> simp [*] <;> done))
      | skip
    all_goals
      (obtain ⟨x0, hx0, hx1⟩ : ∃ x : LRt (21 + mo) S.w0, (x.i : Int) = 0 ∧ x.S = rstP S (21 + mo) := ⟨⟨0, rstP S (21 + mo), Nat.zero_le _, ⟨hrr.e0, hrr.e1, hrr.m0, hrr.m1, by have := hrr.fl; omega⟩, rfl, .inl ⟨rfl, rfl, rfl⟩⟩, rfl, rfl⟩
       dsimp only
       refine ⟨⟨LRt (21 + mo) S.w0, fun x => ⟨[(7, Sx.one (.ptr 0 0)), (10, Sx.one (.ptr 9 0)), (12, Sx.one (.hd 8 0)), (82, Sx.one (.int .i64 (fun _ => (x.i : Int))))], rsC (fun _ => x.S) S.r1⟩, fun x => 8 - x.i, x0⟩, ?_, fun (x : LRt (21 + mo) S.w0) => ?_⟩
       · (try (conv in (LoopInv.inv _ _) => dsimp only)); (try (conv in (SS.mk _ _) => cbv; (try dsimp only [conSpec, estSpec, estF, ptickSpec, parSpec, erpSpec, erpF, erdSpec, eclSpec, ewrSpec, newESpec, connSpec, Ty.T, Ty.dflt, KT.T]); (try simp only [natCast_eq])))
         (with_reducible refine (?_ : T1 _ ?_) ?_; rotate_left 1; (conv => lhs; cbv; (try cbv); (try cbv)); intro hT; clear hT; with_reducible refine Sh.mk (by kernel_rfl) ?_)
         repeat' (first
           | with_reducible (first | refine Ck.mk (C := tt) tt_intro ?_ | refine Ck.mk (show drawOk _ _ = true by kernel_rfl) ?_ | refine Ck.all_cons ?_ | refine Ck.all_nil ?_ | refine Ck.mk (by assumption) ?_ | refine Ck.mk (decide_eq_true (by assumption)) ?_ | refine Ck.mk (decide_eq_false (by assumption)) ?_ | refine Ck.mk ?_ ?_)
           | (with_reducible (first | refine Both.mk (fun h => ?_) (fun h => ?_) | refine Alt.mk (fun h => ?_) (fun h => ?_) | refine Pick.mk (fun h => ?_) (fun l1 x l2 h => ?_)) <;> (have hk := h) <;> (try simp only [nrm, reduceCtorEq, pair_eta, map_idL] at h) <;> (try dsimp only [conSpec, estSpec, estF, ptickSpec, parSpec, erpSpec, erpF, erdSpec, eclSpec, ewrSpec, newESpec, connSpec, Ty.T, Ty.dflt, KT.T, getM, putM, delM] at h) <;> (try simp only [natCast_eq] at h) <;> (try (exfalso; first | exact absurd rfl h | exact absurd ht h | exact absurd hst h | exact absurd fs h | exact absurd f1 h | exact absurd f2 h | exact absurd f3 h | exact absurd f4 h | exact absurd f5 h | exact absurd f6 h | exact absurd f7 h | exact absurd f8 h | exact absurd f9 h | omega)) <;> (try first | rw [if_pos h] at hr | rw [if_neg h] at hr | rw [ifF h] at hr | rw [ifN h] at hr) <;> (try (have hb : (_ : Bool) = _ := h; clear h; subst hb; (try first | rw [if_pos rfl] at hr | rw [if_neg Bool.false_ne_true] at hr))) <;> first | (exfalso; omega) | exact absurd (h.symm.trans (by assumption) : true = false) Bool.noConfusion | exact absurd (h.symm.trans (by assumption) : false = true) Bool.noConfusion | (with_reducible refine (?_ : T1 _ ?_) ?_; rotate_left 1; (conv => lhs; cbv; (try cbv); (try cbv)); intro hT; clear hT; with_reducible refine Sh.mk (by kernel_rfl) ?_))
           | ((with_reducible refine End.mk ?_); skip)
           | with_reducible exact True.intro)
         all_goals (first | with_reducible rfl | with_reducible exact hx0.symm | (rw [hx1]; first | done | rfl) | (dsimp only; (try simp only [pair_eta, map_idL]); rw [hx1]; first | done | rfl) | skip)
       clear hx0 hx1
       have hxi := x.hi
       by_cases hin2 : (x.i : Int) < 8
       · (try (conv in (LoopInv.inv _ _) => dsimp only)); (try (conv in (SS.mk _ _) => cbv; (try dsimp only [conSpec, estSpec, estF, ptickSpec, parSpec, erpSpec, erpF, erdSpec, eclSpec, ewrSpec, newESpec, connSpec, Ty.T, Ty.dflt, KT.T]); (try simp only [natCast_eq])))
         (with_reducible refine (?_ : T1 _ ?_) ?_; rotate_left 1; (conv => lhs; cbv; (try cbv); (try cbv)); intro hT; clear hT; with_reducible refine Sh.mk (by kernel_rfl) ?_)
         repeat' (first
           | with_reducible (first | refine Ck.mk (C := tt) tt_intro ?_ | refine Ck.mk (show drawOk _ _ = true by kernel_rfl) ?_ | refine Ck.all_cons ?_ | refine Ck.all_nil ?_ | refine Ck.mk (by assumption) ?_ | refine Ck.mk (decide_eq_true (by assumption)) ?_ | refine Ck.mk (decide_eq_false (by assumption)) ?_ | refine Ck.mk ?_ ?_)
           | (with_reducible (first | refine Both.mk (fun h => ?_) (fun h => ?_) | refine Alt.mk (fun h => ?_) (fun h => ?_) | refine Pick.mk (fun h => ?_) (fun l1 x l2 h => ?_)) <;> (have hk := h) <;> (try simp only [nrm, reduceCtorEq, pair_eta, map_idL] at h) <;> (try dsimp only [conSpec, estSpec, estF, ptickSpec, parSpec, erpSpec, erpF, erdSpec, eclSpec, ewrSpec, newESpec, connSpec, Ty.T, Ty.dflt, KT.T, getM, putM, delM] at h) <;> (try simp only [natCast_eq] at h) <;> (try (exfalso; first | exact absurd rfl h | exact absurd ht h | exact absurd hst h | exact absurd fs h | exact absurd f1 h | exact absurd f2 h | exact absurd f3 h | exact absurd f4 h | exact absurd f5 h | exact absurd f6 h | exact absurd f7 h | exact absurd f8 h | exact absurd f9 h | omega)) <;> (try first | rw [if_pos h] at hr | rw [if_neg h] at hr | rw [ifF h] at hr | rw [ifN h] at hr) <;> (try (have hb : (_ : Bool) = _ := h; clear h; subst hb; (try first | rw [if_pos rfl] at hr | rw [if_neg Bool.false_ne_true] at hr))) <;> first | (exfalso; omega) | exact absurd (h.symm.trans (by assumption) : true = false) Bool.noConfusion | exact absurd (h.symm.trans (by assumption) : false = true) Bool.noConfusion | (with_reducible refine (?_ : T1 _ ?_) ?_; rotate_left 1; (conv => lhs; cbv; (try cbv); (try cbv)); intro hT; clear hT; with_reducible refine Sh.mk (by kernel_rfl) ?_))
           | ((with_reducible refine End.mk ?_); skip)
           | with_reducible exact True.intro)
         all_goals first
           | (fail_if_success (with_reducible refine Exists.intro ?_ ?_)
              first
                | with_reducible rfl
                | with_reducible assumption
                | (symm; with_reducible assumption)
                | omega
                | ((try dsimp only [conSpec, estSpec, estF, ptickSpec, parSpec, erpSpec, erpF, erdSpec, eclSpec, ewrSpec, newESpec, connSpec, Ty.T, Ty.dflt, KT.T, getM, putM, delM, inI64, maxRow]); first | done | with_reducible rfl | with_reducible assumption | (symm; with_reducible assumption) | ((try simp only [natCast_eq, List.nil_append]); first | done | with_reducible rfl | omega | exact take_cg (by omega) | exact drop_cg (by omega) | exact take_drop_cg (by omega) (by omega) | exact take_all (by omega) | exact take_drop_all (by omega) (by omega) | exact drop_take_cg (by omega) (by omega) (by omega)))
                | first | exact x.rr.preT (by omega)
                | ((try dsimp only [conSpec, estSpec, estF, ptickSpec, parSpec, erpSpec, erpF, erdSpec, eclSpec, ewrSpec, newESpec, connSpec, Ty.T, Ty.dflt, KT.T, getM, putM, delM, inI64, maxRow]); first | (simp only [nrm, reduceCtorEq, pair_eta, map_idL, natCast_eq, inI64, maxRow]; first | done | with_reducible assumption | omega) | exact map_pair_id _)
                | ((try dsimp only [conSpec, estSpec, estF, ptickSpec, parSpec, erpSpec, erpF, erdSpec, eclSpec, ewrSpec, newESpec, connSpec, Ty.T, Ty.dflt, KT.T, getM, putM, delM, inI64, maxRow] at *); first | ((try simp only [natCast_eq] at *) <;> omega) | ((try simp only [lens, natCast_eq] at *) <;> omega))
                | assumption
                | (symm; assumption)
                | (dsimp only; simp only [nrb, *]; done)
                | (simp; done)
                | (and_intros <;> first | trivial | with_reducible assumption | omega)
                | ((try dsimp only [conSpec, estSpec, estF, ptickSpec, parSpec, erpSpec, erpF, erdSpec, eclSpec, ewrSpec, newESpec, connSpec, Ty.T, Ty.dflt, KT.T, getM, putM, delM, inI64, maxRow] at *) <;> simp [*] <;> done))
           | skip
         all_goals
           (obtain ⟨z0, hz0, hz1⟩ := x.tick hN
            dsimp only
            refine ⟨⟨LRu (21 + mo) S.w0 x.i, fun z => ⟨[(7, Sx.one (.ptr 0 0)), (10, Sx.one (.ptr 9 0)), (12, Sx.one (.hd 8 0)), (82, Sx.one (.int .i64 (fun _ => (x.i : Int)))), (86, Sx.one (.int .i64 (fun _ => (z.j : Int))))], rsC (fun _ => z.S) S.r1⟩, fun z => 40 - z.j, z0⟩, ?_, fun (z : LRu (21 + mo) S.w0 x.i) => ?_⟩
            · (try (conv in (LoopInv.inv _ _) => dsimp only)); (try (conv in (SS.mk _ _) => cbv; (try dsimp only [conSpec, estSpec, estF, ptickSpec, parSpec, erpSpec, erpF, erdSpec, eclSpec, ewrSpec, newESpec, connSpec, Ty.T, Ty.dflt, KT.T]); (try simp only [natCast_eq])))
              (with_reducible refine (?_ : T1 _ ?_) ?_; rotate_left 1; (conv => lhs; cbv; (try cbv); (try cbv)); intro hT; clear hT; with_reducible refine Sh.mk (by kernel_rfl) ?_)
              repeat' (first
                | with_reducible (first | refine Ck.mk (C := tt) tt_intro ?_ | refine Ck.mk (show drawOk _ _ = true by kernel_rfl) ?_ | refine Ck.all_cons ?_ | refine Ck.all_nil ?_ | refine Ck.mk (by assumption) ?_ | refine Ck.mk (decide_eq_true (by assumption)) ?_ | refine Ck.mk (decide_eq_false (by assumption)) ?_ | refine Ck.mk ?_ ?_)
                | (with_reducible (first | refine Both.mk (fun h => ?_) (fun h => ?_) | refine Alt.mk (fun h => ?_) (fun h => ?_) | refine Pick.mk (fun h => ?_) (fun l1 x l2 h => ?_)) <;> (have hk := h) <;> (try simp only [nrm, reduceCtorEq, pair_eta, map_idL] at h) <;> (try dsimp only [conSpec, estSpec, estF, ptickSpec, parSpec, erpSpec, erpF, erdSpec, eclSpec, ewrSpec, newESpec, connSpec, Ty.T, Ty.dflt, KT.T, getM, putM, delM] at h) <;> (try simp only [natCast_eq] at h) <;> (try (exfalso; first | exact absurd rfl h | exact absurd ht h | exact absurd hst h | exact absurd fs h | exact absurd f1 h | exact absurd f2 h | exact absurd f3 h | exact absurd f4 h | exact absurd f5 h | exact absurd f6 h | exact absurd f7 h | exact absurd f8 h | exact absurd f9 h | omega)) <;> (try first | rw [if_pos h] at hr | rw [if_neg h] at hr | rw [ifF h] at hr | rw [ifN h] at hr) <;> (try (have hb : (_ : Bool) = _ := h; clear h; subst hb; (try first | rw [if_pos rfl] at hr | rw [if_neg Bool.false_ne_true] at hr))) <;> first | (exfalso; omega) | exact absurd (h.symm.trans (by assumption) : true = false) Bool.noConfusion | exact absurd (h.symm.trans (by assumption) : false = true) Bool.noConfusion | (with_reducible refine (?_ : T1 _ ?_) ?_; rotate_left 1; (conv => lhs; cbv; (try cbv); (try cbv)); intro hT; clear hT; with_reducible refine Sh.mk (by kernel_rfl) ?_))
                | ((with_reducible refine End.mk ?_); skip)
                | with_reducible exact True.intro)
              all_goals (first | with_reducible rfl | with_reducible exact hz0.symm | (rw [hz1]; first | done | rfl) | (dsimp only; (try simp only [pair_eta, map_idL]); rw [hz1]; first | done | rfl) | skip)
            clear hz0 hz1
            have hzj := z.hj
            have hA := (z.rr.arrA hN).1
            (try (conv in (LoopInv.inv _ _) => dsimp only)); (try (conv in (SS.mk _ _) => cbv; (try dsimp only [conSpec, estSpec, estF, ptickSpec, parSpec, erpSpec, erpF, erdSpec, eclSpec, ewrSpec, newESpec, connSpec, Ty.T, Ty.dflt, KT.T]); (try simp only [natCast_eq])))
            (with_reducible refine (?_ : T1 _ ?_) ?_; rotate_left 1; (conv => lhs; cbv; (try cbv); (try cbv)); intro hT; clear hT; with_reducible refine Sh.mk (by kernel_rfl) ?_)
            repeat' (first
              | with_reducible (first | refine Ck.mk (C := tt) tt_intro ?_ | refine Ck.mk (show drawOk _ _ = true by kernel_rfl) ?_ | refine Ck.all_cons ?_ | refine Ck.all_nil ?_ | refine Ck.mk (by assumption) ?_ | refine Ck.mk (decide_eq_true (by assumption)) ?_ | refine Ck.mk (decide_eq_false (by assumption)) ?_ | refine Ck.mk ?_ ?_)
              | (with_reducible (first | refine Both.mk (fun h => ?_) (fun h => ?_) | refine Alt.mk (fun h => ?_) (fun h => ?_) | refine Pick.mk (fun h => ?_) (fun l1 x l2 h => ?_)) <;> (have hk := h) <;> (try simp only [nrm, reduceCtorEq, pair_eta, map_idL] at h) <;> (try dsimp only [conSpec, estSpec, estF, ptickSpec, parSpec, erpSpec, erpF, erdSpec, eclSpec, ewrSpec, newESpec, connSpec, Ty.T, Ty.dflt, KT.T, getM, putM, delM] at h) <;> (try simp only [natCast_eq] at h) <;> (try (exfalso; first | exact absurd rfl h | exact absurd ht h | exact absurd hst h | exact absurd fs h | exact absurd f1 h | exact absurd f2 h | exact absurd f3 h | exact absurd f4 h | exact absurd f5 h | exact absurd f6 h | exact absurd f7 h | exact absurd f8 h | exact absurd f9 h | omega)) <;> (try first | rw [if_pos h] at hr | rw [if_neg h] at hr | rw [ifF h] at hr | rw [ifN h] at hr) <;> (try (have hb : (_ : Bool) = _ := h; clear h; subst hb; (try first | rw [if_pos rfl] at hr | rw [if_neg Bool.false_ne_true] at hr))) <;> first | (exfalso; omega) | exact absurd (h.symm.trans (by assumption) : true = false) Bool.noConfusion | exact absurd (h.symm.trans (by assumption) : false = true) Bool.noConfusion | (with_reducible refine (?_ : T1 _ ?_) ?_; rotate_left 1; (conv => lhs; cbv; (try cbv); (try cbv)); intro hT; clear hT; with_reducible refine Sh.mk (by kernel_rfl) ?_))
              | ((with_reducible refine End.mk ?_); skip)
              | with_reducible exact True.intro)
            all_goals first
              | (fail_if_success (with_reducible refine Exists.intro ?_ ?_)
                 first
                   | with_reducible rfl
                   | with_reducible assumption
                   | (symm; with_reducible assumption)
                   | omega
                   | ((try dsimp only [conSpec, estSpec, estF, ptickSpec, parSpec, erpSpec, erpF, erdSpec, eclSpec, ewrSpec, newESpec, connSpec, Ty.T, Ty.dflt, KT.T, getM, putM, delM, inI64, maxRow]); first | done | with_reducible rfl | with_reducible assumption | (symm; with_reducible assumption) | ((try simp only [natCast_eq, List.nil_append]); first | done | with_reducible rfl | omega | exact take_cg (by omega) | exact drop_cg (by omega) | exact take_drop_cg (by omega) (by omega) | exact take_all (by omega) | exact take_drop_all (by omega) (by omega) | exact drop_take_cg (by omega) (by omega) (by omega)))
                   | first | exact z.rr.preA (by omega) (.inl rfl) | exact hA.preA (by omega) (.inr rfl)
                   | ((try dsimp only [conSpec, estSpec, estF, ptickSpec, parSpec, erpSpec, erpF, erdSpec, eclSpec, ewrSpec, newESpec, connSpec, Ty.T, Ty.dflt, KT.T, getM, putM, delM, inI64, maxRow]); first | (simp only [nrm, reduceCtorEq, pair_eta, map_idL, natCast_eq, inI64, maxRow]; first | done | with_reducible assumption | omega) | exact map_pair_id _)
                   | ((try dsimp only [conSpec, estSpec, estF, ptickSpec, parSpec, erpSpec, erpF, erdSpec, eclSpec, ewrSpec, newESpec, connSpec, Ty.T, Ty.dflt, KT.T, getM, putM, delM, inI64, maxRow] at *); first | ((try simp only [natCast_eq] at *) <;> omega) | ((try simp only [lens, natCast_eq] at *) <;> omega))
                   | assumption
                   | (symm; assumption)
                   | (dsimp only; simp only [nrb, *]; done)
                   | (simp; done)
                   | (and_intros <;> first | trivial | with_reducible assumption | omega)
                   | ((try dsimp only [conSpec, estSpec, estF, ptickSpec, parSpec, erpSpec, erpF, erdSpec, eclSpec, ewrSpec, newESpec, connSpec, Ty.T, Ty.dflt, KT.T, getM, putM, delM, inI64, maxRow] at *) <;> simp [*] <;> done))
              | skip
            all_goals
              (first
                | (refine Exists.elim (z.next hN (by assumption)) ?_
                   rintro y ⟨hy0, hy1⟩
                   refine ⟨y, by (try dsimp only); (try simp only [natCast_eq]); omega, ?_⟩
                   (try (conv in (LoopInv.inv _ _) => dsimp only)); (try (conv in (SS.mk _ _) => cbv; (try dsimp only [conSpec, estSpec, estF, ptickSpec, parSpec, erpSpec, erpF, erdSpec, eclSpec, ewrSpec, newESpec, connSpec, Ty.T, Ty.dflt, KT.T]); (try simp only [natCast_eq])))
                   (with_reducible refine (?_ : T1 _ ?_) ?_; rotate_left 1; (conv => lhs; cbv; (try cbv); (try cbv)); intro hT; clear hT; with_reducible refine Sh.mk (by kernel_rfl) ?_)
                   repeat' (first
                     | with_reducible (first | refine Ck.mk (C := tt) tt_intro ?_ | refine Ck.mk (show drawOk _ _ = true by kernel_rfl) ?_ | refine Ck.all_cons ?_ | refine Ck.all_nil ?_ | refine Ck.mk (by assumption) ?_ | refine Ck.mk (decide_eq_true (by assumption)) ?_ | refine Ck.mk (decide_eq_false (by assumption)) ?_ | refine Ck.mk ?_ ?_)
                     | (with_reducible (first | refine Both.mk (fun h => ?_) (fun h => ?_) | refine Alt.mk (fun h => ?_) (fun h => ?_) | refine Pick.mk (fun h => ?_) (fun l1 x l2 h => ?_)) <;> (have hk := h) <;> (try simp only [nrm, reduceCtorEq, pair_eta, map_idL] at h) <;> (try dsimp only [conSpec, estSpec, estF, ptickSpec, parSpec, erpSpec, erpF, erdSpec, eclSpec, ewrSpec, newESpec, connSpec, Ty.T, Ty.dflt, KT.T, getM, putM, delM] at h) <;> (try simp only [natCast_eq] at h) <;> (try (exfalso; first | exact absurd rfl h | exact absurd ht h | exact absurd hst h | exact absurd fs h | exact absurd f1 h | exact absurd f2 h | exact absurd f3 h | exact absurd f4 h | exact absurd f5 h | exact absurd f6 h | exact absurd f7 h | exact absurd f8 h | exact absurd f9 h | omega)) <;> (try first | rw [if_pos h] at hr | rw [if_neg h] at hr | rw [ifF h] at hr | rw [ifN h] at hr) <;> (try (have hb : (_ : Bool) = _ := h; clear h; subst hb; (try first | rw [if_pos rfl] at hr | rw [if_neg Bool.false_ne_true] at hr))) <;> first | (exfalso; omega) | exact absurd (h.symm.trans (by assumption) : true = false) Bool.noConfusion | exact absurd (h.symm.trans (by assumption) : false = true) Bool.noConfusion | (with_reducible refine (?_ : T1 _ ?_) ?_; rotate_left 1; (conv => lhs; cbv; (try cbv); (try cbv)); intro hT; clear hT; with_reducible refine Sh.mk (by kernel_rfl) ?_))
                     | ((with_reducible refine End.mk ?_); skip)
                     | with_reducible exact True.intro)
                   all_goals first
                     | (fail_if_success (with_reducible refine Exists.intro ?_ ?_)
                        first
                          | with_reducible rfl
                          | with_reducible assumption
                          | (symm; with_reducible assumption)
                          | omega
                          | ((try dsimp only [conSpec, estSpec, estF, ptickSpec, parSpec, erpSpec, erpF, erdSpec, eclSpec, ewrSpec, newESpec, connSpec, Ty.T, Ty.dflt, KT.T, getM, putM, delM, inI64, maxRow]); first | done | with_reducible rfl | with_reducible assumption | (symm; with_reducible assumption) | ((try simp only [natCast_eq, List.nil_append]); first | done | with_reducible rfl | omega | exact take_cg (by omega) | exact drop_cg (by omega) | exact take_drop_cg (by omega) (by omega) | exact take_all (by omega) | exact take_drop_all (by omega) (by omega) | exact drop_take_cg (by omega) (by omega) (by omega)))
                          | first | exact hy0.symm | ((try dsimp only); (try simp only [pair_eta, map_idL]); rw [hy1]; done)
                          | ((try dsimp only [conSpec, estSpec, estF, ptickSpec, parSpec, erpSpec, erpF, erdSpec, eclSpec, ewrSpec, newESpec, connSpec, Ty.T, Ty.dflt, KT.T, getM, putM, delM, inI64, maxRow]); first | (simp only [nrm, reduceCtorEq, pair_eta, map_idL, natCast_eq, inI64, maxRow]; first | done | with_reducible assumption | omega) | exact map_pair_id _)
                          | ((try dsimp only [conSpec, estSpec, estF, ptickSpec, parSpec, erpSpec, erpF, erdSpec, eclSpec, ewrSpec, newESpec, connSpec, Ty.T, Ty.dflt, KT.T, getM, putM, delM, inI64, maxRow] at *); first | ((try simp only [natCast_eq] at *) <;> omega) | ((try simp only [lens, natCast_eq] at *) <;> omega))
                          | assumption
                          | (symm; assumption)
                          | (dsimp only; simp only [nrb, *]; done)
                          | (simp; done)
                          | (and_intros <;> first | trivial | with_reducible assumption | omega)
                          | ((try dsimp only [conSpec, estSpec, estF, ptickSpec, parSpec, erpSpec, erpF, erdSpec, eclSpec, ewrSpec, newESpec, connSpec, Ty.T, Ty.dflt, KT.T, getM, putM, delM, inI64, maxRow] at *) <;> simp [*] <;> done))
                     | skip
                   skip)
                | (refine Exists.elim (x.next hin2 z (by assumption)) ?_
                   rintro y ⟨hy0, hy1⟩
                   refine ⟨y, by (try dsimp only); (try simp only [natCast_eq]); omega, ?_⟩
                   (try (conv in (LoopInv.inv _ _) => dsimp only)); (try (conv in (SS.mk _ _) => cbv; (try dsimp only [conSpec, estSpec, estF, ptickSpec, parSpec, erpSpec, erpF, erdSpec, eclSpec, ewrSpec, newESpec, connSpec, Ty.T, Ty.dflt, KT.T]); (try simp only [natCast_eq])))
                   (with_reducible refine (?_ : T1 _ ?_) ?_; rotate_left 1; (conv => lhs; cbv; (try cbv); (try cbv)); intro hT; clear hT; with_reducible refine Sh.mk (by kernel_rfl) ?_)
                   repeat' (first
                     | with_reducible (first | refine Ck.mk (C := tt) tt_intro ?_ | refine Ck.mk (show drawOk _ _ = true by kernel_rfl) ?_ | refine Ck.all_cons ?_ | refine Ck.all_nil ?_ | refine Ck.mk (by assumption) ?_ | refine Ck.mk (decide_eq_true (by assumption)) ?_ | refine Ck.mk (decide_eq_false (by assumption)) ?_ | refine Ck.mk ?_ ?_)
                     | (with_reducible (first | refine Both.mk (fun h => ?_) (fun h => ?_) | refine Alt.mk (fun h => ?_) (fun h => ?_) | refine Pick.mk (fun h => ?_) (fun l1 x l2 h => ?_)) <;> (have hk := h) <;> (try simp only [nrm, reduceCtorEq, pair_eta, map_idL] at h) <;> (try dsimp only [conSpec, estSpec, estF, ptickSpec, parSpec, erpSpec, erpF, erdSpec, eclSpec, ewrSpec, newESpec, connSpec, Ty.T, Ty.dflt, KT.T, getM, putM, delM] at h) <;> (try simp only [natCast_eq] at h) <;> (try (exfalso; first | exact absurd rfl h | exact absurd ht h | exact absurd hst h | exact absurd fs h | exact absurd f1 h | exact absurd f2 h | exact absurd f3 h | exact absurd f4 h | exact absurd f5 h | exact absurd f6 h | exact absurd f7 h | exact absurd f8 h | exact absurd f9 h | omega)) <;> (try first | rw [if_pos h] at hr | rw [if_neg h] at hr | rw [ifF h] at hr | rw [ifN h] at hr) <;> (try (have hb : (_ : Bool) = _ := h; clear h; subst hb; (try first | rw [if_pos rfl] at hr | rw [if_neg Bool.false_ne_true] at hr))) <;> first | (exfalso; omega) | exact absurd (h.symm.trans (by assumption) : true = false) Bool.noConfusion | exact absurd (h.symm.trans (by assumption) : false = true) Bool.noConfusion | (with_reducible refine (?_ : T1 _ ?_) ?_; rotate_left 1; (conv => lhs; cbv; (try cbv); (try cbv)); intro hT; clear hT; with_reducible refine Sh.mk (by kernel_rfl) ?_))
                     | ((with_reducible refine End.mk ?_); skip)
                     | with_reducible exact True.intro)
                   all_goals first
                     | (fail_if_success (with_reducible refine Exists.intro ?_ ?_)
                        first
                          | with_reducible rfl
                          | with_reducible assumption
                          | (symm; with_reducible assumption)
                          | omega
                          | ((try dsimp only [conSpec, estSpec, estF, ptickSpec, parSpec, erpSpec, erpF, erdSpec, eclSpec, ewrSpec, newESpec, connSpec, Ty.T, Ty.dflt, KT.T, getM, putM, delM, inI64, maxRow]); first | done | with_reducible rfl | with_reducible assumption | (symm; with_reducible assumption) | ((try simp only [natCast_eq, List.nil_append]); first | done | with_reducible rfl | omega | exact take_cg (by omega) | exact drop_cg (by omega) | exact take_drop_cg (by omega) (by omega) | exact take_all (by omega) | exact take_drop_all (by omega) (by omega) | exact drop_take_cg (by omega) (by omega) (by omega)))
                          | first | exact hy0.symm | ((try dsimp only); (try simp only [pair_eta, map_idL]); rw [hy1]; done)
                          | ((try dsimp only [conSpec, estSpec, estF, ptickSpec, parSpec, erpSpec, erpF, erdSpec, eclSpec, ewrSpec, newESpec, connSpec, Ty.T, Ty.dflt, KT.T, getM, putM, delM, inI64, maxRow]); first | (simp only [nrm, reduceCtorEq, pair_eta, map_idL, natCast_eq, inI64, maxRow]; first | done | with_reducible assumption | omega) | exact map_pair_id _)
                          | ((try dsimp only [conSpec, estSpec, estF, ptickSpec, parSpec, erpSpec, erpF, erdSpec, eclSpec, ewrSpec, newESpec, connSpec, Ty.T, Ty.dflt, KT.T, getM, putM, delM, inI64, maxRow] at *); first | ((try simp only [natCast_eq] at *) <;> omega) | ((try simp only [lens, natCast_eq] at *) <;> omega))
                          | assumption
                          | (symm; assumption)
                          | (dsimp only; simp only [nrb, *]; done)
                          | (simp; done)
                          | (and_intros <;> first | trivial | with_reducible assumption | omega)
                          | ((try dsimp only [conSpec, estSpec, estF, ptickSpec, parSpec, erpSpec, erpF, erdSpec, eclSpec, ewrSpec, newESpec, connSpec, Ty.T, Ty.dflt, KT.T, getM, putM, delM, inI64, maxRow] at *) <;> simp [*] <;> done))
                     | skip
                   skip)
                | skip))
       · obtain ⟨fs, ft, ⟨fb0, fb1⟩, fd⟩ := x.fin hin2
         have hxw := x.w
         have fw : ewrF x.S.e0 [1] = ((0, 14, ()), x.S.e0) := if_pos fs
         have fc : eclF x.S.e0 = ((14, ()), x.S.e0) := if_pos fs
         have hok := x.rr.okE
         have f1 : ((ewrF x.S.e0 [1]).1.1 : Int) = 0 := by rw [fw]
         have f2 : ((ewrF x.S.e0 [1]).1.2.1 : Int) = 14 := by rw [fw]
         have f3 : ((eclF x.S.e0).1.1 : Int) = 14 := by rw [fc]
         have f4 : ((((erdF x.S.e1 100).1.1 : List Int).length : Nat) : Int) = 0 := by rw [fd]; rfl
         have f5 : (S.r1.length : Int) ≤ x.S.e0.w.taken := by rw [hxw] at ft; omega
         have f6 : x.S.e0.w.taken = x.S.w0.length := ft
         have f7 : (if x.S.e0.st = 3 then decide (x.S.e0.w.taken = x.S.e0.w.base) else true) = decide (x.S.e0.w.taken = x.S.e0.w.base) := if_pos fs
         have f9 : (ewrF x.S.e0 [1]).2.st = 3 := by rw [fw]; exact fs
         have f8 : ((eclF (ewrF x.S.e0 [1]).2).1.1 : Int) = 14 := by rw [fw]; exact f3
         (try (conv in (LoopInv.inv _ _) => dsimp only)); (try (conv in (SS.mk _ _) => cbv; (try dsimp only [conSpec, estSpec, estF, ptickSpec, parSpec, erpSpec, erpF, erdSpec, eclSpec, ewrSpec, newESpec, connSpec, Ty.T, Ty.dflt, KT.T]); (try simp only [natCast_eq])))
         (with_reducible refine (?_ : T1 _ ?_) ?_; rotate_left 1; (conv => lhs; cbv; (try cbv); (try cbv)); intro hT; clear hT; with_reducible refine Sh.mk (by kernel_rfl) ?_)
         repeat' (first
           | with_reducible (first | refine Ck.mk (C := tt) tt_intro ?_ | refine Ck.mk (show drawOk _ _ = true by kernel_rfl) ?_ | refine Ck.all_cons ?_ | refine Ck.all_nil ?_ | refine Ck.mk (by assumption) ?_ | refine Ck.mk (decide_eq_true (by assumption)) ?_ | refine Ck.mk (decide_eq_false (by assumption)) ?_ | refine Ck.mk ?_ ?_)
           | (with_reducible (first | refine Both.mk (fun h => ?_) (fun h => ?_) | refine Alt.mk (fun h => ?_) (fun h => ?_) | refine Pick.mk (fun h => ?_) (fun l1 x l2 h => ?_)) <;> (have hk := h) <;> (try simp only [nrm, reduceCtorEq, pair_eta, map_idL] at h) <;> (try dsimp only [conSpec, estSpec, estF, ptickSpec, parSpec, erpSpec, erpF, erdSpec, eclSpec, ewrSpec, newESpec, connSpec, Ty.T, Ty.dflt, KT.T, getM, putM, delM] at h) <;> (try simp only [natCast_eq] at h) <;> (try (exfalso; first | exact absurd rfl h | exact absurd ht h | exact absurd hst h | exact absurd fs h | exact absurd f1 h | exact absurd f2 h | exact absurd f3 h | exact absurd f4 h | exact absurd f5 h | exact absurd f6 h | exact absurd f7 h | exact absurd f8 h | exact absurd f9 h | omega)) <;> (try first | rw [if_pos h] at hr | rw [if_neg h] at hr | rw [ifF h] at hr | rw [ifN h] at hr) <;> (try (have hb : (_ : Bool) = _ := h; clear h; subst hb; (try first | rw [if_pos rfl] at hr | rw [if_neg Bool.false_ne_true] at hr))) <;> first | (exfalso; omega) | exact absurd (h.symm.trans (by assumption) : true = false) Bool.noConfusion | exact absurd (h.symm.trans (by assumption) : false = true) Bool.noConfusion | (with_reducible refine (?_ : T1 _ ?_) ?_; rotate_left 1; (conv => lhs; cbv; (try cbv); (try cbv)); intro hT; clear hT; with_reducible refine Sh.mk (by kernel_rfl) ?_))
           | ((with_reducible refine End.mk ?_); (try ((repeat (first | rw [if_pos (by first | assumption | omega)] at hr | rw [if_neg (by first | assumption | omega | (simp only [Bool.false_eq_true, Bool.true_eq_false, reduceCtorEq, not_false_eq_true]; done) | (simp only [Bool.not_eq_true]; assumption) | (simp only [Bool.not_eq_false]; assumption))] at hr | rw [if_pos rfl] at hr)); subst hr)))
           | with_reducible exact True.intro)
         all_goals first
           | (fail_if_success (with_reducible refine Exists.intro ?_ ?_)
              first
                | with_reducible rfl
                | with_reducible assumption
                | (symm; with_reducible assumption)
                | omega
                | ((try dsimp only [conSpec, estSpec, estF, ptickSpec, parSpec, erpSpec, erpF, erdSpec, eclSpec, ewrSpec, newESpec, connSpec, Ty.T, Ty.dflt, KT.T, getM, putM, delM, inI64, maxRow]); first | done | with_reducible rfl | with_reducible assumption | (symm; with_reducible assumption) | ((try simp only [natCast_eq, List.nil_append]); first | done | with_reducible rfl | omega | exact take_cg (by omega) | exact drop_cg (by omega) | exact take_drop_cg (by omega) (by omega) | exact take_all (by omega) | exact take_drop_all (by omega) (by omega) | exact drop_take_cg (by omega) (by omega) (by omega)))
                | first | exact hok.2.r | exact ⟨hok.1.w, Nat.le_of_ble_eq_true rfl⟩ | exact decide_eq_true f3 | exact decide_eq_true f8 | exact decide_eq_true f2
                | ((try dsimp only [conSpec, estSpec, estF, ptickSpec, parSpec, erpSpec, erpF, erdSpec, eclSpec, ewrSpec, newESpec, connSpec, Ty.T, Ty.dflt, KT.T, getM, putM, delM, inI64, maxRow]); first | (simp only [nrm, reduceCtorEq, pair_eta, map_idL, natCast_eq, inI64, maxRow]; first | done | with_reducible assumption | omega) | exact map_pair_id _)
                | ((try dsimp only [conSpec, estSpec, estF, ptickSpec, parSpec, erpSpec, erpF, erdSpec, eclSpec, ewrSpec, newESpec, connSpec, Ty.T, Ty.dflt, KT.T, getM, putM, delM, inI64, maxRow] at *); first | ((try simp only [natCast_eq] at *) <;> omega) | ((try simp only [lens, natCast_eq] at *) <;> omega))
                | assumption
                | (symm; assumption)
                | (dsimp only; simp only [nrb, *]; done)
                | (simp; done)
                | (and_intros <;> first | trivial | with_reducible assumption | omega)
                | ((try dsimp only [conSpec, estSpec, estF, ptickSpec, parSpec, erpSpec, erpF, erdSpec, eclSpec, ewrSpec, newESpec, connSpec, Ty.T, Ty.dflt, KT.T, getM, putM, delM, inI64, maxRow] at *) <;> simp [*] <;> done))
           | skip
         all_goals skip)
theorem rtw_sound : ConSound Try.prog AI 7 rtwSpec.con := PureSpec.sound Try.call7 (fun x h => rtw_ok x.1 x.2.1 x.2.2.1 h)
end Go.Proofs.Ytldabjgegpmmiaa
