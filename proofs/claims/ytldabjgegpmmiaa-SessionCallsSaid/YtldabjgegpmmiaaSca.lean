/-
  Layer 47: SessionCalls, the walk.
-/
import Derived.Test.YtldabjgegpmmiaaRgv
import Derived.Test.YtldabjgegpmmiaaSrm
import Derived.Test.YtldabjgegpmmiaaEng3
namespace Go.Proofs.Ytldabjgegpmmiaa
set_option linter.all false
set_option linter.unusedVariables false
set_option linter.unusedSimpArgs false
set_option linter.unusedSectionVars false
open Go.RowKit Go.Sx
set_option maxRecDepth 100000
set_option maxHeartbeats 16000000
abbrev l10 : List Nat := [1, 0]
theorem beq_inl : ConSound Try.prog AI 18 (inl E0 Try.f18 0) := inl_sound e0Ok mixed (fn := Try.f18) (c := bodyOf Try.f18) Try.call18 (by kernel_rfl) (by kernel_rfl) (by kernel_rfl) 0
noncomputable abbrev Eca0 : Env Ab := ⟨tis, [(30, rnwSpec.con), (17, estSpec.con), (23, erpSpec.con), (19, ercSpec.con), (20, etkSpec.con), (22, erdSpec.con), (29, eclSpec.con), (28, ewrSpec.con), (27, connSpec.con), (26, newESpec.con), (35, sccSpec.con), (11, awakeSpec.con), (18, inl E0 Try.f18 0)] ++ E0.con⟩
theorem eca0Ok : EnvOk Try.prog AI Eca0 := (((((((((((((e0Ok.add beq_inl).add awake_sound).add scc_sound).add newE_sound).add conn_sound).add ewr_sound).add ecl_sound).add erd_sound).add etk_sound).add erc_sound).add erp_sound).add est_sound).add rnw_sound)
noncomputable abbrev Eca : Env Ab := ⟨tis, [(38, permCon l10 l10 rrpSpec.con), (37, permCon l10 l10 rrceSpec.con), (36, permCon l10 l10 rtkeSpec.con), (34, permCon l10 l10 rrdeSpec.con), (33, permCon l10 l10 rcloSpec.con), (32, permCon l10 l10 rwrSpec.con), (31, permCon l10 l10 rconSpec.con)] ++ Eca0.con⟩
theorem ecaOk : EnvOk Try.prog AI Eca := (((((((eca0Ok.add (permCon_sound l10 l10 rcon_sound)).add (permCon_sound l10 l10 rwr_sound)).add (permCon_sound l10 l10 rclo_sound)).add (permCon_sound l10 l10 rrde_sound)).add (permCon_sound l10 l10 rtke_sound)).add (permCon_sound l10 l10 rrce_sound)).add (permCon_sound l10 l10 rrp_sound))
theorem RW_eta (M : RW) : (⟨M.win, M.tmo, M.base, M.next, M.top, M.room, M.idle, M.data, M.closed, M.sent, M.ever, M.fin⟩ : RW) = M := rfl
theorem RE_eta (R : RE) : (⟨R.mine, R.peer, R.st, R.tmo, R.w, R.s, R.owed, R.ended, R.sil⟩ : RE) = R := rfl
theorem rrp_snd (R : RE) : (rrpF R).2 = R := rfl
structure LC1 (L : List TAct) where
  i : Int
  lo : 0 ≤ i
  hi : i ≤ L.length
  sm : ∀ j : Int, 0 ≤ j → j < i → OkA (elA L j)
theorem LC1.next {L : List TAct} (hL : ∀ a ∈ L, actE.ok a) {i : Int} (lo : 0 ≤ i) (hi : i < L.length) (sm : ∀ j : Int, 0 ≤ j → j < i → OkA (elA L j)) (h1 : ¬ (100 : Int) < ((elA L i).2.2.1.length : Int)) (h2 : ¬ (60 : Int) < ((elA L i).2.2.2.2.2.2.1.2.1.length : Int)) : ∃ y : LC1 L, y.i = i + 1 := by
  refine ⟨⟨i + 1, by omega, by omega, fun j j0 j1 => ?_⟩, rfl⟩
  by_cases e : j = i
  · subst e
    have := hL _ (elA_mem lo hi)
    exact ⟨this.2.2.1.2, by omega, this.2.2.2.2.2.2.1.2.1.2, by omega⟩
  · exact sm j j0 (by omega)
structure LCa (L : List TAct) where
  i : Int
  E : Edd
  R : RE
  lo : 0 ≤ i
  hi : i ≤ L.length
  rel : Rel E R
theorem LCa.next {L : List TAct} {i : Int} (lo : 0 ≤ i) (hi : i < L.length) {E : Edd} {R : RE} (h : Rel E R) : ∃ y : LCa L, y.i = i + 1 ∧ y.E = E ∧ y.R = R := ⟨⟨i + 1, E, R, by omega, by omega, h⟩, rfl, rfl, rfl⟩
theorem inB_t {n a b : Int} (h1 : a ≤ n) (h2 : n ≤ b) : inB n a b = true := by
  unfold inB; rw [decide_eq_true h1, decide_eq_true h2]; rfl
theorem rnw_in {n w t : Int} (h : 1 ≤ n ∧ n < 1099511627776 ∧ 1 ≤ w ∧ w ≤ 1048576 ∧ 1 ≤ t ∧ t ≤ 1000) : rnwF n w t = (enT (newRE n w t), 0, ()) := by
  unfold rnwF
  rw [inB_t (by omega) (by omega), inB_t (by omega) (by omega), inB_t (by omega) (by omega)]
  rfl
theorem rnw_out {n w t : Int} (h : ¬ (1 ≤ n ∧ n < 1099511627776 ∧ 1 ≤ w ∧ w ≤ 1048576 ∧ 1 ≤ t ∧ t ≤ 1000)) : rnwF n w t = (enT zeroRE, 2, ()) := by
  unfold rnwF
  rw [or_ite inB_f, or_ite inB_f, or_ite inB_f]
  repeat' split
  all_goals first | rfl | (exfalso; omega)
theorem six {K : Int} {P0 P1 P2 P3 P4 P5 P6 : Prop} (h0 : P0) (h1 : P1) (h2 : P2) (h3 : P3) (h4 : P4) (h5 : P5) (h6 : P6) : (K = 0 ∧ P0) ∨ (K = 1 ∧ P1) ∨ (K = 2 ∧ P2) ∨ (K = 3 ∧ P3) ∨ (K = 4 ∧ P4) ∨ (K = 5 ∧ P5) ∨ ((¬ K = 0 ∧ ¬ K = 1 ∧ ¬ K = 2 ∧ ¬ K = 3 ∧ ¬ K = 4 ∧ ¬ K = 5) ∧ P6) := by
  by_cases k0 : K = 0
  · exact .inl ⟨k0, h0⟩
  by_cases k1 : K = 1
  · exact .inr (.inl ⟨k1, h1⟩)
  by_cases k2 : K = 2
  · exact .inr (.inr (.inl ⟨k2, h2⟩))
  by_cases k3 : K = 3
  · exact .inr (.inr (.inr (.inl ⟨k3, h3⟩)))
  by_cases k4 : K = 4
  · exact .inr (.inr (.inr (.inr (.inl ⟨k4, h4⟩))))
  by_cases k5 : K = 5
  · exact .inr (.inr (.inr (.inr (.inr (.inl ⟨k5, h5⟩)))))
  exact .inr (.inr (.inr (.inr (.inr (.inr ⟨⟨k0, k1, k2, k3, k4, k5⟩, h6⟩)))))
def scaF (_ _ _ : Int) (_ : List TAct) : Tup [DT.cell .bool] := (true, ())
def scaSpec : PureSpec := ⟨[.cell (.int .i64), .cell (.int .i64), .cell (.int .i64), .lst actE], fun (x : Int × Int × Int × (List TAct) × Unit) => x.2.2.2.1.length ≤ maxLen ∧ ∀ a ∈ x.2.2.2.1, actE.ok a, [.cell .bool], fun (x : Int × Int × Int × (List TAct) × Unit) => scaF x.1 x.2.1 x.2.2.1 x.2.2.2.1⟩
theorem sca_ok (n : Int) (w : Int) (t : Int) (L : List TAct) (h : scaSpec.pre (n, w, t, L, ())) : TmplOk Try.prog AI 9 (argS scaSpec.ds (fun _ => (n, w, t, L, ()))) [] (resOf (svs scaSpec.rs (fun _ => scaSpec.f (n, w, t, L, ())))) [] := by
  dsimp only [scaSpec] at h ⊢
  generalize hr : scaF n w t L = r
  obtain ⟨hL0, hL⟩ := h
  dsimp only [scaF] at hr
  refine tmpl_of_body ecaOk mixed (fn := Try.f9) (c := bodyOf Try.f9) (by kernel_rfl) (by kernel_rfl) (by kernel_rfl) (Nat.le_of_ble_eq_true (by kernel_rfl)) ?_
  (try (conv in (LoopInv.inv _ _) => dsimp only)); (try (conv in (SS.mk _ _) => cbv; (try dsimp only [connSpec, ewrSpec, eclSpec, erdSpec, etkSpec, ercSpec, erpSpec, estSpec, estF, sccSpec, sccF, newESpec, rnwSpec, rconSpec, rwrSpec, rcloSpec, rrdeSpec, rtkeSpec, rrceSpec, rrpSpec, Ty.T, Ty.dflt, KT.T]); (try simp only [natCast_eq])))
  (with_reducible refine (?_ : T1 _ ?_) ?_; rotate_left 1; (conv => lhs; cbv; (try cbv); (try cbv)); intro hT; clear hT; with_reducible refine Sh.mk (by kernel_rfl) ?_)
  repeat' (first
    | with_reducible (first | refine Ck.mk (C := tt) tt_intro ?_ | refine Ck.mk (show drawOk _ _ = true by kernel_rfl) ?_ | refine Ck.all_cons ?_ | refine Ck.all_nil ?_ | refine Ck.mk (by assumption) ?_ | refine Ck.mk (decide_eq_true (by assumption)) ?_ | refine Ck.mk (decide_eq_false (by assumption)) ?_ | refine Ck.mk ?_ ?_)
    | (with_reducible (first | refine Both.mk (fun h => ?_) (fun h => ?_) | refine Alt.mk (fun h => ?_) (fun h => ?_) | refine Pick.mk (fun h => ?_) (fun l1 x l2 h => ?_)) <;> (have hk := h) <;> (try simp only [nrm, reduceCtorEq, pair_eta, map_idL] at h) <;> (try dsimp only [connSpec, ewrSpec, eclSpec, erdSpec, etkSpec, ercSpec, erpSpec, estSpec, estF, sccSpec, sccF, newESpec, rnwSpec, rconSpec, rwrSpec, rcloSpec, rrdeSpec, rtkeSpec, rrceSpec, rrpSpec, Ty.T, Ty.dflt, KT.T, getM, putM, delM] at h) <;> (try simp only [natCast_eq] at h) <;> (try simp only [e0] at h) <;> (try simp only [pair_eta, map_idL, RW_eta, RE_eta, a0, a1, a2, a3, a4, a5, p0, p1, p2, p3, p4, p5, p6, s0, s1, s2, s3, s4, s5, s6, rrp_snd] at h) <;> (try (exfalso; first | exact absurd rfl h | exact absurd trivial h | exact absurd kk h | exact absurd h kk.1 | exact absurd h kk.2.1 | exact absurd h kk.2.2.1 | exact absurd h kk.2.2.2.1 | exact absurd h kk.2.2.2.2.1 | exact absurd h kk.2.2.2.2.2 | omega)) <;> (try first | rw [if_pos h] at hr | rw [if_neg h] at hr | rw [ifF h] at hr | rw [ifN h] at hr) <;> (try (have hb : (_ : Bool) = _ := h; clear h; subst hb; (try first | rw [if_pos rfl] at hr | rw [if_neg Bool.false_ne_true] at hr))) <;> first | (exfalso; omega) | exact absurd (h.symm.trans (by assumption) : true = false) Bool.noConfusion | exact absurd (h.symm.trans (by assumption) : false = true) Bool.noConfusion | (with_reducible refine (?_ : T1 _ ?_) ?_; rotate_left 1; (conv => lhs; cbv; (try cbv); (try cbv)); intro hT; clear hT; with_reducible refine Sh.mk (by kernel_rfl) ?_))
    | ((with_reducible refine End.mk ?_); (try ((repeat (first | rw [if_pos (by first | assumption | omega)] at hr | rw [if_neg (by first | assumption | omega | (simp only [Bool.false_eq_true, Bool.true_eq_false, reduceCtorEq, not_false_eq_true]; done) | (simp only [Bool.not_eq_true]; assumption) | (simp only [Bool.not_eq_false]; assumption))] at hr | rw [if_pos rfl] at hr)); subst hr)))
    | with_reducible exact True.intro)
  all_goals first
    | (fail_if_success (with_reducible refine Exists.intro ?_ ?_)
       first
         | with_reducible rfl
         | with_reducible assumption
         | (symm; with_reducible assumption)
         | omega
         | ((try dsimp only [connSpec, ewrSpec, eclSpec, erdSpec, etkSpec, ercSpec, erpSpec, estSpec, estF, sccSpec, sccF, newESpec, rnwSpec, rconSpec, rwrSpec, rcloSpec, rrdeSpec, rtkeSpec, rrceSpec, rrpSpec, Ty.T, Ty.dflt, KT.T, getM, putM, delM, inI64, maxRow]); first | done | with_reducible rfl | with_reducible assumption | (symm; with_reducible assumption) | ((try simp only [natCast_eq, List.nil_append]); first | done | with_reducible rfl | omega | exact take_cg (by omega) | exact drop_cg (by omega) | exact take_drop_cg (by omega) (by omega) | exact take_all (by omega) | exact take_drop_all (by omega) (by omega) | exact drop_take_cg (by omega) (by omega) (by omega)))
         | ((try dsimp only [connSpec, ewrSpec, eclSpec, erdSpec, etkSpec, ercSpec, erpSpec, estSpec, estF, sccSpec, sccF, newESpec, rnwSpec, rconSpec, rwrSpec, rcloSpec, rrdeSpec, rtkeSpec, rrceSpec, rrpSpec, Ty.T, Ty.dflt, KT.T, getM, putM, delM, inI64, maxRow]); first | (simp only [nrm, reduceCtorEq, pair_eta, map_idL, natCast_eq, inI64, maxRow]; first | done | with_reducible assumption | omega) | exact map_pair_id _)
         | ((try dsimp only [connSpec, ewrSpec, eclSpec, erdSpec, etkSpec, ercSpec, erpSpec, estSpec, estF, sccSpec, sccF, newESpec, rnwSpec, rconSpec, rwrSpec, rcloSpec, rrdeSpec, rtkeSpec, rrceSpec, rrpSpec, Ty.T, Ty.dflt, KT.T, getM, putM, delM, inI64, maxRow] at *); first | ((try simp only [natCast_eq] at *) <;> omega) | ((try simp only [lens, natCast_eq] at *) <;> omega))
         | assumption
         | (symm; assumption)
         | (dsimp only; simp only [nrb, *]; done)
         | (simp; done)
         | (and_intros <;> first | trivial | with_reducible assumption | omega)
         | ((try dsimp only [connSpec, ewrSpec, eclSpec, erdSpec, etkSpec, ercSpec, erpSpec, estSpec, estF, sccSpec, sccF, newESpec, rnwSpec, rconSpec, rwrSpec, rcloSpec, rrdeSpec, rtkeSpec, rrceSpec, rrpSpec, Ty.T, Ty.dflt, KT.T, getM, putM, delM, inI64, maxRow] at *) <;> simp [*] <;> done))
    | skip
  all_goals
    (obtain ⟨x0, hx0⟩ : ∃ x : LC1 L, x.i = 0 := ⟨⟨0, Int.le_refl _, by omega, fun j j0 j1 => by omega⟩, rfl⟩
     refine ⟨⟨LC1 L, fun x => ⟨[(0, Sx.one (.int .i64 (fun _ => n))), (1, Sx.one (.int .i64 (fun _ => w))), (2, Sx.one (.int .i64 (fun _ => t))), (3, Sx.one (.ro actE (fun _ => L))), (50, Sx.one (.ro actE (fun _ => L))), (51, Sx.one (.int .i64 (fun _ => (L.length : Int)))), (52, Sx.one (.int .i64 (fun _ => x.i)))], []⟩, fun x => (L.length - x.i).toNat, x0⟩, ?_, fun (x : LC1 L) => ?_⟩
     · (try (conv in (LoopInv.inv _ _) => dsimp only)); (try (conv in (SS.mk _ _) => cbv; (try dsimp only [connSpec, ewrSpec, eclSpec, erdSpec, etkSpec, ercSpec, erpSpec, estSpec, estF, sccSpec, sccF, newESpec, rnwSpec, rconSpec, rwrSpec, rcloSpec, rrdeSpec, rtkeSpec, rrceSpec, rrpSpec, Ty.T, Ty.dflt, KT.T]); (try simp only [natCast_eq])))
       (with_reducible refine (?_ : T1 _ ?_) ?_; rotate_left 1; (conv => lhs; cbv; (try cbv); (try cbv)); intro hT; clear hT; with_reducible refine Sh.mk (by kernel_rfl) ?_)
       repeat' (first
         | with_reducible (first | refine Ck.mk (C := tt) tt_intro ?_ | refine Ck.mk (show drawOk _ _ = true by kernel_rfl) ?_ | refine Ck.all_cons ?_ | refine Ck.all_nil ?_ | refine Ck.mk (by assumption) ?_ | refine Ck.mk (decide_eq_true (by assumption)) ?_ | refine Ck.mk (decide_eq_false (by assumption)) ?_ | refine Ck.mk ?_ ?_)
         | (with_reducible (first | refine Both.mk (fun h => ?_) (fun h => ?_) | refine Alt.mk (fun h => ?_) (fun h => ?_) | refine Pick.mk (fun h => ?_) (fun l1 x l2 h => ?_)) <;> (have hk := h) <;> (try simp only [nrm, reduceCtorEq, pair_eta, map_idL] at h) <;> (try dsimp only [connSpec, ewrSpec, eclSpec, erdSpec, etkSpec, ercSpec, erpSpec, estSpec, estF, sccSpec, sccF, newESpec, rnwSpec, rconSpec, rwrSpec, rcloSpec, rrdeSpec, rtkeSpec, rrceSpec, rrpSpec, Ty.T, Ty.dflt, KT.T, getM, putM, delM] at h) <;> (try simp only [natCast_eq] at h) <;> (try simp only [e0] at h) <;> (try simp only [pair_eta, map_idL, RW_eta, RE_eta, a0, a1, a2, a3, a4, a5, p0, p1, p2, p3, p4, p5, p6, s0, s1, s2, s3, s4, s5, s6, rrp_snd] at h) <;> (try (exfalso; first | exact absurd rfl h | exact absurd trivial h | exact absurd kk h | exact absurd h kk.1 | exact absurd h kk.2.1 | exact absurd h kk.2.2.1 | exact absurd h kk.2.2.2.1 | exact absurd h kk.2.2.2.2.1 | exact absurd h kk.2.2.2.2.2 | omega)) <;> (try first | rw [if_pos h] at hr | rw [if_neg h] at hr | rw [ifF h] at hr | rw [ifN h] at hr) <;> (try (have hb : (_ : Bool) = _ := h; clear h; subst hb; (try first | rw [if_pos rfl] at hr | rw [if_neg Bool.false_ne_true] at hr))) <;> first | (exfalso; omega) | exact absurd (h.symm.trans (by assumption) : true = false) Bool.noConfusion | exact absurd (h.symm.trans (by assumption) : false = true) Bool.noConfusion | (with_reducible refine (?_ : T1 _ ?_) ?_; rotate_left 1; (conv => lhs; cbv; (try cbv); (try cbv)); intro hT; clear hT; with_reducible refine Sh.mk (by kernel_rfl) ?_))
         | ((with_reducible refine End.mk ?_); skip)
         | with_reducible exact True.intro)
       all_goals first
         | (fail_if_success (with_reducible refine Exists.intro ?_ ?_)
            first
              | with_reducible rfl
              | with_reducible assumption
              | (symm; with_reducible assumption)
              | omega
              | ((try dsimp only [connSpec, ewrSpec, eclSpec, erdSpec, etkSpec, ercSpec, erpSpec, estSpec, estF, sccSpec, sccF, newESpec, rnwSpec, rconSpec, rwrSpec, rcloSpec, rrdeSpec, rtkeSpec, rrceSpec, rrpSpec, Ty.T, Ty.dflt, KT.T, getM, putM, delM, inI64, maxRow]); first | done | with_reducible rfl | with_reducible assumption | (symm; with_reducible assumption) | ((try simp only [natCast_eq, List.nil_append]); first | done | with_reducible rfl | omega | exact take_cg (by omega) | exact drop_cg (by omega) | exact take_drop_cg (by omega) (by omega) | exact take_all (by omega) | exact take_drop_all (by omega) (by omega) | exact drop_take_cg (by omega) (by omega) (by omega)))
              | first | exact hx0.symm
              | ((try dsimp only [connSpec, ewrSpec, eclSpec, erdSpec, etkSpec, ercSpec, erpSpec, estSpec, estF, sccSpec, sccF, newESpec, rnwSpec, rconSpec, rwrSpec, rcloSpec, rrdeSpec, rtkeSpec, rrceSpec, rrpSpec, Ty.T, Ty.dflt, KT.T, getM, putM, delM, inI64, maxRow]); first | (simp only [nrm, reduceCtorEq, pair_eta, map_idL, natCast_eq, inI64, maxRow]; first | done | with_reducible assumption | omega) | exact map_pair_id _)
              | ((try dsimp only [connSpec, ewrSpec, eclSpec, erdSpec, etkSpec, ercSpec, erpSpec, estSpec, estF, sccSpec, sccF, newESpec, rnwSpec, rconSpec, rwrSpec, rcloSpec, rrdeSpec, rtkeSpec, rrceSpec, rrpSpec, Ty.T, Ty.dflt, KT.T, getM, putM, delM, inI64, maxRow] at *); first | ((try simp only [natCast_eq] at *) <;> omega) | ((try simp only [lens, natCast_eq] at *) <;> omega))
              | assumption
              | (symm; assumption)
              | (dsimp only; simp only [nrb, *]; done)
              | (simp; done)
              | (and_intros <;> first | trivial | with_reducible assumption | omega)
              | ((try dsimp only [connSpec, ewrSpec, eclSpec, erdSpec, etkSpec, ercSpec, erpSpec, estSpec, estF, sccSpec, sccF, newESpec, rnwSpec, rconSpec, rwrSpec, rcloSpec, rrdeSpec, rtkeSpec, rrceSpec, rrpSpec, Ty.T, Ty.dflt, KT.T, getM, putM, delM, inI64, maxRow] at *) <;> simp [*] <;> done))
         | skip
     obtain ⟨i, hlo, hhi, hsm⟩ := x
     by_cases hin : i < L.length
     · skip
       (try (conv in (LoopInv.inv _ _) => dsimp only)); (try (conv in (SS.mk _ _) => cbv; (try dsimp only [connSpec, ewrSpec, eclSpec, erdSpec, etkSpec, ercSpec, erpSpec, estSpec, estF, sccSpec, sccF, newESpec, rnwSpec, rconSpec, rwrSpec, rcloSpec, rrdeSpec, rtkeSpec, rrceSpec, rrpSpec, Ty.T, Ty.dflt, KT.T]); (try simp only [natCast_eq])))
       (with_reducible refine (?_ : T1 _ ?_) ?_; rotate_left 1; (conv => lhs; cbv; (try cbv); (try cbv)); intro hT; clear hT; with_reducible refine Sh.mk (by kernel_rfl) ?_)
       repeat' (first
         | with_reducible (first | refine Ck.mk (C := tt) tt_intro ?_ | refine Ck.mk (show drawOk _ _ = true by kernel_rfl) ?_ | refine Ck.all_cons ?_ | refine Ck.all_nil ?_ | refine Ck.mk (by assumption) ?_ | refine Ck.mk (decide_eq_true (by assumption)) ?_ | refine Ck.mk (decide_eq_false (by assumption)) ?_ | refine Ck.mk ?_ ?_)
         | (with_reducible (first | refine Both.mk (fun h => ?_) (fun h => ?_) | refine Alt.mk (fun h => ?_) (fun h => ?_) | refine Pick.mk (fun h => ?_) (fun l1 x l2 h => ?_)) <;> (have hk := h) <;> (try simp only [nrm, reduceCtorEq, pair_eta, map_idL] at h) <;> (try dsimp only [connSpec, ewrSpec, eclSpec, erdSpec, etkSpec, ercSpec, erpSpec, estSpec, estF, sccSpec, sccF, newESpec, rnwSpec, rconSpec, rwrSpec, rcloSpec, rrdeSpec, rtkeSpec, rrceSpec, rrpSpec, Ty.T, Ty.dflt, KT.T, getM, putM, delM] at h) <;> (try simp only [natCast_eq] at h) <;> (try simp only [e0] at h) <;> (try simp only [pair_eta, map_idL, RW_eta, RE_eta, a0, a1, a2, a3, a4, a5, p0, p1, p2, p3, p4, p5, p6, s0, s1, s2, s3, s4, s5, s6, rrp_snd] at h) <;> (try (exfalso; first | exact absurd rfl h | exact absurd trivial h | exact absurd kk h | exact absurd h kk.1 | exact absurd h kk.2.1 | exact absurd h kk.2.2.1 | exact absurd h kk.2.2.2.1 | exact absurd h kk.2.2.2.2.1 | exact absurd h kk.2.2.2.2.2 | omega)) <;> (try first | rw [if_pos h] at hr | rw [if_neg h] at hr | rw [ifF h] at hr | rw [ifN h] at hr) <;> (try (have hb : (_ : Bool) = _ := h; clear h; subst hb; (try first | rw [if_pos rfl] at hr | rw [if_neg Bool.false_ne_true] at hr))) <;> first | (exfalso; omega) | exact absurd (h.symm.trans (by assumption) : true = false) Bool.noConfusion | exact absurd (h.symm.trans (by assumption) : false = true) Bool.noConfusion | (with_reducible refine (?_ : T1 _ ?_) ?_; rotate_left 1; (conv => lhs; cbv; (try cbv); (try cbv)); intro hT; clear hT; with_reducible refine Sh.mk (by kernel_rfl) ?_))
         | ((with_reducible refine End.mk ?_); (try ((repeat (first | rw [if_pos (by first | assumption | omega)] at hr | rw [if_neg (by first | assumption | omega | (simp only [Bool.false_eq_true, Bool.true_eq_false, reduceCtorEq, not_false_eq_true]; done) | (simp only [Bool.not_eq_true]; assumption) | (simp only [Bool.not_eq_false]; assumption))] at hr | rw [if_pos rfl] at hr)); subst hr)))
         | with_reducible exact True.intro)
       all_goals first
         | (fail_if_success (with_reducible refine Exists.intro ?_ ?_)
            first
              | with_reducible rfl
              | with_reducible assumption
              | (symm; with_reducible assumption)
              | omega
              | ((try dsimp only [connSpec, ewrSpec, eclSpec, erdSpec, etkSpec, ercSpec, erpSpec, estSpec, estF, sccSpec, sccF, newESpec, rnwSpec, rconSpec, rwrSpec, rcloSpec, rrdeSpec, rtkeSpec, rrceSpec, rrpSpec, Ty.T, Ty.dflt, KT.T, getM, putM, delM, inI64, maxRow]); first | done | with_reducible rfl | with_reducible assumption | (symm; with_reducible assumption) | ((try simp only [natCast_eq, List.nil_append]); first | done | with_reducible rfl | omega | exact take_cg (by omega) | exact drop_cg (by omega) | exact take_drop_cg (by omega) (by omega) | exact take_all (by omega) | exact take_drop_all (by omega) (by omega) | exact drop_take_cg (by omega) (by omega) (by omega)))
              | ((try dsimp only [connSpec, ewrSpec, eclSpec, erdSpec, etkSpec, ercSpec, erpSpec, estSpec, estF, sccSpec, sccF, newESpec, rnwSpec, rconSpec, rwrSpec, rcloSpec, rrdeSpec, rtkeSpec, rrceSpec, rrpSpec, Ty.T, Ty.dflt, KT.T, getM, putM, delM, inI64, maxRow]); first | (simp only [nrm, reduceCtorEq, pair_eta, map_idL, natCast_eq, inI64, maxRow]; first | done | with_reducible assumption | omega) | exact map_pair_id _)
              | ((try dsimp only [connSpec, ewrSpec, eclSpec, erdSpec, etkSpec, ercSpec, erpSpec, estSpec, estF, sccSpec, sccF, newESpec, rnwSpec, rconSpec, rwrSpec, rcloSpec, rrdeSpec, rtkeSpec, rrceSpec, rrpSpec, Ty.T, Ty.dflt, KT.T, getM, putM, delM, inI64, maxRow] at *); first | ((try simp only [natCast_eq] at *) <;> omega) | ((try simp only [lens, natCast_eq] at *) <;> omega))
              | assumption
              | (symm; assumption)
              | (dsimp only; simp only [nrb, *]; done)
              | (simp; done)
              | (and_intros <;> first | trivial | with_reducible assumption | omega)
              | ((try dsimp only [connSpec, ewrSpec, eclSpec, erdSpec, etkSpec, ercSpec, erpSpec, estSpec, estF, sccSpec, sccF, newESpec, rnwSpec, rconSpec, rwrSpec, rcloSpec, rrdeSpec, rtkeSpec, rrceSpec, rrpSpec, Ty.T, Ty.dflt, KT.T, getM, putM, delM, inI64, maxRow] at *) <;> simp [*] <;> done))
         | skip
       all_goals
         (refine Exists.elim (LC1.next (L := L) hL hlo hin hsm (by assumption) (by assumption)) ?_
          rintro y hy0
          refine ⟨y, by (try dsimp only); (try simp only [natCast_eq]); omega, ?_⟩
          (try (conv in (LoopInv.inv _ _) => dsimp only)); (try (conv in (SS.mk _ _) => cbv; (try dsimp only [connSpec, ewrSpec, eclSpec, erdSpec, etkSpec, ercSpec, erpSpec, estSpec, estF, sccSpec, sccF, newESpec, rnwSpec, rconSpec, rwrSpec, rcloSpec, rrdeSpec, rtkeSpec, rrceSpec, rrpSpec, Ty.T, Ty.dflt, KT.T]); (try simp only [natCast_eq])))
          (with_reducible refine (?_ : T1 _ ?_) ?_; rotate_left 1; (conv => lhs; cbv; (try cbv); (try cbv)); intro hT; clear hT; with_reducible refine Sh.mk (by kernel_rfl) ?_)
          repeat' (first
            | with_reducible (first | refine Ck.mk (C := tt) tt_intro ?_ | refine Ck.mk (show drawOk _ _ = true by kernel_rfl) ?_ | refine Ck.all_cons ?_ | refine Ck.all_nil ?_ | refine Ck.mk (by assumption) ?_ | refine Ck.mk (decide_eq_true (by assumption)) ?_ | refine Ck.mk (decide_eq_false (by assumption)) ?_ | refine Ck.mk ?_ ?_)
            | (with_reducible (first | refine Both.mk (fun h => ?_) (fun h => ?_) | refine Alt.mk (fun h => ?_) (fun h => ?_) | refine Pick.mk (fun h => ?_) (fun l1 x l2 h => ?_)) <;> (have hk := h) <;> (try simp only [nrm, reduceCtorEq, pair_eta, map_idL] at h) <;> (try dsimp only [connSpec, ewrSpec, eclSpec, erdSpec, etkSpec, ercSpec, erpSpec, estSpec, estF, sccSpec, sccF, newESpec, rnwSpec, rconSpec, rwrSpec, rcloSpec, rrdeSpec, rtkeSpec, rrceSpec, rrpSpec, Ty.T, Ty.dflt, KT.T, getM, putM, delM] at h) <;> (try simp only [natCast_eq] at h) <;> (try simp only [e0] at h) <;> (try simp only [pair_eta, map_idL, RW_eta, RE_eta, a0, a1, a2, a3, a4, a5, p0, p1, p2, p3, p4, p5, p6, s0, s1, s2, s3, s4, s5, s6, rrp_snd] at h) <;> (try (exfalso; first | exact absurd rfl h | exact absurd trivial h | exact absurd kk h | exact absurd h kk.1 | exact absurd h kk.2.1 | exact absurd h kk.2.2.1 | exact absurd h kk.2.2.2.1 | exact absurd h kk.2.2.2.2.1 | exact absurd h kk.2.2.2.2.2 | omega)) <;> (try first | rw [if_pos h] at hr | rw [if_neg h] at hr | rw [ifF h] at hr | rw [ifN h] at hr) <;> (try (have hb : (_ : Bool) = _ := h; clear h; subst hb; (try first | rw [if_pos rfl] at hr | rw [if_neg Bool.false_ne_true] at hr))) <;> first | (exfalso; omega) | exact absurd (h.symm.trans (by assumption) : true = false) Bool.noConfusion | exact absurd (h.symm.trans (by assumption) : false = true) Bool.noConfusion | (with_reducible refine (?_ : T1 _ ?_) ?_; rotate_left 1; (conv => lhs; cbv; (try cbv); (try cbv)); intro hT; clear hT; with_reducible refine Sh.mk (by kernel_rfl) ?_))
            | ((with_reducible refine End.mk ?_); skip)
            | with_reducible exact True.intro)
          all_goals first
            | (fail_if_success (with_reducible refine Exists.intro ?_ ?_)
               first
                 | with_reducible rfl
                 | with_reducible assumption
                 | (symm; with_reducible assumption)
                 | omega
                 | ((try dsimp only [connSpec, ewrSpec, eclSpec, erdSpec, etkSpec, ercSpec, erpSpec, estSpec, estF, sccSpec, sccF, newESpec, rnwSpec, rconSpec, rwrSpec, rcloSpec, rrdeSpec, rtkeSpec, rrceSpec, rrpSpec, Ty.T, Ty.dflt, KT.T, getM, putM, delM, inI64, maxRow]); first | done | with_reducible rfl | with_reducible assumption | (symm; with_reducible assumption) | ((try simp only [natCast_eq, List.nil_append]); first | done | with_reducible rfl | omega | exact take_cg (by omega) | exact drop_cg (by omega) | exact take_drop_cg (by omega) (by omega) | exact take_all (by omega) | exact take_drop_all (by omega) (by omega) | exact drop_take_cg (by omega) (by omega) (by omega)))
                 | exact hy0.symm
                 | ((try dsimp only [connSpec, ewrSpec, eclSpec, erdSpec, etkSpec, ercSpec, erpSpec, estSpec, estF, sccSpec, sccF, newESpec, rnwSpec, rconSpec, rwrSpec, rcloSpec, rrdeSpec, rtkeSpec, rrceSpec, rrpSpec, Ty.T, Ty.dflt, KT.T, getM, putM, delM, inI64, maxRow]); first | (simp only [nrm, reduceCtorEq, pair_eta, map_idL, natCast_eq, inI64, maxRow]; first | done | with_reducible assumption | omega) | exact map_pair_id _)
                 | ((try dsimp only [connSpec, ewrSpec, eclSpec, erdSpec, etkSpec, ercSpec, erpSpec, estSpec, estF, sccSpec, sccF, newESpec, rnwSpec, rconSpec, rwrSpec, rcloSpec, rrdeSpec, rtkeSpec, rrceSpec, rrpSpec, Ty.T, Ty.dflt, KT.T, getM, putM, delM, inI64, maxRow] at *); first | ((try simp only [natCast_eq] at *) <;> omega) | ((try simp only [lens, natCast_eq] at *) <;> omega))
                 | assumption
                 | (symm; assumption)
                 | (dsimp only; simp only [nrb, *]; done)
                 | (simp; done)
                 | (and_intros <;> first | trivial | with_reducible assumption | omega)
                 | ((try dsimp only [connSpec, ewrSpec, eclSpec, erdSpec, etkSpec, ercSpec, erpSpec, estSpec, estF, sccSpec, sccF, newESpec, rnwSpec, rconSpec, rwrSpec, rcloSpec, rrdeSpec, rtkeSpec, rrceSpec, rrpSpec, Ty.T, Ty.dflt, KT.T, getM, putM, delM, inI64, maxRow] at *) <;> simp [*] <;> done))
            | skip
          skip)
     · have hA : ∀ j : Int, 0 ≤ j → j < L.length → OkA (elA L j) := fun j j0 j1 => hsm j j0 (by omega)
       by_cases hc : 1 ≤ n ∧ n < 1099511627776 ∧ 1 ≤ w ∧ w ≤ 1048576 ∧ 1 ≤ t ∧ t ≤ 1000
       · first
         | (exfalso; omega)
         | (have e0 := rnw_in hc
            (try (conv in (LoopInv.inv _ _) => dsimp only)); (try (conv in (SS.mk _ _) => cbv; (try dsimp only [connSpec, ewrSpec, eclSpec, erdSpec, etkSpec, ercSpec, erpSpec, estSpec, estF, sccSpec, sccF, newESpec, rnwSpec, rconSpec, rwrSpec, rcloSpec, rrdeSpec, rtkeSpec, rrceSpec, rrpSpec, Ty.T, Ty.dflt, KT.T]); (try simp only [natCast_eq])))
            (with_reducible refine (?_ : T1 _ ?_) ?_; rotate_left 1; (conv => lhs; cbv; (try cbv); (try cbv)); intro hT; clear hT; with_reducible refine Sh.mk (by kernel_rfl) ?_)
            repeat' (first
              | with_reducible (first | refine Ck.mk (C := tt) tt_intro ?_ | refine Ck.mk (show drawOk _ _ = true by kernel_rfl) ?_ | refine Ck.all_cons ?_ | refine Ck.all_nil ?_ | refine Ck.mk (by assumption) ?_ | refine Ck.mk (decide_eq_true (by assumption)) ?_ | refine Ck.mk (decide_eq_false (by assumption)) ?_ | refine Ck.mk ?_ ?_)
              | (with_reducible (first | refine Both.mk (fun h => ?_) (fun h => ?_) | refine Alt.mk (fun h => ?_) (fun h => ?_) | refine Pick.mk (fun h => ?_) (fun l1 x l2 h => ?_)) <;> (have hk := h) <;> (try simp only [nrm, reduceCtorEq, pair_eta, map_idL] at h) <;> (try dsimp only [connSpec, ewrSpec, eclSpec, erdSpec, etkSpec, ercSpec, erpSpec, estSpec, estF, sccSpec, sccF, newESpec, rnwSpec, rconSpec, rwrSpec, rcloSpec, rrdeSpec, rtkeSpec, rrceSpec, rrpSpec, Ty.T, Ty.dflt, KT.T, getM, putM, delM] at h) <;> (try simp only [natCast_eq] at h) <;> (try simp only [e0] at h) <;> (try simp only [pair_eta, map_idL, RW_eta, RE_eta, a0, a1, a2, a3, a4, a5, p0, p1, p2, p3, p4, p5, p6, s0, s1, s2, s3, s4, s5, s6, rrp_snd] at h) <;> (try (exfalso; first | exact absurd rfl h | exact absurd trivial h | exact absurd kk h | exact absurd h kk.1 | exact absurd h kk.2.1 | exact absurd h kk.2.2.1 | exact absurd h kk.2.2.2.1 | exact absurd h kk.2.2.2.2.1 | exact absurd h kk.2.2.2.2.2 | omega)) <;> (try first | rw [if_pos h] at hr | rw [if_neg h] at hr | rw [ifF h] at hr | rw [ifN h] at hr) <;> (try (have hb : (_ : Bool) = _ := h; clear h; subst hb; (try first | rw [if_pos rfl] at hr | rw [if_neg Bool.false_ne_true] at hr))) <;> first | (exfalso; omega) | exact absurd (h.symm.trans (by assumption) : true = false) Bool.noConfusion | exact absurd (h.symm.trans (by assumption) : false = true) Bool.noConfusion | (with_reducible refine (?_ : T1 _ ?_) ?_; rotate_left 1; (conv => lhs; cbv; (try cbv); (try cbv)); intro hT; clear hT; with_reducible refine Sh.mk (by kernel_rfl) ?_))
              | ((with_reducible refine End.mk ?_); skip)
              | with_reducible exact True.intro)
            all_goals first
              | (fail_if_success (with_reducible refine Exists.intro ?_ ?_)
                 first
                   | with_reducible rfl
                   | with_reducible assumption
                   | (symm; with_reducible assumption)
                   | omega
                   | ((try dsimp only [connSpec, ewrSpec, eclSpec, erdSpec, etkSpec, ercSpec, erpSpec, estSpec, estF, sccSpec, sccF, newESpec, rnwSpec, rconSpec, rwrSpec, rcloSpec, rrdeSpec, rtkeSpec, rrceSpec, rrpSpec, Ty.T, Ty.dflt, KT.T, getM, putM, delM, inI64, maxRow]); first | done | with_reducible rfl | with_reducible assumption | (symm; with_reducible assumption) | ((try simp only [natCast_eq, List.nil_append]); first | done | with_reducible rfl | omega | exact take_cg (by omega) | exact drop_cg (by omega) | exact take_drop_cg (by omega) (by omega) | exact take_all (by omega) | exact take_drop_all (by omega) (by omega) | exact drop_take_cg (by omega) (by omega) (by omega)))
                   | ((try dsimp only [connSpec, ewrSpec, eclSpec, erdSpec, etkSpec, ercSpec, erpSpec, estSpec, estF, sccSpec, sccF, newESpec, rnwSpec, rconSpec, rwrSpec, rcloSpec, rrdeSpec, rtkeSpec, rrceSpec, rrpSpec, Ty.T, Ty.dflt, KT.T, getM, putM, delM, inI64, maxRow]); first | (simp only [nrm, reduceCtorEq, pair_eta, map_idL, natCast_eq, inI64, maxRow]; first | done | with_reducible assumption | omega) | exact map_pair_id _)
                   | ((try dsimp only [connSpec, ewrSpec, eclSpec, erdSpec, etkSpec, ercSpec, erpSpec, estSpec, estF, sccSpec, sccF, newESpec, rnwSpec, rconSpec, rwrSpec, rcloSpec, rrdeSpec, rtkeSpec, rrceSpec, rrpSpec, Ty.T, Ty.dflt, KT.T, getM, putM, delM, inI64, maxRow] at *); first | ((try simp only [natCast_eq] at *) <;> omega) | ((try simp only [lens, natCast_eq] at *) <;> omega))
                   | assumption
                   | (symm; assumption)
                   | (dsimp only; simp only [nrb, *]; done)
                   | (simp; done)
                   | (and_intros <;> first | trivial | with_reducible assumption | omega)
                   | ((try dsimp only [connSpec, ewrSpec, eclSpec, erdSpec, etkSpec, ercSpec, erpSpec, estSpec, estF, sccSpec, sccF, newESpec, rnwSpec, rconSpec, rwrSpec, rcloSpec, rrdeSpec, rtkeSpec, rrceSpec, rrpSpec, Ty.T, Ty.dflt, KT.T, getM, putM, delM, inI64, maxRow] at *) <;> simp [*] <;> done))
              | skip
            obtain ⟨y0, hy0, hy1, hy2⟩ : ∃ y : LCa L, y.i = 0 ∧ y.E = newEd n w t ∧ y.R = newRE n w t := ⟨⟨0, newEd n w t, newRE n w t, Int.le_refl _, by omega, Rel.new (by omega) (by omega)⟩, rfl, rfl, rfl⟩
            refine ⟨⟨LCa L, fun y => ⟨[(3, Sx.one (.ro actE (fun _ => L))), (11, Sx.one (.ptr 0 0)), (13, Sx.one (.ptr 1 0)), (14, Sx.one (.int .i64 (fun _ => 0))), (15, Sx.one (.int .i64 (fun _ => y.i)))], .abs (.edd (fun _ => y.E)) :: reC (fun _ => y.R)⟩, fun y => (L.length - y.i).toNat, y0⟩, ?_, fun (y : LCa L) => ?_⟩
            · (try (conv in (LoopInv.inv _ _) => dsimp only)); (try (conv in (SS.mk _ _) => cbv; (try dsimp only [connSpec, ewrSpec, eclSpec, erdSpec, etkSpec, ercSpec, erpSpec, estSpec, estF, sccSpec, sccF, newESpec, rnwSpec, rconSpec, rwrSpec, rcloSpec, rrdeSpec, rtkeSpec, rrceSpec, rrpSpec, Ty.T, Ty.dflt, KT.T]); (try simp only [natCast_eq])))
              (with_reducible refine (?_ : T1 _ ?_) ?_; rotate_left 1; (conv => lhs; cbv; (try cbv); (try cbv)); intro hT; clear hT; with_reducible refine Sh.mk (by kernel_rfl) ?_)
              repeat' (first
                | with_reducible (first | refine Ck.mk (C := tt) tt_intro ?_ | refine Ck.mk (show drawOk _ _ = true by kernel_rfl) ?_ | refine Ck.all_cons ?_ | refine Ck.all_nil ?_ | refine Ck.mk (by assumption) ?_ | refine Ck.mk (decide_eq_true (by assumption)) ?_ | refine Ck.mk (decide_eq_false (by assumption)) ?_ | refine Ck.mk ?_ ?_)
                | (with_reducible (first | refine Both.mk (fun h => ?_) (fun h => ?_) | refine Alt.mk (fun h => ?_) (fun h => ?_) | refine Pick.mk (fun h => ?_) (fun l1 x l2 h => ?_)) <;> (have hk := h) <;> (try simp only [nrm, reduceCtorEq, pair_eta, map_idL] at h) <;> (try dsimp only [connSpec, ewrSpec, eclSpec, erdSpec, etkSpec, ercSpec, erpSpec, estSpec, estF, sccSpec, sccF, newESpec, rnwSpec, rconSpec, rwrSpec, rcloSpec, rrdeSpec, rtkeSpec, rrceSpec, rrpSpec, Ty.T, Ty.dflt, KT.T, getM, putM, delM] at h) <;> (try simp only [natCast_eq] at h) <;> (try simp only [e0] at h) <;> (try simp only [pair_eta, map_idL, RW_eta, RE_eta, a0, a1, a2, a3, a4, a5, p0, p1, p2, p3, p4, p5, p6, s0, s1, s2, s3, s4, s5, s6, rrp_snd] at h) <;> (try (exfalso; first | exact absurd rfl h | exact absurd trivial h | exact absurd kk h | exact absurd h kk.1 | exact absurd h kk.2.1 | exact absurd h kk.2.2.1 | exact absurd h kk.2.2.2.1 | exact absurd h kk.2.2.2.2.1 | exact absurd h kk.2.2.2.2.2 | omega)) <;> (try first | rw [if_pos h] at hr | rw [if_neg h] at hr | rw [ifF h] at hr | rw [ifN h] at hr) <;> (try (have hb : (_ : Bool) = _ := h; clear h; subst hb; (try first | rw [if_pos rfl] at hr | rw [if_neg Bool.false_ne_true] at hr))) <;> first | (exfalso; omega) | exact absurd (h.symm.trans (by assumption) : true = false) Bool.noConfusion | exact absurd (h.symm.trans (by assumption) : false = true) Bool.noConfusion | (with_reducible refine (?_ : T1 _ ?_) ?_; rotate_left 1; (conv => lhs; cbv; (try cbv); (try cbv)); intro hT; clear hT; with_reducible refine Sh.mk (by kernel_rfl) ?_))
                | ((with_reducible refine End.mk ?_); skip)
                | with_reducible exact True.intro)
              all_goals first
                | (fail_if_success (with_reducible refine Exists.intro ?_ ?_)
                   first
                     | with_reducible rfl
                     | with_reducible assumption
                     | (symm; with_reducible assumption)
                     | omega
                     | ((try dsimp only [connSpec, ewrSpec, eclSpec, erdSpec, etkSpec, ercSpec, erpSpec, estSpec, estF, sccSpec, sccF, newESpec, rnwSpec, rconSpec, rwrSpec, rcloSpec, rrdeSpec, rtkeSpec, rrceSpec, rrpSpec, Ty.T, Ty.dflt, KT.T, getM, putM, delM, inI64, maxRow]); first | done | with_reducible rfl | with_reducible assumption | (symm; with_reducible assumption) | ((try simp only [natCast_eq, List.nil_append]); first | done | with_reducible rfl | omega | exact take_cg (by omega) | exact drop_cg (by omega) | exact take_drop_cg (by omega) (by omega) | exact take_all (by omega) | exact take_drop_all (by omega) (by omega) | exact drop_take_cg (by omega) (by omega) (by omega)))
                     | first | exact hy0.symm | (rw [hy1]; done) | (rw [hy1]; rfl) | (rw [hy2]; rw [e0]; done) | (rw [hy2]; rw [e0]; rfl) | (rw [e0]; done) | (rw [e0]; rfl)
                     | ((try dsimp only [connSpec, ewrSpec, eclSpec, erdSpec, etkSpec, ercSpec, erpSpec, estSpec, estF, sccSpec, sccF, newESpec, rnwSpec, rconSpec, rwrSpec, rcloSpec, rrdeSpec, rtkeSpec, rrceSpec, rrpSpec, Ty.T, Ty.dflt, KT.T, getM, putM, delM, inI64, maxRow]); first | (simp only [nrm, reduceCtorEq, pair_eta, map_idL, natCast_eq, inI64, maxRow]; first | done | with_reducible assumption | omega) | exact map_pair_id _)
                     | ((try dsimp only [connSpec, ewrSpec, eclSpec, erdSpec, etkSpec, ercSpec, erpSpec, estSpec, estF, sccSpec, sccF, newESpec, rnwSpec, rconSpec, rwrSpec, rcloSpec, rrdeSpec, rtkeSpec, rrceSpec, rrpSpec, Ty.T, Ty.dflt, KT.T, getM, putM, delM, inI64, maxRow] at *); first | ((try simp only [natCast_eq] at *) <;> omega) | ((try simp only [lens, natCast_eq] at *) <;> omega))
                     | assumption
                     | (symm; assumption)
                     | (dsimp only; simp only [nrb, *]; done)
                     | (simp; done)
                     | (and_intros <;> first | trivial | with_reducible assumption | omega)
                     | ((try dsimp only [connSpec, ewrSpec, eclSpec, erdSpec, etkSpec, ercSpec, erpSpec, estSpec, estF, sccSpec, sccF, newESpec, rnwSpec, rconSpec, rwrSpec, rcloSpec, rrdeSpec, rtkeSpec, rrceSpec, rrpSpec, Ty.T, Ty.dflt, KT.T, getM, putM, delM, inI64, maxRow] at *) <;> simp [*] <;> done))
                | skip
            clear e0 hy0 hy1 hy2
            obtain ⟨i2, E, R, jlo, jhi, hrel⟩ := y
            by_cases hj : i2 < L.length
            · have ha := hA i2 jlo hj
              obtain ⟨a0, r0, a1, r1, a2, r2, a3, b3, r3, a4, b4, r4, a5, b5, r5⟩ := hrel.all ha
              have p0 := r0.rp; have p1 := r1.rp; have p2 := r2.rp; have p3 := r3.rp; have p4 := r4.rp; have p5 := r5.rp; have p6 := hrel.rp
              have s0 := r0.st; have s1 := r1.st; have s2 := r2.st; have s3 := r3.st; have s4 := r4.st; have s5 := r5.st; have s6 := hrel.st
              dsimp only [elA, actZ, msgZ] at a1 a3 a4 a5 p1 p3 p4 p5 s1 s3 s4 s5 b3 b4 b5
              have c3 : inBytes (erdF E (elA L i2).2.1).1.1 := by rw [show (erdF E (elA L i2).2.1).1 = _ from a3]; exact b3
              have c4 : GL (etkF E (elA L i2).2.1).1.1 := by rw [show (etkF E (elA L i2).2.1).1 = _ from a4]; exact b4
              have c5 : GL (ercF E (elA L i2).2.2.2).1.1 := by rw [show (ercF E (elA L i2).2.2.2).1 = _ from a5]; exact b5
              have c3 : inBytes (erdF E (elA L i2).2.1).1.1 := by rw [show (erdF E (elA L i2).2.1).1 = _ from a3]; exact b3
              have c4 : GL (etkF E (elA L i2).2.1).1.1 := by rw [show (etkF E (elA L i2).2.1).1 = _ from a4]; exact b4
              have c5 : GL (ercF E (elA L i2).2.2.2).1.1 := by rw [show (ercF E (elA L i2).2.2.2).1 = _ from a5]; exact b5
              rcases six (K := (elA L i2).1) r0 r1 r2 r3 r4 r5 hrel with ⟨kk, rr⟩ | ⟨kk, rr⟩ | ⟨kk, rr⟩ | ⟨kk, rr⟩ | ⟨kk, rr⟩ | ⟨kk, rr⟩ | ⟨kk, rr⟩
              all_goals
                (dsimp only [elA, actZ, msgZ] at kk
                 (try (conv in (LoopInv.inv _ _) => dsimp only)); (try (conv in (SS.mk _ _) => cbv; (try dsimp only [connSpec, ewrSpec, eclSpec, erdSpec, etkSpec, ercSpec, erpSpec, estSpec, estF, sccSpec, sccF, newESpec, rnwSpec, rconSpec, rwrSpec, rcloSpec, rrdeSpec, rtkeSpec, rrceSpec, rrpSpec, Ty.T, Ty.dflt, KT.T]); (try simp only [natCast_eq])))
                 (with_reducible refine (?_ : T1 _ ?_) ?_; rotate_left 1; (conv => lhs; cbv; (try cbv); (try cbv)); intro hT; clear hT; with_reducible refine Sh.mk (by kernel_rfl) ?_)
                 repeat' (first
                   | with_reducible (first | refine Ck.mk (C := tt) tt_intro ?_ | refine Ck.mk (show drawOk _ _ = true by kernel_rfl) ?_ | refine Ck.all_cons ?_ | refine Ck.all_nil ?_ | refine Ck.mk (by assumption) ?_ | refine Ck.mk (decide_eq_true (by assumption)) ?_ | refine Ck.mk (decide_eq_false (by assumption)) ?_ | refine Ck.mk ?_ ?_)
                   | (with_reducible (first | refine Both.mk (fun h => ?_) (fun h => ?_) | refine Alt.mk (fun h => ?_) (fun h => ?_) | refine Pick.mk (fun h => ?_) (fun l1 x l2 h => ?_)) <;> (have hk := h) <;> (try simp only [nrm, reduceCtorEq, pair_eta, map_idL] at h) <;> (try dsimp only [connSpec, ewrSpec, eclSpec, erdSpec, etkSpec, ercSpec, erpSpec, estSpec, estF, sccSpec, sccF, newESpec, rnwSpec, rconSpec, rwrSpec, rcloSpec, rrdeSpec, rtkeSpec, rrceSpec, rrpSpec, Ty.T, Ty.dflt, KT.T, getM, putM, delM] at h) <;> (try simp only [natCast_eq] at h) <;> (try simp only [e0] at h) <;> (try simp only [pair_eta, map_idL, RW_eta, RE_eta, a0, a1, a2, a3, a4, a5, p0, p1, p2, p3, p4, p5, p6, s0, s1, s2, s3, s4, s5, s6, rrp_snd] at h) <;> (try (exfalso; first | exact absurd rfl h | exact absurd trivial h | exact absurd kk h | exact absurd h kk.1 | exact absurd h kk.2.1 | exact absurd h kk.2.2.1 | exact absurd h kk.2.2.2.1 | exact absurd h kk.2.2.2.2.1 | exact absurd h kk.2.2.2.2.2 | omega)) <;> (try first | rw [if_pos h] at hr | rw [if_neg h] at hr | rw [ifF h] at hr | rw [ifN h] at hr) <;> (try (have hb : (_ : Bool) = _ := h; clear h; subst hb; (try first | rw [if_pos rfl] at hr | rw [if_neg Bool.false_ne_true] at hr))) <;> first | (exfalso; omega) | exact absurd (h.symm.trans (by assumption) : true = false) Bool.noConfusion | exact absurd (h.symm.trans (by assumption) : false = true) Bool.noConfusion | (with_reducible refine (?_ : T1 _ ?_) ?_; rotate_left 1; (conv => lhs; cbv; (try cbv); (try cbv)); intro hT; clear hT; with_reducible refine Sh.mk (by kernel_rfl) ?_))
                   | ((with_reducible refine End.mk ?_); skip)
                   | with_reducible exact True.intro)
                 all_goals first
                   | (fail_if_success (with_reducible refine Exists.intro ?_ ?_)
                      first
                        | with_reducible rfl
                        | with_reducible assumption
                        | (symm; with_reducible assumption)
                        | omega
                        | ((try dsimp only [connSpec, ewrSpec, eclSpec, erdSpec, etkSpec, ercSpec, erpSpec, estSpec, estF, sccSpec, sccF, newESpec, rnwSpec, rconSpec, rwrSpec, rcloSpec, rrdeSpec, rtkeSpec, rrceSpec, rrpSpec, Ty.T, Ty.dflt, KT.T, getM, putM, delM, inI64, maxRow]); first | done | with_reducible rfl | with_reducible assumption | (symm; with_reducible assumption) | ((try simp only [natCast_eq, List.nil_append]); first | done | with_reducible rfl | omega | exact take_cg (by omega) | exact drop_cg (by omega) | exact take_drop_cg (by omega) (by omega) | exact take_all (by omega) | exact take_drop_all (by omega) (by omega) | exact drop_take_cg (by omega) (by omega) (by omega)))
                        | first | exact rr.len | exact ⟨hrel.okE.w, Nat.le_trans ha.dl (by decide)⟩ | exact ⟨hrel.ok, Nat.le_trans ha.dl (by decide)⟩ | exact hrel.so.pre | exact hrel.pre | exact ⟨c3, b3⟩ | ((try dsimp only); simp only [pair_eta, map_idL, RW_eta, RE_eta]; exact ⟨c3, b3⟩) | exact hrel.okE | exact ⟨hrel.ok, hrel.pre, hrel.sil⟩ | exact ⟨congrArg (fun z : TL => z.1) a4, c4⟩ | ((try dsimp only); simp only [pair_eta, map_idL, RW_eta, RE_eta]; exact ⟨congrArg (fun z : TL => z.1) a4, c4⟩) | exact ⟨hrel.okE, Nat.le_trans ha.sl (by decide)⟩ | exact ⟨hrel.ok, hrel.pre, Nat.le_trans ha.sl (by decide)⟩ | exact ⟨congrArg (fun z : TLI => z.1) a5, c5⟩ | ((try dsimp only); simp only [pair_eta, map_idL, RW_eta, RE_eta]; exact ⟨congrArg (fun z : TLI => z.1) a5, c5⟩)
                        | ((try dsimp only [connSpec, ewrSpec, eclSpec, erdSpec, etkSpec, ercSpec, erpSpec, estSpec, estF, sccSpec, sccF, newESpec, rnwSpec, rconSpec, rwrSpec, rcloSpec, rrdeSpec, rtkeSpec, rrceSpec, rrpSpec, Ty.T, Ty.dflt, KT.T, getM, putM, delM, inI64, maxRow]); first | (simp only [nrm, reduceCtorEq, pair_eta, map_idL, natCast_eq, inI64, maxRow]; first | done | with_reducible assumption | omega) | exact map_pair_id _)
                        | ((try dsimp only [connSpec, ewrSpec, eclSpec, erdSpec, etkSpec, ercSpec, erpSpec, estSpec, estF, sccSpec, sccF, newESpec, rnwSpec, rconSpec, rwrSpec, rcloSpec, rrdeSpec, rtkeSpec, rrceSpec, rrpSpec, Ty.T, Ty.dflt, KT.T, getM, putM, delM, inI64, maxRow] at *); first | ((try simp only [natCast_eq] at *) <;> omega) | ((try simp only [lens, natCast_eq] at *) <;> omega))
                        | assumption
                        | (symm; assumption)
                        | (dsimp only; simp only [nrb, *]; done)
                        | (simp; done)
                        | (and_intros <;> first | trivial | with_reducible assumption | omega)
                        | ((try dsimp only [connSpec, ewrSpec, eclSpec, erdSpec, etkSpec, ercSpec, erpSpec, estSpec, estF, sccSpec, sccF, newESpec, rnwSpec, rconSpec, rwrSpec, rcloSpec, rrdeSpec, rtkeSpec, rrceSpec, rrpSpec, Ty.T, Ty.dflt, KT.T, getM, putM, delM, inI64, maxRow] at *) <;> simp [*] <;> done))
                   | skip
                 all_goals
                   (refine Exists.elim (LCa.next (L := L) jlo hj rr) ?_
                    rintro y ⟨hy0, hy1, hy2⟩
                    refine ⟨y, by (try dsimp only); (try simp only [natCast_eq]); omega, ?_⟩
                    (try (conv in (LoopInv.inv _ _) => dsimp only)); (try (conv in (SS.mk _ _) => cbv; (try dsimp only [connSpec, ewrSpec, eclSpec, erdSpec, etkSpec, ercSpec, erpSpec, estSpec, estF, sccSpec, sccF, newESpec, rnwSpec, rconSpec, rwrSpec, rcloSpec, rrdeSpec, rtkeSpec, rrceSpec, rrpSpec, Ty.T, Ty.dflt, KT.T]); (try simp only [natCast_eq])))
                    (with_reducible refine (?_ : T1 _ ?_) ?_; rotate_left 1; (conv => lhs; cbv; (try cbv); (try cbv)); intro hT; clear hT; with_reducible refine Sh.mk (by kernel_rfl) ?_)
                    repeat' (first
                      | with_reducible (first | refine Ck.mk (C := tt) tt_intro ?_ | refine Ck.mk (show drawOk _ _ = true by kernel_rfl) ?_ | refine Ck.all_cons ?_ | refine Ck.all_nil ?_ | refine Ck.mk (by assumption) ?_ | refine Ck.mk (decide_eq_true (by assumption)) ?_ | refine Ck.mk (decide_eq_false (by assumption)) ?_ | refine Ck.mk ?_ ?_)
                      | (with_reducible (first | refine Both.mk (fun h => ?_) (fun h => ?_) | refine Alt.mk (fun h => ?_) (fun h => ?_) | refine Pick.mk (fun h => ?_) (fun l1 x l2 h => ?_)) <;> (have hk := h) <;> (try simp only [nrm, reduceCtorEq, pair_eta, map_idL] at h) <;> (try dsimp only [connSpec, ewrSpec, eclSpec, erdSpec, etkSpec, ercSpec, erpSpec, estSpec, estF, sccSpec, sccF, newESpec, rnwSpec, rconSpec, rwrSpec, rcloSpec, rrdeSpec, rtkeSpec, rrceSpec, rrpSpec, Ty.T, Ty.dflt, KT.T, getM, putM, delM] at h) <;> (try simp only [natCast_eq] at h) <;> (try simp only [e0] at h) <;> (try simp only [pair_eta, map_idL, RW_eta, RE_eta, a0, a1, a2, a3, a4, a5, p0, p1, p2, p3, p4, p5, p6, s0, s1, s2, s3, s4, s5, s6, rrp_snd] at h) <;> (try (exfalso; first | exact absurd rfl h | exact absurd trivial h | exact absurd kk h | exact absurd h kk.1 | exact absurd h kk.2.1 | exact absurd h kk.2.2.1 | exact absurd h kk.2.2.2.1 | exact absurd h kk.2.2.2.2.1 | exact absurd h kk.2.2.2.2.2 | omega)) <;> (try first | rw [if_pos h] at hr | rw [if_neg h] at hr | rw [ifF h] at hr | rw [ifN h] at hr) <;> (try (have hb : (_ : Bool) = _ := h; clear h; subst hb; (try first | rw [if_pos rfl] at hr | rw [if_neg Bool.false_ne_true] at hr))) <;> first | (exfalso; omega) | exact absurd (h.symm.trans (by assumption) : true = false) Bool.noConfusion | exact absurd (h.symm.trans (by assumption) : false = true) Bool.noConfusion | (with_reducible refine (?_ : T1 _ ?_) ?_; rotate_left 1; (conv => lhs; cbv; (try cbv); (try cbv)); intro hT; clear hT; with_reducible refine Sh.mk (by kernel_rfl) ?_))
                      | ((with_reducible refine End.mk ?_); skip)
                      | with_reducible exact True.intro)
                    all_goals first
                      | (fail_if_success (with_reducible refine Exists.intro ?_ ?_)
                         first
                           | with_reducible rfl
                           | with_reducible assumption
                           | (symm; with_reducible assumption)
                           | omega
                           | ((try dsimp only [connSpec, ewrSpec, eclSpec, erdSpec, etkSpec, ercSpec, erpSpec, estSpec, estF, sccSpec, sccF, newESpec, rnwSpec, rconSpec, rwrSpec, rcloSpec, rrdeSpec, rtkeSpec, rrceSpec, rrpSpec, Ty.T, Ty.dflt, KT.T, getM, putM, delM, inI64, maxRow]); first | done | with_reducible rfl | with_reducible assumption | (symm; with_reducible assumption) | ((try simp only [natCast_eq, List.nil_append]); first | done | with_reducible rfl | omega | exact take_cg (by omega) | exact drop_cg (by omega) | exact take_drop_cg (by omega) (by omega) | exact take_all (by omega) | exact take_drop_all (by omega) (by omega) | exact drop_take_cg (by omega) (by omega) (by omega)))
                           | first | exact hy0.symm | exact hy1.symm | (rw [hy1]; done) | (rw [hy2]; first | rfl | exact map_pair_id _)
                           | ((try dsimp only [connSpec, ewrSpec, eclSpec, erdSpec, etkSpec, ercSpec, erpSpec, estSpec, estF, sccSpec, sccF, newESpec, rnwSpec, rconSpec, rwrSpec, rcloSpec, rrdeSpec, rtkeSpec, rrceSpec, rrpSpec, Ty.T, Ty.dflt, KT.T, getM, putM, delM, inI64, maxRow]); first | (simp only [nrm, reduceCtorEq, pair_eta, map_idL, natCast_eq, inI64, maxRow]; first | done | with_reducible assumption | omega) | exact map_pair_id _)
                           | ((try dsimp only [connSpec, ewrSpec, eclSpec, erdSpec, etkSpec, ercSpec, erpSpec, estSpec, estF, sccSpec, sccF, newESpec, rnwSpec, rconSpec, rwrSpec, rcloSpec, rrdeSpec, rtkeSpec, rrceSpec, rrpSpec, Ty.T, Ty.dflt, KT.T, getM, putM, delM, inI64, maxRow] at *); first | ((try simp only [natCast_eq] at *) <;> omega) | ((try simp only [lens, natCast_eq] at *) <;> omega))
                           | assumption
                           | (symm; assumption)
                           | (dsimp only; simp only [nrb, *]; done)
                           | (simp; done)
                           | (and_intros <;> first | trivial | with_reducible assumption | omega)
                           | ((try dsimp only [connSpec, ewrSpec, eclSpec, erdSpec, etkSpec, ercSpec, erpSpec, estSpec, estF, sccSpec, sccF, newESpec, rnwSpec, rconSpec, rwrSpec, rcloSpec, rrdeSpec, rtkeSpec, rrceSpec, rrpSpec, Ty.T, Ty.dflt, KT.T, getM, putM, delM, inI64, maxRow] at *) <;> simp [*] <;> done))
                      | skip
                    skip))
            · skip
              (try (conv in (LoopInv.inv _ _) => dsimp only)); (try (conv in (SS.mk _ _) => cbv; (try dsimp only [connSpec, ewrSpec, eclSpec, erdSpec, etkSpec, ercSpec, erpSpec, estSpec, estF, sccSpec, sccF, newESpec, rnwSpec, rconSpec, rwrSpec, rcloSpec, rrdeSpec, rtkeSpec, rrceSpec, rrpSpec, Ty.T, Ty.dflt, KT.T]); (try simp only [natCast_eq])))
              (with_reducible refine (?_ : T1 _ ?_) ?_; rotate_left 1; (conv => lhs; cbv; (try cbv); (try cbv)); intro hT; clear hT; with_reducible refine Sh.mk (by kernel_rfl) ?_)
              repeat' (first
                | with_reducible (first | refine Ck.mk (C := tt) tt_intro ?_ | refine Ck.mk (show drawOk _ _ = true by kernel_rfl) ?_ | refine Ck.all_cons ?_ | refine Ck.all_nil ?_ | refine Ck.mk (by assumption) ?_ | refine Ck.mk (decide_eq_true (by assumption)) ?_ | refine Ck.mk (decide_eq_false (by assumption)) ?_ | refine Ck.mk ?_ ?_)
                | (with_reducible (first | refine Both.mk (fun h => ?_) (fun h => ?_) | refine Alt.mk (fun h => ?_) (fun h => ?_) | refine Pick.mk (fun h => ?_) (fun l1 x l2 h => ?_)) <;> (have hk := h) <;> (try simp only [nrm, reduceCtorEq, pair_eta, map_idL] at h) <;> (try dsimp only [connSpec, ewrSpec, eclSpec, erdSpec, etkSpec, ercSpec, erpSpec, estSpec, estF, sccSpec, sccF, newESpec, rnwSpec, rconSpec, rwrSpec, rcloSpec, rrdeSpec, rtkeSpec, rrceSpec, rrpSpec, Ty.T, Ty.dflt, KT.T, getM, putM, delM] at h) <;> (try simp only [natCast_eq] at h) <;> (try simp only [e0] at h) <;> (try simp only [pair_eta, map_idL, RW_eta, RE_eta, a0, a1, a2, a3, a4, a5, p0, p1, p2, p3, p4, p5, p6, s0, s1, s2, s3, s4, s5, s6, rrp_snd] at h) <;> (try (exfalso; first | exact absurd rfl h | exact absurd trivial h | exact absurd kk h | exact absurd h kk.1 | exact absurd h kk.2.1 | exact absurd h kk.2.2.1 | exact absurd h kk.2.2.2.1 | exact absurd h kk.2.2.2.2.1 | exact absurd h kk.2.2.2.2.2 | omega)) <;> (try first | rw [if_pos h] at hr | rw [if_neg h] at hr | rw [ifF h] at hr | rw [ifN h] at hr) <;> (try (have hb : (_ : Bool) = _ := h; clear h; subst hb; (try first | rw [if_pos rfl] at hr | rw [if_neg Bool.false_ne_true] at hr))) <;> first | (exfalso; omega) | exact absurd (h.symm.trans (by assumption) : true = false) Bool.noConfusion | exact absurd (h.symm.trans (by assumption) : false = true) Bool.noConfusion | (with_reducible refine (?_ : T1 _ ?_) ?_; rotate_left 1; (conv => lhs; cbv; (try cbv); (try cbv)); intro hT; clear hT; with_reducible refine Sh.mk (by kernel_rfl) ?_))
                | ((with_reducible refine End.mk ?_); (try ((repeat (first | rw [if_pos (by first | assumption | omega)] at hr | rw [if_neg (by first | assumption | omega | (simp only [Bool.false_eq_true, Bool.true_eq_false, reduceCtorEq, not_false_eq_true]; done) | (simp only [Bool.not_eq_true]; assumption) | (simp only [Bool.not_eq_false]; assumption))] at hr | rw [if_pos rfl] at hr)); subst hr)))
                | with_reducible exact True.intro)
              all_goals first
                | (fail_if_success (with_reducible refine Exists.intro ?_ ?_)
                   first
                     | with_reducible rfl
                     | with_reducible assumption
                     | (symm; with_reducible assumption)
                     | omega
                     | ((try dsimp only [connSpec, ewrSpec, eclSpec, erdSpec, etkSpec, ercSpec, erpSpec, estSpec, estF, sccSpec, sccF, newESpec, rnwSpec, rconSpec, rwrSpec, rcloSpec, rrdeSpec, rtkeSpec, rrceSpec, rrpSpec, Ty.T, Ty.dflt, KT.T, getM, putM, delM, inI64, maxRow]); first | done | with_reducible rfl | with_reducible assumption | (symm; with_reducible assumption) | ((try simp only [natCast_eq, List.nil_append]); first | done | with_reducible rfl | omega | exact take_cg (by omega) | exact drop_cg (by omega) | exact take_drop_cg (by omega) (by omega) | exact take_all (by omega) | exact take_drop_all (by omega) (by omega) | exact drop_take_cg (by omega) (by omega) (by omega)))
                     | ((try dsimp only [connSpec, ewrSpec, eclSpec, erdSpec, etkSpec, ercSpec, erpSpec, estSpec, estF, sccSpec, sccF, newESpec, rnwSpec, rconSpec, rwrSpec, rcloSpec, rrdeSpec, rtkeSpec, rrceSpec, rrpSpec, Ty.T, Ty.dflt, KT.T, getM, putM, delM, inI64, maxRow]); first | (simp only [nrm, reduceCtorEq, pair_eta, map_idL, natCast_eq, inI64, maxRow]; first | done | with_reducible assumption | omega) | exact map_pair_id _)
                     | ((try dsimp only [connSpec, ewrSpec, eclSpec, erdSpec, etkSpec, ercSpec, erpSpec, estSpec, estF, sccSpec, sccF, newESpec, rnwSpec, rconSpec, rwrSpec, rcloSpec, rrdeSpec, rtkeSpec, rrceSpec, rrpSpec, Ty.T, Ty.dflt, KT.T, getM, putM, delM, inI64, maxRow] at *); first | ((try simp only [natCast_eq] at *) <;> omega) | ((try simp only [lens, natCast_eq] at *) <;> omega))
                     | assumption
                     | (symm; assumption)
                     | (dsimp only; simp only [nrb, *]; done)
                     | (simp; done)
                     | (and_intros <;> first | trivial | with_reducible assumption | omega)
                     | ((try dsimp only [connSpec, ewrSpec, eclSpec, erdSpec, etkSpec, ercSpec, erpSpec, estSpec, estF, sccSpec, sccF, newESpec, rnwSpec, rconSpec, rwrSpec, rcloSpec, rrdeSpec, rtkeSpec, rrceSpec, rrpSpec, Ty.T, Ty.dflt, KT.T, getM, putM, delM, inI64, maxRow] at *) <;> simp [*] <;> done))
                | skip
              skip)
       · have e0 := rnw_out hc
         (try (conv in (LoopInv.inv _ _) => dsimp only)); (try (conv in (SS.mk _ _) => cbv; (try dsimp only [connSpec, ewrSpec, eclSpec, erdSpec, etkSpec, ercSpec, erpSpec, estSpec, estF, sccSpec, sccF, newESpec, rnwSpec, rconSpec, rwrSpec, rcloSpec, rrdeSpec, rtkeSpec, rrceSpec, rrpSpec, Ty.T, Ty.dflt, KT.T]); (try simp only [natCast_eq])))
         (with_reducible refine (?_ : T1 _ ?_) ?_; rotate_left 1; (conv => lhs; cbv; (try cbv); (try cbv)); intro hT; clear hT; with_reducible refine Sh.mk (by kernel_rfl) ?_)
         repeat' (first
           | with_reducible (first | refine Ck.mk (C := tt) tt_intro ?_ | refine Ck.mk (show drawOk _ _ = true by kernel_rfl) ?_ | refine Ck.all_cons ?_ | refine Ck.all_nil ?_ | refine Ck.mk (by assumption) ?_ | refine Ck.mk (decide_eq_true (by assumption)) ?_ | refine Ck.mk (decide_eq_false (by assumption)) ?_ | refine Ck.mk ?_ ?_)
           | (with_reducible (first | refine Both.mk (fun h => ?_) (fun h => ?_) | refine Alt.mk (fun h => ?_) (fun h => ?_) | refine Pick.mk (fun h => ?_) (fun l1 x l2 h => ?_)) <;> (have hk := h) <;> (try simp only [nrm, reduceCtorEq, pair_eta, map_idL] at h) <;> (try dsimp only [connSpec, ewrSpec, eclSpec, erdSpec, etkSpec, ercSpec, erpSpec, estSpec, estF, sccSpec, sccF, newESpec, rnwSpec, rconSpec, rwrSpec, rcloSpec, rrdeSpec, rtkeSpec, rrceSpec, rrpSpec, Ty.T, Ty.dflt, KT.T, getM, putM, delM] at h) <;> (try simp only [natCast_eq] at h) <;> (try simp only [e0] at h) <;> (try simp only [pair_eta, map_idL, RW_eta, RE_eta, a0, a1, a2, a3, a4, a5, p0, p1, p2, p3, p4, p5, p6, s0, s1, s2, s3, s4, s5, s6, rrp_snd] at h) <;> (try (exfalso; first | exact absurd rfl h | exact absurd trivial h | exact absurd kk h | exact absurd h kk.1 | exact absurd h kk.2.1 | exact absurd h kk.2.2.1 | exact absurd h kk.2.2.2.1 | exact absurd h kk.2.2.2.2.1 | exact absurd h kk.2.2.2.2.2 | omega)) <;> (try first | rw [if_pos h] at hr | rw [if_neg h] at hr | rw [ifF h] at hr | rw [ifN h] at hr) <;> (try (have hb : (_ : Bool) = _ := h; clear h; subst hb; (try first | rw [if_pos rfl] at hr | rw [if_neg Bool.false_ne_true] at hr))) <;> first | (exfalso; omega) | exact absurd (h.symm.trans (by assumption) : true = false) Bool.noConfusion | exact absurd (h.symm.trans (by assumption) : false = true) Bool.noConfusion | (with_reducible refine (?_ : T1 _ ?_) ?_; rotate_left 1; (conv => lhs; cbv; (try cbv); (try cbv)); intro hT; clear hT; with_reducible refine Sh.mk (by kernel_rfl) ?_))
           | ((with_reducible refine End.mk ?_); skip)
           | with_reducible exact True.intro)
         all_goals first
           | (fail_if_success (with_reducible refine Exists.intro ?_ ?_)
              first
                | with_reducible rfl
                | with_reducible assumption
                | (symm; with_reducible assumption)
                | omega
                | ((try dsimp only [connSpec, ewrSpec, eclSpec, erdSpec, etkSpec, ercSpec, erpSpec, estSpec, estF, sccSpec, sccF, newESpec, rnwSpec, rconSpec, rwrSpec, rcloSpec, rrdeSpec, rtkeSpec, rrceSpec, rrpSpec, Ty.T, Ty.dflt, KT.T, getM, putM, delM, inI64, maxRow]); first | done | with_reducible rfl | with_reducible assumption | (symm; with_reducible assumption) | ((try simp only [natCast_eq, List.nil_append]); first | done | with_reducible rfl | omega | exact take_cg (by omega) | exact drop_cg (by omega) | exact take_drop_cg (by omega) (by omega) | exact take_all (by omega) | exact take_drop_all (by omega) (by omega) | exact drop_take_cg (by omega) (by omega) (by omega)))
                | ((try dsimp only [connSpec, ewrSpec, eclSpec, erdSpec, etkSpec, ercSpec, erpSpec, estSpec, estF, sccSpec, sccF, newESpec, rnwSpec, rconSpec, rwrSpec, rcloSpec, rrdeSpec, rtkeSpec, rrceSpec, rrpSpec, Ty.T, Ty.dflt, KT.T, getM, putM, delM, inI64, maxRow]); first | (simp only [nrm, reduceCtorEq, pair_eta, map_idL, natCast_eq, inI64, maxRow]; first | done | with_reducible assumption | omega) | exact map_pair_id _)
                | ((try dsimp only [connSpec, ewrSpec, eclSpec, erdSpec, etkSpec, ercSpec, erpSpec, estSpec, estF, sccSpec, sccF, newESpec, rnwSpec, rconSpec, rwrSpec, rcloSpec, rrdeSpec, rtkeSpec, rrceSpec, rrpSpec, Ty.T, Ty.dflt, KT.T, getM, putM, delM, inI64, maxRow] at *); first | ((try simp only [natCast_eq] at *) <;> omega) | ((try simp only [lens, natCast_eq] at *) <;> omega))
                | assumption
                | (symm; assumption)
                | (dsimp only; simp only [nrb, *]; done)
                | (simp; done)
                | (and_intros <;> first | trivial | with_reducible assumption | omega)
                | ((try dsimp only [connSpec, ewrSpec, eclSpec, erdSpec, etkSpec, ercSpec, erpSpec, estSpec, estF, sccSpec, sccF, newESpec, rnwSpec, rconSpec, rwrSpec, rcloSpec, rrdeSpec, rtkeSpec, rrceSpec, rrpSpec, Ty.T, Ty.dflt, KT.T, getM, putM, delM, inI64, maxRow] at *) <;> simp [*] <;> done))
           | skip
         refine ⟨⟨Unit, fun _ => ⟨[(3, Sx.one (.ro actE (fun _ => L))), (14, Sx.one (.int .i64 (fun _ => 2))), (15, Sx.one (.li .i64 0))], []⟩, fun _ => 0, ()⟩, ?_, fun (y : Unit) => ?_⟩
         · (try (conv in (LoopInv.inv _ _) => dsimp only)); (try (conv in (SS.mk _ _) => cbv; (try dsimp only [connSpec, ewrSpec, eclSpec, erdSpec, etkSpec, ercSpec, erpSpec, estSpec, estF, sccSpec, sccF, newESpec, rnwSpec, rconSpec, rwrSpec, rcloSpec, rrdeSpec, rtkeSpec, rrceSpec, rrpSpec, Ty.T, Ty.dflt, KT.T]); (try simp only [natCast_eq])))
           (with_reducible refine (?_ : T1 _ ?_) ?_; rotate_left 1; (conv => lhs; cbv; (try cbv); (try cbv)); intro hT; clear hT; with_reducible refine Sh.mk (by kernel_rfl) ?_)
           repeat' (first
             | with_reducible (first | refine Ck.mk (C := tt) tt_intro ?_ | refine Ck.mk (show drawOk _ _ = true by kernel_rfl) ?_ | refine Ck.all_cons ?_ | refine Ck.all_nil ?_ | refine Ck.mk (by assumption) ?_ | refine Ck.mk (decide_eq_true (by assumption)) ?_ | refine Ck.mk (decide_eq_false (by assumption)) ?_ | refine Ck.mk ?_ ?_)
             | (with_reducible (first | refine Both.mk (fun h => ?_) (fun h => ?_) | refine Alt.mk (fun h => ?_) (fun h => ?_) | refine Pick.mk (fun h => ?_) (fun l1 x l2 h => ?_)) <;> (have hk := h) <;> (try simp only [nrm, reduceCtorEq, pair_eta, map_idL] at h) <;> (try dsimp only [connSpec, ewrSpec, eclSpec, erdSpec, etkSpec, ercSpec, erpSpec, estSpec, estF, sccSpec, sccF, newESpec, rnwSpec, rconSpec, rwrSpec, rcloSpec, rrdeSpec, rtkeSpec, rrceSpec, rrpSpec, Ty.T, Ty.dflt, KT.T, getM, putM, delM] at h) <;> (try simp only [natCast_eq] at h) <;> (try simp only [e0] at h) <;> (try simp only [pair_eta, map_idL, RW_eta, RE_eta, a0, a1, a2, a3, a4, a5, p0, p1, p2, p3, p4, p5, p6, s0, s1, s2, s3, s4, s5, s6, rrp_snd] at h) <;> (try (exfalso; first | exact absurd rfl h | exact absurd trivial h | exact absurd kk h | exact absurd h kk.1 | exact absurd h kk.2.1 | exact absurd h kk.2.2.1 | exact absurd h kk.2.2.2.1 | exact absurd h kk.2.2.2.2.1 | exact absurd h kk.2.2.2.2.2 | omega)) <;> (try first | rw [if_pos h] at hr | rw [if_neg h] at hr | rw [ifF h] at hr | rw [ifN h] at hr) <;> (try (have hb : (_ : Bool) = _ := h; clear h; subst hb; (try first | rw [if_pos rfl] at hr | rw [if_neg Bool.false_ne_true] at hr))) <;> first | (exfalso; omega) | exact absurd (h.symm.trans (by assumption) : true = false) Bool.noConfusion | exact absurd (h.symm.trans (by assumption) : false = true) Bool.noConfusion | (with_reducible refine (?_ : T1 _ ?_) ?_; rotate_left 1; (conv => lhs; cbv; (try cbv); (try cbv)); intro hT; clear hT; with_reducible refine Sh.mk (by kernel_rfl) ?_))
             | ((with_reducible refine End.mk ?_); skip)
             | with_reducible exact True.intro)
           all_goals first
             | (fail_if_success (with_reducible refine Exists.intro ?_ ?_)
                first
                  | with_reducible rfl
                  | with_reducible assumption
                  | (symm; with_reducible assumption)
                  | omega
                  | ((try dsimp only [connSpec, ewrSpec, eclSpec, erdSpec, etkSpec, ercSpec, erpSpec, estSpec, estF, sccSpec, sccF, newESpec, rnwSpec, rconSpec, rwrSpec, rcloSpec, rrdeSpec, rtkeSpec, rrceSpec, rrpSpec, Ty.T, Ty.dflt, KT.T, getM, putM, delM, inI64, maxRow]); first | done | with_reducible rfl | with_reducible assumption | (symm; with_reducible assumption) | ((try simp only [natCast_eq, List.nil_append]); first | done | with_reducible rfl | omega | exact take_cg (by omega) | exact drop_cg (by omega) | exact take_drop_cg (by omega) (by omega) | exact take_all (by omega) | exact take_drop_all (by omega) (by omega) | exact drop_take_cg (by omega) (by omega) (by omega)))
                  | first | (rw [e0]; done) | (rw [e0]; rfl)
                  | ((try dsimp only [connSpec, ewrSpec, eclSpec, erdSpec, etkSpec, ercSpec, erpSpec, estSpec, estF, sccSpec, sccF, newESpec, rnwSpec, rconSpec, rwrSpec, rcloSpec, rrdeSpec, rtkeSpec, rrceSpec, rrpSpec, Ty.T, Ty.dflt, KT.T, getM, putM, delM, inI64, maxRow]); first | (simp only [nrm, reduceCtorEq, pair_eta, map_idL, natCast_eq, inI64, maxRow]; first | done | with_reducible assumption | omega) | exact map_pair_id _)
                  | ((try dsimp only [connSpec, ewrSpec, eclSpec, erdSpec, etkSpec, ercSpec, erpSpec, estSpec, estF, sccSpec, sccF, newESpec, rnwSpec, rconSpec, rwrSpec, rcloSpec, rrdeSpec, rtkeSpec, rrceSpec, rrpSpec, Ty.T, Ty.dflt, KT.T, getM, putM, delM, inI64, maxRow] at *); first | ((try simp only [natCast_eq] at *) <;> omega) | ((try simp only [lens, natCast_eq] at *) <;> omega))
                  | assumption
                  | (symm; assumption)
                  | (dsimp only; simp only [nrb, *]; done)
                  | (simp; done)
                  | (and_intros <;> first | trivial | with_reducible assumption | omega)
                  | ((try dsimp only [connSpec, ewrSpec, eclSpec, erdSpec, etkSpec, ercSpec, erpSpec, estSpec, estF, sccSpec, sccF, newESpec, rnwSpec, rconSpec, rwrSpec, rcloSpec, rrdeSpec, rtkeSpec, rrceSpec, rrpSpec, Ty.T, Ty.dflt, KT.T, getM, putM, delM, inI64, maxRow] at *) <;> simp [*] <;> done))
             | skip
         clear e0
         (try (conv in (LoopInv.inv _ _) => dsimp only)); (try (conv in (SS.mk _ _) => cbv; (try dsimp only [connSpec, ewrSpec, eclSpec, erdSpec, etkSpec, ercSpec, erpSpec, estSpec, estF, sccSpec, sccF, newESpec, rnwSpec, rconSpec, rwrSpec, rcloSpec, rrdeSpec, rtkeSpec, rrceSpec, rrpSpec, Ty.T, Ty.dflt, KT.T]); (try simp only [natCast_eq])))
         (with_reducible refine (?_ : T1 _ ?_) ?_; rotate_left 1; (conv => lhs; cbv; (try cbv); (try cbv)); intro hT; clear hT; with_reducible refine Sh.mk (by kernel_rfl) ?_)
         repeat' (first
           | with_reducible (first | refine Ck.mk (C := tt) tt_intro ?_ | refine Ck.mk (show drawOk _ _ = true by kernel_rfl) ?_ | refine Ck.all_cons ?_ | refine Ck.all_nil ?_ | refine Ck.mk (by assumption) ?_ | refine Ck.mk (decide_eq_true (by assumption)) ?_ | refine Ck.mk (decide_eq_false (by assumption)) ?_ | refine Ck.mk ?_ ?_)
           | (with_reducible (first | refine Both.mk (fun h => ?_) (fun h => ?_) | refine Alt.mk (fun h => ?_) (fun h => ?_) | refine Pick.mk (fun h => ?_) (fun l1 x l2 h => ?_)) <;> (have hk := h) <;> (try simp only [nrm, reduceCtorEq, pair_eta, map_idL] at h) <;> (try dsimp only [connSpec, ewrSpec, eclSpec, erdSpec, etkSpec, ercSpec, erpSpec, estSpec, estF, sccSpec, sccF, newESpec, rnwSpec, rconSpec, rwrSpec, rcloSpec, rrdeSpec, rtkeSpec, rrceSpec, rrpSpec, Ty.T, Ty.dflt, KT.T, getM, putM, delM] at h) <;> (try simp only [natCast_eq] at h) <;> (try simp only [e0] at h) <;> (try simp only [pair_eta, map_idL, RW_eta, RE_eta, a0, a1, a2, a3, a4, a5, p0, p1, p2, p3, p4, p5, p6, s0, s1, s2, s3, s4, s5, s6, rrp_snd] at h) <;> (try (exfalso; first | exact absurd rfl h | exact absurd trivial h | exact absurd kk h | exact absurd h kk.1 | exact absurd h kk.2.1 | exact absurd h kk.2.2.1 | exact absurd h kk.2.2.2.1 | exact absurd h kk.2.2.2.2.1 | exact absurd h kk.2.2.2.2.2 | omega)) <;> (try first | rw [if_pos h] at hr | rw [if_neg h] at hr | rw [ifF h] at hr | rw [ifN h] at hr) <;> (try (have hb : (_ : Bool) = _ := h; clear h; subst hb; (try first | rw [if_pos rfl] at hr | rw [if_neg Bool.false_ne_true] at hr))) <;> first | (exfalso; omega) | exact absurd (h.symm.trans (by assumption) : true = false) Bool.noConfusion | exact absurd (h.symm.trans (by assumption) : false = true) Bool.noConfusion | (with_reducible refine (?_ : T1 _ ?_) ?_; rotate_left 1; (conv => lhs; cbv; (try cbv); (try cbv)); intro hT; clear hT; with_reducible refine Sh.mk (by kernel_rfl) ?_))
           | ((with_reducible refine End.mk ?_); (try ((repeat (first | rw [if_pos (by first | assumption | omega)] at hr | rw [if_neg (by first | assumption | omega | (simp only [Bool.false_eq_true, Bool.true_eq_false, reduceCtorEq, not_false_eq_true]; done) | (simp only [Bool.not_eq_true]; assumption) | (simp only [Bool.not_eq_false]; assumption))] at hr | rw [if_pos rfl] at hr)); subst hr)))
           | with_reducible exact True.intro)
         all_goals first
           | (fail_if_success (with_reducible refine Exists.intro ?_ ?_)
              first
                | with_reducible rfl
                | with_reducible assumption
                | (symm; with_reducible assumption)
                | omega
                | ((try dsimp only [connSpec, ewrSpec, eclSpec, erdSpec, etkSpec, ercSpec, erpSpec, estSpec, estF, sccSpec, sccF, newESpec, rnwSpec, rconSpec, rwrSpec, rcloSpec, rrdeSpec, rtkeSpec, rrceSpec, rrpSpec, Ty.T, Ty.dflt, KT.T, getM, putM, delM, inI64, maxRow]); first | done | with_reducible rfl | with_reducible assumption | (symm; with_reducible assumption) | ((try simp only [natCast_eq, List.nil_append]); first | done | with_reducible rfl | omega | exact take_cg (by omega) | exact drop_cg (by omega) | exact take_drop_cg (by omega) (by omega) | exact take_all (by omega) | exact take_drop_all (by omega) (by omega) | exact drop_take_cg (by omega) (by omega) (by omega)))
                | ((try dsimp only [connSpec, ewrSpec, eclSpec, erdSpec, etkSpec, ercSpec, erpSpec, estSpec, estF, sccSpec, sccF, newESpec, rnwSpec, rconSpec, rwrSpec, rcloSpec, rrdeSpec, rtkeSpec, rrceSpec, rrpSpec, Ty.T, Ty.dflt, KT.T, getM, putM, delM, inI64, maxRow]); first | (simp only [nrm, reduceCtorEq, pair_eta, map_idL, natCast_eq, inI64, maxRow]; first | done | with_reducible assumption | omega) | exact map_pair_id _)
                | ((try dsimp only [connSpec, ewrSpec, eclSpec, erdSpec, etkSpec, ercSpec, erpSpec, estSpec, estF, sccSpec, sccF, newESpec, rnwSpec, rconSpec, rwrSpec, rcloSpec, rrdeSpec, rtkeSpec, rrceSpec, rrpSpec, Ty.T, Ty.dflt, KT.T, getM, putM, delM, inI64, maxRow] at *); first | ((try simp only [natCast_eq] at *) <;> omega) | ((try simp only [lens, natCast_eq] at *) <;> omega))
                | assumption
                | (symm; assumption)
                | (dsimp only; simp only [nrb, *]; done)
                | (simp; done)
                | (and_intros <;> first | trivial | with_reducible assumption | omega)
                | ((try dsimp only [connSpec, ewrSpec, eclSpec, erdSpec, etkSpec, ercSpec, erpSpec, estSpec, estF, sccSpec, sccF, newESpec, rnwSpec, rconSpec, rwrSpec, rcloSpec, rrdeSpec, rtkeSpec, rrceSpec, rrpSpec, Ty.T, Ty.dflt, KT.T, getM, putM, delM, inI64, maxRow] at *) <;> simp [*] <;> done))
           | skip
         skip)
theorem sca_sound : ConSound Try.prog AI 9 scaSpec.con := PureSpec.sound Try.call9 (fun x h => sca_ok x.1 x.2.1 x.2.2.1 x.2.2.2.1 h)
end Go.Proofs.Ytldabjgegpmmiaa
