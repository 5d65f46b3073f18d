/-
  Layer 48: the example of the chapter (awake).
-/
import Derived.Test.YtgdiepbjdpmfbaaHan
namespace Go.Proofs.Ytgdiepbjdpmfbaa
set_option linter.all false
set_option linter.unusedVariables false
set_option linter.unusedSimpArgs false
set_option linter.unusedSectionVars false
open Go.RowKit Go.Sx
set_option maxRecDepth 100000
set_option maxHeartbeats 16000000

noncomputable abbrev Ek : Env Ab := ⟨tis, [(17, mhandSpec.con), (16, mstartSpec.con), (15, mreadSpec.con), (13, frzCon mrcvSpec.con), (12, newMovSpec.con)] ++ E0.con⟩
theorem ekOk : EnvOk Try.prog AI Ek := (((((e0Ok.add newMov_sound).add (frzCon_sound mrcv_sound)).add mread_sound).add mstart_sound).add mhand_sound)
def stoB (S : Sto) : Bool := decide ((1 ≤ S.win ∧ S.win ≤ 1048576) ∧ (0 ≤ S.off ∧ S.off ≤ S.next) ∧ (S.next ≤ S.off + S.win ∧ S.next ≤ topK) ∧ (S.kept.map Prod.fst).Nodup ∧ (∀ p ∈ S.kept, S.off ≤ p.1 ∧ p.1 < S.off + S.win ∧ p.1 < topK)
  ∧ (∀ i ∈ List.range (S.next - S.off).toNat, S.off + (i : Int) ∈ S.kept.map Prod.fst) ∧ S.next ∉ S.kept.map Prod.fst ∧ (S.known = true → 0 ≤ S.fin ∧ S.fin ≤ topK ∧ S.off ≤ S.fin ∧ ∀ p ∈ S.kept, p.1 < S.fin) ∧ ∀ p ∈ S.kept, 0 ≤ p.2 ∧ p.2 < 256)
theorem sto_of {S : Sto} (h : stoB S = true) : StO S := by
  obtain ⟨a, b, c, d, e, f, g, i, j⟩ := of_decide_eq_true h
  refine ⟨a, b, c, d, e, fun k k1 k2 => ?_, g, i, j⟩
  have := f (k - S.off).toNat (List.mem_range.2 (by omega))
  rw [show S.off + (((k - S.off).toNat : Nat) : Int) = k by omega] at this
  exact this
def okMB (M : Mov) : Bool := decide (1 ≤ M.win ∧ M.win ≤ 1048576) && (decide (M.ph = .moved) || (stoB M.a && decide (M.a.win = M.win))) && (decide (M.ph = .old) || (stoB M.b && decide (M.b.win = M.win)))
theorem okM_of {M : Mov} (h : okMB M = true) : OkM M := by
  unfold okMB at h
  simp only [Bool.and_eq_true, Bool.or_eq_true, decide_eq_true_eq] at h
  obtain ⟨⟨h1, h2⟩, h3⟩ := h
  exact ⟨h1, fun e => h2.elim (fun e2 => absurd e2 e) fun h => ⟨sto_of h.1, h.2⟩, fun e => h3.elim (fun e2 => absurd e2 e) fun h => ⟨sto_of h.1, h.2⟩⟩
def awakeF : Tup [DT.cell .bool] := (true, ())
def awakeSpec : PureSpec := ⟨[], fun (x : Unit) => True, [.cell .bool], fun (x : Unit) => awakeF ⟩
theorem awake_ok  (h : awakeSpec.pre (())) : TmplOk Try.prog AI 11 (argS awakeSpec.ds (fun _ => (()))) [] (resOf (svs awakeSpec.rs (fun _ => awakeSpec.f (())))) [] := by
  dsimp only [awakeSpec] at h ⊢
  generalize hr : awakeF  = r
  dsimp only [awakeF] at hr
  refine tmpl_of_body ekOk mixed (fn := Try.f11) (c := bodyOf Try.f11) (by kernel_rfl) (by kernel_rfl) (by kernel_rfl) (Nat.le_of_ble_eq_true (by kernel_rfl)) ?_
  (try (conv in (LoopInv.inv _ _) => dsimp only)); (try (conv in (SS.mk _ _) => cbv; (try dsimp only [Ty.T, Ty.dflt, KT.T]); (try simp only [natCast_eq])))
  (with_reducible refine (?_ : T1 _ ?_) ?_; rotate_left 1; (conv => lhs; cbv; (try cbv); (try cbv)); intro hT; clear hT; with_reducible refine Sh.mk (by kernel_rfl) ?_)
  repeat' (first
    | with_reducible (first | refine Ck.mk (C := tt) tt_intro ?_ | refine Ck.mk (show drawOk _ _ = true by kernel_rfl) ?_ | refine Ck.all_cons ?_ | refine Ck.all_nil ?_ | refine Ck.mk (by assumption) ?_ | refine Ck.mk (decide_eq_true (by assumption)) ?_ | refine Ck.mk (decide_eq_false (by assumption)) ?_ | refine Ck.mk ?_ ?_)
    | (with_reducible (first | refine Both.mk (fun h => ?_) (fun h => ?_) | refine Alt.mk (fun h => ?_) (fun h => ?_) | refine Pick.mk (fun h => ?_) (fun l1 x l2 h => ?_)) <;> (have hk := h) <;> (try simp only [nrm, reduceCtorEq, pair_eta, map_idL] at h) <;> (try dsimp only [Ty.T, Ty.dflt, KT.T, getM, putM, delM] at h) <;> (try simp only [natCast_eq] at h) <;> skip <;> (try first | rw [if_pos h] at hr | rw [if_neg h] at hr | rw [ifF h] at hr | rw [ifN h] at hr) <;> (try (have hb : (_ : Bool) = _ := h; clear h; subst hb; (try first | rw [if_pos rfl] at hr | rw [if_neg Bool.false_ne_true] at hr))) <;> first | (exfalso; omega) | exact absurd (h.symm.trans (by assumption) : true = false) Bool.noConfusion | exact absurd (h.symm.trans (by assumption) : false = true) Bool.noConfusion | (with_reducible refine (?_ : T1 _ ?_) ?_; rotate_left 1; (conv => lhs; cbv; (try cbv); (try cbv)); intro hT; clear hT; with_reducible refine Sh.mk (by kernel_rfl) ?_))
    | ((with_reducible refine End.mk ?_); (try ((repeat (first | rw [if_pos (by first | assumption | omega)] at hr | rw [if_neg (by first | assumption | omega | (simp only [Bool.false_eq_true, Bool.true_eq_false, reduceCtorEq, not_false_eq_true]; done) | (simp only [Bool.not_eq_true]; assumption) | (simp only [Bool.not_eq_false]; assumption))] at hr | rw [if_pos rfl] at hr)); subst hr)))
    | with_reducible exact True.intro)
  all_goals first
    | (fail_if_success (with_reducible refine Exists.intro ?_ ?_)
       first
         | with_reducible rfl
         | with_reducible assumption
         | (symm; with_reducible assumption)
         | omega
         | ((try dsimp only [Ty.T, Ty.dflt, KT.T, getM, putM, delM, inI64, maxRow]); first | done | with_reducible rfl | with_reducible assumption | (symm; with_reducible assumption) | ((try simp only [natCast_eq, List.nil_append]); first | done | with_reducible rfl | omega | exact take_cg (by omega) | exact drop_cg (by omega) | exact take_drop_cg (by omega) (by omega) | exact take_all (by omega) | exact take_drop_all (by omega) (by omega) | exact drop_take_cg (by omega) (by omega) (by omega)))
         | (exfalso; revert h; decide +kernel)
         | (dsimp only; exact okM_of (by decide +kernel))
         | (dsimp only; exact ⟨okM_of (by decide +kernel), by decide +kernel⟩)
         | (dsimp only; exact ⟨okM_of (by decide +kernel), fun _ => by decide +kernel⟩)
         | (dsimp only; exact ⟨okM_of (by decide +kernel), fun _ => ⟨by decide +kernel, by decide +kernel⟩⟩)
         | (dsimp only [inBytes]; decide +kernel)
         | (subst hr; dsimp only; decide +kernel)
         | ((try dsimp only [Ty.T, Ty.dflt, KT.T, getM, putM, delM, inI64, maxRow]); first | (simp only [nrm, reduceCtorEq, pair_eta, map_idL, natCast_eq, inI64, maxRow]; first | done | with_reducible assumption | omega) | exact map_pair_id _)
         | ((try dsimp only [Ty.T, Ty.dflt, KT.T, getM, putM, delM, inI64, maxRow] at *); first | ((try simp only [natCast_eq] at *) <;> omega) | ((try simp only [lens, natCast_eq] at *) <;> omega))
         | assumption
         | (symm; assumption)
         | (dsimp only; simp only [nrb, *]; done)
         | (simp; done)
         | (and_intros <;> first | trivial | with_reducible assumption | omega)
         | ((try dsimp only [Ty.T, Ty.dflt, KT.T, getM, putM, delM, inI64, maxRow] at *) <;> simp [*] <;> done))
    | skip
theorem awake_sound : ConSound Try.prog AI 11 awakeSpec.con := PureSpec.sound Try.call11 (fun x h => awake_ok  h)
end Go.Proofs.Ytgdiepbjdpmfbaa
