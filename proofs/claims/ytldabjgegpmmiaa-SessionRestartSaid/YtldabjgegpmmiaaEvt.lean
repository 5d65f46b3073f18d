/-
  Layer 47: the method event of a pair.
-/
import Derived.Test.YtldabjgegpmmiaaCal
namespace Go.Proofs.Ytldabjgegpmmiaa
set_option linter.all false
set_option linter.unusedVariables false
set_option linter.unusedSimpArgs false
set_option linter.unusedSectionVars false
open Go.RowKit Go.Sx
set_option maxRecDepth 100000
set_option maxHeartbeats 16000000
theorem andI_of {e : Int} (h0 : 0 ≤ e) (h1 : e ≤ 255) : andI e 1 = e % 2 := by
  have key : ∀ n : Fin 256, andI ((n : Nat) : Int) 1 = ((n : Nat) : Int) % 2 := by decide +kernel
  have := key ⟨e.toNat, by omega⟩
  rwa [show ((e.toNat : Nat) : Int) = e by omega] at this
/-- The first message on the way to an end is lost. -/
def losF (S : Pr) (i : Int) : Pr := if i = Int.ofNat 0 then (if 0 < (S.f0.length : Int) then { S with f0 := S.f0.drop 1 } else S) else (if 0 < (S.f1.length : Int) then { S with f1 := S.f1.drop 1 } else S)
def evL (S : Pr) (i : Int) : Int := if i = Int.ofNat 0 then (S.w0.length : Int) else (S.w1.length : Int)
def evB (S : Pr) (e : Int) : List Int := [e, IntKind.u8.wrap (evL S (andI e 1)), IntKind.u8.wrap (e + 1)].take (1 + e / 2 ^ (4 : Int).toNat % 3).toNat
abbrev ev1 (S : Pr) (e : Int) : TB1 × Pr := pwF S (andI e 1) (evB S e)
def evtF (S : Pr) (e : Int) : TB1 × Pr :=
  if e / 2 ^ (1 : Int).toNat % 8 = 0 then ev1 S e
  else if e / 2 ^ (1 : Int).toNat % 8 = 1 then ev1 S e
  else if e / 2 ^ (1 : Int).toNat % 8 = 2 then ((true, ()), (prF S (andI e 1) (1 + e / 2 ^ (4 : Int).toNat)).2)
  else if e / 2 ^ (1 : Int).toNat % 8 = 3 then ((true, ()), (paF S (andI e 1) (e / 2 ^ (4 : Int).toNat) true).2)
  else if e / 2 ^ (1 : Int).toNat % 8 = 4 then ((true, ()), losF S (andI e 1))
  else ((true, ()), (paF (paF (ptickF S (1 + e / 2 ^ (4 : Int).toNat % 5)).2 (andI e 1) (e / 2 ^ (4 : Int).toNat) false).2 (1 - andI e 1) 0 false).2)
theorem wrap_byte (a : Int) : 0 ≤ IntKind.u8.wrap a ∧ IntKind.u8.wrap a < 256 := by
  have h : IntKind.u8.wrap a = a % 256 := rfl
  omega
theorem evB_len (S : Pr) (e : Int) : (evB S e).length ≤ 3 := by
  unfold evB
  rw [List.length_take]
  simp only [List.length_cons, List.length_nil]
  omega
abbrev evC (S : Pr) (e w : Int) : List Int := List.drop (0 : Int).toNat (List.take (1 + e / 2 ^ (4 : Int).toNat % 3).toNat [e, IntKind.u8.wrap w, IntKind.u8.wrap (e + 1)])
theorem evB_0 {S : Pr} {e : Int} (h : andI e 1 = Int.ofNat 0) : evB S e = evC S e (S.w0.length : Int) := by unfold evB evL; rw [if_pos h]; rfl
theorem evB_1 {S : Pr} {e : Int} (h : ¬ andI e 1 = Int.ofNat 0) : evB S e = evC S e (S.w1.length : Int) := by unfold evB evL; rw [if_neg h]; rfl
theorem losF_0 {S : Pr} {e : Int} (h : andI e 1 = Int.ofNat 0) : losF S (andI e 1) = if 0 < (S.f0.length : Int) then { S with f0 := S.f0.drop 1 } else S := if_pos h
theorem losF_1 {S : Pr} {e : Int} (h : ¬ andI e 1 = Int.ofNat 0) : losF S (andI e 1) = if 0 < (S.f1.length : Int) then { S with f1 := S.f1.drop 1 } else S := if_neg h
theorem dropOne (l : List Msg) : (l.drop (1 : Int).toNat).take ((l.length : Int) - 1).toNat = l.drop 1 :=
  List.take_of_length_le (by rw [show (1 : Int).toNat = 1 from rfl, List.length_drop]; omega)
def pevSpec : StepM Ab Pr := ⟨parL, [.cell (.int .u8)], fun S (x : Int × Unit) => GoodP S 100000 100000 ∧ 0 ≤ x.1 ∧ x.1 ≤ 255, [.cell .bool], fun S (x : Int × Unit) => (evtF S x.1).1, fun S (x : Int × Unit) => (evtF S x.1).2⟩
theorem pev_ok (S : Pr) (e : Int) (h : pevSpec.pre S (e, ())) : ∃ args : List SV, args.length + 1 ≤ Try.f24.ntmps ∧ args.all (belV (parL).k) = true ∧ (∀ (ρ : Ev) us, All2 (Den ρ) (argS [.cell (.int .u8)] (fun _ => (e, ()))) us → All2 (Den ρ) args us) ∧ (svc Epc (parL).k (bodyOf Try.f24) ⟨argT 0 (Sx.one (.ptr 0 0) :: args), (parL).opn (fun _ => S)⟩ (finP Epc.ti (parL).k Try.f24.results.toList (resOf (svs pevSpec.rs (fun _ => pevSpec.f S (e, ())))) ((parL).opn (fun _ => pevSpec.next S (e, ())))) ∨ svc Epc (parL).k (bodyOf Try.f24) ⟨argT 0 (Sx.one (.ptr 0 0) :: args), (parL).opn (fun _ => S)⟩ (finR Epc.ti (parL).k Try.f24.results.toList (resOf (svs pevSpec.rs (fun _ => pevSpec.f S (e, ())))) ((parL).opn (fun _ => pevSpec.next S (e, ()))))) := by
  dsimp only [pevSpec, parL] at h ⊢
  obtain ⟨hg, h0, h1⟩ := h
  have ha := andI_of h0 h1
  have hi : andI e 1 = 0 ∨ andI e 1 = 1 := by omega
  have e4 : e / 2 ^ (4 : Int).toNat = e / 16 := rfl
  have e1 : e / 2 ^ (1 : Int).toNat = e / 2 := rfl
  refine ⟨argS [.cell (.int .u8)] (fun _ => (e, ())), Nat.le_of_ble_eq_true (by kernel_rfl), rfl, (fun ρ us hd => hd), .inl ?_⟩
  generalize hr : evtF S e = r
  dsimp only [evtF] at hr
  (try (conv in (LoopInv.inv _ _) => dsimp only)); (try (conv in (SS.mk _ _) => cbv; (try dsimp only [ptickSpec, parSpec, prdSpec, pwrSpec, Ty.T, Ty.dflt, KT.T]); (try simp only [natCast_eq])))
  (with_reducible refine (?_ : T1 _ ?_) ?_; rotate_left 1; (conv => lhs; cbv; (try cbv); (try cbv)); intro hT; clear hT; with_reducible refine Sh.mk (by kernel_rfl) ?_)
  repeat' (first
    | with_reducible (first | refine Ck.mk (C := tt) tt_intro ?_ | refine Ck.mk (show drawOk _ _ = true by kernel_rfl) ?_ | refine Ck.all_cons ?_ | refine Ck.all_nil ?_ | refine Ck.mk (by assumption) ?_ | refine Ck.mk (decide_eq_true (by assumption)) ?_ | refine Ck.mk (decide_eq_false (by assumption)) ?_ | refine Ck.mk ?_ ?_)
    | (with_reducible (first | refine Both.mk (fun h => ?_) (fun h => ?_) | refine Alt.mk (fun h => ?_) (fun h => ?_) | refine Pick.mk (fun h => ?_) (fun l1 x l2 h => ?_)) <;> (have hk := h) <;> (try simp only [nrm, reduceCtorEq, pair_eta, map_idL] at h) <;> (try dsimp only [ptickSpec, parSpec, prdSpec, pwrSpec, Ty.T, Ty.dflt, KT.T, getM, putM, delM] at h) <;> (try simp only [natCast_eq] at h) <;> (try (have hB := evB_0 (S := S) h)) <;> (try (have hB := evB_1 (S := S) h)) <;> (try rw [losF_0 h] at hr) <;> (try rw [losF_1 h] at hr) <;> (try first | rw [if_pos h] at hr | rw [if_neg h] at hr | rw [ifF h] at hr | rw [ifN h] at hr) <;> (try (have hb : (_ : Bool) = _ := h; clear h; subst hb; (try first | rw [if_pos rfl] at hr | rw [if_neg Bool.false_ne_true] at hr))) <;> first | (exfalso; omega) | exact absurd (h.symm.trans (by assumption) : true = false) Bool.noConfusion | exact absurd (h.symm.trans (by assumption) : false = true) Bool.noConfusion | (with_reducible refine (?_ : T1 _ ?_) ?_; rotate_left 1; (conv => lhs; cbv; (try cbv); (try cbv)); intro hT; clear hT; with_reducible refine Sh.mk (by kernel_rfl) ?_))
    | ((with_reducible refine End.mk ?_); (try ((repeat (first | rw [if_pos (by first | assumption | omega)] at hr | rw [if_neg (by first | assumption | omega | (simp only [Bool.false_eq_true, Bool.true_eq_false, reduceCtorEq, not_false_eq_true]; done) | (simp only [Bool.not_eq_true]; assumption) | (simp only [Bool.not_eq_false]; assumption))] at hr | rw [if_pos rfl] at hr)); subst hr)))
    | with_reducible exact True.intro)
  all_goals first
    | (fail_if_success (with_reducible refine Exists.intro ?_ ?_)
       first
         | with_reducible rfl
         | with_reducible assumption
         | (symm; with_reducible assumption)
         | omega
         | ((try dsimp only [ptickSpec, parSpec, prdSpec, pwrSpec, Ty.T, Ty.dflt, KT.T, getM, putM, delM, inI64, maxRow]); first | done | with_reducible rfl | with_reducible assumption | (symm; with_reducible assumption) | ((try simp only [natCast_eq, List.nil_append]); first | done | with_reducible rfl | omega | exact take_cg (by omega) | exact drop_cg (by omega) | exact take_drop_cg (by omega) (by omega) | exact take_all (by omega) | exact take_drop_all (by omega) (by omega) | exact drop_take_cg (by omega) (by omega) (by omega)))
         | (show _ ∧ _ ∧ _; (try dsimp only); simp only [inI64]; omega)
         | (refine ⟨hi, hg.okE, hg.lenw, ?_⟩; dsimp only; rw [List.length_drop, List.length_take]; simp only [List.length_cons, List.length_nil]; omega)
         | exact hg.preR (by decide) hi (by (try dsimp only); omega)
         | exact hg.preA (by decide) hi (by (try dsimp only); omega) _
         | exact hg.preT (by decide) _
         | exact (hg.tick _).preA (by decide) hi (by (try dsimp only); omega) _
         | exact ((hg.tick (1 + e / 2 ^ (4 : Int).toNat % 5)).arr (andI e 1) (e / 2 ^ (4 : Int).toNat) false).preA (i := 1 - andI e 1) (a := 0) (by decide) (by omega) ⟨Int.le_refl _, by decide⟩ false
         | exact hi.resolve_left (by assumption)
         | ((try dsimp only); (try simp only [pair_eta, map_idL]); exact dropOne _)
         | ((try subst hr); (try dsimp only [ev1]); (try simp only [pair_eta, map_idL]); generalize evB S e = Z at hB ⊢; subst hB; first | done | rfl)
         | ((try subst hr); (try dsimp only [ev1]); simp only [pair_eta, map_idL]; done)
         | ((try dsimp only [ptickSpec, parSpec, prdSpec, pwrSpec, Ty.T, Ty.dflt, KT.T, getM, putM, delM, inI64, maxRow]); first | (simp only [nrm, reduceCtorEq, pair_eta, map_idL, natCast_eq, inI64, maxRow]; first | done | with_reducible assumption | omega) | exact map_pair_id _)
         | ((try dsimp only [ptickSpec, parSpec, prdSpec, pwrSpec, Ty.T, Ty.dflt, KT.T, getM, putM, delM, inI64, maxRow] at *); first | ((try simp only [natCast_eq] at *) <;> omega) | ((try simp only [lens, natCast_eq] at *) <;> omega))
         | assumption
         | (symm; assumption)
         | (dsimp only; simp only [nrb, *]; done)
         | (simp; done)
         | (and_intros <;> first | trivial | with_reducible assumption | omega)
         | ((try dsimp only [ptickSpec, parSpec, prdSpec, pwrSpec, Ty.T, Ty.dflt, KT.T, getM, putM, delM, inI64, maxRow] at *) <;> simp [*] <;> done))
    | skip
  all_goals skip
theorem pev_sound : ConSound Try.prog AI 24 pevSpec.con := StepM.sound epcOk mixed (fn := Try.f24) (c := bodyOf Try.f24) Try.call24 (by kernel_rfl) (by kernel_rfl) (by kernel_rfl) fun S x h => pev_ok S x.1 h
end Go.Proofs.Ytldabjgegpmmiaa
