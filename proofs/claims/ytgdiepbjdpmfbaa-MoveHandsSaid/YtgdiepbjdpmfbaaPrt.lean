/-
  Layer 48: part (the segment of a stream that a number describes).
-/
import Derived.Test.YtgdiepbjdpmfbaaMfp
import Derived.Test.YtgdiepbjdpmfbaaAwk
import Derived.Test.YtgdiepbjdpmfbaaEng3
namespace Go.Proofs.Ytgdiepbjdpmfbaa
set_option linter.all false
set_option linter.unusedVariables false
set_option linter.unusedSimpArgs false
set_option linter.unusedSectionVars false
open Go.RowKit Go.Sx
set_option maxRecDepth 100000
set_option maxHeartbeats 16000000

abbrev pf (d : List Int) (k : Int) : Int := k % ((d.length : Int) + 1)
abbrev pt (d : List Int) (k : Int) : Int := pf d k + k / 256 % ((d.length : Int) - pf d k + 1)
def partS (d : List Int) (k : Int) : Seg := (pf d k, (d.take (pt d k).toNat).drop (pf d k).toNat, if pt d k = d.length then decide (k % 3 = 0) else false)
theorem part_rng (d : List Int) {k : Int} (h : 0 ≤ k) : 0 ≤ pf d k ∧ pf d k ≤ d.length ∧ pf d k ≤ pt d k ∧ pt d k ≤ d.length := by
  have h1 : 0 ≤ pf d k ∧ pf d k < (d.length : Int) + 1 := ⟨Int.emod_nonneg _ (by omega), Int.emod_lt_of_pos _ (by omega)⟩
  have h2 : 0 ≤ k / 256 % ((d.length : Int) - pf d k + 1) ∧ k / 256 % ((d.length : Int) - pf d k + 1) < (d.length : Int) - pf d k + 1 := ⟨Int.emod_nonneg _ (by omega), Int.emod_lt_of_pos _ (by omega)⟩
  dsimp only [pt]
  omega
theorem partS_part (d : List Int) {k : Int} (h : 0 ≤ k) : IsPart d (partS d k) := by
  obtain ⟨h1, h2, h3, h4⟩ := part_rng d h
  have hl : (partS d k).2.1.length = (pt d k - pf d k).toNat := by
    show ((d.take (pt d k).toNat).drop (pf d k).toNat).length = _
    rw [List.length_drop, List.length_take]; omega
  refine ⟨h1, ?_, ?_, fun h => ?_⟩
  · rw [hl]; show pf d k + _ ≤ _; omega
  · rw [hl]
    show (d.take (pt d k).toNat).drop (pf d k).toNat = (d.drop (pf d k).toNat).take _
    rw [List.drop_take]; congr 1; omega
  · rw [hl]
    have h : (if pt d k = d.length then decide (k % 3 = 0) else false) = true := h
    split at h
    · show pf d k + _ = _; omega
    · cases h
def partF (d : List Int) (k : Int) : Tup [SegT] := (partS d k, ())
theorem pl1 {k : Int} (h1 : 0 ≤ k) (h2 : k ≤ 65535) : inI64 (k / 256) := by unfold inI64; omega
theorem pl2 {d : List Int} {k : Int} (hd : d.length ≤ 60) (h : 0 ≤ k) : inI64 ((d.length : Int) - pf d k) := by have := part_rng d h; unfold inI64; omega
theorem pl3 {d : List Int} {k : Int} (hd : d.length ≤ 60) (h : 0 ≤ k) : inI64 ((d.length : Int) - pf d k + 1) := by have := part_rng d h; unfold inI64; omega
theorem pl4 {d : List Int} {k : Int} (hd : d.length ≤ 60) (h : 0 ≤ k) (h2 : k ≤ 65535) : 0 ≤ k / 256 ∧ 0 < (d.length : Int) - pf d k + 1 ∧ inI64 (k / 256) := ⟨by omega, by have := part_rng d h; omega, pl1 h h2⟩
theorem pl5 {d : List Int} {k : Int} (hd : d.length ≤ 60) (h : 0 ≤ k) : inI64 (pt d k) := by have := part_rng d h; unfold inI64; omega
theorem pl6 {d : List Int} {k : Int} (h : pt d k = (d.length : Int)) : decide (k % 3 = 0) = (partS d k).2.2 := (if_pos h).symm
theorem pl7 {d : List Int} {k : Int} (h : ¬ pt d k = (d.length : Int)) : false = (partS d k).2.2 := (if_neg h).symm
def partSpec : PureSpec := ⟨[.lst (.int .u8), .cell (.int .u16)], fun (x : (List Int) × Int × Unit) => x.1.length ≤ 60 ∧ 0 ≤ x.2.1 ∧ x.2.1 ≤ 65535, [SegT], fun (x : (List Int) × Int × Unit) => partF x.1 x.2.1⟩
theorem part_ok (d : List Int) (k : Int) (h : partSpec.pre (d, k, ())) : TmplOk Try.prog AI 14 (argS partSpec.ds (fun _ => (d, k, ()))) [] (resOf (svs partSpec.rs (fun _ => partSpec.f (d, k, ())))) [] := by
  dsimp only [partSpec] at h ⊢
  generalize hr : partF d k = r
  obtain ⟨hd, k1, k2⟩ := h; obtain ⟨p1, p2, p3, p4⟩ := part_rng d k1
  dsimp only [partF] at hr
  refine tmpl_of_body e0Ok mixed (fn := Try.f14) (c := bodyOf Try.f14) (by kernel_rfl) (by kernel_rfl) (by kernel_rfl) (Nat.le_of_ble_eq_true (by kernel_rfl)) ?_
  (try (conv in (LoopInv.inv _ _) => dsimp only)); (try (conv in (SS.mk _ _) => cbv; (try dsimp only [Ty.T, Ty.dflt, KT.T]); (try simp only [natCast_eq])))
  (with_reducible refine (?_ : T1 _ ?_) ?_; rotate_left 1; (conv => lhs; cbv; (try cbv); (try cbv)); intro hT; clear hT; with_reducible refine Sh.mk (by kernel_rfl) ?_)
  repeat' (first
    | with_reducible (first | refine Ck.mk (C := tt) tt_intro ?_ | refine Ck.mk (show drawOk _ _ = true by kernel_rfl) ?_ | refine Ck.all_cons ?_ | refine Ck.all_nil ?_ | refine Ck.mk (by assumption) ?_ | refine Ck.mk (decide_eq_true (by assumption)) ?_ | refine Ck.mk (decide_eq_false (by assumption)) ?_ | refine Ck.mk ?_ ?_)
    | (with_reducible (first | refine Both.mk (fun h => ?_) (fun h => ?_) | refine Alt.mk (fun h => ?_) (fun h => ?_) | refine Pick.mk (fun h => ?_) (fun l1 x l2 h => ?_)) <;> (have hk := h) <;> (try simp only [nrm, reduceCtorEq, pair_eta, map_idL] at h) <;> (try dsimp only [Ty.T, Ty.dflt, KT.T, getM, putM, delM] at h) <;> (try simp only [natCast_eq] at h) <;> skip <;> (try first | rw [if_pos h] at hr | rw [if_neg h] at hr | rw [ifF h] at hr | rw [ifN h] at hr) <;> (try (have hb : (_ : Bool) = _ := h; clear h; subst hb; (try first | rw [if_pos rfl] at hr | rw [if_neg Bool.false_ne_true] at hr))) <;> first | (exfalso; omega) | exact absurd (h.symm.trans (by assumption) : true = false) Bool.noConfusion | exact absurd (h.symm.trans (by assumption) : false = true) Bool.noConfusion | (with_reducible refine (?_ : T1 _ ?_) ?_; rotate_left 1; (conv => lhs; cbv; (try cbv); (try cbv)); intro hT; clear hT; with_reducible refine Sh.mk (by kernel_rfl) ?_))
    | ((with_reducible refine End.mk ?_); (try ((repeat (first | rw [if_pos (by first | assumption | omega)] at hr | rw [if_neg (by first | assumption | omega | (simp only [Bool.false_eq_true, Bool.true_eq_false, reduceCtorEq, not_false_eq_true]; done) | (simp only [Bool.not_eq_true]; assumption) | (simp only [Bool.not_eq_false]; assumption))] at hr | rw [if_pos rfl] at hr)); subst hr)))
    | with_reducible exact True.intro)
  all_goals first
    | (fail_if_success (with_reducible refine Exists.intro ?_ ?_)
       first
         | with_reducible rfl
         | with_reducible assumption
         | (symm; with_reducible assumption)
         | omega
         | ((try dsimp only [Ty.T, Ty.dflt, KT.T, getM, putM, delM, inI64, maxRow]); first | done | with_reducible rfl | with_reducible assumption | (symm; with_reducible assumption) | ((try simp only [natCast_eq, List.nil_append]); first | done | with_reducible rfl | omega | exact take_cg (by omega) | exact drop_cg (by omega) | exact take_drop_cg (by omega) (by omega) | exact take_all (by omega) | exact take_drop_all (by omega) (by omega) | exact drop_take_cg (by omega) (by omega) (by omega)))
         | first | exact pl1 k1 k2 | exact pl2 hd k1 | exact pl3 hd k1 | exact pl4 hd k1 k2 | exact pl5 hd k1 | exact pl6 h | exact pl7 h
         | ((try dsimp only [Ty.T, Ty.dflt, KT.T, getM, putM, delM, inI64, maxRow]); first | (simp only [nrm, reduceCtorEq, pair_eta, map_idL, natCast_eq, inI64, maxRow]; first | done | with_reducible assumption | omega) | exact map_pair_id _)
         | ((try dsimp only [Ty.T, Ty.dflt, KT.T, getM, putM, delM, inI64, maxRow] at *); first | ((try simp only [natCast_eq] at *) <;> omega) | ((try simp only [lens, natCast_eq] at *) <;> omega))
         | assumption
         | (symm; assumption)
         | (dsimp only; simp only [nrb, *]; done)
         | (simp; done)
         | (and_intros <;> first | trivial | with_reducible assumption | omega)
         | ((try dsimp only [Ty.T, Ty.dflt, KT.T, getM, putM, delM, inI64, maxRow] at *) <;> simp [*] <;> done))
    | skip
theorem part_sound : ConSound Try.prog AI 14 partSpec.con := PureSpec.sound Try.call14 (fun x h => part_ok x.1 x.2.1 h)
end Go.Proofs.Ytgdiepbjdpmfbaa
