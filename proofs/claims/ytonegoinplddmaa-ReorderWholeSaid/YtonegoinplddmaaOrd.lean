/-
  Layer 43: ReorderOrder, the walk.
-/
import Derived.Test.YtonegoinplddmaaPfx
namespace Go.Proofs.Ytonegoinplddmaa
set_option linter.all false
set_option linter.unusedVariables false
set_option linter.unusedSimpArgs false
set_option linter.unusedSectionVars false
open Go.RowKit Go.Sx
set_option maxRecDepth 100000
set_option maxHeartbeats 16000000

structure LOr (d : List Int) (w : Int) (l : List (Int × Int)) where
  i : Int
  A : Sto
  B : Sto
  lo : 0 ≤ i
  hi : i ≤ (partsL d l).length
  ca : Cov A d w ((partsL d l).take i.toNat)
  cb : Cov B d w ((partsL d l).drop ((partsL d l).length - i).toNat)
abbrev bAt (d : List Int) (l : List (Int × Int)) (i : Int) : Seg := (partsL d l).getD ((partsL d l).length - 1 - i).toNat (0, [], false)
theorem mem_take_step {α : Type} {P : List α} {dflt : α} {i : Int} (h0 : 0 ≤ i) (hi : i < P.length) (x : α) : x ∈ P.take (i + 1).toNat ↔ x ∈ P.take i.toNat ∨ x = P.getD i.toNat dflt := by
  have hlt : i.toNat < P.length := by omega
  rw [show (i + 1).toNat = i.toNat + 1 by omega, List.take_succ_eq_append_getElem hlt, List.mem_append, List.mem_singleton, List.getD_eq_getElem?_getD, List.getElem?_eq_getElem hlt]; rfl
theorem mem_drop_step {α : Type} {P : List α} {dflt : α} {i : Int} (h0 : 0 ≤ i) (hi : i < P.length) (x : α) : x ∈ P.drop ((P.length : Int) - (i + 1)).toNat ↔ x ∈ P.drop ((P.length : Int) - i).toNat ∨ x = P.getD ((P.length : Int) - 1 - i).toNat dflt := by
  have hlt : ((P.length : Int) - (i + 1)).toNat < P.length := by omega
  rw [List.drop_eq_getElem_cons hlt, List.mem_cons, show ((P.length : Int) - (i + 1)).toNat + 1 = ((P.length : Int) - i).toNat by omega, show ((P.length : Int) - 1 - i).toNat = ((P.length : Int) - (i + 1)).toNat by omega, List.getD_eq_getElem?_getD, List.getElem?_eq_getElem hlt]
  exact ⟨fun h => h.symm, fun h => h.symm⟩
structure OrF (d : List Int) (w : Int) (l : List (Int × Int)) (i : Int) (A B : Sto) : Prop where
  ea : ((putF A (pAt d l i).1 (pAt d l i).2.1 (pAt d l i).2.2).1.2.1 : Int) = 0
  eb : ((putF B (bAt d l i).1 (bAt d l i).2.1 (bAt d l i).2.2).1.2.1 : Int) = 0
  la : (pAt d l i).2.1.length ≤ d.length
  lb : (bAt d l i).2.1.length ≤ d.length
  ca : Cov (putF A (pAt d l i).1 (pAt d l i).2.1 (pAt d l i).2.2).2 d w ((partsL d l).take (i + 1).toNat)
  cb : Cov (putF B (bAt d l i).1 (bAt d l i).2.1 (bAt d l i).2.2).2 d w ((partsL d l).drop ((partsL d l).length - (i + 1)).toNat)
theorem orF {d : List Int} {w : Int} {l : List (Int × Int)} {i : Int} {A B : Sto} (hl : ∀ y ∈ l, u8p y) (hd : d.length ≤ 60) (hb : inBytes d) (h0 : 0 ≤ i) (hi : i < (partsL d l).length) (ca : Cov A d w ((partsL d l).take i.toNat)) (cb : Cov B d w ((partsL d l).drop ((partsL d l).length - i).toNat)) : OrF d w l i A B := by
  have hpl := parts_len d l
  have pa := (parts_at (d := d) hl h0 (by omega)).2
  have pb : IsPart d (bAt d l i) := (parts_at (d := d) hl (i := (partsL d l).length - 1 - i) (by omega) (by omega)).2
  have ka := fits_ok ca.fits pa (by omega)
  have kb := fits_ok cb.fits pb (by omega)
  have c1 := cov_put (M := (partsL d l).take (i + 1).toNat) ca pa (by omega) hb (fun x => mem_take_step h0 hi x)
  have c2 := cov_put (M := (partsL d l).drop ((partsL d l).length - (i + 1)).toNat) cb pb (by omega) hb (fun x => mem_drop_step h0 hi x)
  refine ⟨by rw [put_ok_eq ka], by rw [put_ok_eq kb], part_len pa, part_len pb, by rw [put_ok_eq ka]; exact c1, by rw [put_ok_eq kb]; exact c2⟩
structure OrE (d : List Int) (A B : Sto) : Prop where
  held : (A.kept.length : Int) = B.kept.length
  gaps : gapsF A = gapsF B
  fend : (if A.known = true then A.fin else 0) = (if B.known = true then B.fin else 0)
  known : A.known = B.known
  read : ((readF A 100).1.1 : List Int) = (readF B 100).1.1
  byt : inBytes (readF A 100).1.1 ∧ inBytes (readF B 100).1.1
theorem orE {d : List Int} {w : Int} {l : List (Int × Int)} {i : Int} {A B : Sto} (hb : inBytes d) (hi0 : i ≤ (partsL d l).length) (hi : ¬ i < ((partsL d l).length : Int)) (ca : Cov A d w ((partsL d l).take i.toNat)) (cb : Cov B d w ((partsL d l).drop ((partsL d l).length - i).toNat)) : OrE d A B := by
  have e1 : (partsL d l).take i.toNat = partsL d l := List.take_of_length_le (by omega)
  have e2 : (partsL d l).drop (((partsL d l).length : Int) - i).toNat = partsL d l := by rw [show (((partsL d l).length : Int) - i).toNat = 0 by omega]; rfl
  rw [e1] at ca; rw [e2] at cb
  have h := cov_same ca cb (fun _ => Iff.rfl)
  have ha := ca.fits.ok; have hbk := cb.fits.ok
  refine ⟨by rw [h.held ha hbk], h.gaps ha hbk, h.fend, h.known, h.read ha hbk 100, ?_, ?_⟩
  · rw [(fits_read ca.fits 100).1]; exact fun z hz => hb z (List.mem_of_mem_drop (List.mem_of_mem_take hz))
  · rw [(fits_read cb.fits 100).1]; exact fun z hz => hb z (List.mem_of_mem_drop (List.mem_of_mem_take hz))
theorem next_LOr {d : List Int} {w : Int} {l : List (Int × Int)} {i : Int} {A B : Sto} (h0 : 0 ≤ i) (hi : i < (partsL d l).length) (ca : Cov A d w ((partsL d l).take (i + 1).toNat)) (cb : Cov B d w ((partsL d l).drop ((partsL d l).length - (i + 1)).toNat)) : ∃ y : LOr d w l, y.i = i + 1 ∧ y.A = A ∧ y.B = B := ⟨⟨i + 1, A, B, by omega, by omega, ca, cb⟩, rfl, rfl, rfl⟩
def ordF (_ : List Int) (_ : Int) (_ : List (Int × Int)) : Tup [DT.cell .bool] := (true, ())
def ordSpec : PureSpec := ⟨[.lst (.int .u8), .cell (.int .u8), .lst u2E], fun (x : (List Int) × Int × (List (Int × Int)) × Unit) => (x.1.length ≤ maxLen ∧ inBytes x.1) ∧ (0 ≤ x.2.1 ∧ x.2.1 ≤ 255) ∧ (x.2.2.1.length ≤ maxLen ∧ ∀ y ∈ x.2.2.1, u8p y), [.cell .bool], fun (x : (List Int) × Int × (List (Int × Int)) × Unit) => ordF x.1 x.2.1 x.2.2.1⟩
theorem ord_ok (d : List Int) (w : Int) (l : List (Int × Int)) (h : ordSpec.pre (d, w, l, ())) : TmplOk Try.prog AI 5 (argS ordSpec.ds (fun _ => (d, w, l, ()))) [] (resOf (svs ordSpec.rs (fun _ => ordSpec.f (d, w, l, ())))) [] := by
  dsimp only [ordSpec] at h ⊢
  generalize hr : ordF d w l = r
  obtain ⟨⟨hd0, hd⟩, ⟨w1, w2⟩, hl0, hl⟩ := h; have hpl := parts_len d l
  dsimp only [ordF] at hr
  refine tmpl_of_body epOk mixed (fn := Try.f5) (c := bodyOf Try.f5) (by kernel_rfl) (by kernel_rfl) (by kernel_rfl) (Nat.le_of_ble_eq_true (by kernel_rfl)) ?_
  (try (conv in (LoopInv.inv _ _) => dsimp only)); (try (conv in (SS.mk _ _) => cbv; (try dsimp only [putSpec, readSpec, gapsSpec, endSpec, endF, offSpec, offF, ctgSpec, ctgF, heldSpec, heldF, newStoSpec, partsSpec, partsF, geqSpec, Ty.T, Ty.dflt, KT.T]); (try simp only [natCast_eq])))
  (refine (?_ : T1 _ ?_) ?_; rotate_left 1; (conv => lhs; cbv; (try cbv); (try cbv)); intro hT; clear hT; refine Sh.mk (by kernel_rfl) ?_)
  repeat' (first
    | with_reducible refine Ck.mk (C := tt) tt_intro ?_
    | with_reducible refine Ck.mk (show drawOk _ _ = true by kernel_rfl) ?_
    | with_reducible refine Ck.all_cons ?_
    | with_reducible refine Ck.all_nil ?_
    | with_reducible refine Ck.mk (by assumption) ?_
    | with_reducible refine Ck.mk (decide_eq_true (by assumption)) ?_
    | with_reducible refine Ck.mk (decide_eq_false (by assumption)) ?_
    | with_reducible refine Ck.mk ?_ ?_
    | (with_reducible refine Both.mk (fun h => ?_) (fun h => ?_) <;> (have hk := h) <;> (try simp only [decide_eq_true_eq, decide_eq_false_iff_not, Bool.not_eq_true', Bool.not_eq_false', Bool.not_eq_true, Bool.not_eq_false, Bool.not_true, Bool.not_false, ne_eq, Bool.false_eq_true, Bool.true_eq_false, reduceCtorEq, beq_iff_eq, beq_eq_false_iff_ne, not_true_eq_false, not_false_eq_true, pair_eta, map_idL] at h) <;> (try dsimp only [putSpec, readSpec, gapsSpec, endSpec, endF, offSpec, offF, ctgSpec, ctgF, heldSpec, heldF, newStoSpec, partsSpec, partsF, geqSpec, Ty.T, Ty.dflt, KT.T, getM, putM, delM] at h) <;> (try simp only [natCast_eq] at h) <;> (try simp only [z2] at h) <;> (try (have hq := orF hl (by omega) hd hlo h hca hcb; have q1 := hq.ea; have q2 := hq.eb; have q3 := hq.la; have q4 := hq.lb)) <;> (try (have hE := orE hd hhi h hca hcb; have z1 := hE.held; have z2 := hE.gaps; have z3 := hE.fend; have z4 := hE.known; have z5 := hE.read; have z6 := hE.byt; clear hE)) <;> (try (exfalso; exact absurd z3 h)) <;> (try (exfalso; exact absurd z4 h)) <;> (try (exfalso; exact absurd z5 h)) <;> (try (exfalso; exact absurd ((geq_self _).symm.trans h) Bool.noConfusion)) <;> (try first | rw [if_pos h] at hr | rw [if_neg h] at hr | rw [ifF h] at hr | rw [ifN h] at hr) <;> (try (have hb : (_ : Bool) = _ := h; clear h; subst hb; (try first | rw [if_pos rfl] at hr | rw [if_neg Bool.false_ne_true] at hr))) <;> first | (exfalso; omega) | exact absurd (h.symm.trans (by assumption) : true = false) Bool.noConfusion | exact absurd (h.symm.trans (by assumption) : false = true) Bool.noConfusion | (refine (?_ : T1 _ ?_) ?_; rotate_left 1; (conv => lhs; cbv; (try cbv); (try cbv)); intro hT; clear hT; refine Sh.mk (by kernel_rfl) ?_))
    | (with_reducible refine Alt.mk (fun h => ?_) (fun h => ?_) <;> (have hk := h) <;> (try simp only [decide_eq_true_eq, decide_eq_false_iff_not, Bool.not_eq_true', Bool.not_eq_false', Bool.not_eq_true, Bool.not_eq_false, Bool.not_true, Bool.not_false, ne_eq, Bool.false_eq_true, Bool.true_eq_false, reduceCtorEq, beq_iff_eq, beq_eq_false_iff_ne, not_true_eq_false, not_false_eq_true, pair_eta, map_idL] at h) <;> (try dsimp only [putSpec, readSpec, gapsSpec, endSpec, endF, offSpec, offF, ctgSpec, ctgF, heldSpec, heldF, newStoSpec, partsSpec, partsF, geqSpec, Ty.T, Ty.dflt, KT.T, getM, putM, delM] at h) <;> (try simp only [natCast_eq] at h) <;> (try simp only [z2] at h) <;> (try (have hq := orF hl (by omega) hd hlo h hca hcb; have q1 := hq.ea; have q2 := hq.eb; have q3 := hq.la; have q4 := hq.lb)) <;> (try (have hE := orE hd hhi h hca hcb; have z1 := hE.held; have z2 := hE.gaps; have z3 := hE.fend; have z4 := hE.known; have z5 := hE.read; have z6 := hE.byt; clear hE)) <;> (try (exfalso; exact absurd z3 h)) <;> (try (exfalso; exact absurd z4 h)) <;> (try (exfalso; exact absurd z5 h)) <;> (try (exfalso; exact absurd ((geq_self _).symm.trans h) Bool.noConfusion)) <;> (try first | rw [if_pos h] at hr | rw [if_neg h] at hr | rw [ifF h] at hr | rw [ifN h] at hr) <;> (try (have hb : (_ : Bool) = _ := h; clear h; subst hb; (try first | rw [if_pos rfl] at hr | rw [if_neg Bool.false_ne_true] at hr))) <;> first | (exfalso; omega) | exact absurd (h.symm.trans (by assumption) : true = false) Bool.noConfusion | exact absurd (h.symm.trans (by assumption) : false = true) Bool.noConfusion | (refine (?_ : T1 _ ?_) ?_; rotate_left 1; (conv => lhs; cbv; (try cbv); (try cbv)); intro hT; clear hT; refine Sh.mk (by kernel_rfl) ?_))
    | (with_reducible refine Pick.mk (fun h => ?_) (fun l1 x l2 h => ?_) <;> (refine (?_ : T1 _ ?_) ?_; rotate_left 1; (conv => lhs; cbv; (try cbv); (try cbv)); intro hT; clear hT; refine Sh.mk (by kernel_rfl) ?_))
    | ((with_reducible refine End.mk ?_); (try ((repeat (first | rw [if_pos (by first | assumption | omega)] at hr | rw [if_neg (by first | assumption | omega | (simp only [Bool.false_eq_true, Bool.true_eq_false, reduceCtorEq, not_false_eq_true]; done) | (simp only [Bool.not_eq_true]; assumption) | (simp only [Bool.not_eq_false]; assumption))] at hr | rw [if_pos rfl] at hr)); subst hr)))
    | with_reducible exact True.intro)
  all_goals first
    | (fail_if_success (with_reducible refine Exists.intro ?_ ?_)
       first
         | with_reducible rfl
         | with_reducible assumption
         | (dsimp only [putSpec, readSpec, gapsSpec, endSpec, endF, offSpec, offF, ctgSpec, ctgF, heldSpec, heldF, newStoSpec, partsSpec, partsF, geqSpec, Ty.T, Ty.dflt, KT.T, getM, putM, delM, inI64, maxRow]; done)
         | (symm; with_reducible assumption)
         | (dsimp only [putSpec, readSpec, gapsSpec, endSpec, endF, offSpec, offF, ctgSpec, ctgF, heldSpec, heldF, newStoSpec, partsSpec, partsF, geqSpec, Ty.T, Ty.dflt, KT.T, getM, putM, delM, inI64, maxRow]; first | with_reducible rfl | with_reducible assumption | (symm; with_reducible assumption) | (simp only [natCast_eq]; with_reducible rfl) | omega)
         | omega
         | (dsimp only [putSpec, readSpec, gapsSpec, endSpec, endF, offSpec, offF, ctgSpec, ctgF, heldSpec, heldF, newStoSpec, partsSpec, partsF, geqSpec, Ty.T, Ty.dflt, KT.T, getM, putM, delM, inI64, maxRow]; (try simp only [natCast_eq, List.nil_append]); first | with_reducible rfl | exact take_cg (by omega) | exact drop_cg (by omega) | exact take_drop_cg (by omega) (by omega) | exact take_all (by omega) | exact take_drop_all (by omega) (by omega) | exact drop_take_cg (by omega) (by omega) (by omega))
         | exact parts_pre (d := d) (l := l) (by omega) (by omega) hl
         | ((try dsimp only [putSpec, readSpec, gapsSpec, endSpec, endF, offSpec, offF, ctgSpec, ctgF, heldSpec, heldF, newStoSpec, partsSpec, partsF, geqSpec, Ty.T, Ty.dflt, KT.T, getM, putM, delM, inI64, maxRow]); simp only [decide_eq_true_eq, decide_eq_false_iff_not, Bool.not_eq_true', Bool.not_eq_false', Bool.not_eq_true, Bool.not_eq_false, Bool.not_true, Bool.not_false, ne_eq, Bool.false_eq_true, Bool.true_eq_false, reduceCtorEq, beq_iff_eq, beq_eq_false_iff_ne, not_true_eq_false, not_false_eq_true, pair_eta, map_idL, natCast_eq, inI64, maxRow]; first | done | with_reducible assumption | omega)
         | exact map_pair_id _
         | ((try dsimp only [putSpec, readSpec, gapsSpec, endSpec, endF, offSpec, offF, ctgSpec, ctgF, heldSpec, heldF, newStoSpec, partsSpec, partsF, geqSpec, Ty.T, Ty.dflt, KT.T, getM, putM, delM, inI64, maxRow]) <;> (try simp only [natCast_eq]) <;> omega)
         | ((try dsimp only [putSpec, readSpec, gapsSpec, endSpec, endF, offSpec, offF, ctgSpec, ctgF, heldSpec, heldF, newStoSpec, partsSpec, partsF, geqSpec, Ty.T, Ty.dflt, KT.T, getM, putM, delM, inI64, maxRow] at *) <;> (try simp only [natCast_eq] at *) <;> omega)
         | ((try dsimp only [putSpec, readSpec, gapsSpec, endSpec, endF, offSpec, offF, ctgSpec, ctgF, heldSpec, heldF, newStoSpec, partsSpec, partsF, geqSpec, Ty.T, Ty.dflt, KT.T, getM, putM, delM, inI64, maxRow] at *) <;> (try simp only [List.length_append, List.length_cons, List.length_nil, List.length_replicate, List.length_take, List.length_drop, natCast_eq] at *) <;> omega)
         | assumption
         | (symm; assumption)
         | (dsimp only; simp only [Bool.or_true, Bool.true_or, Bool.or_false, Bool.false_or, Bool.and_true, Bool.true_and, Bool.and_false, Bool.false_and, Bool.not_true, Bool.not_false, *]; done)
         | (simp; done)
         | (and_intros <;> first | trivial | with_reducible assumption | omega)
         | ((try dsimp only [putSpec, readSpec, gapsSpec, endSpec, endF, offSpec, offF, ctgSpec, ctgF, heldSpec, heldF, newStoSpec, partsSpec, partsF, geqSpec, Ty.T, Ty.dflt, KT.T, getM, putM, delM, inI64, maxRow] at *) <;> simp [*] <;> done))
    | skip
  obtain ⟨x0, hx0, hx1, hx2⟩ : ∃ x : LOr d (1 + w % 80) l, x.i = 0 ∧ x.A = newS (1 + w % 80) ∧ x.B = newS (1 + w % 80) := ⟨⟨0, newS (1 + w % 80), newS (1 + w % 80), by omega, by omega, cov_new (by omega) (by omega), by rw [Int.sub_zero, Int.toNat_natCast, List.drop_length]; exact cov_new (by omega) (by omega)⟩, rfl, rfl, rfl⟩
  refine ⟨⟨LOr d (1 + w % 80) l, fun x => ⟨[(7, Sx.one (.ptr 0 0)), (9, Sx.one (.ptr 1 0)), (11, Sx.one (.ro segE (fun _ => partsL d l))), (65, Sx.one (.int .i64 (fun _ => (partsL d l).length))), (66, Sx.one (.int .i64 (fun _ => x.i)))], [.abs (.sto (fun _ => x.A)), .abs (.sto (fun _ => x.B))]⟩, fun x => ((partsL d l).length - x.i).toNat, x0⟩, ?_, fun (x : LOr d (1 + w % 80) l) => ?_⟩
  · (try (conv in (LoopInv.inv _ _) => dsimp only)); (try (conv in (SS.mk _ _) => cbv; (try dsimp only [putSpec, readSpec, gapsSpec, endSpec, endF, offSpec, offF, ctgSpec, ctgF, heldSpec, heldF, newStoSpec, partsSpec, partsF, geqSpec, Ty.T, Ty.dflt, KT.T]); (try simp only [natCast_eq])))
    (refine (?_ : T1 _ ?_) ?_; rotate_left 1; (conv => lhs; cbv; (try cbv); (try cbv)); intro hT; clear hT; refine Sh.mk (by kernel_rfl) ?_)
    repeat' (first
      | with_reducible refine Ck.mk (C := tt) tt_intro ?_
      | with_reducible refine Ck.mk (show drawOk _ _ = true by kernel_rfl) ?_
      | with_reducible refine Ck.all_cons ?_
      | with_reducible refine Ck.all_nil ?_
      | with_reducible refine Ck.mk (by assumption) ?_
      | with_reducible refine Ck.mk (decide_eq_true (by assumption)) ?_
      | with_reducible refine Ck.mk (decide_eq_false (by assumption)) ?_
      | with_reducible refine Ck.mk ?_ ?_
      | (with_reducible refine Both.mk (fun h => ?_) (fun h => ?_) <;> (have hk := h) <;> (try simp only [decide_eq_true_eq, decide_eq_false_iff_not, Bool.not_eq_true', Bool.not_eq_false', Bool.not_eq_true, Bool.not_eq_false, Bool.not_true, Bool.not_false, ne_eq, Bool.false_eq_true, Bool.true_eq_false, reduceCtorEq, beq_iff_eq, beq_eq_false_iff_ne, not_true_eq_false, not_false_eq_true, pair_eta, map_idL] at h) <;> (try dsimp only [putSpec, readSpec, gapsSpec, endSpec, endF, offSpec, offF, ctgSpec, ctgF, heldSpec, heldF, newStoSpec, partsSpec, partsF, geqSpec, Ty.T, Ty.dflt, KT.T, getM, putM, delM] at h) <;> (try simp only [natCast_eq] at h) <;> (try simp only [z2] at h) <;> (try (have hq := orF hl (by omega) hd hlo h hca hcb; have q1 := hq.ea; have q2 := hq.eb; have q3 := hq.la; have q4 := hq.lb)) <;> (try (have hE := orE hd hhi h hca hcb; have z1 := hE.held; have z2 := hE.gaps; have z3 := hE.fend; have z4 := hE.known; have z5 := hE.read; have z6 := hE.byt; clear hE)) <;> (try (exfalso; exact absurd z3 h)) <;> (try (exfalso; exact absurd z4 h)) <;> (try (exfalso; exact absurd z5 h)) <;> (try (exfalso; exact absurd ((geq_self _).symm.trans h) Bool.noConfusion)) <;> (try first | rw [if_pos h] at hr | rw [if_neg h] at hr | rw [ifF h] at hr | rw [ifN h] at hr) <;> (try (have hb : (_ : Bool) = _ := h; clear h; subst hb; (try first | rw [if_pos rfl] at hr | rw [if_neg Bool.false_ne_true] at hr))) <;> first | (exfalso; omega) | exact absurd (h.symm.trans (by assumption) : true = false) Bool.noConfusion | exact absurd (h.symm.trans (by assumption) : false = true) Bool.noConfusion | (refine (?_ : T1 _ ?_) ?_; rotate_left 1; (conv => lhs; cbv; (try cbv); (try cbv)); intro hT; clear hT; refine Sh.mk (by kernel_rfl) ?_))
      | (with_reducible refine Alt.mk (fun h => ?_) (fun h => ?_) <;> (have hk := h) <;> (try simp only [decide_eq_true_eq, decide_eq_false_iff_not, Bool.not_eq_true', Bool.not_eq_false', Bool.not_eq_true, Bool.not_eq_false, Bool.not_true, Bool.not_false, ne_eq, Bool.false_eq_true, Bool.true_eq_false, reduceCtorEq, beq_iff_eq, beq_eq_false_iff_ne, not_true_eq_false, not_false_eq_true, pair_eta, map_idL] at h) <;> (try dsimp only [putSpec, readSpec, gapsSpec, endSpec, endF, offSpec, offF, ctgSpec, ctgF, heldSpec, heldF, newStoSpec, partsSpec, partsF, geqSpec, Ty.T, Ty.dflt, KT.T, getM, putM, delM] at h) <;> (try simp only [natCast_eq] at h) <;> (try simp only [z2] at h) <;> (try (have hq := orF hl (by omega) hd hlo h hca hcb; have q1 := hq.ea; have q2 := hq.eb; have q3 := hq.la; have q4 := hq.lb)) <;> (try (have hE := orE hd hhi h hca hcb; have z1 := hE.held; have z2 := hE.gaps; have z3 := hE.fend; have z4 := hE.known; have z5 := hE.read; have z6 := hE.byt; clear hE)) <;> (try (exfalso; exact absurd z3 h)) <;> (try (exfalso; exact absurd z4 h)) <;> (try (exfalso; exact absurd z5 h)) <;> (try (exfalso; exact absurd ((geq_self _).symm.trans h) Bool.noConfusion)) <;> (try first | rw [if_pos h] at hr | rw [if_neg h] at hr | rw [ifF h] at hr | rw [ifN h] at hr) <;> (try (have hb : (_ : Bool) = _ := h; clear h; subst hb; (try first | rw [if_pos rfl] at hr | rw [if_neg Bool.false_ne_true] at hr))) <;> first | (exfalso; omega) | exact absurd (h.symm.trans (by assumption) : true = false) Bool.noConfusion | exact absurd (h.symm.trans (by assumption) : false = true) Bool.noConfusion | (refine (?_ : T1 _ ?_) ?_; rotate_left 1; (conv => lhs; cbv; (try cbv); (try cbv)); intro hT; clear hT; refine Sh.mk (by kernel_rfl) ?_))
      | (with_reducible refine Pick.mk (fun h => ?_) (fun l1 x l2 h => ?_) <;> (refine (?_ : T1 _ ?_) ?_; rotate_left 1; (conv => lhs; cbv; (try cbv); (try cbv)); intro hT; clear hT; refine Sh.mk (by kernel_rfl) ?_))
      | ((with_reducible refine End.mk ?_); skip)
      | with_reducible exact True.intro)
    all_goals first
      | (fail_if_success (with_reducible refine Exists.intro ?_ ?_)
         first
           | with_reducible rfl
           | with_reducible assumption
           | (dsimp only [putSpec, readSpec, gapsSpec, endSpec, endF, offSpec, offF, ctgSpec, ctgF, heldSpec, heldF, newStoSpec, partsSpec, partsF, geqSpec, Ty.T, Ty.dflt, KT.T, getM, putM, delM, inI64, maxRow]; done)
           | (symm; with_reducible assumption)
           | (dsimp only [putSpec, readSpec, gapsSpec, endSpec, endF, offSpec, offF, ctgSpec, ctgF, heldSpec, heldF, newStoSpec, partsSpec, partsF, geqSpec, Ty.T, Ty.dflt, KT.T, getM, putM, delM, inI64, maxRow]; first | with_reducible rfl | with_reducible assumption | (symm; with_reducible assumption) | (simp only [natCast_eq]; with_reducible rfl) | omega)
           | omega
           | (dsimp only [putSpec, readSpec, gapsSpec, endSpec, endF, offSpec, offF, ctgSpec, ctgF, heldSpec, heldF, newStoSpec, partsSpec, partsF, geqSpec, Ty.T, Ty.dflt, KT.T, getM, putM, delM, inI64, maxRow]; (try simp only [natCast_eq, List.nil_append]); first | with_reducible rfl | exact take_cg (by omega) | exact drop_cg (by omega) | exact take_drop_cg (by omega) (by omega) | exact take_all (by omega) | exact take_drop_all (by omega) (by omega) | exact drop_take_cg (by omega) (by omega) (by omega))
           | first | (rw [hx1]; done) | (rw [hx2]; done) | exact congrArg Nat.cast ((parts_len d _).trans ((List.length_map _).trans (parts_len d l).symm))
           | ((try dsimp only [putSpec, readSpec, gapsSpec, endSpec, endF, offSpec, offF, ctgSpec, ctgF, heldSpec, heldF, newStoSpec, partsSpec, partsF, geqSpec, Ty.T, Ty.dflt, KT.T, getM, putM, delM, inI64, maxRow]); simp only [decide_eq_true_eq, decide_eq_false_iff_not, Bool.not_eq_true', Bool.not_eq_false', Bool.not_eq_true, Bool.not_eq_false, Bool.not_true, Bool.not_false, ne_eq, Bool.false_eq_true, Bool.true_eq_false, reduceCtorEq, beq_iff_eq, beq_eq_false_iff_ne, not_true_eq_false, not_false_eq_true, pair_eta, map_idL, natCast_eq, inI64, maxRow]; first | done | with_reducible assumption | omega)
           | exact map_pair_id _
           | ((try dsimp only [putSpec, readSpec, gapsSpec, endSpec, endF, offSpec, offF, ctgSpec, ctgF, heldSpec, heldF, newStoSpec, partsSpec, partsF, geqSpec, Ty.T, Ty.dflt, KT.T, getM, putM, delM, inI64, maxRow]) <;> (try simp only [natCast_eq]) <;> omega)
           | ((try dsimp only [putSpec, readSpec, gapsSpec, endSpec, endF, offSpec, offF, ctgSpec, ctgF, heldSpec, heldF, newStoSpec, partsSpec, partsF, geqSpec, Ty.T, Ty.dflt, KT.T, getM, putM, delM, inI64, maxRow] at *) <;> (try simp only [natCast_eq] at *) <;> omega)
           | ((try dsimp only [putSpec, readSpec, gapsSpec, endSpec, endF, offSpec, offF, ctgSpec, ctgF, heldSpec, heldF, newStoSpec, partsSpec, partsF, geqSpec, Ty.T, Ty.dflt, KT.T, getM, putM, delM, inI64, maxRow] at *) <;> (try simp only [List.length_append, List.length_cons, List.length_nil, List.length_replicate, List.length_take, List.length_drop, natCast_eq] at *) <;> omega)
           | assumption
           | (symm; assumption)
           | (dsimp only; simp only [Bool.or_true, Bool.true_or, Bool.or_false, Bool.false_or, Bool.and_true, Bool.true_and, Bool.and_false, Bool.false_and, Bool.not_true, Bool.not_false, *]; done)
           | (simp; done)
           | (and_intros <;> first | trivial | with_reducible assumption | omega)
           | ((try dsimp only [putSpec, readSpec, gapsSpec, endSpec, endF, offSpec, offF, ctgSpec, ctgF, heldSpec, heldF, newStoSpec, partsSpec, partsF, geqSpec, Ty.T, Ty.dflt, KT.T, getM, putM, delM, inI64, maxRow] at *) <;> simp [*] <;> done))
      | skip
  obtain ⟨i, A, B, hlo, hhi, hca, hcb⟩ := x
  (try (conv in (LoopInv.inv _ _) => dsimp only)); (try (conv in (SS.mk _ _) => cbv; (try dsimp only [putSpec, readSpec, gapsSpec, endSpec, endF, offSpec, offF, ctgSpec, ctgF, heldSpec, heldF, newStoSpec, partsSpec, partsF, geqSpec, Ty.T, Ty.dflt, KT.T]); (try simp only [natCast_eq])))
  (refine (?_ : T1 _ ?_) ?_; rotate_left 1; (conv => lhs; cbv; (try cbv); (try cbv)); intro hT; clear hT; refine Sh.mk (by kernel_rfl) ?_)
  repeat' (first
    | with_reducible refine Ck.mk (C := tt) tt_intro ?_
    | with_reducible refine Ck.mk (show drawOk _ _ = true by kernel_rfl) ?_
    | with_reducible refine Ck.all_cons ?_
    | with_reducible refine Ck.all_nil ?_
    | with_reducible refine Ck.mk (by assumption) ?_
    | with_reducible refine Ck.mk (decide_eq_true (by assumption)) ?_
    | with_reducible refine Ck.mk (decide_eq_false (by assumption)) ?_
    | with_reducible refine Ck.mk ?_ ?_
    | (with_reducible refine Both.mk (fun h => ?_) (fun h => ?_) <;> (have hk := h) <;> (try simp only [decide_eq_true_eq, decide_eq_false_iff_not, Bool.not_eq_true', Bool.not_eq_false', Bool.not_eq_true, Bool.not_eq_false, Bool.not_true, Bool.not_false, ne_eq, Bool.false_eq_true, Bool.true_eq_false, reduceCtorEq, beq_iff_eq, beq_eq_false_iff_ne, not_true_eq_false, not_false_eq_true, pair_eta, map_idL] at h) <;> (try dsimp only [putSpec, readSpec, gapsSpec, endSpec, endF, offSpec, offF, ctgSpec, ctgF, heldSpec, heldF, newStoSpec, partsSpec, partsF, geqSpec, Ty.T, Ty.dflt, KT.T, getM, putM, delM] at h) <;> (try simp only [natCast_eq] at h) <;> (try simp only [z2] at h) <;> (try (have hq := orF hl (by omega) hd hlo h hca hcb; have q1 := hq.ea; have q2 := hq.eb; have q3 := hq.la; have q4 := hq.lb)) <;> (try (have hE := orE hd hhi h hca hcb; have z1 := hE.held; have z2 := hE.gaps; have z3 := hE.fend; have z4 := hE.known; have z5 := hE.read; have z6 := hE.byt; clear hE)) <;> (try (exfalso; exact absurd z3 h)) <;> (try (exfalso; exact absurd z4 h)) <;> (try (exfalso; exact absurd z5 h)) <;> (try (exfalso; exact absurd ((geq_self _).symm.trans h) Bool.noConfusion)) <;> (try first | rw [if_pos h] at hr | rw [if_neg h] at hr | rw [ifF h] at hr | rw [ifN h] at hr) <;> (try (have hb : (_ : Bool) = _ := h; clear h; subst hb; (try first | rw [if_pos rfl] at hr | rw [if_neg Bool.false_ne_true] at hr))) <;> first | (exfalso; omega) | exact absurd (h.symm.trans (by assumption) : true = false) Bool.noConfusion | exact absurd (h.symm.trans (by assumption) : false = true) Bool.noConfusion | (refine (?_ : T1 _ ?_) ?_; rotate_left 1; (conv => lhs; cbv; (try cbv); (try cbv)); intro hT; clear hT; refine Sh.mk (by kernel_rfl) ?_))
    | (with_reducible refine Alt.mk (fun h => ?_) (fun h => ?_) <;> (have hk := h) <;> (try simp only [decide_eq_true_eq, decide_eq_false_iff_not, Bool.not_eq_true', Bool.not_eq_false', Bool.not_eq_true, Bool.not_eq_false, Bool.not_true, Bool.not_false, ne_eq, Bool.false_eq_true, Bool.true_eq_false, reduceCtorEq, beq_iff_eq, beq_eq_false_iff_ne, not_true_eq_false, not_false_eq_true, pair_eta, map_idL] at h) <;> (try dsimp only [putSpec, readSpec, gapsSpec, endSpec, endF, offSpec, offF, ctgSpec, ctgF, heldSpec, heldF, newStoSpec, partsSpec, partsF, geqSpec, Ty.T, Ty.dflt, KT.T, getM, putM, delM] at h) <;> (try simp only [natCast_eq] at h) <;> (try simp only [z2] at h) <;> (try (have hq := orF hl (by omega) hd hlo h hca hcb; have q1 := hq.ea; have q2 := hq.eb; have q3 := hq.la; have q4 := hq.lb)) <;> (try (have hE := orE hd hhi h hca hcb; have z1 := hE.held; have z2 := hE.gaps; have z3 := hE.fend; have z4 := hE.known; have z5 := hE.read; have z6 := hE.byt; clear hE)) <;> (try (exfalso; exact absurd z3 h)) <;> (try (exfalso; exact absurd z4 h)) <;> (try (exfalso; exact absurd z5 h)) <;> (try (exfalso; exact absurd ((geq_self _).symm.trans h) Bool.noConfusion)) <;> (try first | rw [if_pos h] at hr | rw [if_neg h] at hr | rw [ifF h] at hr | rw [ifN h] at hr) <;> (try (have hb : (_ : Bool) = _ := h; clear h; subst hb; (try first | rw [if_pos rfl] at hr | rw [if_neg Bool.false_ne_true] at hr))) <;> first | (exfalso; omega) | exact absurd (h.symm.trans (by assumption) : true = false) Bool.noConfusion | exact absurd (h.symm.trans (by assumption) : false = true) Bool.noConfusion | (refine (?_ : T1 _ ?_) ?_; rotate_left 1; (conv => lhs; cbv; (try cbv); (try cbv)); intro hT; clear hT; refine Sh.mk (by kernel_rfl) ?_))
    | (with_reducible refine Pick.mk (fun h => ?_) (fun l1 x l2 h => ?_) <;> (refine (?_ : T1 _ ?_) ?_; rotate_left 1; (conv => lhs; cbv; (try cbv); (try cbv)); intro hT; clear hT; refine Sh.mk (by kernel_rfl) ?_))
    | ((with_reducible refine End.mk ?_); (try ((repeat (first | rw [if_pos (by first | assumption | omega)] at hr | rw [if_neg (by first | assumption | omega | (simp only [Bool.false_eq_true, Bool.true_eq_false, reduceCtorEq, not_false_eq_true]; done) | (simp only [Bool.not_eq_true]; assumption) | (simp only [Bool.not_eq_false]; assumption))] at hr | rw [if_pos rfl] at hr)); subst hr)))
    | with_reducible exact True.intro)
  all_goals first
    | (fail_if_success (with_reducible refine Exists.intro ?_ ?_)
       first
         | with_reducible rfl
         | with_reducible assumption
         | (dsimp only [putSpec, readSpec, gapsSpec, endSpec, endF, offSpec, offF, ctgSpec, ctgF, heldSpec, heldF, newStoSpec, partsSpec, partsF, geqSpec, Ty.T, Ty.dflt, KT.T, getM, putM, delM, inI64, maxRow]; done)
         | (symm; with_reducible assumption)
         | (dsimp only [putSpec, readSpec, gapsSpec, endSpec, endF, offSpec, offF, ctgSpec, ctgF, heldSpec, heldF, newStoSpec, partsSpec, partsF, geqSpec, Ty.T, Ty.dflt, KT.T, getM, putM, delM, inI64, maxRow]; first | with_reducible rfl | with_reducible assumption | (symm; with_reducible assumption) | (simp only [natCast_eq]; with_reducible rfl) | omega)
         | omega
         | (dsimp only [putSpec, readSpec, gapsSpec, endSpec, endF, offSpec, offF, ctgSpec, ctgF, heldSpec, heldF, newStoSpec, partsSpec, partsF, geqSpec, Ty.T, Ty.dflt, KT.T, getM, putM, delM, inI64, maxRow]; (try simp only [natCast_eq, List.nil_append]); first | with_reducible rfl | exact take_cg (by omega) | exact drop_cg (by omega) | exact take_drop_cg (by omega) (by omega) | exact take_all (by omega) | exact take_drop_all (by omega) (by omega) | exact drop_take_cg (by omega) (by omega) (by omega))
         | first | exact ⟨hca.fits.ok.pre, Nat.le_trans q3 (by omega)⟩ | exact ⟨hcb.fits.ok.pre, Nat.le_trans q4 (by omega)⟩ | exact hca.fits.ok.pre | exact hcb.fits.ok.pre | exact hca.fits.ok.preG | exact hcb.fits.ok.preG | exact Nat.le_trans (Nat.le_of_eq (List.length_map _)) (gaps_len hca.fits.ok) | exact z6
         | ((try dsimp only [putSpec, readSpec, gapsSpec, endSpec, endF, offSpec, offF, ctgSpec, ctgF, heldSpec, heldF, newStoSpec, partsSpec, partsF, geqSpec, Ty.T, Ty.dflt, KT.T, getM, putM, delM, inI64, maxRow]); simp only [decide_eq_true_eq, decide_eq_false_iff_not, Bool.not_eq_true', Bool.not_eq_false', Bool.not_eq_true, Bool.not_eq_false, Bool.not_true, Bool.not_false, ne_eq, Bool.false_eq_true, Bool.true_eq_false, reduceCtorEq, beq_iff_eq, beq_eq_false_iff_ne, not_true_eq_false, not_false_eq_true, pair_eta, map_idL, natCast_eq, inI64, maxRow]; first | done | with_reducible assumption | omega)
         | exact map_pair_id _
         | ((try dsimp only [putSpec, readSpec, gapsSpec, endSpec, endF, offSpec, offF, ctgSpec, ctgF, heldSpec, heldF, newStoSpec, partsSpec, partsF, geqSpec, Ty.T, Ty.dflt, KT.T, getM, putM, delM, inI64, maxRow]) <;> (try simp only [natCast_eq]) <;> omega)
         | ((try dsimp only [putSpec, readSpec, gapsSpec, endSpec, endF, offSpec, offF, ctgSpec, ctgF, heldSpec, heldF, newStoSpec, partsSpec, partsF, geqSpec, Ty.T, Ty.dflt, KT.T, getM, putM, delM, inI64, maxRow] at *) <;> (try simp only [natCast_eq] at *) <;> omega)
         | ((try dsimp only [putSpec, readSpec, gapsSpec, endSpec, endF, offSpec, offF, ctgSpec, ctgF, heldSpec, heldF, newStoSpec, partsSpec, partsF, geqSpec, Ty.T, Ty.dflt, KT.T, getM, putM, delM, inI64, maxRow] at *) <;> (try simp only [List.length_append, List.length_cons, List.length_nil, List.length_replicate, List.length_take, List.length_drop, natCast_eq] at *) <;> omega)
         | assumption
         | (symm; assumption)
         | (dsimp only; simp only [Bool.or_true, Bool.true_or, Bool.or_false, Bool.false_or, Bool.and_true, Bool.true_and, Bool.and_false, Bool.false_and, Bool.not_true, Bool.not_false, *]; done)
         | (simp; done)
         | (and_intros <;> first | trivial | with_reducible assumption | omega)
         | ((try dsimp only [putSpec, readSpec, gapsSpec, endSpec, endF, offSpec, offF, ctgSpec, ctgF, heldSpec, heldF, newStoSpec, partsSpec, partsF, geqSpec, Ty.T, Ty.dflt, KT.T, getM, putM, delM, inI64, maxRow] at *) <;> simp [*] <;> done))
    | skip
  obtain ⟨y, hy0, hy1, hy2⟩ := next_LOr hlo (by assumption) hq.ca hq.cb
  refine ⟨y, by dsimp only; (try simp only [natCast_eq]); omega, ?_⟩
  (try (conv in (LoopInv.inv _ _) => dsimp only)); (try (conv in (SS.mk _ _) => cbv; (try dsimp only [putSpec, readSpec, gapsSpec, endSpec, endF, offSpec, offF, ctgSpec, ctgF, heldSpec, heldF, newStoSpec, partsSpec, partsF, geqSpec, Ty.T, Ty.dflt, KT.T]); (try simp only [natCast_eq])))
  (refine (?_ : T1 _ ?_) ?_; rotate_left 1; (conv => lhs; cbv; (try cbv); (try cbv)); intro hT; clear hT; refine Sh.mk (by kernel_rfl) ?_)
  repeat' (first
    | with_reducible refine Ck.mk (C := tt) tt_intro ?_
    | with_reducible refine Ck.mk (show drawOk _ _ = true by kernel_rfl) ?_
    | with_reducible refine Ck.all_cons ?_
    | with_reducible refine Ck.all_nil ?_
    | with_reducible refine Ck.mk (by assumption) ?_
    | with_reducible refine Ck.mk (decide_eq_true (by assumption)) ?_
    | with_reducible refine Ck.mk (decide_eq_false (by assumption)) ?_
    | with_reducible refine Ck.mk ?_ ?_
    | (with_reducible refine Both.mk (fun h => ?_) (fun h => ?_) <;> (have hk := h) <;> (try simp only [decide_eq_true_eq, decide_eq_false_iff_not, Bool.not_eq_true', Bool.not_eq_false', Bool.not_eq_true, Bool.not_eq_false, Bool.not_true, Bool.not_false, ne_eq, Bool.false_eq_true, Bool.true_eq_false, reduceCtorEq, beq_iff_eq, beq_eq_false_iff_ne, not_true_eq_false, not_false_eq_true, pair_eta, map_idL] at h) <;> (try dsimp only [putSpec, readSpec, gapsSpec, endSpec, endF, offSpec, offF, ctgSpec, ctgF, heldSpec, heldF, newStoSpec, partsSpec, partsF, geqSpec, Ty.T, Ty.dflt, KT.T, getM, putM, delM] at h) <;> (try simp only [natCast_eq] at h) <;> (try simp only [z2] at h) <;> (try (have hq := orF hl (by omega) hd hlo h hca hcb; have q1 := hq.ea; have q2 := hq.eb; have q3 := hq.la; have q4 := hq.lb)) <;> (try (have hE := orE hd hhi h hca hcb; have z1 := hE.held; have z2 := hE.gaps; have z3 := hE.fend; have z4 := hE.known; have z5 := hE.read; have z6 := hE.byt; clear hE)) <;> (try (exfalso; exact absurd z3 h)) <;> (try (exfalso; exact absurd z4 h)) <;> (try (exfalso; exact absurd z5 h)) <;> (try (exfalso; exact absurd ((geq_self _).symm.trans h) Bool.noConfusion)) <;> (try first | rw [if_pos h] at hr | rw [if_neg h] at hr | rw [ifF h] at hr | rw [ifN h] at hr) <;> (try (have hb : (_ : Bool) = _ := h; clear h; subst hb; (try first | rw [if_pos rfl] at hr | rw [if_neg Bool.false_ne_true] at hr))) <;> first | (exfalso; omega) | exact absurd (h.symm.trans (by assumption) : true = false) Bool.noConfusion | exact absurd (h.symm.trans (by assumption) : false = true) Bool.noConfusion | (refine (?_ : T1 _ ?_) ?_; rotate_left 1; (conv => lhs; cbv; (try cbv); (try cbv)); intro hT; clear hT; refine Sh.mk (by kernel_rfl) ?_))
    | (with_reducible refine Alt.mk (fun h => ?_) (fun h => ?_) <;> (have hk := h) <;> (try simp only [decide_eq_true_eq, decide_eq_false_iff_not, Bool.not_eq_true', Bool.not_eq_false', Bool.not_eq_true, Bool.not_eq_false, Bool.not_true, Bool.not_false, ne_eq, Bool.false_eq_true, Bool.true_eq_false, reduceCtorEq, beq_iff_eq, beq_eq_false_iff_ne, not_true_eq_false, not_false_eq_true, pair_eta, map_idL] at h) <;> (try dsimp only [putSpec, readSpec, gapsSpec, endSpec, endF, offSpec, offF, ctgSpec, ctgF, heldSpec, heldF, newStoSpec, partsSpec, partsF, geqSpec, Ty.T, Ty.dflt, KT.T, getM, putM, delM] at h) <;> (try simp only [natCast_eq] at h) <;> (try simp only [z2] at h) <;> (try (have hq := orF hl (by omega) hd hlo h hca hcb; have q1 := hq.ea; have q2 := hq.eb; have q3 := hq.la; have q4 := hq.lb)) <;> (try (have hE := orE hd hhi h hca hcb; have z1 := hE.held; have z2 := hE.gaps; have z3 := hE.fend; have z4 := hE.known; have z5 := hE.read; have z6 := hE.byt; clear hE)) <;> (try (exfalso; exact absurd z3 h)) <;> (try (exfalso; exact absurd z4 h)) <;> (try (exfalso; exact absurd z5 h)) <;> (try (exfalso; exact absurd ((geq_self _).symm.trans h) Bool.noConfusion)) <;> (try first | rw [if_pos h] at hr | rw [if_neg h] at hr | rw [ifF h] at hr | rw [ifN h] at hr) <;> (try (have hb : (_ : Bool) = _ := h; clear h; subst hb; (try first | rw [if_pos rfl] at hr | rw [if_neg Bool.false_ne_true] at hr))) <;> first | (exfalso; omega) | exact absurd (h.symm.trans (by assumption) : true = false) Bool.noConfusion | exact absurd (h.symm.trans (by assumption) : false = true) Bool.noConfusion | (refine (?_ : T1 _ ?_) ?_; rotate_left 1; (conv => lhs; cbv; (try cbv); (try cbv)); intro hT; clear hT; refine Sh.mk (by kernel_rfl) ?_))
    | (with_reducible refine Pick.mk (fun h => ?_) (fun l1 x l2 h => ?_) <;> (refine (?_ : T1 _ ?_) ?_; rotate_left 1; (conv => lhs; cbv; (try cbv); (try cbv)); intro hT; clear hT; refine Sh.mk (by kernel_rfl) ?_))
    | ((with_reducible refine End.mk ?_); skip)
    | with_reducible exact True.intro)
  all_goals first
    | (fail_if_success (with_reducible refine Exists.intro ?_ ?_)
       first
         | with_reducible rfl
         | with_reducible assumption
         | (dsimp only [putSpec, readSpec, gapsSpec, endSpec, endF, offSpec, offF, ctgSpec, ctgF, heldSpec, heldF, newStoSpec, partsSpec, partsF, geqSpec, Ty.T, Ty.dflt, KT.T, getM, putM, delM, inI64, maxRow]; done)
         | (symm; with_reducible assumption)
         | (dsimp only [putSpec, readSpec, gapsSpec, endSpec, endF, offSpec, offF, ctgSpec, ctgF, heldSpec, heldF, newStoSpec, partsSpec, partsF, geqSpec, Ty.T, Ty.dflt, KT.T, getM, putM, delM, inI64, maxRow]; first | with_reducible rfl | with_reducible assumption | (symm; with_reducible assumption) | (simp only [natCast_eq]; with_reducible rfl) | omega)
         | omega
         | (dsimp only [putSpec, readSpec, gapsSpec, endSpec, endF, offSpec, offF, ctgSpec, ctgF, heldSpec, heldF, newStoSpec, partsSpec, partsF, geqSpec, Ty.T, Ty.dflt, KT.T, getM, putM, delM, inI64, maxRow]; (try simp only [natCast_eq, List.nil_append]); first | with_reducible rfl | exact take_cg (by omega) | exact drop_cg (by omega) | exact take_drop_cg (by omega) (by omega) | exact take_all (by omega) | exact take_drop_all (by omega) (by omega) | exact drop_take_cg (by omega) (by omega) (by omega))
         | first | exact hy1.symm | exact hy2.symm
         | ((try dsimp only [putSpec, readSpec, gapsSpec, endSpec, endF, offSpec, offF, ctgSpec, ctgF, heldSpec, heldF, newStoSpec, partsSpec, partsF, geqSpec, Ty.T, Ty.dflt, KT.T, getM, putM, delM, inI64, maxRow]); simp only [decide_eq_true_eq, decide_eq_false_iff_not, Bool.not_eq_true', Bool.not_eq_false', Bool.not_eq_true, Bool.not_eq_false, Bool.not_true, Bool.not_false, ne_eq, Bool.false_eq_true, Bool.true_eq_false, reduceCtorEq, beq_iff_eq, beq_eq_false_iff_ne, not_true_eq_false, not_false_eq_true, pair_eta, map_idL, natCast_eq, inI64, maxRow]; first | done | with_reducible assumption | omega)
         | exact map_pair_id _
         | ((try dsimp only [putSpec, readSpec, gapsSpec, endSpec, endF, offSpec, offF, ctgSpec, ctgF, heldSpec, heldF, newStoSpec, partsSpec, partsF, geqSpec, Ty.T, Ty.dflt, KT.T, getM, putM, delM, inI64, maxRow]) <;> (try simp only [natCast_eq]) <;> omega)
         | ((try dsimp only [putSpec, readSpec, gapsSpec, endSpec, endF, offSpec, offF, ctgSpec, ctgF, heldSpec, heldF, newStoSpec, partsSpec, partsF, geqSpec, Ty.T, Ty.dflt, KT.T, getM, putM, delM, inI64, maxRow] at *) <;> (try simp only [natCast_eq] at *) <;> omega)
         | ((try dsimp only [putSpec, readSpec, gapsSpec, endSpec, endF, offSpec, offF, ctgSpec, ctgF, heldSpec, heldF, newStoSpec, partsSpec, partsF, geqSpec, Ty.T, Ty.dflt, KT.T, getM, putM, delM, inI64, maxRow] at *) <;> (try simp only [List.length_append, List.length_cons, List.length_nil, List.length_replicate, List.length_take, List.length_drop, natCast_eq] at *) <;> omega)
         | assumption
         | (symm; assumption)
         | (dsimp only; simp only [Bool.or_true, Bool.true_or, Bool.or_false, Bool.false_or, Bool.and_true, Bool.true_and, Bool.and_false, Bool.false_and, Bool.not_true, Bool.not_false, *]; done)
         | (simp; done)
         | (and_intros <;> first | trivial | with_reducible assumption | omega)
         | ((try dsimp only [putSpec, readSpec, gapsSpec, endSpec, endF, offSpec, offF, ctgSpec, ctgF, heldSpec, heldF, newStoSpec, partsSpec, partsF, geqSpec, Ty.T, Ty.dflt, KT.T, getM, putM, delM, inI64, maxRow] at *) <;> simp [*] <;> done))
    | skip
theorem ord_sound : ConSound Try.prog AI 5 ordSpec.con := PureSpec.sound Try.call5 (fun x h => ord_ok x.1 x.2.1 x.2.2.1 h)
end Go.Proofs.Ytonegoinplddmaa
