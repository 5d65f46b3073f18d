/-
  Layer 50: Book, Balance, Conns, Entries.
-/
import Derived.Test.YtfgfcbncnngniaaDoorBok
import Derived.Test.YtfgfcbncnngniaaDoorIter
namespace Go.Proofs.YtfgfcbncnngniaaDoor
set_option linter.all false
set_option linter.unusedVariables false
set_option linter.unusedSimpArgs false
set_option linter.unusedSectionVars false
open Go.RowKit Go.Sx
set_option maxRecDepth 100000
set_option maxHeartbeats 16000000
abbrev BL := List (Int × Fv)
abbrev z5 : Fv := (0, 0, 0, 0, 0)
abbrev getB (D : BL) (c : Int) : Option Fv := getA (K := Int) D c
abbrev balAt (D : BL) (c : Int) : Fv := (getB D c).getD z5
abbrev putB (D : BL) (c : Int) (b : Fv) : BL := putA (K := Int) D c b
structure BalOk (v : Fv) : Prop where
  x0 : -1099511627776 ≤ v.1 ∧ v.1 ≤ 1099511627776
  x1 : -1099511627776 ≤ v.2.1 ∧ v.2.1 ≤ 1099511627776
  x2 : -1099511627776 ≤ v.2.2.1 ∧ v.2.2.1 ≤ 1099511627776
  x3 : -1099511627776 ≤ v.2.2.2.1 ∧ v.2.2.2.1 ≤ 1099511627776
  x4 : -1099511627776 ≤ v.2.2.2.2 ∧ v.2.2.2.2 ≤ 1099511627776
structure OkL (S : Led) : Prop where
  len : S.ents.length ≤ 1048576
  bal : ∀ p ∈ S.bals, BalOk p.2
  blen : S.bals.length ≤ 1048576
theorem getB_mem {D : BL} {c : Int} {b : Fv} (h : getB D c = some b) : (c, b) ∈ D := by
  induction D with
  | nil => cases h
  | cons q D ih =>
    obtain ⟨k, u⟩ := q
    have h : (if k = c then some u else getA D c) = some b := h
    split at h
    · rename_i e; cases h; rw [e]; exact List.mem_cons_self ..
    · exact List.mem_cons_of_mem _ (ih h)
theorem bal_z : BalOk z5 := ⟨by decide, by decide, by decide, by decide, by decide⟩
theorem balAt_ok {S : Led} (h : OkL S) (c : Int) : BalOk (balAt S.bals c) := by
  unfold balAt
  cases e : getB S.bals c with
  | none => exact bal_z
  | some v => exact h.bal _ (getB_mem e)
def updB (b : Fv) (f t n : Int) : Fv :=
  if f = 0 then (b.1 - n, b.2.1 + n, b.2.2.1, b.2.2.2.1, b.2.2.2.2)
  else if f = 1 then (if t = 2 then (b.1, b.2.1 - n, b.2.2.1 + n, b.2.2.2.1, b.2.2.2.2) else (b.1, b.2.1 - n, b.2.2.1, b.2.2.2.1, b.2.2.2.2 + n))
  else if t = 1 then (b.1, b.2.1 + n, b.2.2.1 - n, b.2.2.2.1, b.2.2.2.2)
  else if t = 3 then (b.1, b.2.1, b.2.2.1 - n, b.2.2.2.1 + n, b.2.2.2.2)
  else (b.1, b.2.1, b.2.2.1 - n, b.2.2.2.1, b.2.2.2.2 + n)
abbrev I1 := Tup [DT.cell (.int .i64)]
abbrev bkD (S : Led) (e : Fv) : I1 × Led := ((0, ()), ⟨S.ents ++ [e], putB S.bals e.2.1 (updB (balAt S.bals e.2.1) e.2.2.1 e.2.2.2.1 e.2.2.2.2)⟩)
abbrev bkN (S : Led) (n : Int) : I1 × Led := ((n, ()), S)
def bkR (S : Led) (e : Fv) : I1 × Led :=
  if 10000 ≤ (S.ents.length : Int) then bkN S 5
  else if e.2.2.1 = 0 then bkD S e
  else if e.2.2.1 = 1 then (if (balAt S.bals e.2.1).2.1 < e.2.2.2.2 then bkN S 6 else bkD S e)
  else (if (balAt S.bals e.2.1).2.2.1 < e.2.2.2.2 then bkN S 6 else bkD S e)
def bookF (S : Led) (e : Fv) : I1 × Led :=
  if inrB e = true then
    (if prmB e.2.2.1 e.2.2.2.1 = true then
      (if 0 < (S.ents.length : Int) then (if e.1 < (S.ents.getD ((S.ents.length : Int) - 1).toNat z5).1 then bkN S 15 else bkR S e) else bkR S e)
    else bkN S 16)
  else bkN S 2
theorem inr_facts {e : Fv} (h : inrB e = true) : 0 ≤ e.2.1 ∧ e.2.1 < 1000 ∧ (0 ≤ e.2.2.1 ∧ e.2.2.1 < 5) ∧ (0 ≤ e.2.2.2.1 ∧ e.2.2.2.1 < 5) ∧ (1 ≤ e.2.2.2.2 ∧ e.2.2.2.2 ≤ 1048576) ∧ (0 ≤ e.1 ∧ e.1 ≤ 1073741824) := of_decide_eq_true h
theorem prm_facts {a b : Int} (h : prmB a b = true) : (a = 0 ∧ b = 1) ∨ (a = 1 ∧ (b = 2 ∨ b = 4)) ∨ (a = 2 ∧ (b = 1 ∨ b = 3 ∨ b = 4)) := of_decide_eq_true h
theorem ofN0 : Int.ofNat 0 = 0 := rfl
theorem ofN1 : Int.ofNat 1 = 1 := rfl
theorem ofN2 : Int.ofNat 2 = 2 := rfl
theorem ofN3 : Int.ofNat 3 = 3 := rfl
theorem ofN4 : Int.ofNat 4 = 4 := rfl
theorem bsub_ok {x n : Int} (h : -1099511627776 ≤ x ∧ x ≤ 1099511627776) (hn : 1 ≤ n ∧ n ≤ 1048576) : inI64 (x - n) := by unfold inI64; omega
theorem badd_ok {x n : Int} (h : -1099511627776 ≤ x ∧ x ≤ 1099511627776) (hn : 1 ≤ n ∧ n ≤ 1048576) : inI64 (x + n) := by unfold inI64; omega
noncomputable abbrev Eb : Env Ab := ⟨tis, [(33, prmSpec.con), (32, inrSpec.con)] ++ E0.con⟩
theorem ebOk : EnvOk Tryd.prog AI Eb := ((e0Ok.add inr_sound).add prm_sound)
def bookSpec : MethSpec Ab := ⟨Led, selL, .led, false, [.cell fvE], fun S (x : Fv × Unit) => OkL S, [.cell (.int .i64)], fun S (x : Fv × Unit) => (bookF S x.1).1, fun S (x : Fv × Unit) => (bookF S x.1).2⟩
theorem book_ok (S : Led) (e : Fv) (h : bookSpec.pre S (e, ())) : TmplOk Tryd.prog AI 19 (Sx.one (.ptr 0 0) :: argS bookSpec.ds (fun _ => (e, ()))) [.abs (bookSpec.put (fun _ => S))] (resOf (svs bookSpec.rs (fun _ => bookSpec.f S (e, ())))) [.abs (bookSpec.put (fun _ => bookSpec.next S (e, ())))] := by
  dsimp only [bookSpec] at h ⊢
  generalize hr : bookF S e = r
  obtain ⟨S1, S2⟩ := S
  obtain ⟨tk, cn, fr, to, by9⟩ := e
  have hB := balAt_ok h cn
  obtain ⟨hB1, hB2, hB3, hB4, hB5⟩ := hB
  have hl := h.len
  dsimp only at hl hB1 hB2 hB3 hB4 hB5
  dsimp only [bookF, bkR, updB] at hr
  refine tmpl_obj ebOk mixed (fn := Tryd.f19) (c := bodyOf Tryd.f19) (by kernel_rfl) (by kernel_rfl) (by kernel_rfl) (Nat.le_of_ble_eq_true (by kernel_rfl)) (layOk _) (layOk _) rfl rfl (resOf_closed (svs_closed _ _)) ?_
  (try (conv in (LoopInv.inv _ _) => dsimp only)); (try (conv in (SS.mk _ _) => cbv; (try dsimp only [inrSpec, inrF, prmSpec, prmF, Ty.T, Ty.dflt, KT.T]); (try simp only [natCast_eq])))
  (with_reducible refine (?_ : T1 _ ?_) ?_; rotate_left 1; (conv => lhs; cbv; (try cbv); (try cbv)); intro hT; clear hT; with_reducible refine Sh.mk (by kernel_rfl) ?_)
  repeat' (first
    | with_reducible (first | refine Ck.mk (C := tt) tt_intro ?_ | refine Ck.mk (show drawOk _ _ = true by kernel_rfl) ?_ | refine Ck.all_cons ?_ | refine Ck.all_nil ?_ | refine Ck.mk (by assumption) ?_ | refine Ck.mk (decide_eq_true (by assumption)) ?_ | refine Ck.mk (decide_eq_false (by assumption)) ?_ | refine Ck.mk ?_ ?_)
    | (with_reducible (first | refine Both.mk (fun h => ?_) (fun h => ?_) | refine Alt.mk (fun h => ?_) (fun h => ?_) | refine Pick.mk (fun h => ?_) (fun l1 x l2 h => ?_)) <;> (have hk := h) <;> (try simp only [nrm, reduceCtorEq, pair_eta, map_idL] at h) <;> (try dsimp only [inrSpec, inrF, prmSpec, prmF, Ty.T, Ty.dflt, KT.T, getM, putM, delM] at h) <;> (try simp only [natCast_eq] at h) <;> (try simp only [ofN0, ofN1, ofN2, ofN3, ofN4] at h) <;> (try (have hi := inr_facts h; obtain ⟨hi1, hi2, hi3, hi4, hi5, hi6⟩ := hi)) <;> (try (have hp := prm_facts h)) <;> (try first | rw [if_pos h] at hr | rw [if_neg h] at hr | rw [ifF h] at hr | rw [ifN h] at hr) <;> (try (have hb : (_ : Bool) = _ := h; clear h; subst hb; (try first | rw [if_pos rfl] at hr | rw [if_neg Bool.false_ne_true] at hr))) <;> first | (exfalso; omega) | exact absurd (h.symm.trans (by assumption) : true = false) Bool.noConfusion | exact absurd (h.symm.trans (by assumption) : false = true) Bool.noConfusion | (with_reducible refine (?_ : T1 _ ?_) ?_; rotate_left 1; (conv => lhs; cbv; (try cbv); (try cbv)); intro hT; clear hT; with_reducible refine Sh.mk (by kernel_rfl) ?_))
    | ((with_reducible refine End.mk ?_); (try ((repeat (first | rw [if_pos (by first | assumption | omega)] at hr | rw [if_neg (by first | assumption | omega | (simp only [Bool.false_eq_true, Bool.true_eq_false, reduceCtorEq, not_false_eq_true]; done) | (simp only [Bool.not_eq_true]; assumption) | (simp only [Bool.not_eq_false]; assumption))] at hr | rw [if_pos rfl] at hr)); subst hr)))
    | with_reducible exact True.intro)
  all_goals first
    | (fail_if_success (with_reducible refine Exists.intro ?_ ?_)
       first
         | with_reducible rfl
         | with_reducible assumption
         | (symm; with_reducible assumption)
         | omega
         | ((try dsimp only [inrSpec, inrF, prmSpec, prmF, Ty.T, Ty.dflt, KT.T, getM, putM, delM, inI64, maxRow]); first | done | with_reducible rfl | with_reducible assumption | (symm; with_reducible assumption) | ((try simp only [natCast_eq, List.nil_append]); first | done | with_reducible rfl | omega | exact take_cg (by omega) | exact drop_cg (by omega) | exact take_drop_cg (by omega) (by omega) | exact take_all (by omega) | exact take_drop_all (by omega) (by omega) | exact drop_take_cg (by omega) (by omega) (by omega)))
         | first | (rw [ofN4]; omega) | (dsimp only; simp only [List.length_map, List.length_cons, List.length_nil, maxRow]; omega) | (dsimp only [Ty.T, KT.T, Ty.dflt, putM, getM]; simp only [pair_eta, map_idL]; with_reducible rfl) | (show _ = putB S2 cn (updB (balAt S2 cn) fr to by9); dsimp only [Ty.T, KT.T, Ty.dflt, putM, getM]; simp only [pair_eta, map_idL]; unfold updB; (repeat (first | rw [if_pos (by omega)] | rw [if_neg (by omega)])); rfl) | exact bsub_ok hB1 hi5 | exact bsub_ok hB2 hi5 | exact bsub_ok hB3 hi5 | exact badd_ok hB1 hi5 | exact badd_ok hB2 hi5 | exact badd_ok hB3 hi5 | exact badd_ok hB4 hi5 | exact badd_ok hB5 hi5
         | ((try dsimp only [inrSpec, inrF, prmSpec, prmF, Ty.T, Ty.dflt, KT.T, getM, putM, delM, inI64, maxRow]); first | (simp only [nrm, reduceCtorEq, pair_eta, map_idL, natCast_eq, inI64, maxRow]; first | done | with_reducible assumption | omega) | exact map_pair_id _)
         | ((try dsimp only [inrSpec, inrF, prmSpec, prmF, Ty.T, Ty.dflt, KT.T, getM, putM, delM, inI64, maxRow] at *); first | ((try simp only [natCast_eq] at *) <;> omega) | ((try simp only [lens, natCast_eq] at *) <;> omega))
         | assumption
         | (symm; assumption)
         | (dsimp only; simp only [nrb, *]; done)
         | (simp; done)
         | (and_intros <;> first | trivial | with_reducible assumption | omega)
         | ((try dsimp only [inrSpec, inrF, prmSpec, prmF, Ty.T, Ty.dflt, KT.T, getM, putM, delM, inI64, maxRow] at *) <;> simp [*] <;> done))
    | skip
  all_goals (show _ = putB S2 cn (updB (balAt S2 cn) fr to by9))
  all_goals (dsimp only [Ty.T, KT.T, Ty.dflt, putM, getM])
  all_goals (simp only [pair_eta, map_idL])
  all_goals unfold updB
  all_goals (repeat (first | rw [if_pos (by omega)] | rw [if_neg (by omega)]))
theorem book_sound : ConSound Tryd.prog AI 19 bookSpec.con := MethSpec.sound Tryd.call19 ⟨fun a W h => by cases a <;> cases h; rfl, (fun h => by cases h), fun W x h => book_ok W x.1 h⟩
end Go.Proofs.YtfgfcbncnngniaaDoor
