/-
  Layer 50: AccountFull: the plain part and the walk.
-/
import Derived.Test.YtfgfcbncnngniaaDoorAud
namespace Go.Proofs.YtfgfcbncnngniaaDoor
set_option linter.all false
set_option linter.unusedVariables false
set_option linter.unusedSimpArgs false
set_option linter.unusedSectionVars false
open Go.RowKit Go.Sx
set_option maxRecDepth 100000
set_option maxHeartbeats 16000000
abbrev eF (c n : Int) : Fv := (0, c, 0, 1, n)
theorem rep_bal (c n a : Int) : ∀ k : Nat, balR (List.replicate k (eF c n)) c a = (k : Int) * dE (eF c n) c a
  | 0 => by simp [balR]
  | k + 1 => by
    rw [List.replicate_succ]
    simp only [balR]
    rw [rep_bal c n a k]
    have : ((k + 1 : Nat) : Int) = (k : Int) + 1 := by omega
    rw [this, Int.add_mul]; omega
theorem full_ref {c n : Int} (hc : 0 ≤ c ∧ c < 256) (hn : 1 ≤ n ∧ n ≤ 65536) (k : Nat) : refF (List.replicate k (eF c n)) (eF c n) = if 10000 ≤ (k : Int) then 5 else 0 := by
  have h1 : inrB (eF c n) = true := decide_eq_true (by dsimp only; omega)
  have h2 : prmB (eF c n).2.2.1 (eF c n).2.2.2.1 = true := (rfl : prmB 0 1 = true)
  have h3 : refR (List.replicate k (eF c n)) (eF c n) = if 10000 ≤ (k : Int) then 5 else 0 := by
    unfold refR
    rw [List.length_replicate]
    split
    · rfl
    · rw [if_neg (show ¬ (0 : Int) < 0 by decide)]
  unfold refF
  rw [if_pos h1, if_pos h2, List.length_replicate, h3]
  split
  · rw [if_neg ?_]
    have hlt : ((k : Int) - 1).toNat < k := by omega
    rw [List.getD_eq_getElem?_getD, List.getElem?_replicate, if_pos hlt]
    show ¬ (0 : Int) < 0
    omega
  · rfl
structure LFu (c n : Int) where
  i : Int
  S : Led
  R : List Fv
  lo : 0 ≤ i
  hi : i ≤ 10001
  ok : OkB S
  e1 : S.ents = List.replicate (min i.toNat 10000) (eF c n)
  e2 : R = List.replicate i.toNat (eF c n) ++ List.replicate (10001 - i.toNat) z5
theorem LFu.len {c n : Int} (x : LFu c n) : x.R.length = 10001 := by
  have := x.hi; have := x.lo
  rw [x.e2, List.length_append, List.length_replicate, List.length_replicate]; omega
theorem LFu.step {c n : Int} (hc : 0 ≤ c ∧ c < 256) (hn : 1 ≤ n ∧ n ≤ 65536) (x : LFu c n) (h : x.i < 10001) :
    ∃ (f : Int) (y : LFu c n), (bookF x.S (eF c n)).1.1 = f ∧ y.i = x.i + 1 ∧ y.S = (bookF x.S (eF c n)).2 ∧ y.R = x.R.set x.i.toNat (eF c n) ∧ (x.i = 10000 → f = 5) ∧ (¬ x.i = 10000 → f = 0) := by
  have h0 := x.lo
  have hr := book_ref x.ok (eF c n)
  have hf := full_ref hc hn (min x.i.toNat 10000)
  rw [← x.e1] at hf
  have hset : List.replicate (x.i + 1).toNat (eF c n) ++ List.replicate (10001 - (x.i + 1).toNat) z5 = x.R.set x.i.toNat (eF c n) := by
    rw [x.e2, show (x.i + 1).toNat = x.i.toNat + 1 by omega, List.set_append_right _ _ (by rw [List.length_replicate]; exact Nat.le_refl _), List.length_replicate, Nat.sub_self]
    rw [show 10001 - x.i.toNat = (10001 - (x.i.toNat + 1)) + 1 by omega, List.replicate_succ (n := 10001 - (x.i.toNat + 1)), List.replicate_succ', List.append_assoc]
    rfl
  by_cases c1 : x.i = 10000
  · rw [if_pos (by omega)] at hf
    rw [hf, if_neg (by decide)] at hr
    refine ⟨_, ⟨x.i + 1, (bookF x.S (eF c n)).2, _, by omega, by omega, okB_book x.ok _, ?_, hset.symm⟩, rfl, rfl, rfl, rfl, fun _ => by rw [hr], fun q => absurd c1 q⟩
    rw [hr]
    show x.S.ents = _
    rw [x.e1, show min (x.i + 1).toNat 10000 = min x.i.toNat 10000 by omega]
  · rw [if_neg (by omega)] at hf
    rw [if_pos hf] at hr
    refine ⟨_, ⟨x.i + 1, (bookF x.S (eF c n)).2, _, by omega, by omega, okB_book x.ok _, ?_, hset.symm⟩, rfl, rfl, rfl, rfl, fun q => absurd q c1, fun _ => by rw [hr]⟩
    rw [hr]
    show x.S.ents ++ [eF c n] = _
    rw [x.e1, show min (x.i + 1).toNat 10000 = min x.i.toNat 10000 + 1 by omega, List.replicate_succ']
theorem full_q {c n : Int} (hc : 0 ≤ c ∧ c < 256) (hn : 1 ≤ n ∧ n ≤ 65536) : ∀ k : Nat, k ≤ 10000 → (bookAll (List.replicate k (eF c n))).ents = List.replicate k (eF c n) ∧ auditR e00 0 (List.replicate k (eF c n)) = (-1, 0)
  | 0, _ => ⟨rfl, rfl⟩
  | k + 1, hk => by
    obtain ⟨h1, h2⟩ := full_q hc hn k (by omega)
    have hr := book_ref (okB_all (List.replicate k (eF c n))) (eF c n)
    have hf := full_ref hc hn k
    rw [if_neg (by omega)] at hf
    rw [h1, if_pos hf] at hr
    rw [List.replicate_succ']
    refine ⟨?_, ?_⟩
    · rw [bookAll_snoc, hr]
      show (bookAll _).ents ++ [eF c n] = _
      rw [h1]
    · rw [aud_snoc (eF c n) (List.replicate k (eF c n)) e00 0 (by rw [h2])]
      have hb : (List.replicate k (eF c n)).foldl (fun S e => (bookF S e).2) e00 = bookAll (List.replicate k (eF c n)) := rfl
      rw [hb, hr, if_pos rfl]
theorem full_aud {c n : Int} (hc : 0 ≤ c ∧ c < 256) (hn : 1 ≤ n ∧ n ≤ 65536) : auditR e00 0 (List.replicate 10001 (eF c n)) = (10000, 5) := by
  obtain ⟨h1, h2⟩ := full_q hc hn 10000 (Nat.le_refl _)
  have hr := book_ref (okB_all (List.replicate 10000 (eF c n))) (eF c n)
  have hf := full_ref hc hn 10000
  rw [if_pos (by decide)] at hf
  rw [h1, hf, if_neg (by decide)] at hr
  rw [show 10001 = 10000 + 1 from rfl, List.replicate_succ', aud_snoc (eF c n) (List.replicate 10000 (eF c n)) e00 0 (by rw [h2])]
  have hb : (List.replicate 10000 (eF c n)).foldl (fun S e => (bookF S e).2) e00 = bookAll (List.replicate 10000 (eF c n)) := rfl
  rw [hb, hr, List.length_replicate]
  rfl
theorem LFu.done {c n : Int} (hc : 0 ≤ c ∧ c < 256) (hn : 1 ≤ n ∧ n ≤ 65536) (x : LFu c n) (h : ¬ x.i < 10001) : auditR e00 0 x.R = (10000, 5) ∧ (balF x.S c 1).1 = 10000 * n := by
  have := x.hi
  have hi : x.i = 10001 := by omega
  refine ⟨?_, ?_⟩
  · rw [x.e2, hi]
    show auditR e00 0 (List.replicate 10001 (eF c n) ++ List.replicate 0 z5) = _
    rw [List.replicate_zero, List.append_nil]; exact full_aud hc hn
  · rw [bal5 x.ok (by decide) (by decide), x.e1, hi]
    show balR (List.replicate (min (10001 : Int).toNat 10000) (eF c n)) c 1 = _
    rw [show min (10001 : Int).toNat 10000 = 10000 from rfl, rep_bal]
    have : dE (eF c n) c 1 = n := by unfold dE; simp
    rw [this]; rfl
noncomputable abbrev Efu : Env Ab := ⟨tis, [(14, balSpec.con), (20, auditSpec.conA), (19, bookSpec.con), (18, newLSpec.con), (12, awakeSpec.con)] ++ E0.con⟩
theorem efuOk : EnvOk Tryd.prog AI Efu := (((((e0Ok.add awake_sound).add newL_sound).add book_sound).add audit_sound).add bal_sound)
def fulF (_ _ : Int) : Tup [DT.cell .bool] := (true, ())
def fulSpec : PureSpec := ⟨[.cell (.int .u8), .cell (.int .u16)], fun (x : Int × Int × Unit) => (0 ≤ x.1 ∧ x.1 ≤ 255) ∧ (0 ≤ x.2.1 ∧ x.2.1 ≤ 65535), [.cell .bool], fun (x : Int × Int × Unit) => fulF x.1 x.2.1⟩
theorem ful_ok (c : Int) (q : Int) (h : fulSpec.pre (c, q, ())) : TmplOk Tryd.prog AI 7 (argS fulSpec.ds (fun _ => (c, q, ()))) [] (resOf (svs fulSpec.rs (fun _ => fulSpec.f (c, q, ())))) [] := by
  dsimp only [fulSpec] at h ⊢
  generalize hr : fulF c q = r
  obtain ⟨⟨hc1, hc2⟩, hq1, hq2⟩ := h
  dsimp only [fulF] at hr
  refine tmpl_of_body efuOk mixed (fn := Tryd.f7) (c := bodyOf Tryd.f7) (by kernel_rfl) (by kernel_rfl) (by kernel_rfl) (Nat.le_of_ble_eq_true (by kernel_rfl)) ?_
  (try (conv in (LoopInv.inv _ _) => dsimp only)); (try (conv in (SS.mk _ _) => cbv; (try dsimp only [bookSpec, auditSpec, auditF, balSpec, Ty.T, Ty.dflt, KT.T]); (try simp only [natCast_eq])))
  (with_reducible refine (?_ : T1 _ ?_) ?_; rotate_left 1; (conv => lhs; cbv; (try cbv); (try cbv)); intro hT; clear hT; with_reducible refine Sh.mk (by kernel_rfl) ?_)
  repeat' (first
    | with_reducible refine Ck.mk (C := tt) tt_intro ?_
    | with_reducible refine Ck.mk (show drawOk _ _ = true by kernel_rfl) ?_
    | with_reducible refine Ck.all_cons ?_
    | with_reducible refine Ck.all_nil ?_
    | with_reducible refine Ck.mk (by assumption) ?_
    | with_reducible refine Ck.mk (decide_eq_true (by assumption)) ?_
    | with_reducible refine Ck.mk (decide_eq_false (by assumption)) ?_
    | with_reducible refine Ck.mk ?_ ?_
    | (with_reducible refine Both.mk (fun h => ?_) (fun h => ?_) <;> (have hk := h) <;> (try simp only [decide_eq_true_eq, decide_eq_false_iff_not, Bool.not_eq_true', Bool.not_eq_false', Bool.not_eq_true, Bool.not_eq_false, Bool.not_true, Bool.not_false, ne_eq, Bool.false_eq_true, Bool.true_eq_false, reduceCtorEq, beq_iff_eq, beq_eq_false_iff_ne, not_true_eq_false, not_false_eq_true, pair_eta, map_idL] at h) <;> (try dsimp only [bookSpec, auditSpec, auditF, balSpec, Ty.T, Ty.dflt, KT.T, getM, putM, delM] at h) <;> (try simp only [natCast_eq] at h) <;> (try (refine Exists.elim (x.step hc hn h) ?_; rintro f ⟨y, e1, hy0, hy1, hy2, g1, g2⟩)) <;> (try (have hD := x.done hc hn h; obtain ⟨hD1, hD2⟩ := hD)) <;> (try have G := g1 h) <;> (try have G := g2 h) <;> (try simp only [pair_eta, map_idL, e1, G, not_true_eq_false] at h) <;> (try simp only [hD1, hD2, not_true_eq_false] at h) <;> (try first | rw [if_pos h] at hr | rw [if_neg h] at hr | rw [ifF h] at hr | rw [ifN h] at hr) <;> (try (have hb : (_ : Bool) = _ := h; clear h; subst hb; (try first | rw [if_pos rfl] at hr | rw [if_neg Bool.false_ne_true] at hr))) <;> first | (exfalso; omega) | exact absurd (h.symm.trans (by assumption) : true = false) Bool.noConfusion | exact absurd (h.symm.trans (by assumption) : false = true) Bool.noConfusion | (with_reducible refine (?_ : T1 _ ?_) ?_; rotate_left 1; (conv => lhs; cbv; (try cbv); (try cbv)); intro hT; clear hT; with_reducible refine Sh.mk (by kernel_rfl) ?_))
    | (with_reducible refine Alt.mk (fun h => ?_) (fun h => ?_) <;> (have hk := h) <;> (try simp only [decide_eq_true_eq, decide_eq_false_iff_not, Bool.not_eq_true', Bool.not_eq_false', Bool.not_eq_true, Bool.not_eq_false, Bool.not_true, Bool.not_false, ne_eq, Bool.false_eq_true, Bool.true_eq_false, reduceCtorEq, beq_iff_eq, beq_eq_false_iff_ne, not_true_eq_false, not_false_eq_true, pair_eta, map_idL] at h) <;> (try dsimp only [bookSpec, auditSpec, auditF, balSpec, Ty.T, Ty.dflt, KT.T, getM, putM, delM] at h) <;> (try simp only [natCast_eq] at h) <;> (try (refine Exists.elim (x.step hc hn h) ?_; rintro f ⟨y, e1, hy0, hy1, hy2, g1, g2⟩)) <;> (try (have hD := x.done hc hn h; obtain ⟨hD1, hD2⟩ := hD)) <;> (try have G := g1 h) <;> (try have G := g2 h) <;> (try simp only [pair_eta, map_idL, e1, G, not_true_eq_false] at h) <;> (try simp only [hD1, hD2, not_true_eq_false] at h) <;> (try first | rw [if_pos h] at hr | rw [if_neg h] at hr | rw [ifF h] at hr | rw [ifN h] at hr) <;> (try (have hb : (_ : Bool) = _ := h; clear h; subst hb; (try first | rw [if_pos rfl] at hr | rw [if_neg Bool.false_ne_true] at hr))) <;> first | (exfalso; omega) | exact absurd (h.symm.trans (by assumption) : true = false) Bool.noConfusion | exact absurd (h.symm.trans (by assumption) : false = true) Bool.noConfusion | (with_reducible refine (?_ : T1 _ ?_) ?_; rotate_left 1; (conv => lhs; cbv; (try cbv); (try cbv)); intro hT; clear hT; with_reducible refine Sh.mk (by kernel_rfl) ?_))
    | (with_reducible refine Pick.mk (fun h => ?_) (fun l1 x l2 h => ?_) <;> (with_reducible refine (?_ : T1 _ ?_) ?_; rotate_left 1; (conv => lhs; cbv; (try cbv); (try cbv)); intro hT; clear hT; with_reducible refine Sh.mk (by kernel_rfl) ?_))
    | ((with_reducible refine End.mk ?_); (try ((repeat (first | rw [if_pos (by first | assumption | omega)] at hr | rw [if_neg (by first | assumption | omega | (simp only [Bool.false_eq_true, Bool.true_eq_false, reduceCtorEq, not_false_eq_true]; done) | (simp only [Bool.not_eq_true]; assumption) | (simp only [Bool.not_eq_false]; assumption))] at hr | rw [if_pos rfl] at hr)); subst hr)))
    | with_reducible exact True.intro)
  all_goals first
    | (fail_if_success (with_reducible refine Exists.intro ?_ ?_)
       first
         | with_reducible rfl
         | with_reducible assumption
         | (dsimp only [bookSpec, auditSpec, auditF, balSpec, Ty.T, Ty.dflt, KT.T, getM, putM, delM, inI64, maxRow]; done)
         | (symm; with_reducible assumption)
         | (dsimp only [bookSpec, auditSpec, auditF, balSpec, Ty.T, Ty.dflt, KT.T, getM, putM, delM, inI64, maxRow]; first | with_reducible rfl | with_reducible assumption | (symm; with_reducible assumption) | (simp only [natCast_eq]; with_reducible rfl) | omega)
         | omega
         | (dsimp only [bookSpec, auditSpec, auditF, balSpec, Ty.T, Ty.dflt, KT.T, getM, putM, delM, inI64, maxRow]; (try simp only [natCast_eq, List.nil_append]); first | with_reducible rfl | exact take_cg (by omega) | exact drop_cg (by omega) | exact take_drop_cg (by omega) (by omega) | exact take_all (by omega) | exact take_drop_all (by omega) (by omega) | exact drop_take_cg (by omega) (by omega) (by omega))
         | ((try dsimp only [bookSpec, auditSpec, auditF, balSpec, Ty.T, Ty.dflt, KT.T, getM, putM, delM, inI64, maxRow]); simp only [decide_eq_true_eq, decide_eq_false_iff_not, Bool.not_eq_true', Bool.not_eq_false', Bool.not_eq_true, Bool.not_eq_false, Bool.not_true, Bool.not_false, ne_eq, Bool.false_eq_true, Bool.true_eq_false, reduceCtorEq, beq_iff_eq, beq_eq_false_iff_ne, not_true_eq_false, not_false_eq_true, pair_eta, map_idL, natCast_eq, inI64, maxRow]; first | done | with_reducible assumption | omega)
         | exact map_pair_id _
         | ((try dsimp only [bookSpec, auditSpec, auditF, balSpec, Ty.T, Ty.dflt, KT.T, getM, putM, delM, inI64, maxRow]) <;> (try simp only [natCast_eq]) <;> omega)
         | ((try dsimp only [bookSpec, auditSpec, auditF, balSpec, Ty.T, Ty.dflt, KT.T, getM, putM, delM, inI64, maxRow] at *) <;> (try simp only [natCast_eq] at *) <;> omega)
         | ((try dsimp only [bookSpec, auditSpec, auditF, balSpec, Ty.T, Ty.dflt, KT.T, getM, putM, delM, inI64, maxRow] at *) <;> (try simp only [List.length_append, List.length_cons, List.length_nil, List.length_replicate, List.length_take, List.length_drop, natCast_eq] at *) <;> omega)
         | assumption
         | (symm; assumption)
         | (dsimp only; simp only [Bool.or_true, Bool.true_or, Bool.or_false, Bool.false_or, Bool.and_true, Bool.true_and, Bool.and_false, Bool.false_and, Bool.not_true, Bool.not_false, *]; done)
         | (simp; done)
         | (and_intros <;> first | trivial | with_reducible assumption | omega)
         | ((try dsimp only [bookSpec, auditSpec, auditF, balSpec, Ty.T, Ty.dflt, KT.T, getM, putM, delM, inI64, maxRow] at *) <;> simp [*] <;> done))
    | skip
  have hc : 0 ≤ c ∧ c < 256 := by omega
  have hn : 1 ≤ q + 1 ∧ q + 1 ≤ 65536 := by omega
  obtain ⟨x0, hx0, hx1, hx2⟩ : ∃ x : LFu c (q + 1), x.i = 0 ∧ x.S = e00 ∧ x.R = List.replicate 10001 z5 := ⟨⟨0, e00, _, Int.le_refl _, by decide, okB_0, rfl, rfl⟩, rfl, rfl, rfl⟩
  refine ⟨⟨LFu c (q + 1), fun x => ⟨[(0, Sx.one (.int .u8 (fun _ => c))), (5, Sx.one (.ptr 0 0)), (6, Sx.one (.int .i64 (fun _ => q + 1))), (7, Sx.one (.ptr 1 0)), (8, Sx.one (.hd 2 0)), (24, Sx.one (.hd 2 0)), (25, Sx.one (.int .i64 (fun _ => 10001))), (26, Sx.one (.int .i64 (fun _ => x.i)))], [.abs (.led (fun _ => x.S)), .cells 28 [.li .i64 0, .int .i64 (fun _ => c), .li .i64 0, .li .i64 1, .int .i64 (fun _ => q + 1)], .row 28 fvE 0 (fun _ => x.R)]⟩, fun x => (10001 - x.i).toNat, x0⟩, ?_, fun (x : LFu c (q + 1)) => ?_⟩
  · (try (conv in (LoopInv.inv _ _) => dsimp only)); (try (conv in (SS.mk _ _) => cbv; (try dsimp only [bookSpec, auditSpec, auditF, balSpec, Ty.T, Ty.dflt, KT.T]); (try simp only [natCast_eq])))
    (with_reducible refine (?_ : T1 _ ?_) ?_; rotate_left 1; (conv => lhs; cbv; (try cbv); (try cbv)); intro hT; clear hT; with_reducible refine Sh.mk (by kernel_rfl) ?_)
    repeat' (first
      | with_reducible refine Ck.mk (C := tt) tt_intro ?_
      | with_reducible refine Ck.mk (show drawOk _ _ = true by kernel_rfl) ?_
      | with_reducible refine Ck.all_cons ?_
      | with_reducible refine Ck.all_nil ?_
      | with_reducible refine Ck.mk (by assumption) ?_
      | with_reducible refine Ck.mk (decide_eq_true (by assumption)) ?_
      | with_reducible refine Ck.mk (decide_eq_false (by assumption)) ?_
      | with_reducible refine Ck.mk ?_ ?_
      | (with_reducible refine Both.mk (fun h => ?_) (fun h => ?_) <;> (have hk := h) <;> (try simp only [decide_eq_true_eq, decide_eq_false_iff_not, Bool.not_eq_true', Bool.not_eq_false', Bool.not_eq_true, Bool.not_eq_false, Bool.not_true, Bool.not_false, ne_eq, Bool.false_eq_true, Bool.true_eq_false, reduceCtorEq, beq_iff_eq, beq_eq_false_iff_ne, not_true_eq_false, not_false_eq_true, pair_eta, map_idL] at h) <;> (try dsimp only [bookSpec, auditSpec, auditF, balSpec, Ty.T, Ty.dflt, KT.T, getM, putM, delM] at h) <;> (try simp only [natCast_eq] at h) <;> (try (refine Exists.elim (x.step hc hn h) ?_; rintro f ⟨y, e1, hy0, hy1, hy2, g1, g2⟩)) <;> (try (have hD := x.done hc hn h; obtain ⟨hD1, hD2⟩ := hD)) <;> (try have G := g1 h) <;> (try have G := g2 h) <;> (try simp only [pair_eta, map_idL, e1, G, not_true_eq_false] at h) <;> (try simp only [hD1, hD2, not_true_eq_false] at h) <;> (try first | rw [if_pos h] at hr | rw [if_neg h] at hr | rw [ifF h] at hr | rw [ifN h] at hr) <;> (try (have hb : (_ : Bool) = _ := h; clear h; subst hb; (try first | rw [if_pos rfl] at hr | rw [if_neg Bool.false_ne_true] at hr))) <;> first | (exfalso; omega) | exact absurd (h.symm.trans (by assumption) : true = false) Bool.noConfusion | exact absurd (h.symm.trans (by assumption) : false = true) Bool.noConfusion | (with_reducible refine (?_ : T1 _ ?_) ?_; rotate_left 1; (conv => lhs; cbv; (try cbv); (try cbv)); intro hT; clear hT; with_reducible refine Sh.mk (by kernel_rfl) ?_))
      | (with_reducible refine Alt.mk (fun h => ?_) (fun h => ?_) <;> (have hk := h) <;> (try simp only [decide_eq_true_eq, decide_eq_false_iff_not, Bool.not_eq_true', Bool.not_eq_false', Bool.not_eq_true, Bool.not_eq_false, Bool.not_true, Bool.not_false, ne_eq, Bool.false_eq_true, Bool.true_eq_false, reduceCtorEq, beq_iff_eq, beq_eq_false_iff_ne, not_true_eq_false, not_false_eq_true, pair_eta, map_idL] at h) <;> (try dsimp only [bookSpec, auditSpec, auditF, balSpec, Ty.T, Ty.dflt, KT.T, getM, putM, delM] at h) <;> (try simp only [natCast_eq] at h) <;> (try (refine Exists.elim (x.step hc hn h) ?_; rintro f ⟨y, e1, hy0, hy1, hy2, g1, g2⟩)) <;> (try (have hD := x.done hc hn h; obtain ⟨hD1, hD2⟩ := hD)) <;> (try have G := g1 h) <;> (try have G := g2 h) <;> (try simp only [pair_eta, map_idL, e1, G, not_true_eq_false] at h) <;> (try simp only [hD1, hD2, not_true_eq_false] at h) <;> (try first | rw [if_pos h] at hr | rw [if_neg h] at hr | rw [ifF h] at hr | rw [ifN h] at hr) <;> (try (have hb : (_ : Bool) = _ := h; clear h; subst hb; (try first | rw [if_pos rfl] at hr | rw [if_neg Bool.false_ne_true] at hr))) <;> first | (exfalso; omega) | exact absurd (h.symm.trans (by assumption) : true = false) Bool.noConfusion | exact absurd (h.symm.trans (by assumption) : false = true) Bool.noConfusion | (with_reducible refine (?_ : T1 _ ?_) ?_; rotate_left 1; (conv => lhs; cbv; (try cbv); (try cbv)); intro hT; clear hT; with_reducible refine Sh.mk (by kernel_rfl) ?_))
      | (with_reducible refine Pick.mk (fun h => ?_) (fun l1 x l2 h => ?_) <;> (with_reducible refine (?_ : T1 _ ?_) ?_; rotate_left 1; (conv => lhs; cbv; (try cbv); (try cbv)); intro hT; clear hT; with_reducible refine Sh.mk (by kernel_rfl) ?_))
      | ((with_reducible refine End.mk ?_); skip)
      | with_reducible exact True.intro)
    all_goals first
      | (fail_if_success (with_reducible refine Exists.intro ?_ ?_)
         first
           | with_reducible rfl
           | with_reducible assumption
           | (dsimp only [bookSpec, auditSpec, auditF, balSpec, Ty.T, Ty.dflt, KT.T, getM, putM, delM, inI64, maxRow]; done)
           | (symm; with_reducible assumption)
           | (dsimp only [bookSpec, auditSpec, auditF, balSpec, Ty.T, Ty.dflt, KT.T, getM, putM, delM, inI64, maxRow]; first | with_reducible rfl | with_reducible assumption | (symm; with_reducible assumption) | (simp only [natCast_eq]; with_reducible rfl) | omega)
           | omega
           | (dsimp only [bookSpec, auditSpec, auditF, balSpec, Ty.T, Ty.dflt, KT.T, getM, putM, delM, inI64, maxRow]; (try simp only [natCast_eq, List.nil_append]); first | with_reducible rfl | exact take_cg (by omega) | exact drop_cg (by omega) | exact take_drop_cg (by omega) (by omega) | exact take_all (by omega) | exact take_drop_all (by omega) (by omega) | exact drop_take_cg (by omega) (by omega) (by omega))
           | first | exact hx0.symm | exact hx1.symm | exact hx2.symm | ((try dsimp only [bookSpec, auditSpec, auditF, balSpec, Ty.T, Ty.dflt, KT.T]); rw [List.length_replicate]; rfl)
           | ((try dsimp only [bookSpec, auditSpec, auditF, balSpec, Ty.T, Ty.dflt, KT.T, getM, putM, delM, inI64, maxRow]); simp only [decide_eq_true_eq, decide_eq_false_iff_not, Bool.not_eq_true', Bool.not_eq_false', Bool.not_eq_true, Bool.not_eq_false, Bool.not_true, Bool.not_false, ne_eq, Bool.false_eq_true, Bool.true_eq_false, reduceCtorEq, beq_iff_eq, beq_eq_false_iff_ne, not_true_eq_false, not_false_eq_true, pair_eta, map_idL, natCast_eq, inI64, maxRow]; first | done | with_reducible assumption | omega)
           | exact map_pair_id _
           | ((try dsimp only [bookSpec, auditSpec, auditF, balSpec, Ty.T, Ty.dflt, KT.T, getM, putM, delM, inI64, maxRow]) <;> (try simp only [natCast_eq]) <;> omega)
           | ((try dsimp only [bookSpec, auditSpec, auditF, balSpec, Ty.T, Ty.dflt, KT.T, getM, putM, delM, inI64, maxRow] at *) <;> (try simp only [natCast_eq] at *) <;> omega)
           | ((try dsimp only [bookSpec, auditSpec, auditF, balSpec, Ty.T, Ty.dflt, KT.T, getM, putM, delM, inI64, maxRow] at *) <;> (try simp only [List.length_append, List.length_cons, List.length_nil, List.length_replicate, List.length_take, List.length_drop, natCast_eq] at *) <;> omega)
           | assumption
           | (symm; assumption)
           | (dsimp only; simp only [Bool.or_true, Bool.true_or, Bool.or_false, Bool.false_or, Bool.and_true, Bool.true_and, Bool.and_false, Bool.false_and, Bool.not_true, Bool.not_false, *]; done)
           | (simp; done)
           | (and_intros <;> first | trivial | with_reducible assumption | omega)
           | ((try dsimp only [bookSpec, auditSpec, auditF, balSpec, Ty.T, Ty.dflt, KT.T, getM, putM, delM, inI64, maxRow] at *) <;> simp [*] <;> done))
      | skip
  have hlo := x.lo
  have hhi := x.hi
  have hok := x.ok
  have hln := x.len
  (try (conv in (LoopInv.inv _ _) => dsimp only)); (try (conv in (SS.mk _ _) => cbv; (try dsimp only [bookSpec, auditSpec, auditF, balSpec, Ty.T, Ty.dflt, KT.T]); (try simp only [natCast_eq])))
  (with_reducible refine (?_ : T1 _ ?_) ?_; rotate_left 1; (conv => lhs; cbv; (try cbv); (try cbv)); intro hT; clear hT; with_reducible refine Sh.mk (by kernel_rfl) ?_)
  repeat' (first
    | with_reducible refine Ck.mk (C := tt) tt_intro ?_
    | with_reducible refine Ck.mk (show drawOk _ _ = true by kernel_rfl) ?_
    | with_reducible refine Ck.all_cons ?_
    | with_reducible refine Ck.all_nil ?_
    | with_reducible refine Ck.mk (by assumption) ?_
    | with_reducible refine Ck.mk (decide_eq_true (by assumption)) ?_
    | with_reducible refine Ck.mk (decide_eq_false (by assumption)) ?_
    | with_reducible refine Ck.mk ?_ ?_
    | (with_reducible refine Both.mk (fun h => ?_) (fun h => ?_) <;> (have hk := h) <;> (try simp only [decide_eq_true_eq, decide_eq_false_iff_not, Bool.not_eq_true', Bool.not_eq_false', Bool.not_eq_true, Bool.not_eq_false, Bool.not_true, Bool.not_false, ne_eq, Bool.false_eq_true, Bool.true_eq_false, reduceCtorEq, beq_iff_eq, beq_eq_false_iff_ne, not_true_eq_false, not_false_eq_true, pair_eta, map_idL] at h) <;> (try dsimp only [bookSpec, auditSpec, auditF, balSpec, Ty.T, Ty.dflt, KT.T, getM, putM, delM] at h) <;> (try simp only [natCast_eq] at h) <;> (try (refine Exists.elim (x.step hc hn h) ?_; rintro f ⟨y, e1, hy0, hy1, hy2, g1, g2⟩)) <;> (try (have hD := x.done hc hn h; obtain ⟨hD1, hD2⟩ := hD)) <;> (try have G := g1 h) <;> (try have G := g2 h) <;> (try simp only [pair_eta, map_idL, e1, G, not_true_eq_false] at h) <;> (try simp only [hD1, hD2, not_true_eq_false] at h) <;> (try first | rw [if_pos h] at hr | rw [if_neg h] at hr | rw [ifF h] at hr | rw [ifN h] at hr) <;> (try (have hb : (_ : Bool) = _ := h; clear h; subst hb; (try first | rw [if_pos rfl] at hr | rw [if_neg Bool.false_ne_true] at hr))) <;> first | (exfalso; omega) | exact absurd (h.symm.trans (by assumption) : true = false) Bool.noConfusion | exact absurd (h.symm.trans (by assumption) : false = true) Bool.noConfusion | (with_reducible refine (?_ : T1 _ ?_) ?_; rotate_left 1; (conv => lhs; cbv; (try cbv); (try cbv)); intro hT; clear hT; with_reducible refine Sh.mk (by kernel_rfl) ?_))
    | (with_reducible refine Alt.mk (fun h => ?_) (fun h => ?_) <;> (have hk := h) <;> (try simp only [decide_eq_true_eq, decide_eq_false_iff_not, Bool.not_eq_true', Bool.not_eq_false', Bool.not_eq_true, Bool.not_eq_false, Bool.not_true, Bool.not_false, ne_eq, Bool.false_eq_true, Bool.true_eq_false, reduceCtorEq, beq_iff_eq, beq_eq_false_iff_ne, not_true_eq_false, not_false_eq_true, pair_eta, map_idL] at h) <;> (try dsimp only [bookSpec, auditSpec, auditF, balSpec, Ty.T, Ty.dflt, KT.T, getM, putM, delM] at h) <;> (try simp only [natCast_eq] at h) <;> (try (refine Exists.elim (x.step hc hn h) ?_; rintro f ⟨y, e1, hy0, hy1, hy2, g1, g2⟩)) <;> (try (have hD := x.done hc hn h; obtain ⟨hD1, hD2⟩ := hD)) <;> (try have G := g1 h) <;> (try have G := g2 h) <;> (try simp only [pair_eta, map_idL, e1, G, not_true_eq_false] at h) <;> (try simp only [hD1, hD2, not_true_eq_false] at h) <;> (try first | rw [if_pos h] at hr | rw [if_neg h] at hr | rw [ifF h] at hr | rw [ifN h] at hr) <;> (try (have hb : (_ : Bool) = _ := h; clear h; subst hb; (try first | rw [if_pos rfl] at hr | rw [if_neg Bool.false_ne_true] at hr))) <;> first | (exfalso; omega) | exact absurd (h.symm.trans (by assumption) : true = false) Bool.noConfusion | exact absurd (h.symm.trans (by assumption) : false = true) Bool.noConfusion | (with_reducible refine (?_ : T1 _ ?_) ?_; rotate_left 1; (conv => lhs; cbv; (try cbv); (try cbv)); intro hT; clear hT; with_reducible refine Sh.mk (by kernel_rfl) ?_))
    | (with_reducible refine Pick.mk (fun h => ?_) (fun l1 x l2 h => ?_) <;> (with_reducible refine (?_ : T1 _ ?_) ?_; rotate_left 1; (conv => lhs; cbv; (try cbv); (try cbv)); intro hT; clear hT; with_reducible refine Sh.mk (by kernel_rfl) ?_))
    | ((with_reducible refine End.mk ?_); skip)
    | with_reducible exact True.intro)
  all_goals first
    | (fail_if_success (with_reducible refine Exists.intro ?_ ?_)
       first
         | with_reducible rfl
         | with_reducible assumption
         | (dsimp only [bookSpec, auditSpec, auditF, balSpec, Ty.T, Ty.dflt, KT.T, getM, putM, delM, inI64, maxRow]; done)
         | (symm; with_reducible assumption)
         | (dsimp only [bookSpec, auditSpec, auditF, balSpec, Ty.T, Ty.dflt, KT.T, getM, putM, delM, inI64, maxRow]; first | with_reducible rfl | with_reducible assumption | (symm; with_reducible assumption) | (simp only [natCast_eq]; with_reducible rfl) | omega)
         | omega
         | (dsimp only [bookSpec, auditSpec, auditF, balSpec, Ty.T, Ty.dflt, KT.T, getM, putM, delM, inI64, maxRow]; (try simp only [natCast_eq, List.nil_append]); first | with_reducible rfl | exact take_cg (by omega) | exact drop_cg (by omega) | exact take_drop_cg (by omega) (by omega) | exact take_all (by omega) | exact take_drop_all (by omega) (by omega) | exact drop_take_cg (by omega) (by omega) (by omega))
         | first | exact hok.okL | exact congrArg Prod.fst hr | (dsimp only; rw [hln]; omega) | (show x.R.length ≤ 1048576; omega) | ((try dsimp only [bookSpec, auditSpec, auditF, balSpec, Ty.T, Ty.dflt, KT.T]); (try simp only [pair_eta, map_idL]); first | (show x.R.length ≤ 1048576; omega) | (refine Eq.trans (decide_eq_true ?_) (congrArg Prod.fst hr); exact hD2))
         | ((try dsimp only [bookSpec, auditSpec, auditF, balSpec, Ty.T, Ty.dflt, KT.T, getM, putM, delM, inI64, maxRow]); simp only [decide_eq_true_eq, decide_eq_false_iff_not, Bool.not_eq_true', Bool.not_eq_false', Bool.not_eq_true, Bool.not_eq_false, Bool.not_true, Bool.not_false, ne_eq, Bool.false_eq_true, Bool.true_eq_false, reduceCtorEq, beq_iff_eq, beq_eq_false_iff_ne, not_true_eq_false, not_false_eq_true, pair_eta, map_idL, natCast_eq, inI64, maxRow]; first | done | with_reducible assumption | omega)
         | exact map_pair_id _
         | ((try dsimp only [bookSpec, auditSpec, auditF, balSpec, Ty.T, Ty.dflt, KT.T, getM, putM, delM, inI64, maxRow]) <;> (try simp only [natCast_eq]) <;> omega)
         | ((try dsimp only [bookSpec, auditSpec, auditF, balSpec, Ty.T, Ty.dflt, KT.T, getM, putM, delM, inI64, maxRow] at *) <;> (try simp only [natCast_eq] at *) <;> omega)
         | ((try dsimp only [bookSpec, auditSpec, auditF, balSpec, Ty.T, Ty.dflt, KT.T, getM, putM, delM, inI64, maxRow] at *) <;> (try simp only [List.length_append, List.length_cons, List.length_nil, List.length_replicate, List.length_take, List.length_drop, natCast_eq] at *) <;> omega)
         | assumption
         | (symm; assumption)
         | (dsimp only; simp only [Bool.or_true, Bool.true_or, Bool.or_false, Bool.false_or, Bool.and_true, Bool.true_and, Bool.and_false, Bool.false_and, Bool.not_true, Bool.not_false, *]; done)
         | (simp; done)
         | (and_intros <;> first | trivial | with_reducible assumption | omega)
         | ((try dsimp only [bookSpec, auditSpec, auditF, balSpec, Ty.T, Ty.dflt, KT.T, getM, putM, delM, inI64, maxRow] at *) <;> simp [*] <;> done))
    | skip
  all_goals
    (refine ⟨y, by (try dsimp only); (try simp only [natCast_eq]); omega, ?_⟩
     (try (conv in (LoopInv.inv _ _) => dsimp only)); (try (conv in (SS.mk _ _) => cbv; (try dsimp only [bookSpec, auditSpec, auditF, balSpec, Ty.T, Ty.dflt, KT.T]); (try simp only [natCast_eq])))
     (with_reducible refine (?_ : T1 _ ?_) ?_; rotate_left 1; (conv => lhs; cbv; (try cbv); (try cbv)); intro hT; clear hT; with_reducible refine Sh.mk (by kernel_rfl) ?_)
     repeat' (first
       | with_reducible refine Ck.mk (C := tt) tt_intro ?_
       | with_reducible refine Ck.mk (show drawOk _ _ = true by kernel_rfl) ?_
       | with_reducible refine Ck.all_cons ?_
       | with_reducible refine Ck.all_nil ?_
       | with_reducible refine Ck.mk (by assumption) ?_
       | with_reducible refine Ck.mk (decide_eq_true (by assumption)) ?_
       | with_reducible refine Ck.mk (decide_eq_false (by assumption)) ?_
       | with_reducible refine Ck.mk ?_ ?_
       | (with_reducible refine Both.mk (fun h => ?_) (fun h => ?_) <;> (have hk := h) <;> (try simp only [decide_eq_true_eq, decide_eq_false_iff_not, Bool.not_eq_true', Bool.not_eq_false', Bool.not_eq_true, Bool.not_eq_false, Bool.not_true, Bool.not_false, ne_eq, Bool.false_eq_true, Bool.true_eq_false, reduceCtorEq, beq_iff_eq, beq_eq_false_iff_ne, not_true_eq_false, not_false_eq_true, pair_eta, map_idL] at h) <;> (try dsimp only [bookSpec, auditSpec, auditF, balSpec, Ty.T, Ty.dflt, KT.T, getM, putM, delM] at h) <;> (try simp only [natCast_eq] at h) <;> (try (refine Exists.elim (x.step hc hn h) ?_; rintro f ⟨y, e1, hy0, hy1, hy2, g1, g2⟩)) <;> (try (have hD := x.done hc hn h; obtain ⟨hD1, hD2⟩ := hD)) <;> (try have G := g1 h) <;> (try have G := g2 h) <;> (try simp only [pair_eta, map_idL, e1, G, not_true_eq_false] at h) <;> (try simp only [hD1, hD2, not_true_eq_false] at h) <;> (try first | rw [if_pos h] at hr | rw [if_neg h] at hr | rw [ifF h] at hr | rw [ifN h] at hr) <;> (try (have hb : (_ : Bool) = _ := h; clear h; subst hb; (try first | rw [if_pos rfl] at hr | rw [if_neg Bool.false_ne_true] at hr))) <;> first | (exfalso; omega) | exact absurd (h.symm.trans (by assumption) : true = false) Bool.noConfusion | exact absurd (h.symm.trans (by assumption) : false = true) Bool.noConfusion | (with_reducible refine (?_ : T1 _ ?_) ?_; rotate_left 1; (conv => lhs; cbv; (try cbv); (try cbv)); intro hT; clear hT; with_reducible refine Sh.mk (by kernel_rfl) ?_))
       | (with_reducible refine Alt.mk (fun h => ?_) (fun h => ?_) <;> (have hk := h) <;> (try simp only [decide_eq_true_eq, decide_eq_false_iff_not, Bool.not_eq_true', Bool.not_eq_false', Bool.not_eq_true, Bool.not_eq_false, Bool.not_true, Bool.not_false, ne_eq, Bool.false_eq_true, Bool.true_eq_false, reduceCtorEq, beq_iff_eq, beq_eq_false_iff_ne, not_true_eq_false, not_false_eq_true, pair_eta, map_idL] at h) <;> (try dsimp only [bookSpec, auditSpec, auditF, balSpec, Ty.T, Ty.dflt, KT.T, getM, putM, delM] at h) <;> (try simp only [natCast_eq] at h) <;> (try (refine Exists.elim (x.step hc hn h) ?_; rintro f ⟨y, e1, hy0, hy1, hy2, g1, g2⟩)) <;> (try (have hD := x.done hc hn h; obtain ⟨hD1, hD2⟩ := hD)) <;> (try have G := g1 h) <;> (try have G := g2 h) <;> (try simp only [pair_eta, map_idL, e1, G, not_true_eq_false] at h) <;> (try simp only [hD1, hD2, not_true_eq_false] at h) <;> (try first | rw [if_pos h] at hr | rw [if_neg h] at hr | rw [ifF h] at hr | rw [ifN h] at hr) <;> (try (have hb : (_ : Bool) = _ := h; clear h; subst hb; (try first | rw [if_pos rfl] at hr | rw [if_neg Bool.false_ne_true] at hr))) <;> first | (exfalso; omega) | exact absurd (h.symm.trans (by assumption) : true = false) Bool.noConfusion | exact absurd (h.symm.trans (by assumption) : false = true) Bool.noConfusion | (with_reducible refine (?_ : T1 _ ?_) ?_; rotate_left 1; (conv => lhs; cbv; (try cbv); (try cbv)); intro hT; clear hT; with_reducible refine Sh.mk (by kernel_rfl) ?_))
       | (with_reducible refine Pick.mk (fun h => ?_) (fun l1 x l2 h => ?_) <;> (with_reducible refine (?_ : T1 _ ?_) ?_; rotate_left 1; (conv => lhs; cbv; (try cbv); (try cbv)); intro hT; clear hT; with_reducible refine Sh.mk (by kernel_rfl) ?_))
       | ((with_reducible refine End.mk ?_); skip)
       | with_reducible exact True.intro)
     all_goals first
       | (fail_if_success (with_reducible refine Exists.intro ?_ ?_)
          first
            | with_reducible rfl
            | with_reducible assumption
            | (dsimp only [bookSpec, auditSpec, auditF, balSpec, Ty.T, Ty.dflt, KT.T, getM, putM, delM, inI64, maxRow]; done)
            | (symm; with_reducible assumption)
            | (dsimp only [bookSpec, auditSpec, auditF, balSpec, Ty.T, Ty.dflt, KT.T, getM, putM, delM, inI64, maxRow]; first | with_reducible rfl | with_reducible assumption | (symm; with_reducible assumption) | (simp only [natCast_eq]; with_reducible rfl) | omega)
            | omega
            | (dsimp only [bookSpec, auditSpec, auditF, balSpec, Ty.T, Ty.dflt, KT.T, getM, putM, delM, inI64, maxRow]; (try simp only [natCast_eq, List.nil_append]); first | with_reducible rfl | exact take_cg (by omega) | exact drop_cg (by omega) | exact take_drop_cg (by omega) (by omega) | exact take_all (by omega) | exact take_drop_all (by omega) (by omega) | exact drop_take_cg (by omega) (by omega) (by omega))
            | first | exact hy0.symm | exact hy1.symm | exact hy2.symm | ((try dsimp only [bookSpec, auditSpec, auditF, balSpec, Ty.T, Ty.dflt, KT.T]); (try simp only [pair_eta, map_idL]); first | exact hy1.symm | exact hy2.symm)
            | ((try dsimp only [bookSpec, auditSpec, auditF, balSpec, Ty.T, Ty.dflt, KT.T, getM, putM, delM, inI64, maxRow]); simp only [decide_eq_true_eq, decide_eq_false_iff_not, Bool.not_eq_true', Bool.not_eq_false', Bool.not_eq_true, Bool.not_eq_false, Bool.not_true, Bool.not_false, ne_eq, Bool.false_eq_true, Bool.true_eq_false, reduceCtorEq, beq_iff_eq, beq_eq_false_iff_ne, not_true_eq_false, not_false_eq_true, pair_eta, map_idL, natCast_eq, inI64, maxRow]; first | done | with_reducible assumption | omega)
            | exact map_pair_id _
            | ((try dsimp only [bookSpec, auditSpec, auditF, balSpec, Ty.T, Ty.dflt, KT.T, getM, putM, delM, inI64, maxRow]) <;> (try simp only [natCast_eq]) <;> omega)
            | ((try dsimp only [bookSpec, auditSpec, auditF, balSpec, Ty.T, Ty.dflt, KT.T, getM, putM, delM, inI64, maxRow] at *) <;> (try simp only [natCast_eq] at *) <;> omega)
            | ((try dsimp only [bookSpec, auditSpec, auditF, balSpec, Ty.T, Ty.dflt, KT.T, getM, putM, delM, inI64, maxRow] at *) <;> (try simp only [List.length_append, List.length_cons, List.length_nil, List.length_replicate, List.length_take, List.length_drop, natCast_eq] at *) <;> omega)
            | assumption
            | (symm; assumption)
            | (dsimp only; simp only [Bool.or_true, Bool.true_or, Bool.or_false, Bool.false_or, Bool.and_true, Bool.true_and, Bool.and_false, Bool.false_and, Bool.not_true, Bool.not_false, *]; done)
            | (simp; done)
            | (and_intros <;> first | trivial | with_reducible assumption | omega)
            | ((try dsimp only [bookSpec, auditSpec, auditF, balSpec, Ty.T, Ty.dflt, KT.T, getM, putM, delM, inI64, maxRow] at *) <;> simp [*] <;> done))
       | skip
     skip)
theorem ful_sound : ConSound Tryd.prog AI 7 fulSpec.con := PureSpec.sound Tryd.call7 (fun x h => ful_ok x.1 x.2.1 h)
end Go.Proofs.YtfgfcbncnngniaaDoor
