/-
  Layer 50: AccountZero, the walk.
-/
import Derived.Test.YtfgfcbncnngniaaDoorBlw
namespace Go.Proofs.YtfgfcbncnngniaaDoor
set_option linter.all false
set_option linter.unusedVariables false
set_option linter.unusedSimpArgs false
set_option linter.unusedSectionVars false
open Go.RowKit Go.Sx
set_option maxRecDepth 100000
set_option maxHeartbeats 16000000
def sumTo (l : List Fv) (c : Int) : Nat → Int
  | 0 => 0
  | k + 1 => sumTo l c k + balR l c k
theorem dE_sum {e : Fv} (h : OkE e) (c : Int) : dE e c 0 + dE e c 1 + dE e c 2 + dE e c 3 + dE e c 4 = 0 := by
  have h1 := h.ft
  unfold dE
  by_cases hc : e.2.1 = c
  · rcases h1 with ⟨h2, h3⟩ | ⟨h2, h3 | h3⟩ | ⟨h2, h3 | h3 | h3⟩ <;> simp [hc, h2, h3] <;> omega
  · simp [hc]
theorem bal_sum {l : List Fv} (h : ∀ e ∈ l, OkE e) (c : Int) : balR l c 0 + balR l c 1 + balR l c 2 + balR l c 3 + balR l c 4 = 0 := by
  induction l with
  | nil => rfl
  | cons e l ih =>
    have h1 := dE_sum (h e (List.mem_cons_self ..)) c
    have h2 := ih fun x hx => h x (List.mem_cons_of_mem _ hx)
    simp only [balR]
    omega
structure LZ (l : List Fv) (c : Int) where
  i : Int
  n : Int
  lo : 0 ≤ i
  hi : i ≤ 5
  eq : n = sumTo l c i.toNat
theorem sumTo_bnd {l : List Fv} (h : ∀ e ∈ l, OkE e) (hl : l.length ≤ 10000) (c : Int) : ∀ k : Nat, k ≤ 5 → -(10485760000 * (k : Int)) ≤ sumTo l c k ∧ sumTo l c k ≤ 10485760000 * (k : Int)
  | 0, _ => by simp [sumTo]
  | k + 1, hk => by
    have h1 := sumTo_bnd h hl c k (by omega)
    have h2 := balR_bnd h c k
    simp only [sumTo]
    omega
theorem LZ.step {S : Led} (hok : OkB S) {c : Int} (z : LZ S.ents c) (h : z.i < 5) : ∃ (b : Int) (y : LZ S.ents c), (balF S c z.i).1 = b ∧ y.i = z.i + 1 ∧ y.n = z.n + b ∧ (¬ z.i = 0 → 0 ≤ b) ∧ (-10485760000 ≤ b ∧ b ≤ 10485760000) ∧ (-52428800000 ≤ z.n ∧ z.n ≤ 52428800000) := by
  have h0 := z.lo
  have e := z.eq
  have h1 := sumTo_bnd hok.ent hok.len c z.i.toNat (by omega)
  have h2 := balR_bnd hok.ent c z.i
  have hl := hok.len
  refine ⟨balR S.ents c z.i, ⟨z.i + 1, z.n + balR S.ents c z.i, by omega, by omega, ?_⟩, bal5 hok h0 h c, rfl, rfl, fun hn => hok.pos c z.i (by omega) h, by omega, by omega⟩
  rw [show (z.i + 1).toNat = z.i.toNat + 1 by omega]
  simp only [sumTo]
  rw [← e, show ((z.i.toNat : Nat) : Int) = z.i by omega]
theorem LZ.done {S : Led} (hok : OkB S) {c : Int} (z : LZ S.ents c) (h : ¬ z.i < 5) : z.n = 0 := by
  have h1 := z.hi
  have h2 := bal_sum hok.ent c
  rw [z.eq, show z.i.toNat = 5 by omega]
  simp only [sumTo]
  have e0 : ((0 : Nat) : Int) = 0 := rfl
  have e1 : ((1 : Nat) : Int) = 1 := rfl
  have e2 : ((2 : Nat) : Int) = 2 := rfl
  have e3 : ((3 : Nat) : Int) = 3 := rfl
  have e4 : ((4 : Nat) : Int) = 4 := rfl
  rw [e0, e1, e2, e3, e4]
  omega
structure LT (l : List Fv) (c : Int) where
  i : Int
  n : Int
  lo : 0 ≤ i
  hi : i ≤ (l.length : Int)
  eq : n = -(balR (l.take i.toNat) c 0)
theorem LT.step {l : List Fv} {c : Int} (hE : ∀ e ∈ l, OkE e) (hl : l.length ≤ 10000) (x : LT l c) (h : x.i < (l.length : Int)) : ∃ (e : Fv) (y : LT l c), l.getD x.i.toNat (0, 0, 0, 0, 0) = e ∧ y.i = x.i + 1 ∧ y.n = x.n + (if e.2.1 = c ∧ e.2.2.1 = 0 then e.2.2.2.2 else 0) ∧ (1 ≤ e.2.2.2.2 ∧ e.2.2.2.2 ≤ 1048576) ∧ (-10485760000 ≤ x.n ∧ x.n ≤ 10485760000) := by
  have h0 := x.lo
  have hlt : x.i.toNat < l.length := by omega
  have hx := x.eq
  obtain ⟨e, he0⟩ : ∃ e, l.getD x.i.toNat z5 = e := ⟨_, rfl⟩
  have hm : e ∈ l := by rw [← he0, List.getD_eq_getElem?_getD, List.getElem?_eq_getElem hlt]; exact List.getElem_mem hlt
  have hb := balR_bnd (l := l.take x.i.toNat) (fun e he => hE e (List.mem_of_mem_take he)) c 0
  have he := hE _ hm
  have hf := he.ft
  rw [List.length_take] at hb
  refine ⟨e, ⟨x.i + 1, x.n + (if e.2.1 = c ∧ e.2.2.1 = 0 then e.2.2.2.2 else 0), by omega, by omega, ?_⟩, he0, rfl, rfl, he.n, by omega⟩
  rw [take_next h0 h, he0, balR_snoc, hx]
  unfold dE
  rw [if_neg (show ¬ (e.2.1 = c ∧ e.2.2.2.1 = 0) from fun q => by have := q.2; omega)]
  split <;> omega
theorem LT.done {l : List Fv} {c : Int} (x : LT l c) (h : ¬ x.i < (l.length : Int)) : x.n = -(balR l c 0) := by
  rw [x.eq, List.take_of_length_le (by have := x.hi; omega)]
theorem LT.bnd {l : List Fv} {c : Int} (hE : ∀ e ∈ l, OkE e) (hl : l.length ≤ 10000) (x : LT l c) : -10485760000 ≤ x.n ∧ x.n ≤ 10485760000 := by
  have hb := balR_bnd (l := l.take x.i.toNat) (fun e he => hE e (List.mem_of_mem_take he)) c 0
  rw [List.length_take] at hb
  have hx := x.eq
  omega
theorem zer_end {S : Led} (hok : OkB S) {c : Int} (x : LT S.ents c) (h : ¬ x.i < (S.ents.length : Int)) : (balF S c 0).1 = -x.n := by
  have h1 := x.done h
  rw [bal5 hok (Int.le_refl 0) (by decide)]
  show (balR S.ents c 0 : Int) = -x.n
  omega
noncomputable abbrev Ezr : Env Ab := ⟨tis, [(17, connsSpec.con), (14, balSpec.con), (13, bkaSpec.con), (12, awakeSpec.con)] ++ E0.con⟩
theorem ezrOk : EnvOk Tryd.prog AI Ezr := ((((e0Ok.add awake_sound).add bka_sound).add bal_sound).add conns_sound)
def zerF (_ : List Fv) : Tup [DT.cell .bool] := (true, ())
def zerSpec : PureSpec := ⟨[.lst fvE], fun (x : (List Fv) × Unit) => x.1.length ≤ maxLen ∧ ∀ e ∈ x.1, fvE.ok e, [.cell .bool], fun (x : (List Fv) × Unit) => zerF x.1⟩
theorem zer_ok (L : List Fv) (h : zerSpec.pre (L, ())) : TmplOk Tryd.prog AI 4 (argS zerSpec.ds (fun _ => (L, ()))) [] (resOf (svs zerSpec.rs (fun _ => zerSpec.f (L, ())))) [] := by
  dsimp only [zerSpec] at h ⊢
  generalize hr : zerF L = r
  obtain ⟨hL0, hL⟩ := h
  dsimp only [zerF] at hr
  refine tmpl_of_body ezrOk mixed (fn := Tryd.f4) (c := bodyOf Tryd.f4) (by kernel_rfl) (by kernel_rfl) (by kernel_rfl) (Nat.le_of_ble_eq_true (by kernel_rfl)) ?_
  (try (conv in (LoopInv.inv _ _) => dsimp only)); (try (conv in (SS.mk _ _) => cbv; (try dsimp only [bkaSpec, balSpec, connsSpec, connsF, Ty.T, Ty.dflt, KT.T]); (try simp only [natCast_eq])))
  (with_reducible refine (?_ : T1 _ ?_) ?_; rotate_left 1; (conv => lhs; cbv; (try cbv); (try cbv)); intro hT; clear hT; with_reducible refine Sh.mk (by kernel_rfl) ?_)
  repeat' (first
    | with_reducible refine Ck.mk (C := tt) tt_intro ?_
    | with_reducible refine Ck.mk (show drawOk _ _ = true by kernel_rfl) ?_
    | with_reducible refine Ck.all_cons ?_
    | with_reducible refine Ck.all_nil ?_
    | with_reducible refine Ck.mk (by assumption) ?_
    | with_reducible refine Ck.mk (decide_eq_true (by assumption)) ?_
    | with_reducible refine Ck.mk (decide_eq_false (by assumption)) ?_
    | with_reducible refine Ck.mk ?_ ?_
    | (with_reducible refine Both.mk (fun h => ?_) (fun h => ?_) <;> (have hk := h) <;> (try simp only [decide_eq_true_eq, decide_eq_false_iff_not, Bool.not_eq_true', Bool.not_eq_false', Bool.not_eq_true, Bool.not_eq_false, Bool.not_true, Bool.not_false, ne_eq, Bool.false_eq_true, Bool.true_eq_false, reduceCtorEq, beq_iff_eq, beq_eq_false_iff_ne, not_true_eq_false, not_false_eq_true, pair_eta, map_idL] at h) <;> (try dsimp only [bkaSpec, balSpec, connsSpec, connsF, Ty.T, Ty.dflt, KT.T, getM, putM, delM] at h) <;> (try simp only [natCast_eq] at h) <;> (try (refine Exists.elim (z.step hok h) ?_; rintro b ⟨y, e1, hy0, hy1, hb0, hb1, hb2⟩)) <;> (try (refine Exists.elim (t.step hok.ent hln h) ?_; rintro e ⟨y, e1, hy0, hy1, hn, hb⟩)) <;> (try simp only [pair_eta, map_idL, e1] at h) <;> (try (have hE := zer_end hok t h)) <;> (try simp only [pair_eta, map_idL, hE, not_true_eq_false] at h) <;> (try first | rw [if_pos h] at hr | rw [if_neg h] at hr | rw [ifF h] at hr | rw [ifN h] at hr) <;> (try (have hb : (_ : Bool) = _ := h; clear h; subst hb; (try first | rw [if_pos rfl] at hr | rw [if_neg Bool.false_ne_true] at hr))) <;> first | (exfalso; omega) | exact absurd (h.symm.trans (by assumption) : true = false) Bool.noConfusion | exact absurd (h.symm.trans (by assumption) : false = true) Bool.noConfusion | (with_reducible refine (?_ : T1 _ ?_) ?_; rotate_left 1; (conv => lhs; cbv; (try cbv); (try cbv)); intro hT; clear hT; with_reducible refine Sh.mk (by kernel_rfl) ?_))
    | (with_reducible refine Alt.mk (fun h => ?_) (fun h => ?_) <;> (have hk := h) <;> (try simp only [decide_eq_true_eq, decide_eq_false_iff_not, Bool.not_eq_true', Bool.not_eq_false', Bool.not_eq_true, Bool.not_eq_false, Bool.not_true, Bool.not_false, ne_eq, Bool.false_eq_true, Bool.true_eq_false, reduceCtorEq, beq_iff_eq, beq_eq_false_iff_ne, not_true_eq_false, not_false_eq_true, pair_eta, map_idL] at h) <;> (try dsimp only [bkaSpec, balSpec, connsSpec, connsF, Ty.T, Ty.dflt, KT.T, getM, putM, delM] at h) <;> (try simp only [natCast_eq] at h) <;> (try (refine Exists.elim (z.step hok h) ?_; rintro b ⟨y, e1, hy0, hy1, hb0, hb1, hb2⟩)) <;> (try (refine Exists.elim (t.step hok.ent hln h) ?_; rintro e ⟨y, e1, hy0, hy1, hn, hb⟩)) <;> (try simp only [pair_eta, map_idL, e1] at h) <;> (try (have hE := zer_end hok t h)) <;> (try simp only [pair_eta, map_idL, hE, not_true_eq_false] at h) <;> (try first | rw [if_pos h] at hr | rw [if_neg h] at hr | rw [ifF h] at hr | rw [ifN h] at hr) <;> (try (have hb : (_ : Bool) = _ := h; clear h; subst hb; (try first | rw [if_pos rfl] at hr | rw [if_neg Bool.false_ne_true] at hr))) <;> first | (exfalso; omega) | exact absurd (h.symm.trans (by assumption) : true = false) Bool.noConfusion | exact absurd (h.symm.trans (by assumption) : false = true) Bool.noConfusion | (with_reducible refine (?_ : T1 _ ?_) ?_; rotate_left 1; (conv => lhs; cbv; (try cbv); (try cbv)); intro hT; clear hT; with_reducible refine Sh.mk (by kernel_rfl) ?_))
    | (with_reducible refine Pick.mk (fun h => ?_) (fun l1 x l2 h => ?_) <;> (with_reducible refine (?_ : T1 _ ?_) ?_; rotate_left 1; (conv => lhs; cbv; (try cbv); (try cbv)); intro hT; clear hT; with_reducible refine Sh.mk (by kernel_rfl) ?_))
    | ((with_reducible refine End.mk ?_); (try ((repeat (first | rw [if_pos (by first | assumption | omega)] at hr | rw [if_neg (by first | assumption | omega | (simp only [Bool.false_eq_true, Bool.true_eq_false, reduceCtorEq, not_false_eq_true]; done) | (simp only [Bool.not_eq_true]; assumption) | (simp only [Bool.not_eq_false]; assumption))] at hr | rw [if_pos rfl] at hr)); subst hr)))
    | with_reducible exact True.intro)
  all_goals first
    | (fail_if_success (with_reducible refine Exists.intro ?_ ?_)
       first
         | with_reducible rfl
         | with_reducible assumption
         | (dsimp only [bkaSpec, balSpec, connsSpec, connsF, Ty.T, Ty.dflt, KT.T, getM, putM, delM, inI64, maxRow]; done)
         | (symm; with_reducible assumption)
         | (dsimp only [bkaSpec, balSpec, connsSpec, connsF, Ty.T, Ty.dflt, KT.T, getM, putM, delM, inI64, maxRow]; first | with_reducible rfl | with_reducible assumption | (symm; with_reducible assumption) | (simp only [natCast_eq]; with_reducible rfl) | omega)
         | omega
         | (dsimp only [bkaSpec, balSpec, connsSpec, connsF, Ty.T, Ty.dflt, KT.T, getM, putM, delM, inI64, maxRow]; (try simp only [natCast_eq, List.nil_append]); first | with_reducible rfl | exact take_cg (by omega) | exact drop_cg (by omega) | exact take_drop_cg (by omega) (by omega) | exact take_all (by omega) | exact take_drop_all (by omega) (by omega) | exact drop_take_cg (by omega) (by omega) (by omega))
         | ((try dsimp only [bkaSpec, balSpec, connsSpec, connsF, Ty.T, Ty.dflt, KT.T]); (try simp only [pair_eta, map_idL]); exact (okB_all L).preK)
         | ((try dsimp only [bkaSpec, balSpec, connsSpec, connsF, Ty.T, Ty.dflt, KT.T, getM, putM, delM, inI64, maxRow]); simp only [decide_eq_true_eq, decide_eq_false_iff_not, Bool.not_eq_true', Bool.not_eq_false', Bool.not_eq_true, Bool.not_eq_false, Bool.not_true, Bool.not_false, ne_eq, Bool.false_eq_true, Bool.true_eq_false, reduceCtorEq, beq_iff_eq, beq_eq_false_iff_ne, not_true_eq_false, not_false_eq_true, pair_eta, map_idL, natCast_eq, inI64, maxRow]; first | done | with_reducible assumption | omega)
         | exact map_pair_id _
         | ((try dsimp only [bkaSpec, balSpec, connsSpec, connsF, Ty.T, Ty.dflt, KT.T, getM, putM, delM, inI64, maxRow]) <;> (try simp only [natCast_eq]) <;> omega)
         | ((try dsimp only [bkaSpec, balSpec, connsSpec, connsF, Ty.T, Ty.dflt, KT.T, getM, putM, delM, inI64, maxRow] at *) <;> (try simp only [natCast_eq] at *) <;> omega)
         | ((try dsimp only [bkaSpec, balSpec, connsSpec, connsF, Ty.T, Ty.dflt, KT.T, getM, putM, delM, inI64, maxRow] at *) <;> (try simp only [List.length_append, List.length_cons, List.length_nil, List.length_replicate, List.length_take, List.length_drop, natCast_eq] at *) <;> omega)
         | assumption
         | (symm; assumption)
         | (dsimp only; simp only [Bool.or_true, Bool.true_or, Bool.or_false, Bool.false_or, Bool.and_true, Bool.true_and, Bool.and_false, Bool.false_and, Bool.not_true, Bool.not_false, *]; done)
         | (simp; done)
         | (and_intros <;> first | trivial | with_reducible assumption | omega)
         | ((try dsimp only [bkaSpec, balSpec, connsSpec, connsF, Ty.T, Ty.dflt, KT.T, getM, putM, delM, inI64, maxRow] at *) <;> simp [*] <;> done))
    | skip
  have hok := okB_all L
  obtain ⟨S, hS⟩ : ∃ S, bookAll L = S := ⟨_, rfl⟩
  have hok0 := hok
  rw [hS] at hok
  have hln := hok.len
  have hbl := hok.blen
  have hkl := keysL_len S
  obtain ⟨x0, hx0⟩ := ix0 (n := ((keysL S).length : Int)) (by omega)
  refine ⟨⟨Ix (keysL S).length, fun x => ⟨[(3, Sx.one (.ptr 0 0)), (4, Sx.one (.ro fvE (fun _ => S.ents))), (24, Sx.one (.ro I64 (fun _ => keysL S))), (25, Sx.one (.int .i64 (fun _ => (keysL S).length))), (26, Sx.one (.int .i64 (fun _ => x.i)))], [.abs (.led (fun _ => S))]⟩, fun x => ((keysL S).length - x.i).toNat, x0⟩, ?_, fun (x : Ix (keysL S).length) => ?_⟩
  · (try (conv in (LoopInv.inv _ _) => dsimp only)); (try (conv in (SS.mk _ _) => cbv; (try dsimp only [bkaSpec, balSpec, connsSpec, connsF, Ty.T, Ty.dflt, KT.T]); (try simp only [natCast_eq])))
    (with_reducible refine (?_ : T1 _ ?_) ?_; rotate_left 1; (conv => lhs; cbv; (try cbv); (try cbv)); intro hT; clear hT; with_reducible refine Sh.mk (by kernel_rfl) ?_)
    repeat' (first
      | with_reducible refine Ck.mk (C := tt) tt_intro ?_
      | with_reducible refine Ck.mk (show drawOk _ _ = true by kernel_rfl) ?_
      | with_reducible refine Ck.all_cons ?_
      | with_reducible refine Ck.all_nil ?_
      | with_reducible refine Ck.mk (by assumption) ?_
      | with_reducible refine Ck.mk (decide_eq_true (by assumption)) ?_
      | with_reducible refine Ck.mk (decide_eq_false (by assumption)) ?_
      | with_reducible refine Ck.mk ?_ ?_
      | (with_reducible refine Both.mk (fun h => ?_) (fun h => ?_) <;> (have hk := h) <;> (try simp only [decide_eq_true_eq, decide_eq_false_iff_not, Bool.not_eq_true', Bool.not_eq_false', Bool.not_eq_true, Bool.not_eq_false, Bool.not_true, Bool.not_false, ne_eq, Bool.false_eq_true, Bool.true_eq_false, reduceCtorEq, beq_iff_eq, beq_eq_false_iff_ne, not_true_eq_false, not_false_eq_true, pair_eta, map_idL] at h) <;> (try dsimp only [bkaSpec, balSpec, connsSpec, connsF, Ty.T, Ty.dflt, KT.T, getM, putM, delM] at h) <;> (try simp only [natCast_eq] at h) <;> (try (refine Exists.elim (z.step hok h) ?_; rintro b ⟨y, e1, hy0, hy1, hb0, hb1, hb2⟩)) <;> (try (refine Exists.elim (t.step hok.ent hln h) ?_; rintro e ⟨y, e1, hy0, hy1, hn, hb⟩)) <;> (try simp only [pair_eta, map_idL, e1] at h) <;> (try (have hE := zer_end hok t h)) <;> (try simp only [pair_eta, map_idL, hE, not_true_eq_false] at h) <;> (try first | rw [if_pos h] at hr | rw [if_neg h] at hr | rw [ifF h] at hr | rw [ifN h] at hr) <;> (try (have hb : (_ : Bool) = _ := h; clear h; subst hb; (try first | rw [if_pos rfl] at hr | rw [if_neg Bool.false_ne_true] at hr))) <;> first | (exfalso; omega) | exact absurd (h.symm.trans (by assumption) : true = false) Bool.noConfusion | exact absurd (h.symm.trans (by assumption) : false = true) Bool.noConfusion | (with_reducible refine (?_ : T1 _ ?_) ?_; rotate_left 1; (conv => lhs; cbv; (try cbv); (try cbv)); intro hT; clear hT; with_reducible refine Sh.mk (by kernel_rfl) ?_))
      | (with_reducible refine Alt.mk (fun h => ?_) (fun h => ?_) <;> (have hk := h) <;> (try simp only [decide_eq_true_eq, decide_eq_false_iff_not, Bool.not_eq_true', Bool.not_eq_false', Bool.not_eq_true, Bool.not_eq_false, Bool.not_true, Bool.not_false, ne_eq, Bool.false_eq_true, Bool.true_eq_false, reduceCtorEq, beq_iff_eq, beq_eq_false_iff_ne, not_true_eq_false, not_false_eq_true, pair_eta, map_idL] at h) <;> (try dsimp only [bkaSpec, balSpec, connsSpec, connsF, Ty.T, Ty.dflt, KT.T, getM, putM, delM] at h) <;> (try simp only [natCast_eq] at h) <;> (try (refine Exists.elim (z.step hok h) ?_; rintro b ⟨y, e1, hy0, hy1, hb0, hb1, hb2⟩)) <;> (try (refine Exists.elim (t.step hok.ent hln h) ?_; rintro e ⟨y, e1, hy0, hy1, hn, hb⟩)) <;> (try simp only [pair_eta, map_idL, e1] at h) <;> (try (have hE := zer_end hok t h)) <;> (try simp only [pair_eta, map_idL, hE, not_true_eq_false] at h) <;> (try first | rw [if_pos h] at hr | rw [if_neg h] at hr | rw [ifF h] at hr | rw [ifN h] at hr) <;> (try (have hb : (_ : Bool) = _ := h; clear h; subst hb; (try first | rw [if_pos rfl] at hr | rw [if_neg Bool.false_ne_true] at hr))) <;> first | (exfalso; omega) | exact absurd (h.symm.trans (by assumption) : true = false) Bool.noConfusion | exact absurd (h.symm.trans (by assumption) : false = true) Bool.noConfusion | (with_reducible refine (?_ : T1 _ ?_) ?_; rotate_left 1; (conv => lhs; cbv; (try cbv); (try cbv)); intro hT; clear hT; with_reducible refine Sh.mk (by kernel_rfl) ?_))
      | (with_reducible refine Pick.mk (fun h => ?_) (fun l1 x l2 h => ?_) <;> (with_reducible refine (?_ : T1 _ ?_) ?_; rotate_left 1; (conv => lhs; cbv; (try cbv); (try cbv)); intro hT; clear hT; with_reducible refine Sh.mk (by kernel_rfl) ?_))
      | ((with_reducible refine End.mk ?_); skip)
      | with_reducible exact True.intro)
    all_goals first
      | (fail_if_success (with_reducible refine Exists.intro ?_ ?_)
         first
           | with_reducible rfl
           | with_reducible assumption
           | (dsimp only [bkaSpec, balSpec, connsSpec, connsF, Ty.T, Ty.dflt, KT.T, getM, putM, delM, inI64, maxRow]; done)
           | (symm; with_reducible assumption)
           | (dsimp only [bkaSpec, balSpec, connsSpec, connsF, Ty.T, Ty.dflt, KT.T, getM, putM, delM, inI64, maxRow]; first | with_reducible rfl | with_reducible assumption | (symm; with_reducible assumption) | (simp only [natCast_eq]; with_reducible rfl) | omega)
           | omega
           | (dsimp only [bkaSpec, balSpec, connsSpec, connsF, Ty.T, Ty.dflt, KT.T, getM, putM, delM, inI64, maxRow]; (try simp only [natCast_eq, List.nil_append]); first | with_reducible rfl | exact take_cg (by omega) | exact drop_cg (by omega) | exact take_drop_cg (by omega) (by omega) | exact take_all (by omega) | exact take_drop_all (by omega) (by omega) | exact drop_take_cg (by omega) (by omega) (by omega))
           | first | exact hx0.symm | ((try dsimp only [bkaSpec, balSpec, connsSpec, connsF, Ty.T, Ty.dflt, KT.T]); simp only [pair_eta, map_idL, hS]; done)
           | ((try dsimp only [bkaSpec, balSpec, connsSpec, connsF, Ty.T, Ty.dflt, KT.T, getM, putM, delM, inI64, maxRow]); simp only [decide_eq_true_eq, decide_eq_false_iff_not, Bool.not_eq_true', Bool.not_eq_false', Bool.not_eq_true, Bool.not_eq_false, Bool.not_true, Bool.not_false, ne_eq, Bool.false_eq_true, Bool.true_eq_false, reduceCtorEq, beq_iff_eq, beq_eq_false_iff_ne, not_true_eq_false, not_false_eq_true, pair_eta, map_idL, natCast_eq, inI64, maxRow]; first | done | with_reducible assumption | omega)
           | exact map_pair_id _
           | ((try dsimp only [bkaSpec, balSpec, connsSpec, connsF, Ty.T, Ty.dflt, KT.T, getM, putM, delM, inI64, maxRow]) <;> (try simp only [natCast_eq]) <;> omega)
           | ((try dsimp only [bkaSpec, balSpec, connsSpec, connsF, Ty.T, Ty.dflt, KT.T, getM, putM, delM, inI64, maxRow] at *) <;> (try simp only [natCast_eq] at *) <;> omega)
           | ((try dsimp only [bkaSpec, balSpec, connsSpec, connsF, Ty.T, Ty.dflt, KT.T, getM, putM, delM, inI64, maxRow] at *) <;> (try simp only [List.length_append, List.length_cons, List.length_nil, List.length_replicate, List.length_take, List.length_drop, natCast_eq] at *) <;> omega)
           | assumption
           | (symm; assumption)
           | (dsimp only; simp only [Bool.or_true, Bool.true_or, Bool.or_false, Bool.false_or, Bool.and_true, Bool.true_and, Bool.and_false, Bool.false_and, Bool.not_true, Bool.not_false, *]; done)
           | (simp; done)
           | (and_intros <;> first | trivial | with_reducible assumption | omega)
           | ((try dsimp only [bkaSpec, balSpec, connsSpec, connsF, Ty.T, Ty.dflt, KT.T, getM, putM, delM, inI64, maxRow] at *) <;> simp [*] <;> done))
      | skip
  have hlo := x.lo
  have hhi := x.hi
  (try (conv in (LoopInv.inv _ _) => dsimp only)); (try (conv in (SS.mk _ _) => cbv; (try dsimp only [bkaSpec, balSpec, connsSpec, connsF, Ty.T, Ty.dflt, KT.T]); (try simp only [natCast_eq])))
  (with_reducible refine (?_ : T1 _ ?_) ?_; rotate_left 1; (conv => lhs; cbv; (try cbv); (try cbv)); intro hT; clear hT; with_reducible refine Sh.mk (by kernel_rfl) ?_)
  repeat' (first
    | with_reducible refine Ck.mk (C := tt) tt_intro ?_
    | with_reducible refine Ck.mk (show drawOk _ _ = true by kernel_rfl) ?_
    | with_reducible refine Ck.all_cons ?_
    | with_reducible refine Ck.all_nil ?_
    | with_reducible refine Ck.mk (by assumption) ?_
    | with_reducible refine Ck.mk (decide_eq_true (by assumption)) ?_
    | with_reducible refine Ck.mk (decide_eq_false (by assumption)) ?_
    | with_reducible refine Ck.mk ?_ ?_
    | (with_reducible refine Both.mk (fun h => ?_) (fun h => ?_) <;> (have hk := h) <;> (try simp only [decide_eq_true_eq, decide_eq_false_iff_not, Bool.not_eq_true', Bool.not_eq_false', Bool.not_eq_true, Bool.not_eq_false, Bool.not_true, Bool.not_false, ne_eq, Bool.false_eq_true, Bool.true_eq_false, reduceCtorEq, beq_iff_eq, beq_eq_false_iff_ne, not_true_eq_false, not_false_eq_true, pair_eta, map_idL] at h) <;> (try dsimp only [bkaSpec, balSpec, connsSpec, connsF, Ty.T, Ty.dflt, KT.T, getM, putM, delM] at h) <;> (try simp only [natCast_eq] at h) <;> (try (refine Exists.elim (z.step hok h) ?_; rintro b ⟨y, e1, hy0, hy1, hb0, hb1, hb2⟩)) <;> (try (refine Exists.elim (t.step hok.ent hln h) ?_; rintro e ⟨y, e1, hy0, hy1, hn, hb⟩)) <;> (try simp only [pair_eta, map_idL, e1] at h) <;> (try (have hE := zer_end hok t h)) <;> (try simp only [pair_eta, map_idL, hE, not_true_eq_false] at h) <;> (try first | rw [if_pos h] at hr | rw [if_neg h] at hr | rw [ifF h] at hr | rw [ifN h] at hr) <;> (try (have hb : (_ : Bool) = _ := h; clear h; subst hb; (try first | rw [if_pos rfl] at hr | rw [if_neg Bool.false_ne_true] at hr))) <;> first | (exfalso; omega) | exact absurd (h.symm.trans (by assumption) : true = false) Bool.noConfusion | exact absurd (h.symm.trans (by assumption) : false = true) Bool.noConfusion | (with_reducible refine (?_ : T1 _ ?_) ?_; rotate_left 1; (conv => lhs; cbv; (try cbv); (try cbv)); intro hT; clear hT; with_reducible refine Sh.mk (by kernel_rfl) ?_))
    | (with_reducible refine Alt.mk (fun h => ?_) (fun h => ?_) <;> (have hk := h) <;> (try simp only [decide_eq_true_eq, decide_eq_false_iff_not, Bool.not_eq_true', Bool.not_eq_false', Bool.not_eq_true, Bool.not_eq_false, Bool.not_true, Bool.not_false, ne_eq, Bool.false_eq_true, Bool.true_eq_false, reduceCtorEq, beq_iff_eq, beq_eq_false_iff_ne, not_true_eq_false, not_false_eq_true, pair_eta, map_idL] at h) <;> (try dsimp only [bkaSpec, balSpec, connsSpec, connsF, Ty.T, Ty.dflt, KT.T, getM, putM, delM] at h) <;> (try simp only [natCast_eq] at h) <;> (try (refine Exists.elim (z.step hok h) ?_; rintro b ⟨y, e1, hy0, hy1, hb0, hb1, hb2⟩)) <;> (try (refine Exists.elim (t.step hok.ent hln h) ?_; rintro e ⟨y, e1, hy0, hy1, hn, hb⟩)) <;> (try simp only [pair_eta, map_idL, e1] at h) <;> (try (have hE := zer_end hok t h)) <;> (try simp only [pair_eta, map_idL, hE, not_true_eq_false] at h) <;> (try first | rw [if_pos h] at hr | rw [if_neg h] at hr | rw [ifF h] at hr | rw [ifN h] at hr) <;> (try (have hb : (_ : Bool) = _ := h; clear h; subst hb; (try first | rw [if_pos rfl] at hr | rw [if_neg Bool.false_ne_true] at hr))) <;> first | (exfalso; omega) | exact absurd (h.symm.trans (by assumption) : true = false) Bool.noConfusion | exact absurd (h.symm.trans (by assumption) : false = true) Bool.noConfusion | (with_reducible refine (?_ : T1 _ ?_) ?_; rotate_left 1; (conv => lhs; cbv; (try cbv); (try cbv)); intro hT; clear hT; with_reducible refine Sh.mk (by kernel_rfl) ?_))
    | (with_reducible refine Pick.mk (fun h => ?_) (fun l1 x l2 h => ?_) <;> (with_reducible refine (?_ : T1 _ ?_) ?_; rotate_left 1; (conv => lhs; cbv; (try cbv); (try cbv)); intro hT; clear hT; with_reducible refine Sh.mk (by kernel_rfl) ?_))
    | ((with_reducible refine End.mk ?_); skip)
    | with_reducible exact True.intro)
  all_goals first
    | (fail_if_success (with_reducible refine Exists.intro ?_ ?_)
       first
         | with_reducible rfl
         | with_reducible assumption
         | (dsimp only [bkaSpec, balSpec, connsSpec, connsF, Ty.T, Ty.dflt, KT.T, getM, putM, delM, inI64, maxRow]; done)
         | (symm; with_reducible assumption)
         | (dsimp only [bkaSpec, balSpec, connsSpec, connsF, Ty.T, Ty.dflt, KT.T, getM, putM, delM, inI64, maxRow]; first | with_reducible rfl | with_reducible assumption | (symm; with_reducible assumption) | (simp only [natCast_eq]; with_reducible rfl) | omega)
         | omega
         | (dsimp only [bkaSpec, balSpec, connsSpec, connsF, Ty.T, Ty.dflt, KT.T, getM, putM, delM, inI64, maxRow]; (try simp only [natCast_eq, List.nil_append]); first | with_reducible rfl | exact take_cg (by omega) | exact drop_cg (by omega) | exact take_drop_cg (by omega) (by omega) | exact take_all (by omega) | exact take_drop_all (by omega) (by omega) | exact drop_take_cg (by omega) (by omega) (by omega))
         | exact congrArg Prod.fst hr
         | ((try dsimp only [bkaSpec, balSpec, connsSpec, connsF, Ty.T, Ty.dflt, KT.T, getM, putM, delM, inI64, maxRow]); simp only [decide_eq_true_eq, decide_eq_false_iff_not, Bool.not_eq_true', Bool.not_eq_false', Bool.not_eq_true, Bool.not_eq_false, Bool.not_true, Bool.not_false, ne_eq, Bool.false_eq_true, Bool.true_eq_false, reduceCtorEq, beq_iff_eq, beq_eq_false_iff_ne, not_true_eq_false, not_false_eq_true, pair_eta, map_idL, natCast_eq, inI64, maxRow]; first | done | with_reducible assumption | omega)
         | exact map_pair_id _
         | ((try dsimp only [bkaSpec, balSpec, connsSpec, connsF, Ty.T, Ty.dflt, KT.T, getM, putM, delM, inI64, maxRow]) <;> (try simp only [natCast_eq]) <;> omega)
         | ((try dsimp only [bkaSpec, balSpec, connsSpec, connsF, Ty.T, Ty.dflt, KT.T, getM, putM, delM, inI64, maxRow] at *) <;> (try simp only [natCast_eq] at *) <;> omega)
         | ((try dsimp only [bkaSpec, balSpec, connsSpec, connsF, Ty.T, Ty.dflt, KT.T, getM, putM, delM, inI64, maxRow] at *) <;> (try simp only [List.length_append, List.length_cons, List.length_nil, List.length_replicate, List.length_take, List.length_drop, natCast_eq] at *) <;> omega)
         | assumption
         | (symm; assumption)
         | (dsimp only; simp only [Bool.or_true, Bool.true_or, Bool.or_false, Bool.false_or, Bool.and_true, Bool.true_and, Bool.and_false, Bool.false_and, Bool.not_true, Bool.not_false, *]; done)
         | (simp; done)
         | (and_intros <;> first | trivial | with_reducible assumption | omega)
         | ((try dsimp only [bkaSpec, balSpec, connsSpec, connsF, Ty.T, Ty.dflt, KT.T, getM, putM, delM, inI64, maxRow] at *) <;> simp [*] <;> done))
    | skip
  all_goals
    (obtain ⟨z0, hz0, hz1⟩ : ∃ z : LZ S.ents ((keysL S).getD x.i.toNat 0), z.i = 0 ∧ z.n = 0 := ⟨⟨0, 0, Int.le_refl _, by omega, rfl⟩, rfl, rfl⟩
     dsimp only
     refine ⟨⟨LZ S.ents ((keysL S).getD x.i.toNat 0), fun z => ⟨[(3, Sx.one (.ptr 0 0)), (4, Sx.one (.ro fvE (fun _ => S.ents))), (6, Sx.one (.int .i64 (fun _ => (keysL S).getD x.i.toNat 0))), (7, Sx.one (.int .i64 (fun _ => z.n))), (8, Sx.one (.li .i64 0)), (24, Sx.one (.ro I64 (fun _ => keysL S))), (25, Sx.one (.int .i64 (fun _ => (keysL S).length))), (26, Sx.one (.int .i64 (fun _ => x.i))), (30, Sx.one (.int .i64 (fun _ => z.i)))], [.abs (.led (fun _ => S))]⟩, fun z => (5 - z.i).toNat, z0⟩, ?_, fun (z : LZ S.ents ((keysL S).getD x.i.toNat 0)) => ?_⟩
     · (try (conv in (LoopInv.inv _ _) => dsimp only)); (try (conv in (SS.mk _ _) => cbv; (try dsimp only [bkaSpec, balSpec, connsSpec, connsF, Ty.T, Ty.dflt, KT.T]); (try simp only [natCast_eq])))
       (with_reducible refine (?_ : T1 _ ?_) ?_; rotate_left 1; (conv => lhs; cbv; (try cbv); (try cbv)); intro hT; clear hT; with_reducible refine Sh.mk (by kernel_rfl) ?_)
       repeat' (first
         | with_reducible refine Ck.mk (C := tt) tt_intro ?_
         | with_reducible refine Ck.mk (show drawOk _ _ = true by kernel_rfl) ?_
         | with_reducible refine Ck.all_cons ?_
         | with_reducible refine Ck.all_nil ?_
         | with_reducible refine Ck.mk (by assumption) ?_
         | with_reducible refine Ck.mk (decide_eq_true (by assumption)) ?_
         | with_reducible refine Ck.mk (decide_eq_false (by assumption)) ?_
         | with_reducible refine Ck.mk ?_ ?_
         | (with_reducible refine Both.mk (fun h => ?_) (fun h => ?_) <;> (have hk := h) <;> (try simp only [decide_eq_true_eq, decide_eq_false_iff_not, Bool.not_eq_true', Bool.not_eq_false', Bool.not_eq_true, Bool.not_eq_false, Bool.not_true, Bool.not_false, ne_eq, Bool.false_eq_true, Bool.true_eq_false, reduceCtorEq, beq_iff_eq, beq_eq_false_iff_ne, not_true_eq_false, not_false_eq_true, pair_eta, map_idL] at h) <;> (try dsimp only [bkaSpec, balSpec, connsSpec, connsF, Ty.T, Ty.dflt, KT.T, getM, putM, delM] at h) <;> (try simp only [natCast_eq] at h) <;> (try (refine Exists.elim (z.step hok h) ?_; rintro b ⟨y, e1, hy0, hy1, hb0, hb1, hb2⟩)) <;> (try (refine Exists.elim (t.step hok.ent hln h) ?_; rintro e ⟨y, e1, hy0, hy1, hn, hb⟩)) <;> (try simp only [pair_eta, map_idL, e1] at h) <;> (try (have hE := zer_end hok t h)) <;> (try simp only [pair_eta, map_idL, hE, not_true_eq_false] at h) <;> (try first | rw [if_pos h] at hr | rw [if_neg h] at hr | rw [ifF h] at hr | rw [ifN h] at hr) <;> (try (have hb : (_ : Bool) = _ := h; clear h; subst hb; (try first | rw [if_pos rfl] at hr | rw [if_neg Bool.false_ne_true] at hr))) <;> first | (exfalso; omega) | exact absurd (h.symm.trans (by assumption) : true = false) Bool.noConfusion | exact absurd (h.symm.trans (by assumption) : false = true) Bool.noConfusion | (with_reducible refine (?_ : T1 _ ?_) ?_; rotate_left 1; (conv => lhs; cbv; (try cbv); (try cbv)); intro hT; clear hT; with_reducible refine Sh.mk (by kernel_rfl) ?_))
         | (with_reducible refine Alt.mk (fun h => ?_) (fun h => ?_) <;> (have hk := h) <;> (try simp only [decide_eq_true_eq, decide_eq_false_iff_not, Bool.not_eq_true', Bool.not_eq_false', Bool.not_eq_true, Bool.not_eq_false, Bool.not_true, Bool.not_false, ne_eq, Bool.false_eq_true, Bool.true_eq_false, reduceCtorEq, beq_iff_eq, beq_eq_false_iff_ne, not_true_eq_false, not_false_eq_true, pair_eta, map_idL] at h) <;> (try dsimp only [bkaSpec, balSpec, connsSpec, connsF, Ty.T, Ty.dflt, KT.T, getM, putM, delM] at h) <;> (try simp only [natCast_eq] at h) <;> (try (refine Exists.elim (z.step hok h) ?_; rintro b ⟨y, e1, hy0, hy1, hb0, hb1, hb2⟩)) <;> (try (refine Exists.elim (t.step hok.ent hln h) ?_; rintro e ⟨y, e1, hy0, hy1, hn, hb⟩)) <;> (try simp only [pair_eta, map_idL, e1] at h) <;> (try (have hE := zer_end hok t h)) <;> (try simp only [pair_eta, map_idL, hE, not_true_eq_false] at h) <;> (try first | rw [if_pos h] at hr | rw [if_neg h] at hr | rw [ifF h] at hr | rw [ifN h] at hr) <;> (try (have hb : (_ : Bool) = _ := h; clear h; subst hb; (try first | rw [if_pos rfl] at hr | rw [if_neg Bool.false_ne_true] at hr))) <;> first | (exfalso; omega) | exact absurd (h.symm.trans (by assumption) : true = false) Bool.noConfusion | exact absurd (h.symm.trans (by assumption) : false = true) Bool.noConfusion | (with_reducible refine (?_ : T1 _ ?_) ?_; rotate_left 1; (conv => lhs; cbv; (try cbv); (try cbv)); intro hT; clear hT; with_reducible refine Sh.mk (by kernel_rfl) ?_))
         | (with_reducible refine Pick.mk (fun h => ?_) (fun l1 x l2 h => ?_) <;> (with_reducible refine (?_ : T1 _ ?_) ?_; rotate_left 1; (conv => lhs; cbv; (try cbv); (try cbv)); intro hT; clear hT; with_reducible refine Sh.mk (by kernel_rfl) ?_))
         | ((with_reducible refine End.mk ?_); skip)
         | with_reducible exact True.intro)
       all_goals first
         | (fail_if_success (with_reducible refine Exists.intro ?_ ?_)
            first
              | with_reducible rfl
              | with_reducible assumption
              | (dsimp only [bkaSpec, balSpec, connsSpec, connsF, Ty.T, Ty.dflt, KT.T, getM, putM, delM, inI64, maxRow]; done)
              | (symm; with_reducible assumption)
              | (dsimp only [bkaSpec, balSpec, connsSpec, connsF, Ty.T, Ty.dflt, KT.T, getM, putM, delM, inI64, maxRow]; first | with_reducible rfl | with_reducible assumption | (symm; with_reducible assumption) | (simp only [natCast_eq]; with_reducible rfl) | omega)
              | omega
              | (dsimp only [bkaSpec, balSpec, connsSpec, connsF, Ty.T, Ty.dflt, KT.T, getM, putM, delM, inI64, maxRow]; (try simp only [natCast_eq, List.nil_append]); first | with_reducible rfl | exact take_cg (by omega) | exact drop_cg (by omega) | exact take_drop_cg (by omega) (by omega) | exact take_all (by omega) | exact take_drop_all (by omega) (by omega) | exact drop_take_cg (by omega) (by omega) (by omega))
              | first | exact hz0.symm | exact hz1.symm
              | ((try dsimp only [bkaSpec, balSpec, connsSpec, connsF, Ty.T, Ty.dflt, KT.T, getM, putM, delM, inI64, maxRow]); simp only [decide_eq_true_eq, decide_eq_false_iff_not, Bool.not_eq_true', Bool.not_eq_false', Bool.not_eq_true, Bool.not_eq_false, Bool.not_true, Bool.not_false, ne_eq, Bool.false_eq_true, Bool.true_eq_false, reduceCtorEq, beq_iff_eq, beq_eq_false_iff_ne, not_true_eq_false, not_false_eq_true, pair_eta, map_idL, natCast_eq, inI64, maxRow]; first | done | with_reducible assumption | omega)
              | exact map_pair_id _
              | ((try dsimp only [bkaSpec, balSpec, connsSpec, connsF, Ty.T, Ty.dflt, KT.T, getM, putM, delM, inI64, maxRow]) <;> (try simp only [natCast_eq]) <;> omega)
              | ((try dsimp only [bkaSpec, balSpec, connsSpec, connsF, Ty.T, Ty.dflt, KT.T, getM, putM, delM, inI64, maxRow] at *) <;> (try simp only [natCast_eq] at *) <;> omega)
              | ((try dsimp only [bkaSpec, balSpec, connsSpec, connsF, Ty.T, Ty.dflt, KT.T, getM, putM, delM, inI64, maxRow] at *) <;> (try simp only [List.length_append, List.length_cons, List.length_nil, List.length_replicate, List.length_take, List.length_drop, natCast_eq] at *) <;> omega)
              | assumption
              | (symm; assumption)
              | (dsimp only; simp only [Bool.or_true, Bool.true_or, Bool.or_false, Bool.false_or, Bool.and_true, Bool.true_and, Bool.and_false, Bool.false_and, Bool.not_true, Bool.not_false, *]; done)
              | (simp; done)
              | (and_intros <;> first | trivial | with_reducible assumption | omega)
              | ((try dsimp only [bkaSpec, balSpec, connsSpec, connsF, Ty.T, Ty.dflt, KT.T, getM, putM, delM, inI64, maxRow] at *) <;> simp [*] <;> done))
         | skip
     have hzlo := z.lo
     have hzhi := z.hi
     (try (conv in (LoopInv.inv _ _) => dsimp only)); (try (conv in (SS.mk _ _) => cbv; (try dsimp only [bkaSpec, balSpec, connsSpec, connsF, Ty.T, Ty.dflt, KT.T]); (try simp only [natCast_eq])))
     (with_reducible refine (?_ : T1 _ ?_) ?_; rotate_left 1; (conv => lhs; cbv; (try cbv); (try cbv)); intro hT; clear hT; with_reducible refine Sh.mk (by kernel_rfl) ?_)
     repeat' (first
       | with_reducible refine Ck.mk (C := tt) tt_intro ?_
       | with_reducible refine Ck.mk (show drawOk _ _ = true by kernel_rfl) ?_
       | with_reducible refine Ck.all_cons ?_
       | with_reducible refine Ck.all_nil ?_
       | with_reducible refine Ck.mk (by assumption) ?_
       | with_reducible refine Ck.mk (decide_eq_true (by assumption)) ?_
       | with_reducible refine Ck.mk (decide_eq_false (by assumption)) ?_
       | with_reducible refine Ck.mk ?_ ?_
       | (with_reducible refine Both.mk (fun h => ?_) (fun h => ?_) <;> (have hk := h) <;> (try simp only [decide_eq_true_eq, decide_eq_false_iff_not, Bool.not_eq_true', Bool.not_eq_false', Bool.not_eq_true, Bool.not_eq_false, Bool.not_true, Bool.not_false, ne_eq, Bool.false_eq_true, Bool.true_eq_false, reduceCtorEq, beq_iff_eq, beq_eq_false_iff_ne, not_true_eq_false, not_false_eq_true, pair_eta, map_idL] at h) <;> (try dsimp only [bkaSpec, balSpec, connsSpec, connsF, Ty.T, Ty.dflt, KT.T, getM, putM, delM] at h) <;> (try simp only [natCast_eq] at h) <;> (try (refine Exists.elim (z.step hok h) ?_; rintro b ⟨y, e1, hy0, hy1, hb0, hb1, hb2⟩)) <;> (try (refine Exists.elim (t.step hok.ent hln h) ?_; rintro e ⟨y, e1, hy0, hy1, hn, hb⟩)) <;> (try simp only [pair_eta, map_idL, e1] at h) <;> (try (have hE := zer_end hok t h)) <;> (try simp only [pair_eta, map_idL, hE, not_true_eq_false] at h) <;> (try first | rw [if_pos h] at hr | rw [if_neg h] at hr | rw [ifF h] at hr | rw [ifN h] at hr) <;> (try (have hb : (_ : Bool) = _ := h; clear h; subst hb; (try first | rw [if_pos rfl] at hr | rw [if_neg Bool.false_ne_true] at hr))) <;> first | (exfalso; omega) | exact absurd (h.symm.trans (by assumption) : true = false) Bool.noConfusion | exact absurd (h.symm.trans (by assumption) : false = true) Bool.noConfusion | (with_reducible refine (?_ : T1 _ ?_) ?_; rotate_left 1; (conv => lhs; cbv; (try cbv); (try cbv)); intro hT; clear hT; with_reducible refine Sh.mk (by kernel_rfl) ?_))
       | (with_reducible refine Alt.mk (fun h => ?_) (fun h => ?_) <;> (have hk := h) <;> (try simp only [decide_eq_true_eq, decide_eq_false_iff_not, Bool.not_eq_true', Bool.not_eq_false', Bool.not_eq_true, Bool.not_eq_false, Bool.not_true, Bool.not_false, ne_eq, Bool.false_eq_true, Bool.true_eq_false, reduceCtorEq, beq_iff_eq, beq_eq_false_iff_ne, not_true_eq_false, not_false_eq_true, pair_eta, map_idL] at h) <;> (try dsimp only [bkaSpec, balSpec, connsSpec, connsF, Ty.T, Ty.dflt, KT.T, getM, putM, delM] at h) <;> (try simp only [natCast_eq] at h) <;> (try (refine Exists.elim (z.step hok h) ?_; rintro b ⟨y, e1, hy0, hy1, hb0, hb1, hb2⟩)) <;> (try (refine Exists.elim (t.step hok.ent hln h) ?_; rintro e ⟨y, e1, hy0, hy1, hn, hb⟩)) <;> (try simp only [pair_eta, map_idL, e1] at h) <;> (try (have hE := zer_end hok t h)) <;> (try simp only [pair_eta, map_idL, hE, not_true_eq_false] at h) <;> (try first | rw [if_pos h] at hr | rw [if_neg h] at hr | rw [ifF h] at hr | rw [ifN h] at hr) <;> (try (have hb : (_ : Bool) = _ := h; clear h; subst hb; (try first | rw [if_pos rfl] at hr | rw [if_neg Bool.false_ne_true] at hr))) <;> first | (exfalso; omega) | exact absurd (h.symm.trans (by assumption) : true = false) Bool.noConfusion | exact absurd (h.symm.trans (by assumption) : false = true) Bool.noConfusion | (with_reducible refine (?_ : T1 _ ?_) ?_; rotate_left 1; (conv => lhs; cbv; (try cbv); (try cbv)); intro hT; clear hT; with_reducible refine Sh.mk (by kernel_rfl) ?_))
       | (with_reducible refine Pick.mk (fun h => ?_) (fun l1 x l2 h => ?_) <;> (with_reducible refine (?_ : T1 _ ?_) ?_; rotate_left 1; (conv => lhs; cbv; (try cbv); (try cbv)); intro hT; clear hT; with_reducible refine Sh.mk (by kernel_rfl) ?_))
       | ((with_reducible refine End.mk ?_); skip)
       | with_reducible exact True.intro)
     all_goals first
       | (fail_if_success (with_reducible refine Exists.intro ?_ ?_)
          first
            | with_reducible rfl
            | with_reducible assumption
            | (dsimp only [bkaSpec, balSpec, connsSpec, connsF, Ty.T, Ty.dflt, KT.T, getM, putM, delM, inI64, maxRow]; done)
            | (symm; with_reducible assumption)
            | (dsimp only [bkaSpec, balSpec, connsSpec, connsF, Ty.T, Ty.dflt, KT.T, getM, putM, delM, inI64, maxRow]; first | with_reducible rfl | with_reducible assumption | (symm; with_reducible assumption) | (simp only [natCast_eq]; with_reducible rfl) | omega)
            | omega
            | (dsimp only [bkaSpec, balSpec, connsSpec, connsF, Ty.T, Ty.dflt, KT.T, getM, putM, delM, inI64, maxRow]; (try simp only [natCast_eq, List.nil_append]); first | with_reducible rfl | exact take_cg (by omega) | exact drop_cg (by omega) | exact take_drop_cg (by omega) (by omega) | exact take_all (by omega) | exact take_drop_all (by omega) (by omega) | exact drop_take_cg (by omega) (by omega) (by omega))
            | ((try dsimp only [bkaSpec, balSpec, connsSpec, connsF, Ty.T, Ty.dflt, KT.T]); (try simp only [e1]); (try unfold inI64); omega)
            | ((try dsimp only [bkaSpec, balSpec, connsSpec, connsF, Ty.T, Ty.dflt, KT.T, getM, putM, delM, inI64, maxRow]); simp only [decide_eq_true_eq, decide_eq_false_iff_not, Bool.not_eq_true', Bool.not_eq_false', Bool.not_eq_true, Bool.not_eq_false, Bool.not_true, Bool.not_false, ne_eq, Bool.false_eq_true, Bool.true_eq_false, reduceCtorEq, beq_iff_eq, beq_eq_false_iff_ne, not_true_eq_false, not_false_eq_true, pair_eta, map_idL, natCast_eq, inI64, maxRow]; first | done | with_reducible assumption | omega)
            | exact map_pair_id _
            | ((try dsimp only [bkaSpec, balSpec, connsSpec, connsF, Ty.T, Ty.dflt, KT.T, getM, putM, delM, inI64, maxRow]) <;> (try simp only [natCast_eq]) <;> omega)
            | ((try dsimp only [bkaSpec, balSpec, connsSpec, connsF, Ty.T, Ty.dflt, KT.T, getM, putM, delM, inI64, maxRow] at *) <;> (try simp only [natCast_eq] at *) <;> omega)
            | ((try dsimp only [bkaSpec, balSpec, connsSpec, connsF, Ty.T, Ty.dflt, KT.T, getM, putM, delM, inI64, maxRow] at *) <;> (try simp only [List.length_append, List.length_cons, List.length_nil, List.length_replicate, List.length_take, List.length_drop, natCast_eq] at *) <;> omega)
            | assumption
            | (symm; assumption)
            | (dsimp only; simp only [Bool.or_true, Bool.true_or, Bool.or_false, Bool.false_or, Bool.and_true, Bool.true_and, Bool.and_false, Bool.false_and, Bool.not_true, Bool.not_false, *]; done)
            | (simp; done)
            | (and_intros <;> first | trivial | with_reducible assumption | omega)
            | ((try dsimp only [bkaSpec, balSpec, connsSpec, connsF, Ty.T, Ty.dflt, KT.T, getM, putM, delM, inI64, maxRow] at *) <;> simp [*] <;> done))
       | skip
     all_goals
       (first
         | (refine ⟨y, by (try dsimp only); (try simp only [natCast_eq]); omega, ?_⟩
            (try (conv in (LoopInv.inv _ _) => dsimp only)); (try (conv in (SS.mk _ _) => cbv; (try dsimp only [bkaSpec, balSpec, connsSpec, connsF, Ty.T, Ty.dflt, KT.T]); (try simp only [natCast_eq])))
            (with_reducible refine (?_ : T1 _ ?_) ?_; rotate_left 1; (conv => lhs; cbv; (try cbv); (try cbv)); intro hT; clear hT; with_reducible refine Sh.mk (by kernel_rfl) ?_)
            repeat' (first
              | with_reducible refine Ck.mk (C := tt) tt_intro ?_
              | with_reducible refine Ck.mk (show drawOk _ _ = true by kernel_rfl) ?_
              | with_reducible refine Ck.all_cons ?_
              | with_reducible refine Ck.all_nil ?_
              | with_reducible refine Ck.mk (by assumption) ?_
              | with_reducible refine Ck.mk (decide_eq_true (by assumption)) ?_
              | with_reducible refine Ck.mk (decide_eq_false (by assumption)) ?_
              | with_reducible refine Ck.mk ?_ ?_
              | (with_reducible refine Both.mk (fun h => ?_) (fun h => ?_) <;> (have hk := h) <;> (try simp only [decide_eq_true_eq, decide_eq_false_iff_not, Bool.not_eq_true', Bool.not_eq_false', Bool.not_eq_true, Bool.not_eq_false, Bool.not_true, Bool.not_false, ne_eq, Bool.false_eq_true, Bool.true_eq_false, reduceCtorEq, beq_iff_eq, beq_eq_false_iff_ne, not_true_eq_false, not_false_eq_true, pair_eta, map_idL] at h) <;> (try dsimp only [bkaSpec, balSpec, connsSpec, connsF, Ty.T, Ty.dflt, KT.T, getM, putM, delM] at h) <;> (try simp only [natCast_eq] at h) <;> (try (refine Exists.elim (z.step hok h) ?_; rintro b ⟨y, e1, hy0, hy1, hb0, hb1, hb2⟩)) <;> (try (refine Exists.elim (t.step hok.ent hln h) ?_; rintro e ⟨y, e1, hy0, hy1, hn, hb⟩)) <;> (try simp only [pair_eta, map_idL, e1] at h) <;> (try (have hE := zer_end hok t h)) <;> (try simp only [pair_eta, map_idL, hE, not_true_eq_false] at h) <;> (try first | rw [if_pos h] at hr | rw [if_neg h] at hr | rw [ifF h] at hr | rw [ifN h] at hr) <;> (try (have hb : (_ : Bool) = _ := h; clear h; subst hb; (try first | rw [if_pos rfl] at hr | rw [if_neg Bool.false_ne_true] at hr))) <;> first | (exfalso; omega) | exact absurd (h.symm.trans (by assumption) : true = false) Bool.noConfusion | exact absurd (h.symm.trans (by assumption) : false = true) Bool.noConfusion | (with_reducible refine (?_ : T1 _ ?_) ?_; rotate_left 1; (conv => lhs; cbv; (try cbv); (try cbv)); intro hT; clear hT; with_reducible refine Sh.mk (by kernel_rfl) ?_))
              | (with_reducible refine Alt.mk (fun h => ?_) (fun h => ?_) <;> (have hk := h) <;> (try simp only [decide_eq_true_eq, decide_eq_false_iff_not, Bool.not_eq_true', Bool.not_eq_false', Bool.not_eq_true, Bool.not_eq_false, Bool.not_true, Bool.not_false, ne_eq, Bool.false_eq_true, Bool.true_eq_false, reduceCtorEq, beq_iff_eq, beq_eq_false_iff_ne, not_true_eq_false, not_false_eq_true, pair_eta, map_idL] at h) <;> (try dsimp only [bkaSpec, balSpec, connsSpec, connsF, Ty.T, Ty.dflt, KT.T, getM, putM, delM] at h) <;> (try simp only [natCast_eq] at h) <;> (try (refine Exists.elim (z.step hok h) ?_; rintro b ⟨y, e1, hy0, hy1, hb0, hb1, hb2⟩)) <;> (try (refine Exists.elim (t.step hok.ent hln h) ?_; rintro e ⟨y, e1, hy0, hy1, hn, hb⟩)) <;> (try simp only [pair_eta, map_idL, e1] at h) <;> (try (have hE := zer_end hok t h)) <;> (try simp only [pair_eta, map_idL, hE, not_true_eq_false] at h) <;> (try first | rw [if_pos h] at hr | rw [if_neg h] at hr | rw [ifF h] at hr | rw [ifN h] at hr) <;> (try (have hb : (_ : Bool) = _ := h; clear h; subst hb; (try first | rw [if_pos rfl] at hr | rw [if_neg Bool.false_ne_true] at hr))) <;> first | (exfalso; omega) | exact absurd (h.symm.trans (by assumption) : true = false) Bool.noConfusion | exact absurd (h.symm.trans (by assumption) : false = true) Bool.noConfusion | (with_reducible refine (?_ : T1 _ ?_) ?_; rotate_left 1; (conv => lhs; cbv; (try cbv); (try cbv)); intro hT; clear hT; with_reducible refine Sh.mk (by kernel_rfl) ?_))
              | (with_reducible refine Pick.mk (fun h => ?_) (fun l1 x l2 h => ?_) <;> (with_reducible refine (?_ : T1 _ ?_) ?_; rotate_left 1; (conv => lhs; cbv; (try cbv); (try cbv)); intro hT; clear hT; with_reducible refine Sh.mk (by kernel_rfl) ?_))
              | ((with_reducible refine End.mk ?_); skip)
              | with_reducible exact True.intro)
            all_goals first
              | (fail_if_success (with_reducible refine Exists.intro ?_ ?_)
                 first
                   | with_reducible rfl
                   | with_reducible assumption
                   | (dsimp only [bkaSpec, balSpec, connsSpec, connsF, Ty.T, Ty.dflt, KT.T, getM, putM, delM, inI64, maxRow]; done)
                   | (symm; with_reducible assumption)
                   | (dsimp only [bkaSpec, balSpec, connsSpec, connsF, Ty.T, Ty.dflt, KT.T, getM, putM, delM, inI64, maxRow]; first | with_reducible rfl | with_reducible assumption | (symm; with_reducible assumption) | (simp only [natCast_eq]; with_reducible rfl) | omega)
                   | omega
                   | (dsimp only [bkaSpec, balSpec, connsSpec, connsF, Ty.T, Ty.dflt, KT.T, getM, putM, delM, inI64, maxRow]; (try simp only [natCast_eq, List.nil_append]); first | with_reducible rfl | exact take_cg (by omega) | exact drop_cg (by omega) | exact take_drop_cg (by omega) (by omega) | exact take_all (by omega) | exact take_drop_all (by omega) (by omega) | exact drop_take_cg (by omega) (by omega) (by omega))
                   | first | exact hy0.symm | ((try dsimp only [bkaSpec, balSpec, connsSpec, connsF, Ty.T, Ty.dflt, KT.T]); (try simp only [e1]); exact hy1.symm)
                   | ((try dsimp only [bkaSpec, balSpec, connsSpec, connsF, Ty.T, Ty.dflt, KT.T, getM, putM, delM, inI64, maxRow]); simp only [decide_eq_true_eq, decide_eq_false_iff_not, Bool.not_eq_true', Bool.not_eq_false', Bool.not_eq_true, Bool.not_eq_false, Bool.not_true, Bool.not_false, ne_eq, Bool.false_eq_true, Bool.true_eq_false, reduceCtorEq, beq_iff_eq, beq_eq_false_iff_ne, not_true_eq_false, not_false_eq_true, pair_eta, map_idL, natCast_eq, inI64, maxRow]; first | done | with_reducible assumption | omega)
                   | exact map_pair_id _
                   | ((try dsimp only [bkaSpec, balSpec, connsSpec, connsF, Ty.T, Ty.dflt, KT.T, getM, putM, delM, inI64, maxRow]) <;> (try simp only [natCast_eq]) <;> omega)
                   | ((try dsimp only [bkaSpec, balSpec, connsSpec, connsF, Ty.T, Ty.dflt, KT.T, getM, putM, delM, inI64, maxRow] at *) <;> (try simp only [natCast_eq] at *) <;> omega)
                   | ((try dsimp only [bkaSpec, balSpec, connsSpec, connsF, Ty.T, Ty.dflt, KT.T, getM, putM, delM, inI64, maxRow] at *) <;> (try simp only [List.length_append, List.length_cons, List.length_nil, List.length_replicate, List.length_take, List.length_drop, natCast_eq] at *) <;> omega)
                   | assumption
                   | (symm; assumption)
                   | (dsimp only; simp only [Bool.or_true, Bool.true_or, Bool.or_false, Bool.false_or, Bool.and_true, Bool.true_and, Bool.and_false, Bool.false_and, Bool.not_true, Bool.not_false, *]; done)
                   | (simp; done)
                   | (and_intros <;> first | trivial | with_reducible assumption | omega)
                   | ((try dsimp only [bkaSpec, balSpec, connsSpec, connsF, Ty.T, Ty.dflt, KT.T, getM, putM, delM, inI64, maxRow] at *) <;> simp [*] <;> done))
              | skip
            skip)
         | skip)
     all_goals
       (have hz := z.done hok (by assumption)
        obtain ⟨t0, ht0, ht1⟩ : ∃ t : LT S.ents ((keysL S).getD x.i.toNat 0), t.i = 0 ∧ t.n = 0 := ⟨⟨0, 0, Int.le_refl _, by omega, rfl⟩, rfl, rfl⟩
        dsimp only
        refine ⟨⟨LT S.ents ((keysL S).getD x.i.toNat 0), fun t => ⟨[(3, Sx.one (.ptr 0 0)), (4, Sx.one (.ro fvE (fun _ => S.ents))), (6, Sx.one (.int .i64 (fun _ => (keysL S).getD x.i.toNat 0))), (7, Sx.one (.int .i64 (fun _ => 0))), (8, Sx.one (.int .i64 (fun _ => t.n))), (24, Sx.one (.ro I64 (fun _ => keysL S))), (25, Sx.one (.int .i64 (fun _ => (keysL S).length))), (26, Sx.one (.int .i64 (fun _ => x.i))), (47, Sx.one (.ro fvE (fun _ => S.ents))), (48, Sx.one (.int .i64 (fun _ => S.ents.length))), (49, Sx.one (.int .i64 (fun _ => t.i)))], [.abs (.led (fun _ => S))]⟩, fun t => (S.ents.length - t.i).toNat, t0⟩, ?_, fun (t : LT S.ents ((keysL S).getD x.i.toNat 0)) => ?_⟩
        · (try (conv in (LoopInv.inv _ _) => dsimp only)); (try (conv in (SS.mk _ _) => cbv; (try dsimp only [bkaSpec, balSpec, connsSpec, connsF, Ty.T, Ty.dflt, KT.T]); (try simp only [natCast_eq])))
          (with_reducible refine (?_ : T1 _ ?_) ?_; rotate_left 1; (conv => lhs; cbv; (try cbv); (try cbv)); intro hT; clear hT; with_reducible refine Sh.mk (by kernel_rfl) ?_)
          repeat' (first
            | with_reducible refine Ck.mk (C := tt) tt_intro ?_
            | with_reducible refine Ck.mk (show drawOk _ _ = true by kernel_rfl) ?_
            | with_reducible refine Ck.all_cons ?_
            | with_reducible refine Ck.all_nil ?_
            | with_reducible refine Ck.mk (by assumption) ?_
            | with_reducible refine Ck.mk (decide_eq_true (by assumption)) ?_
            | with_reducible refine Ck.mk (decide_eq_false (by assumption)) ?_
            | with_reducible refine Ck.mk ?_ ?_
            | (with_reducible refine Both.mk (fun h => ?_) (fun h => ?_) <;> (have hk := h) <;> (try simp only [decide_eq_true_eq, decide_eq_false_iff_not, Bool.not_eq_true', Bool.not_eq_false', Bool.not_eq_true, Bool.not_eq_false, Bool.not_true, Bool.not_false, ne_eq, Bool.false_eq_true, Bool.true_eq_false, reduceCtorEq, beq_iff_eq, beq_eq_false_iff_ne, not_true_eq_false, not_false_eq_true, pair_eta, map_idL] at h) <;> (try dsimp only [bkaSpec, balSpec, connsSpec, connsF, Ty.T, Ty.dflt, KT.T, getM, putM, delM] at h) <;> (try simp only [natCast_eq] at h) <;> (try (refine Exists.elim (z.step hok h) ?_; rintro b ⟨y, e1, hy0, hy1, hb0, hb1, hb2⟩)) <;> (try (refine Exists.elim (t.step hok.ent hln h) ?_; rintro e ⟨y, e1, hy0, hy1, hn, hb⟩)) <;> (try simp only [pair_eta, map_idL, e1] at h) <;> (try (have hE := zer_end hok t h)) <;> (try simp only [pair_eta, map_idL, hE, not_true_eq_false] at h) <;> (try first | rw [if_pos h] at hr | rw [if_neg h] at hr | rw [ifF h] at hr | rw [ifN h] at hr) <;> (try (have hb : (_ : Bool) = _ := h; clear h; subst hb; (try first | rw [if_pos rfl] at hr | rw [if_neg Bool.false_ne_true] at hr))) <;> first | (exfalso; omega) | exact absurd (h.symm.trans (by assumption) : true = false) Bool.noConfusion | exact absurd (h.symm.trans (by assumption) : false = true) Bool.noConfusion | (with_reducible refine (?_ : T1 _ ?_) ?_; rotate_left 1; (conv => lhs; cbv; (try cbv); (try cbv)); intro hT; clear hT; with_reducible refine Sh.mk (by kernel_rfl) ?_))
            | (with_reducible refine Alt.mk (fun h => ?_) (fun h => ?_) <;> (have hk := h) <;> (try simp only [decide_eq_true_eq, decide_eq_false_iff_not, Bool.not_eq_true', Bool.not_eq_false', Bool.not_eq_true, Bool.not_eq_false, Bool.not_true, Bool.not_false, ne_eq, Bool.false_eq_true, Bool.true_eq_false, reduceCtorEq, beq_iff_eq, beq_eq_false_iff_ne, not_true_eq_false, not_false_eq_true, pair_eta, map_idL] at h) <;> (try dsimp only [bkaSpec, balSpec, connsSpec, connsF, Ty.T, Ty.dflt, KT.T, getM, putM, delM] at h) <;> (try simp only [natCast_eq] at h) <;> (try (refine Exists.elim (z.step hok h) ?_; rintro b ⟨y, e1, hy0, hy1, hb0, hb1, hb2⟩)) <;> (try (refine Exists.elim (t.step hok.ent hln h) ?_; rintro e ⟨y, e1, hy0, hy1, hn, hb⟩)) <;> (try simp only [pair_eta, map_idL, e1] at h) <;> (try (have hE := zer_end hok t h)) <;> (try simp only [pair_eta, map_idL, hE, not_true_eq_false] at h) <;> (try first | rw [if_pos h] at hr | rw [if_neg h] at hr | rw [ifF h] at hr | rw [ifN h] at hr) <;> (try (have hb : (_ : Bool) = _ := h; clear h; subst hb; (try first | rw [if_pos rfl] at hr | rw [if_neg Bool.false_ne_true] at hr))) <;> first | (exfalso; omega) | exact absurd (h.symm.trans (by assumption) : true = false) Bool.noConfusion | exact absurd (h.symm.trans (by assumption) : false = true) Bool.noConfusion | (with_reducible refine (?_ : T1 _ ?_) ?_; rotate_left 1; (conv => lhs; cbv; (try cbv); (try cbv)); intro hT; clear hT; with_reducible refine Sh.mk (by kernel_rfl) ?_))
            | (with_reducible refine Pick.mk (fun h => ?_) (fun l1 x l2 h => ?_) <;> (with_reducible refine (?_ : T1 _ ?_) ?_; rotate_left 1; (conv => lhs; cbv; (try cbv); (try cbv)); intro hT; clear hT; with_reducible refine Sh.mk (by kernel_rfl) ?_))
            | ((with_reducible refine End.mk ?_); skip)
            | with_reducible exact True.intro)
          all_goals first
            | (fail_if_success (with_reducible refine Exists.intro ?_ ?_)
               first
                 | with_reducible rfl
                 | with_reducible assumption
                 | (dsimp only [bkaSpec, balSpec, connsSpec, connsF, Ty.T, Ty.dflt, KT.T, getM, putM, delM, inI64, maxRow]; done)
                 | (symm; with_reducible assumption)
                 | (dsimp only [bkaSpec, balSpec, connsSpec, connsF, Ty.T, Ty.dflt, KT.T, getM, putM, delM, inI64, maxRow]; first | with_reducible rfl | with_reducible assumption | (symm; with_reducible assumption) | (simp only [natCast_eq]; with_reducible rfl) | omega)
                 | omega
                 | (dsimp only [bkaSpec, balSpec, connsSpec, connsF, Ty.T, Ty.dflt, KT.T, getM, putM, delM, inI64, maxRow]; (try simp only [natCast_eq, List.nil_append]); first | with_reducible rfl | exact take_cg (by omega) | exact drop_cg (by omega) | exact take_drop_cg (by omega) (by omega) | exact take_all (by omega) | exact take_drop_all (by omega) (by omega) | exact drop_take_cg (by omega) (by omega) (by omega))
                 | first | exact ht0.symm | exact ht1.symm | exact hz
                 | ((try dsimp only [bkaSpec, balSpec, connsSpec, connsF, Ty.T, Ty.dflt, KT.T, getM, putM, delM, inI64, maxRow]); simp only [decide_eq_true_eq, decide_eq_false_iff_not, Bool.not_eq_true', Bool.not_eq_false', Bool.not_eq_true, Bool.not_eq_false, Bool.not_true, Bool.not_false, ne_eq, Bool.false_eq_true, Bool.true_eq_false, reduceCtorEq, beq_iff_eq, beq_eq_false_iff_ne, not_true_eq_false, not_false_eq_true, pair_eta, map_idL, natCast_eq, inI64, maxRow]; first | done | with_reducible assumption | omega)
                 | exact map_pair_id _
                 | ((try dsimp only [bkaSpec, balSpec, connsSpec, connsF, Ty.T, Ty.dflt, KT.T, getM, putM, delM, inI64, maxRow]) <;> (try simp only [natCast_eq]) <;> omega)
                 | ((try dsimp only [bkaSpec, balSpec, connsSpec, connsF, Ty.T, Ty.dflt, KT.T, getM, putM, delM, inI64, maxRow] at *) <;> (try simp only [natCast_eq] at *) <;> omega)
                 | ((try dsimp only [bkaSpec, balSpec, connsSpec, connsF, Ty.T, Ty.dflt, KT.T, getM, putM, delM, inI64, maxRow] at *) <;> (try simp only [List.length_append, List.length_cons, List.length_nil, List.length_replicate, List.length_take, List.length_drop, natCast_eq] at *) <;> omega)
                 | assumption
                 | (symm; assumption)
                 | (dsimp only; simp only [Bool.or_true, Bool.true_or, Bool.or_false, Bool.false_or, Bool.and_true, Bool.true_and, Bool.and_false, Bool.false_and, Bool.not_true, Bool.not_false, *]; done)
                 | (simp; done)
                 | (and_intros <;> first | trivial | with_reducible assumption | omega)
                 | ((try dsimp only [bkaSpec, balSpec, connsSpec, connsF, Ty.T, Ty.dflt, KT.T, getM, putM, delM, inI64, maxRow] at *) <;> simp [*] <;> done))
            | skip
        have htlo := t.lo
        have hthi := t.hi
        have htb := t.bnd hok.ent hln
        (try (conv in (LoopInv.inv _ _) => dsimp only)); (try (conv in (SS.mk _ _) => cbv; (try dsimp only [bkaSpec, balSpec, connsSpec, connsF, Ty.T, Ty.dflt, KT.T]); (try simp only [natCast_eq])))
        (with_reducible refine (?_ : T1 _ ?_) ?_; rotate_left 1; (conv => lhs; cbv; (try cbv); (try cbv)); intro hT; clear hT; with_reducible refine Sh.mk (by kernel_rfl) ?_)
        repeat' (first
          | with_reducible refine Ck.mk (C := tt) tt_intro ?_
          | with_reducible refine Ck.mk (show drawOk _ _ = true by kernel_rfl) ?_
          | with_reducible refine Ck.all_cons ?_
          | with_reducible refine Ck.all_nil ?_
          | with_reducible refine Ck.mk (by assumption) ?_
          | with_reducible refine Ck.mk (decide_eq_true (by assumption)) ?_
          | with_reducible refine Ck.mk (decide_eq_false (by assumption)) ?_
          | with_reducible refine Ck.mk ?_ ?_
          | (with_reducible refine Both.mk (fun h => ?_) (fun h => ?_) <;> (have hk := h) <;> (try simp only [decide_eq_true_eq, decide_eq_false_iff_not, Bool.not_eq_true', Bool.not_eq_false', Bool.not_eq_true, Bool.not_eq_false, Bool.not_true, Bool.not_false, ne_eq, Bool.false_eq_true, Bool.true_eq_false, reduceCtorEq, beq_iff_eq, beq_eq_false_iff_ne, not_true_eq_false, not_false_eq_true, pair_eta, map_idL] at h) <;> (try dsimp only [bkaSpec, balSpec, connsSpec, connsF, Ty.T, Ty.dflt, KT.T, getM, putM, delM] at h) <;> (try simp only [natCast_eq] at h) <;> (try (refine Exists.elim (z.step hok h) ?_; rintro b ⟨y, e1, hy0, hy1, hb0, hb1, hb2⟩)) <;> (try (refine Exists.elim (t.step hok.ent hln h) ?_; rintro e ⟨y, e1, hy0, hy1, hn, hb⟩)) <;> (try simp only [pair_eta, map_idL, e1] at h) <;> (try (have hE := zer_end hok t h)) <;> (try simp only [pair_eta, map_idL, hE, not_true_eq_false] at h) <;> (try first | rw [if_pos h] at hr | rw [if_neg h] at hr | rw [ifF h] at hr | rw [ifN h] at hr) <;> (try (have hb : (_ : Bool) = _ := h; clear h; subst hb; (try first | rw [if_pos rfl] at hr | rw [if_neg Bool.false_ne_true] at hr))) <;> first | (exfalso; omega) | exact absurd (h.symm.trans (by assumption) : true = false) Bool.noConfusion | exact absurd (h.symm.trans (by assumption) : false = true) Bool.noConfusion | (with_reducible refine (?_ : T1 _ ?_) ?_; rotate_left 1; (conv => lhs; cbv; (try cbv); (try cbv)); intro hT; clear hT; with_reducible refine Sh.mk (by kernel_rfl) ?_))
          | (with_reducible refine Alt.mk (fun h => ?_) (fun h => ?_) <;> (have hk := h) <;> (try simp only [decide_eq_true_eq, decide_eq_false_iff_not, Bool.not_eq_true', Bool.not_eq_false', Bool.not_eq_true, Bool.not_eq_false, Bool.not_true, Bool.not_false, ne_eq, Bool.false_eq_true, Bool.true_eq_false, reduceCtorEq, beq_iff_eq, beq_eq_false_iff_ne, not_true_eq_false, not_false_eq_true, pair_eta, map_idL] at h) <;> (try dsimp only [bkaSpec, balSpec, connsSpec, connsF, Ty.T, Ty.dflt, KT.T, getM, putM, delM] at h) <;> (try simp only [natCast_eq] at h) <;> (try (refine Exists.elim (z.step hok h) ?_; rintro b ⟨y, e1, hy0, hy1, hb0, hb1, hb2⟩)) <;> (try (refine Exists.elim (t.step hok.ent hln h) ?_; rintro e ⟨y, e1, hy0, hy1, hn, hb⟩)) <;> (try simp only [pair_eta, map_idL, e1] at h) <;> (try (have hE := zer_end hok t h)) <;> (try simp only [pair_eta, map_idL, hE, not_true_eq_false] at h) <;> (try first | rw [if_pos h] at hr | rw [if_neg h] at hr | rw [ifF h] at hr | rw [ifN h] at hr) <;> (try (have hb : (_ : Bool) = _ := h; clear h; subst hb; (try first | rw [if_pos rfl] at hr | rw [if_neg Bool.false_ne_true] at hr))) <;> first | (exfalso; omega) | exact absurd (h.symm.trans (by assumption) : true = false) Bool.noConfusion | exact absurd (h.symm.trans (by assumption) : false = true) Bool.noConfusion | (with_reducible refine (?_ : T1 _ ?_) ?_; rotate_left 1; (conv => lhs; cbv; (try cbv); (try cbv)); intro hT; clear hT; with_reducible refine Sh.mk (by kernel_rfl) ?_))
          | (with_reducible refine Pick.mk (fun h => ?_) (fun l1 x l2 h => ?_) <;> (with_reducible refine (?_ : T1 _ ?_) ?_; rotate_left 1; (conv => lhs; cbv; (try cbv); (try cbv)); intro hT; clear hT; with_reducible refine Sh.mk (by kernel_rfl) ?_))
          | ((with_reducible refine End.mk ?_); skip)
          | with_reducible exact True.intro)
        all_goals first
          | (fail_if_success (with_reducible refine Exists.intro ?_ ?_)
             first
               | with_reducible rfl
               | with_reducible assumption
               | (dsimp only [bkaSpec, balSpec, connsSpec, connsF, Ty.T, Ty.dflt, KT.T, getM, putM, delM, inI64, maxRow]; done)
               | (symm; with_reducible assumption)
               | (dsimp only [bkaSpec, balSpec, connsSpec, connsF, Ty.T, Ty.dflt, KT.T, getM, putM, delM, inI64, maxRow]; first | with_reducible rfl | with_reducible assumption | (symm; with_reducible assumption) | (simp only [natCast_eq]; with_reducible rfl) | omega)
               | omega
               | (dsimp only [bkaSpec, balSpec, connsSpec, connsF, Ty.T, Ty.dflt, KT.T, getM, putM, delM, inI64, maxRow]; (try simp only [natCast_eq, List.nil_append]); first | with_reducible rfl | exact take_cg (by omega) | exact drop_cg (by omega) | exact take_drop_cg (by omega) (by omega) | exact take_all (by omega) | exact take_drop_all (by omega) (by omega) | exact drop_take_cg (by omega) (by omega) (by omega))
               | ((try dsimp only [bkaSpec, balSpec, connsSpec, connsF, Ty.T, Ty.dflt, KT.T]); (try simp only [e1]); (try unfold inI64); omega)
               | ((try dsimp only [bkaSpec, balSpec, connsSpec, connsF, Ty.T, Ty.dflt, KT.T, getM, putM, delM, inI64, maxRow]); simp only [decide_eq_true_eq, decide_eq_false_iff_not, Bool.not_eq_true', Bool.not_eq_false', Bool.not_eq_true, Bool.not_eq_false, Bool.not_true, Bool.not_false, ne_eq, Bool.false_eq_true, Bool.true_eq_false, reduceCtorEq, beq_iff_eq, beq_eq_false_iff_ne, not_true_eq_false, not_false_eq_true, pair_eta, map_idL, natCast_eq, inI64, maxRow]; first | done | with_reducible assumption | omega)
               | exact map_pair_id _
               | ((try dsimp only [bkaSpec, balSpec, connsSpec, connsF, Ty.T, Ty.dflt, KT.T, getM, putM, delM, inI64, maxRow]) <;> (try simp only [natCast_eq]) <;> omega)
               | ((try dsimp only [bkaSpec, balSpec, connsSpec, connsF, Ty.T, Ty.dflt, KT.T, getM, putM, delM, inI64, maxRow] at *) <;> (try simp only [natCast_eq] at *) <;> omega)
               | ((try dsimp only [bkaSpec, balSpec, connsSpec, connsF, Ty.T, Ty.dflt, KT.T, getM, putM, delM, inI64, maxRow] at *) <;> (try simp only [List.length_append, List.length_cons, List.length_nil, List.length_replicate, List.length_take, List.length_drop, natCast_eq] at *) <;> omega)
               | assumption
               | (symm; assumption)
               | (dsimp only; simp only [Bool.or_true, Bool.true_or, Bool.or_false, Bool.false_or, Bool.and_true, Bool.true_and, Bool.and_false, Bool.false_and, Bool.not_true, Bool.not_false, *]; done)
               | (simp; done)
               | (and_intros <;> first | trivial | with_reducible assumption | omega)
               | ((try dsimp only [bkaSpec, balSpec, connsSpec, connsF, Ty.T, Ty.dflt, KT.T, getM, putM, delM, inI64, maxRow] at *) <;> simp [*] <;> done))
          | skip
        all_goals
          (first
            | (refine ⟨y, by (try dsimp only); (try simp only [natCast_eq]); omega, ?_⟩
               (try (conv in (LoopInv.inv _ _) => dsimp only)); (try (conv in (SS.mk _ _) => cbv; (try dsimp only [bkaSpec, balSpec, connsSpec, connsF, Ty.T, Ty.dflt, KT.T]); (try simp only [natCast_eq])))
               (with_reducible refine (?_ : T1 _ ?_) ?_; rotate_left 1; (conv => lhs; cbv; (try cbv); (try cbv)); intro hT; clear hT; with_reducible refine Sh.mk (by kernel_rfl) ?_)
               repeat' (first
                 | with_reducible refine Ck.mk (C := tt) tt_intro ?_
                 | with_reducible refine Ck.mk (show drawOk _ _ = true by kernel_rfl) ?_
                 | with_reducible refine Ck.all_cons ?_
                 | with_reducible refine Ck.all_nil ?_
                 | with_reducible refine Ck.mk (by assumption) ?_
                 | with_reducible refine Ck.mk (decide_eq_true (by assumption)) ?_
                 | with_reducible refine Ck.mk (decide_eq_false (by assumption)) ?_
                 | with_reducible refine Ck.mk ?_ ?_
                 | (with_reducible refine Both.mk (fun h => ?_) (fun h => ?_) <;> (have hk := h) <;> (try simp only [decide_eq_true_eq, decide_eq_false_iff_not, Bool.not_eq_true', Bool.not_eq_false', Bool.not_eq_true, Bool.not_eq_false, Bool.not_true, Bool.not_false, ne_eq, Bool.false_eq_true, Bool.true_eq_false, reduceCtorEq, beq_iff_eq, beq_eq_false_iff_ne, not_true_eq_false, not_false_eq_true, pair_eta, map_idL] at h) <;> (try dsimp only [bkaSpec, balSpec, connsSpec, connsF, Ty.T, Ty.dflt, KT.T, getM, putM, delM] at h) <;> (try simp only [natCast_eq] at h) <;> (try (refine Exists.elim (z.step hok h) ?_; rintro b ⟨y, e1, hy0, hy1, hb0, hb1, hb2⟩)) <;> (try (refine Exists.elim (t.step hok.ent hln h) ?_; rintro e ⟨y, e1, hy0, hy1, hn, hb⟩)) <;> (try simp only [pair_eta, map_idL, e1] at h) <;> (try (have hE := zer_end hok t h)) <;> (try simp only [pair_eta, map_idL, hE, not_true_eq_false] at h) <;> (try first | rw [if_pos h] at hr | rw [if_neg h] at hr | rw [ifF h] at hr | rw [ifN h] at hr) <;> (try (have hb : (_ : Bool) = _ := h; clear h; subst hb; (try first | rw [if_pos rfl] at hr | rw [if_neg Bool.false_ne_true] at hr))) <;> first | (exfalso; omega) | exact absurd (h.symm.trans (by assumption) : true = false) Bool.noConfusion | exact absurd (h.symm.trans (by assumption) : false = true) Bool.noConfusion | (with_reducible refine (?_ : T1 _ ?_) ?_; rotate_left 1; (conv => lhs; cbv; (try cbv); (try cbv)); intro hT; clear hT; with_reducible refine Sh.mk (by kernel_rfl) ?_))
                 | (with_reducible refine Alt.mk (fun h => ?_) (fun h => ?_) <;> (have hk := h) <;> (try simp only [decide_eq_true_eq, decide_eq_false_iff_not, Bool.not_eq_true', Bool.not_eq_false', Bool.not_eq_true, Bool.not_eq_false, Bool.not_true, Bool.not_false, ne_eq, Bool.false_eq_true, Bool.true_eq_false, reduceCtorEq, beq_iff_eq, beq_eq_false_iff_ne, not_true_eq_false, not_false_eq_true, pair_eta, map_idL] at h) <;> (try dsimp only [bkaSpec, balSpec, connsSpec, connsF, Ty.T, Ty.dflt, KT.T, getM, putM, delM] at h) <;> (try simp only [natCast_eq] at h) <;> (try (refine Exists.elim (z.step hok h) ?_; rintro b ⟨y, e1, hy0, hy1, hb0, hb1, hb2⟩)) <;> (try (refine Exists.elim (t.step hok.ent hln h) ?_; rintro e ⟨y, e1, hy0, hy1, hn, hb⟩)) <;> (try simp only [pair_eta, map_idL, e1] at h) <;> (try (have hE := zer_end hok t h)) <;> (try simp only [pair_eta, map_idL, hE, not_true_eq_false] at h) <;> (try first | rw [if_pos h] at hr | rw [if_neg h] at hr | rw [ifF h] at hr | rw [ifN h] at hr) <;> (try (have hb : (_ : Bool) = _ := h; clear h; subst hb; (try first | rw [if_pos rfl] at hr | rw [if_neg Bool.false_ne_true] at hr))) <;> first | (exfalso; omega) | exact absurd (h.symm.trans (by assumption) : true = false) Bool.noConfusion | exact absurd (h.symm.trans (by assumption) : false = true) Bool.noConfusion | (with_reducible refine (?_ : T1 _ ?_) ?_; rotate_left 1; (conv => lhs; cbv; (try cbv); (try cbv)); intro hT; clear hT; with_reducible refine Sh.mk (by kernel_rfl) ?_))
                 | (with_reducible refine Pick.mk (fun h => ?_) (fun l1 x l2 h => ?_) <;> (with_reducible refine (?_ : T1 _ ?_) ?_; rotate_left 1; (conv => lhs; cbv; (try cbv); (try cbv)); intro hT; clear hT; with_reducible refine Sh.mk (by kernel_rfl) ?_))
                 | ((with_reducible refine End.mk ?_); skip)
                 | with_reducible exact True.intro)
               all_goals first
                 | (fail_if_success (with_reducible refine Exists.intro ?_ ?_)
                    first
                      | with_reducible rfl
                      | with_reducible assumption
                      | (dsimp only [bkaSpec, balSpec, connsSpec, connsF, Ty.T, Ty.dflt, KT.T, getM, putM, delM, inI64, maxRow]; done)
                      | (symm; with_reducible assumption)
                      | (dsimp only [bkaSpec, balSpec, connsSpec, connsF, Ty.T, Ty.dflt, KT.T, getM, putM, delM, inI64, maxRow]; first | with_reducible rfl | with_reducible assumption | (symm; with_reducible assumption) | (simp only [natCast_eq]; with_reducible rfl) | omega)
                      | omega
                      | (dsimp only [bkaSpec, balSpec, connsSpec, connsF, Ty.T, Ty.dflt, KT.T, getM, putM, delM, inI64, maxRow]; (try simp only [natCast_eq, List.nil_append]); first | with_reducible rfl | exact take_cg (by omega) | exact drop_cg (by omega) | exact take_drop_cg (by omega) (by omega) | exact take_all (by omega) | exact take_drop_all (by omega) (by omega) | exact drop_take_cg (by omega) (by omega) (by omega))
                      | first | exact hy0.symm | ((try dsimp only [bkaSpec, balSpec, connsSpec, connsF, Ty.T, Ty.dflt, KT.T]); (try simp only [e1]); rw [hy1]; dsimp only [keysL]; split <;> omega)
                      | ((try dsimp only [bkaSpec, balSpec, connsSpec, connsF, Ty.T, Ty.dflt, KT.T, getM, putM, delM, inI64, maxRow]); simp only [decide_eq_true_eq, decide_eq_false_iff_not, Bool.not_eq_true', Bool.not_eq_false', Bool.not_eq_true, Bool.not_eq_false, Bool.not_true, Bool.not_false, ne_eq, Bool.false_eq_true, Bool.true_eq_false, reduceCtorEq, beq_iff_eq, beq_eq_false_iff_ne, not_true_eq_false, not_false_eq_true, pair_eta, map_idL, natCast_eq, inI64, maxRow]; first | done | with_reducible assumption | omega)
                      | exact map_pair_id _
                      | ((try dsimp only [bkaSpec, balSpec, connsSpec, connsF, Ty.T, Ty.dflt, KT.T, getM, putM, delM, inI64, maxRow]) <;> (try simp only [natCast_eq]) <;> omega)
                      | ((try dsimp only [bkaSpec, balSpec, connsSpec, connsF, Ty.T, Ty.dflt, KT.T, getM, putM, delM, inI64, maxRow] at *) <;> (try simp only [natCast_eq] at *) <;> omega)
                      | ((try dsimp only [bkaSpec, balSpec, connsSpec, connsF, Ty.T, Ty.dflt, KT.T, getM, putM, delM, inI64, maxRow] at *) <;> (try simp only [List.length_append, List.length_cons, List.length_nil, List.length_replicate, List.length_take, List.length_drop, natCast_eq] at *) <;> omega)
                      | assumption
                      | (symm; assumption)
                      | (dsimp only; simp only [Bool.or_true, Bool.true_or, Bool.or_false, Bool.false_or, Bool.and_true, Bool.true_and, Bool.and_false, Bool.false_and, Bool.not_true, Bool.not_false, *]; done)
                      | (simp; done)
                      | (and_intros <;> first | trivial | with_reducible assumption | omega)
                      | ((try dsimp only [bkaSpec, balSpec, connsSpec, connsF, Ty.T, Ty.dflt, KT.T, getM, putM, delM, inI64, maxRow] at *) <;> simp [*] <;> done))
                 | skip
               skip)
            | (refine Exists.elim (x.next (by assumption)) ?_
               intro y hy
               refine ⟨y, by (try dsimp only); (try simp only [natCast_eq]); omega, ?_⟩
               (try (conv in (LoopInv.inv _ _) => dsimp only)); (try (conv in (SS.mk _ _) => cbv; (try dsimp only [bkaSpec, balSpec, connsSpec, connsF, Ty.T, Ty.dflt, KT.T]); (try simp only [natCast_eq])))
               (with_reducible refine (?_ : T1 _ ?_) ?_; rotate_left 1; (conv => lhs; cbv; (try cbv); (try cbv)); intro hT; clear hT; with_reducible refine Sh.mk (by kernel_rfl) ?_)
               repeat' (first
                 | with_reducible refine Ck.mk (C := tt) tt_intro ?_
                 | with_reducible refine Ck.mk (show drawOk _ _ = true by kernel_rfl) ?_
                 | with_reducible refine Ck.all_cons ?_
                 | with_reducible refine Ck.all_nil ?_
                 | with_reducible refine Ck.mk (by assumption) ?_
                 | with_reducible refine Ck.mk (decide_eq_true (by assumption)) ?_
                 | with_reducible refine Ck.mk (decide_eq_false (by assumption)) ?_
                 | with_reducible refine Ck.mk ?_ ?_
                 | (with_reducible refine Both.mk (fun h => ?_) (fun h => ?_) <;> (have hk := h) <;> (try simp only [decide_eq_true_eq, decide_eq_false_iff_not, Bool.not_eq_true', Bool.not_eq_false', Bool.not_eq_true, Bool.not_eq_false, Bool.not_true, Bool.not_false, ne_eq, Bool.false_eq_true, Bool.true_eq_false, reduceCtorEq, beq_iff_eq, beq_eq_false_iff_ne, not_true_eq_false, not_false_eq_true, pair_eta, map_idL] at h) <;> (try dsimp only [bkaSpec, balSpec, connsSpec, connsF, Ty.T, Ty.dflt, KT.T, getM, putM, delM] at h) <;> (try simp only [natCast_eq] at h) <;> (try (refine Exists.elim (z.step hok h) ?_; rintro b ⟨y, e1, hy0, hy1, hb0, hb1, hb2⟩)) <;> (try (refine Exists.elim (t.step hok.ent hln h) ?_; rintro e ⟨y, e1, hy0, hy1, hn, hb⟩)) <;> (try simp only [pair_eta, map_idL, e1] at h) <;> (try (have hE := zer_end hok t h)) <;> (try simp only [pair_eta, map_idL, hE, not_true_eq_false] at h) <;> (try first | rw [if_pos h] at hr | rw [if_neg h] at hr | rw [ifF h] at hr | rw [ifN h] at hr) <;> (try (have hb : (_ : Bool) = _ := h; clear h; subst hb; (try first | rw [if_pos rfl] at hr | rw [if_neg Bool.false_ne_true] at hr))) <;> first | (exfalso; omega) | exact absurd (h.symm.trans (by assumption) : true = false) Bool.noConfusion | exact absurd (h.symm.trans (by assumption) : false = true) Bool.noConfusion | (with_reducible refine (?_ : T1 _ ?_) ?_; rotate_left 1; (conv => lhs; cbv; (try cbv); (try cbv)); intro hT; clear hT; with_reducible refine Sh.mk (by kernel_rfl) ?_))
                 | (with_reducible refine Alt.mk (fun h => ?_) (fun h => ?_) <;> (have hk := h) <;> (try simp only [decide_eq_true_eq, decide_eq_false_iff_not, Bool.not_eq_true', Bool.not_eq_false', Bool.not_eq_true, Bool.not_eq_false, Bool.not_true, Bool.not_false, ne_eq, Bool.false_eq_true, Bool.true_eq_false, reduceCtorEq, beq_iff_eq, beq_eq_false_iff_ne, not_true_eq_false, not_false_eq_true, pair_eta, map_idL] at h) <;> (try dsimp only [bkaSpec, balSpec, connsSpec, connsF, Ty.T, Ty.dflt, KT.T, getM, putM, delM] at h) <;> (try simp only [natCast_eq] at h) <;> (try (refine Exists.elim (z.step hok h) ?_; rintro b ⟨y, e1, hy0, hy1, hb0, hb1, hb2⟩)) <;> (try (refine Exists.elim (t.step hok.ent hln h) ?_; rintro e ⟨y, e1, hy0, hy1, hn, hb⟩)) <;> (try simp only [pair_eta, map_idL, e1] at h) <;> (try (have hE := zer_end hok t h)) <;> (try simp only [pair_eta, map_idL, hE, not_true_eq_false] at h) <;> (try first | rw [if_pos h] at hr | rw [if_neg h] at hr | rw [ifF h] at hr | rw [ifN h] at hr) <;> (try (have hb : (_ : Bool) = _ := h; clear h; subst hb; (try first | rw [if_pos rfl] at hr | rw [if_neg Bool.false_ne_true] at hr))) <;> first | (exfalso; omega) | exact absurd (h.symm.trans (by assumption) : true = false) Bool.noConfusion | exact absurd (h.symm.trans (by assumption) : false = true) Bool.noConfusion | (with_reducible refine (?_ : T1 _ ?_) ?_; rotate_left 1; (conv => lhs; cbv; (try cbv); (try cbv)); intro hT; clear hT; with_reducible refine Sh.mk (by kernel_rfl) ?_))
                 | (with_reducible refine Pick.mk (fun h => ?_) (fun l1 x l2 h => ?_) <;> (with_reducible refine (?_ : T1 _ ?_) ?_; rotate_left 1; (conv => lhs; cbv; (try cbv); (try cbv)); intro hT; clear hT; with_reducible refine Sh.mk (by kernel_rfl) ?_))
                 | ((with_reducible refine End.mk ?_); skip)
                 | with_reducible exact True.intro)
               all_goals first
                 | (fail_if_success (with_reducible refine Exists.intro ?_ ?_)
                    first
                      | with_reducible rfl
                      | with_reducible assumption
                      | (dsimp only [bkaSpec, balSpec, connsSpec, connsF, Ty.T, Ty.dflt, KT.T, getM, putM, delM, inI64, maxRow]; done)
                      | (symm; with_reducible assumption)
                      | (dsimp only [bkaSpec, balSpec, connsSpec, connsF, Ty.T, Ty.dflt, KT.T, getM, putM, delM, inI64, maxRow]; first | with_reducible rfl | with_reducible assumption | (symm; with_reducible assumption) | (simp only [natCast_eq]; with_reducible rfl) | omega)
                      | omega
                      | (dsimp only [bkaSpec, balSpec, connsSpec, connsF, Ty.T, Ty.dflt, KT.T, getM, putM, delM, inI64, maxRow]; (try simp only [natCast_eq, List.nil_append]); first | with_reducible rfl | exact take_cg (by omega) | exact drop_cg (by omega) | exact take_drop_cg (by omega) (by omega) | exact take_all (by omega) | exact take_drop_all (by omega) (by omega) | exact drop_take_cg (by omega) (by omega) (by omega))
                      | first | exact hy.symm
                      | ((try dsimp only [bkaSpec, balSpec, connsSpec, connsF, Ty.T, Ty.dflt, KT.T, getM, putM, delM, inI64, maxRow]); simp only [decide_eq_true_eq, decide_eq_false_iff_not, Bool.not_eq_true', Bool.not_eq_false', Bool.not_eq_true, Bool.not_eq_false, Bool.not_true, Bool.not_false, ne_eq, Bool.false_eq_true, Bool.true_eq_false, reduceCtorEq, beq_iff_eq, beq_eq_false_iff_ne, not_true_eq_false, not_false_eq_true, pair_eta, map_idL, natCast_eq, inI64, maxRow]; first | done | with_reducible assumption | omega)
                      | exact map_pair_id _
                      | ((try dsimp only [bkaSpec, balSpec, connsSpec, connsF, Ty.T, Ty.dflt, KT.T, getM, putM, delM, inI64, maxRow]) <;> (try simp only [natCast_eq]) <;> omega)
                      | ((try dsimp only [bkaSpec, balSpec, connsSpec, connsF, Ty.T, Ty.dflt, KT.T, getM, putM, delM, inI64, maxRow] at *) <;> (try simp only [natCast_eq] at *) <;> omega)
                      | ((try dsimp only [bkaSpec, balSpec, connsSpec, connsF, Ty.T, Ty.dflt, KT.T, getM, putM, delM, inI64, maxRow] at *) <;> (try simp only [List.length_append, List.length_cons, List.length_nil, List.length_replicate, List.length_take, List.length_drop, natCast_eq] at *) <;> omega)
                      | assumption
                      | (symm; assumption)
                      | (dsimp only; simp only [Bool.or_true, Bool.true_or, Bool.or_false, Bool.false_or, Bool.and_true, Bool.true_and, Bool.and_false, Bool.false_and, Bool.not_true, Bool.not_false, *]; done)
                      | (simp; done)
                      | (and_intros <;> first | trivial | with_reducible assumption | omega)
                      | ((try dsimp only [bkaSpec, balSpec, connsSpec, connsF, Ty.T, Ty.dflt, KT.T, getM, putM, delM, inI64, maxRow] at *) <;> simp [*] <;> done))
                 | skip
               skip)
            | skip)))
theorem zer_sound : ConSound Tryd.prog AI 4 zerSpec.con := PureSpec.sound Tryd.call4 (fun x h => zer_ok x.1 h)
end Go.Proofs.YtfgfcbncnngniaaDoor
