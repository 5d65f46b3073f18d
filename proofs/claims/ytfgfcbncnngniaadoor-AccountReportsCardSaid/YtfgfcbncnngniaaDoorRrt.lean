/-
  Layer 50: what the reference's Report says (plain).
-/
import Derived.Test.YtfgfcbncnngniaaDoorRep
import Derived.Test.YtfgfcbncnngniaaDoorCns
namespace Go.Proofs.YtfgfcbncnngniaaDoor
set_option linter.all false
set_option linter.unusedVariables false
set_option linter.unusedSimpArgs false
set_option linter.unusedSectionVars false
open Go.RowKit Go.Sx

theorem dE_sum2 {e : Fv} (h : OkE e) (c : Int) : dE e c 0 + dE e c 1 + dE e c 2 + dE e c 3 + dE e c 4 = 0 := by
  have h1 := h.ft
  unfold dE
  by_cases hc : e.2.1 = c
  · rcases h1 with ⟨h2, h3⟩ | ⟨h2, h3 | h3⟩ | ⟨h2, h3 | h3 | h3⟩ <;> simp [hc, h2, h3] <;> omega
  · simp [hc]
theorem bal_sum2 {l : List Fv} (h : ∀ e ∈ l, OkE e) (c : Int) : balR l c 0 + balR l c 1 + balR l c 2 + balR l c 3 + balR l c 4 = 0 := by
  induction l with
  | nil => rfl
  | cons e l ih =>
    have h1 := dE_sum2 (h e (List.mem_cons_self ..)) c
    have h2 := ih fun x hx => h x (List.mem_cons_of_mem _ hx)
    simp only [balR]
    omega
/-- The numbers of a line. -/
structure OkR (l : List Fv) (c : Int) : Prop where
  b0 : okN (-balR l c 0)
  b1 : okN (balR l c 1)
  b2 : okN (balR l c 2)
  b3 : okN (balR l c 3)
  b4 : okN (balR l c 4)
theorem OkB.okR {S : Led} (h : OkB S) (c : Int) : OkR S.ents c := by
  have hs := bal_sum2 h.ent c
  have hl := h.len
  have p1 := h.pos c 1 (by decide) (by decide)
  have p2 := h.pos c 2 (by decide) (by decide)
  have p3 := h.pos c 3 (by decide) (by decide)
  have p4 := h.pos c 4 (by decide) (by decide)
  have b0 := balR_bnd h.ent c 0
  have b1 := balR_bnd h.ent c 1
  have b2 := balR_bnd h.ent c 2
  have b3 := balR_bnd h.ent c 3
  have b4 := balR_bnd h.ent c 4
  constructor <;> unfold okN <;> omega
theorem OkB.nth {S : Led} (h : OkB S) (c : Int) : (balAt S.bals c).1 = balR S.ents c 0 ∧ (balAt S.bals c).2.1 = balR S.ents c 1 ∧ (balAt S.bals c).2.2.1 = balR S.ents c 2 ∧ (balAt S.bals c).2.2.2.1 = balR S.ents c 3 ∧ (balAt S.bals c).2.2.2.2 = balR S.ents c 4 :=
  ⟨h.bal c 0 (by decide) (by decide), h.bal c 1 (by decide) (by decide), h.bal c 2 (by decide) (by decide), h.bal c 3 (by decide) (by decide), h.bal c 4 (by decide) (by decide)⟩
theorem OkB.preP {S : Led} (h : OkB S) : PreP S := by
  refine ⟨h.preK, fun c hc => ?_⟩
  have hr := h.okR c
  obtain ⟨e0, e1, e2, e3, e4⟩ := h.nth c
  have hc2 := h.preK.rng c hc
  exact ⟨by unfold okN; omega, by rw [e0]; exact hr.b0, by rw [e1]; exact hr.b1, by rw [e2]; exact hr.b2, by rw [e3]; exact hr.b3, by rw [e4]; exact hr.b4⟩
def lineR (l : List Fv) (c : Int) : List Int := line c (balR l c 0, balR l c 1, balR l c 2, balR l c 3, balR l c 4)
def repR (l : List Fv) (cs : List Int) : List Int := cs.flatMap (lineR l)
theorem OkB.line {S : Led} (h : OkB S) (c : Int) : lineR S.ents c = Go.Proofs.YtfgfcbncnngniaaDoor.line c (balAt S.bals c) := by
  obtain ⟨e0, e1, e2, e3, e4⟩ := h.nth c
  unfold lineR
  rw [← e0, ← e1, ← e2, ← e3, ← e4]
theorem OkB.rep {S : Led} (h : OkB S) : repR S.ents (connsR S.ents) = repL S (keysL S) := by
  rw [conns_eqR h]
  unfold repR repL
  congr 1
  funext c
  exact h.line c
/-! ### counting the lines -/
abbrev u8b (l : List Int) : List UInt8 := l.map fun x => x.toNat.toUInt8
theorem u8b_dig (n : Int) : u8b (dig n) = Lib.itoa n := u8s_nat (Lib.itoa n)
theorem no10 {x : UInt8} (h : x ≠ 10) : [x].count 10 = 0 := by
  rw [List.count_cons, List.count_nil, if_neg (by simpa using h)]
theorem dec_no : ∀ (k u : Nat), u < 10 ^ (k + 1) → (Lib.decDigits u).count 10 = 0
  | 0, u, h => by
    rw [Lib.decDigits_one (by omega)]
    refine no10 fun hm => ?_
    have := congrArg UInt8.toNat hm
    rw [UInt8.toNat_ofNat'] at this
    have : (48 + u) % 256 = 10 := this
    omega
  | k + 1, u, h => by
    rw [Lib.decDigits]
    split
    · refine no10 fun hm => ?_
      have := congrArg UInt8.toNat hm
      rw [UInt8.toNat_ofNat'] at this
      have : (48 + u) % 256 = 10 := this
      omega
    · rw [List.count_append, dec_no k (u / 10) (Nat.div_lt_of_lt_mul (by rw [Nat.mul_comm, ← Nat.pow_succ]; exact h))]
      refine (Nat.zero_add _).trans (no10 fun hm => ?_)
      have := congrArg UInt8.toNat hm
      rw [UInt8.toNat_ofNat'] at this
      have : (48 + u % 10) % 256 = 10 := this
      omega
theorem dig_no {n : Int} (h : okN n) : (u8b (dig n)).count 10 = 0 := by
  rw [u8b_dig]
  unfold Lib.itoa
  rw [if_neg (by omega)]
  exact dec_no 18 n.toNat (by omega)
theorem cnt_app (a b : List Int) : (u8b (a ++ b)).count 10 = (u8b a).count 10 + (u8b b).count 10 := by
  unfold u8b
  rw [List.map_append, List.count_append]
theorem line_cnt {l : List Fv} {c : Int} (hc : okN c) (h : OkR l c) : (u8b (lineR l c)).count 10 = 1 := by
  unfold lineR line item
  simp only [cnt_app, dig_no hc, dig_no h.b0, dig_no h.b1, dig_no h.b2, dig_no h.b3, dig_no h.b4]
  decide
theorem rep_cnt {l : List Fv} : ∀ cs : List Int, (∀ c ∈ cs, okN c ∧ OkR l c) → (u8b (repR l cs)).count 10 = cs.length
  | [], _ => rfl
  | c :: cs, h => by
    unfold repR
    rw [List.flatMap_cons, cnt_app, line_cnt (h c (List.mem_cons_self ..)).1 (h c (List.mem_cons_self ..)).2, List.length_cons]
    have := rep_cnt cs fun x hx => h x (List.mem_cons_of_mem _ hx)
    unfold repR at this
    rw [this]; omega
/-! ### the loop -/
structure LRr (l : List Fv) where
  i : Int
  s : List Int
  lo : 0 ≤ i
  hi : i ≤ ((connsR l).length : Int)
  eq : s = repR l ((connsR l).take i.toNat)
  len : (s.length : Int) ≤ i * 200
abbrev cAt (l : List Fv) (i : Int) : Int := (connsR l).getD i.toNat 0
theorem lineR_len {l : List Fv} {c : Int} (hc : okN c) (h : OkR l c) : (lineR l c).length ≤ 200 :=
  (line_len (c := c) (b := (balR l c 0, balR l c 1, balR l c 2, balR l c 3, balR l c 4)) ⟨hc, h.b0, h.b1, h.b2, h.b3, h.b4⟩).2
theorem LRr.next {l : List Fv} (hc : ∀ c ∈ connsR l, okN c ∧ OkR l c) (x : LRr l) (h : x.i < ((connsR l).length : Int)) : ∃ y : LRr l, y.i = x.i + 1 ∧ y.s = x.s ++ lineR l (cAt l x.i) := by
  have h0 := x.lo
  have hlt : x.i.toNat < (connsR l).length := by omega
  have hm : cAt l x.i ∈ connsR l := by
    unfold cAt; rw [List.getD_eq_getElem?_getD, List.getElem?_eq_getElem hlt]; exact List.getElem_mem hlt
  obtain ⟨q1, q2⟩ := hc _ hm
  have hl := lineR_len q1 q2
  have hx := x.len
  refine ⟨⟨x.i + 1, x.s ++ lineR l (cAt l x.i), by omega, by omega, ?_, by rw [List.length_append]; omega⟩, rfl, rfl⟩
  rw [x.eq, show (x.i + 1).toNat = x.i.toNat + 1 by omega, List.take_succ, List.getElem?_eq_getElem hlt]
  unfold repR cAt
  rw [List.flatMap_append, List.getD_eq_getElem?_getD, List.getElem?_eq_getElem hlt]
  simp
theorem LRr.done {l : List Fv} (x : LRr l) (h : ¬ x.i < ((connsR l).length : Int)) : x.s = repR l (connsR l) := by
  rw [x.eq, List.take_of_length_le (by omega)]
theorem LRr.at_ {l : List Fv} (hc : ∀ c ∈ connsR l, okN c ∧ OkR l c) (x : LRr l) (h : x.i < ((connsR l).length : Int)) : okN (cAt l x.i) ∧ OkR l (cAt l x.i) := by
  have h0 := x.lo
  have hlt : x.i.toNat < (connsR l).length := by omega
  apply hc
  unfold cAt; rw [List.getD_eq_getElem?_getD, List.getElem?_eq_getElem hlt]; exact List.getElem_mem hlt
end Go.Proofs.YtfgfcbncnngniaaDoor
