/-
  Layer 50: Report.
-/
import Derived.Test.YtfgfcbncnngniaaDoorBld
import Derived.Test.YtfgfcbncnngniaaDoorEng3
namespace Go.Proofs.YtfgfcbncnngniaaDoor
set_option linter.all false
set_option linter.unusedVariables false
set_option linter.unusedSimpArgs false
set_option linter.unusedSectionVars false
open Go.RowKit Go.Sx
set_option maxRecDepth 100000
set_option maxHeartbeats 16000000
theorem dec_len : ∀ (k u : Nat), u < 10 ^ (k + 1) → (Lib.decDigits u).length ≤ k + 1
  | 0, u, h => by rw [Lib.decDigits_one (by omega)]; exact Nat.le_refl _
  | k + 1, u, h => by
    rw [Lib.decDigits]
    split
    · simp
    · rw [List.length_append, List.length_singleton]
      have := dec_len k (u / 10) (Nat.div_lt_of_lt_mul (by rw [Nat.mul_comm, ← Nat.pow_succ]; exact h))
      omega
abbrev okN (n : Int) : Prop := 0 ≤ n ∧ n ≤ 1099511627776
theorem dig_len {n : Int} (h : -1099511627776 ≤ n ∧ n ≤ 1099511627776) : (dig n).length ≤ 20 := by
  unfold dig Lib.itoa
  rw [List.length_map]
  split
  · rw [List.length_cons]
    have := dec_len 18 n.natAbs (by omega)
    omega
  · have := dec_len 18 n.toNat (by omega)
    omega
theorem dig_byt (n : Int) : ∀ x ∈ dig n, 0 ≤ x ∧ x < 256 := by
  intro x hx
  obtain ⟨y, _, rfl⟩ := List.mem_map.1 hx
  have := y.toNat_lt
  omega
theorem u8i_of {l : List Int} (h : ∀ x ∈ l, 0 ≤ x ∧ x < 256) : l.map u8i = l := by
  conv => rhs; rw [← List.map_id l]
  refine List.map_congr_left fun x hx => ?_
  have := h x hx
  unfold u8i
  simp only [Nat.toUInt8, UInt8.toNat_ofNat', id]
  show ((x.toNat % 256 : Nat) : Int) = x
  omega
theorem u8i_dig (n : Int) : (dig n).map u8i = dig n := u8i_of (dig_byt n)
def wTot : List Int := [116, 111, 116, 97, 108]
def wWai : List Int := [119, 97, 105, 116, 105, 110, 103]
def wFly : List Int := [102, 108, 121, 105, 110, 103]
def wDel : List Int := [100, 101, 108, 105, 118, 101, 114, 101, 100]
def wGon : List Int := [103, 111, 110, 101]
def item (w : List Int) (n : Int) : List Int := [32] ++ w ++ [32] ++ dig n
def line (c : Int) (b : Fv) : List Int := dig c ++ [58] ++ item wTot (-b.1) ++ item wWai b.2.1 ++ item wFly b.2.2.1 ++ item wDel b.2.2.2.1 ++ item wGon b.2.2.2.2 ++ [10]
def repL (S : Led) (l : List Int) : List Int := l.flatMap fun c => line c (balAt S.bals c)
def reportF (S : Led) : Tup [DT.cell .str] := (repL S (keysL S), ())
structure OkNs (c : Int) (b : Fv) : Prop where
  c : okN c
  b0 : okN (-b.1)
  b1 : okN b.2.1
  b2 : okN b.2.2.1
  b3 : okN b.2.2.2.1
  b4 : okN b.2.2.2.2
theorem okN_big {n : Int} (h : okN n) : -1099511627776 ≤ n ∧ n ≤ 1099511627776 := by unfold okN at h; omega
theorem line_len {c : Int} {b : Fv} (h : OkNs c b) : 0 < (line c b).length ∧ (line c b).length ≤ 200 := by
  have h0 := dig_len (okN_big h.c)
  have h1 := dig_len (okN_big h.b0)
  have h2 := dig_len (okN_big h.b1)
  have h3 := dig_len (okN_big h.b2)
  have h4 := dig_len (okN_big h.b3)
  have h5 := dig_len (okN_big h.b4)
  simp only [line, item, wTot, wWai, wFly, wDel, wGon, List.length_append, List.length_cons, List.length_nil]
  omega
theorem byt_app {a b : List Int} (ha : ∀ x ∈ a, 0 ≤ x ∧ x < 256) (hb : ∀ x ∈ b, 0 ≤ x ∧ x < 256) : ∀ x ∈ a ++ b, 0 ≤ x ∧ x < 256 := fun x hx => (List.mem_append.1 hx).elim (ha x) (hb x)
theorem line_byt (c : Int) (b : Fv) : ∀ x ∈ line c b, 0 ≤ x ∧ x < 256 := by
  unfold line item
  repeat' (first | exact dig_byt _ | (decide +kernel) | apply byt_app)
structure PreP (S : Led) : Prop where
  k : PreK S
  n : ∀ c ∈ keysI S.bals, OkNs c (balAt S.bals c)
structure LR (S : Led) where
  i : Int
  out : List Int
  lo : 1 ≤ i
  hi : i ≤ ((keysL S).length : Int)
  eq : out = repL S ((keysL S).take i.toNat)
  ne : 0 < out.length
  byt : ∀ x ∈ out, 0 ≤ x ∧ x < 256
  len : (out.length : Int) ≤ i * 200
abbrev keyA (S : Led) (i : Int) : Int := (keysL S).getD i.toNat 0
theorem key_mem {S : Led} {i : Int} (h0 : 0 ≤ i) (h : i < ((keysL S).length : Int)) : keyA S i ∈ keysI S.bals := by
  have hlt : i.toNat < (keysL S).length := by omega
  unfold keyA
  rw [List.getD_eq_getElem?_getD, List.getElem?_eq_getElem hlt]
  exact (sortI_perm _).subset (List.getElem_mem hlt)
theorem keysL_len (S : Led) : (keysL S).length = S.bals.length := by
  rw [(sortI_perm _).length_eq]; exact List.length_map _
theorem repL_next {S : Led} {i : Int} (h0 : 0 ≤ i) (h : i < ((keysL S).length : Int)) : repL S ((keysL S).take (i + 1).toNat) = repL S ((keysL S).take i.toNat) ++ line (keyA S i) (balAt S.bals (keyA S i)) := by
  have hlt : i.toNat < (keysL S).length := by omega
  rw [show (i + 1).toNat = i.toNat + 1 by omega, List.take_succ, List.getElem?_eq_getElem hlt]
  unfold repL keyA
  rw [List.flatMap_append, List.getD_eq_getElem?_getD, List.getElem?_eq_getElem hlt]
  simp
theorem LR.first {S : Led} (hP : PreP S) (h : 0 < ((keysL S).length : Int)) : ∃ y : LR S, y.i = 1 ∧ y.out = line (keyA S 0) (balAt S.bals (keyA S 0)) := by
  have hl := line_len (hP.n _ (key_mem (Int.le_refl 0) h))
  have e := repL_next (S := S) (Int.le_refl 0) h
  exact ⟨⟨1, line (keyA S 0) (balAt S.bals (keyA S 0)), by omega, by omega, e.symm, hl.1, line_byt _ _, by have := hl.2; omega⟩, rfl, rfl⟩
theorem LR.next {S : Led} (hP : PreP S) (x : LR S) (h : x.i < ((keysL S).length : Int)) : ∃ y : LR S, y.i = x.i + 1 ∧ y.out = x.out ++ line (keyA S x.i) (balAt S.bals (keyA S x.i)) := by
  have h0 := x.lo
  have hl := line_len (hP.n _ (key_mem (S := S) (by omega) h))
  have e := repL_next (S := S) (i := x.i) (by omega) h
  have h1 := x.ne
  have h2 := x.len
  exact ⟨⟨x.i + 1, x.out ++ line (keyA S x.i) (balAt S.bals (keyA S x.i)), by omega, by omega, by rw [e, ← x.eq], by rw [List.length_append]; omega, byt_app x.byt (line_byt _ _), by rw [List.length_append]; have := hl.2; omega⟩, rfl, rfl⟩
theorem LR.done {S : Led} (x : LR S) (h : ¬ x.i < ((keysL S).length : Int)) : x.out = repL S (keysL S) := by
  rw [x.eq, List.take_of_length_le (by omega)]
structure Nums (S : Led) (k : Nat) (c : Int) (b : Fv) : Prop where
  e1 : (sortI (keysI S.bals)).getD k 0 = c
  e2 : (getA (K := Int) S.bals c).getD (0, 0, 0, 0, 0) = b
  q0 : okN c
  q1 : okN (-b.1)
  q2 : okN b.2.1
  q3 : okN b.2.2.1
  q4 : okN b.2.2.2.1
  q5 : okN b.2.2.2.2
  d0 : (dig c).length ≤ 20
  d1 : (dig (-b.1)).length ≤ 20
  d2 : (dig b.2.1).length ≤ 20
  d3 : (dig b.2.2.1).length ≤ 20
  d4 : (dig b.2.2.2.1).length ≤ 20
  d5 : (dig b.2.2.2.2).length ≤ 20
theorem nums {S : Led} (hP : PreP S) {i : Int} (h0 : 0 ≤ i) (h : i < ((keysL S).length : Int)) : Nums S i.toNat (keyA S i) (balAt S.bals (keyA S i)) := by
  have hN := hP.n _ (key_mem h0 h)
  exact ⟨rfl, rfl, hN.c, hN.b0, hN.b1, hN.b2, hN.b3, hN.b4, dig_len (okN_big hN.c), dig_len (okN_big hN.b0), dig_len (okN_big hN.b1), dig_len (okN_big hN.b2), dig_len (okN_big hN.b3), dig_len (okN_big hN.b4)⟩
theorem nums1 {S : Led} (hP : PreP S) (h : 0 < ((sortI (keysI S.bals)).length : Int)) : ∃ c b, c = keyA S 0 ∧ b = balAt S.bals c ∧ Nums S 0 c b := ⟨_, _, rfl, rfl, nums hP (Int.le_refl 0) h⟩
theorem nums2 {S : Led} (hP : PreP S) (x : LR S) (h : x.i < ((sortI (keysI S.bals)).length : Int)) : ∃ c b, c = keyA S x.i ∧ b = balAt S.bals c ∧ Nums S x.i.toNat c b := ⟨_, _, rfl, rfl, nums hP (by have := x.lo; omega) h⟩
theorem mapu (l : List Int) (h : l.all (fun x => decide (0 ≤ x ∧ x < 256)) = true) : l.map u8i = l := u8i_of fun x hx => by simpa using List.all_eq_true.1 h x hx
theorem rep_nil {S : Led} (h : ¬ 0 < ((sortI (keysI S.bals)).length : Int)) : repL S (keysL S) = [] := by
  have : keysL S = [] := List.length_eq_zero_iff.1 (by show (sortI (keysI S.bals)).length = 0; omega)
  unfold repL
  rw [this]; rfl
abbrev gU (x : UInt8) : Int := x.toNat
theorem l58 : List.map u8i (List.map (fun x : UInt8 => (x.toNat : Int)) [58]) = [58] := by decide +kernel
theorem l32 : List.map u8i (List.map (fun x : UInt8 => (x.toNat : Int)) [32]) = [32] := by decide +kernel
theorem l10 : List.map u8i (List.map (fun x : UInt8 => (x.toNat : Int)) [10]) = [10] := by decide +kernel
theorem lTot : List.map u8i (List.map (fun x : UInt8 => (x.toNat : Int)) [116, 111, 116, 97, 108]) = wTot := by decide +kernel
theorem lWai : List.map u8i (List.map (fun x : UInt8 => (x.toNat : Int)) [119, 97, 105, 116, 105, 110, 103]) = wWai := by decide +kernel
theorem lFly : List.map u8i (List.map (fun x : UInt8 => (x.toNat : Int)) [102, 108, 121, 105, 110, 103]) = wFly := by decide +kernel
theorem lDel : List.map u8i (List.map (fun x : UInt8 => (x.toNat : Int)) [100, 101, 108, 105, 118, 101, 114, 101, 100]) = wDel := by decide +kernel
theorem lGon : List.map u8i (List.map (fun x : UInt8 => (x.toNat : Int)) [103, 111, 110, 101]) = wGon := by decide +kernel
theorem LR.i1 {S : Led} (hP : PreP S) (x : LR S) : inI64 (x.i + 1) := by
  have := x.lo; have := x.hi; have := keysL_len S; have := hP.k.len; unfold inI64; omega
theorem LR.sz {S : Led} (hP : PreP S) (x : LR S) : x.out.length ≤ 300000000 := by
  have := x.len; have := x.hi; have := keysL_len S; have := hP.k.len; omega
theorem cns_inl : ConSound Tryd.prog AI 17 (inl Ec Tryd.f17 2) := inl_sound ecOk mixed (fn := Tryd.f17) (c := bodyOf Tryd.f17) Tryd.call17 (by kernel_rfl) (by kernel_rfl) (by kernel_rfl) 2
noncomputable abbrev Eb0 : Env Ab := ⟨tis, [(48, copyCon 70)] ++ E0.con⟩
theorem eb0Ok : EnvOk Tryd.prog AI Eb0 := (e0Ok.add cc_sound)
theorem wrs_inl : ConSound Tryd.prog AI 36 (inl Eb0 Tryd.f36 1) := inl_sound eb0Ok mixed (fn := Tryd.f36) (c := bodyOf Tryd.f36) Tryd.call36 (by kernel_rfl) (by kernel_rfl) (by kernel_rfl) 1
theorem bst_inl : ConSound Tryd.prog AI 39 (inl E0 Tryd.f39 0) := inl_sound e0Ok mixed (fn := Tryd.f39) (c := bodyOf Tryd.f39) Tryd.call39 (by kernel_rfl) (by kernel_rfl) (by kernel_rfl) 0
noncomputable abbrev Eb1 : Env Ab := ⟨tis, [(39, inl E0 Tryd.f39 0), (17, inl Ec Tryd.f17 2), (36, inl Eb0 Tryd.f36 1), (37, itoaCon inI64 dig)] ++ Eb0.con⟩
theorem eb1Ok : EnvOk Tryd.prog AI Eb1 := ((((eb0Ok.add itoaS_sound).add wrs_inl).add cns_inl).add bst_inl)
theorem itm_inl : ConSound Tryd.prog AI 38 (inl Eb1 Tryd.f38 1) := inl_sound eb1Ok mixed (fn := Tryd.f38) (c := bodyOf Tryd.f38) Tryd.call38 (by kernel_rfl) (by kernel_rfl) (by kernel_rfl) 1
noncomputable abbrev Eb2 : Env Ab := ⟨tis, [(38, inl Eb1 Tryd.f38 1)] ++ Eb1.con⟩
theorem eb2Ok : EnvOk Tryd.prog AI Eb2 := (eb1Ok.add itm_inl)
def reportSpec : MethSpec Ab := ⟨Led, selL, .led, true, [], fun S (x : Unit) => PreP S, [.cell .str], fun S (x : Unit) => reportF S , fun S _ => S⟩
theorem report_ok (S : Led)  (h : reportSpec.pre S (())) : TmplOk Tryd.prog AI 26 (Sx.one (.ptr 0 0) :: argS reportSpec.ds (fun _ => (()))) [.abs (reportSpec.put (fun _ => S))] (resOf (svs reportSpec.rs (fun _ => reportSpec.f S (())))) [.abs (reportSpec.put (fun _ => reportSpec.next S (())))] := by
  dsimp only [reportSpec] at h ⊢
  generalize hr : reportF S  = r
  have hP := h; obtain ⟨h1, h2, h5⟩ := h.k
  dsimp only [reportF] at hr
  refine tmpl_obj2 eb2Ok mixed (fn := Tryd.f26) (c := bodyOf Tryd.f26) (by kernel_rfl) (by kernel_rfl) (by kernel_rfl) (Nat.le_of_ble_eq_true (by kernel_rfl)) (layOk _) (layOk _) rfl rfl (resOf_closed (svs_closed _ _)) ?_
  (try (conv in (LoopInv.inv _ _) => dsimp only)); (try (conv in (SS.mk _ _) => cbv; (try dsimp only [Ty.T, Ty.dflt, KT.T]); (try simp only [natCast_eq])))
  (with_reducible refine (?_ : T1 _ ?_) ?_; rotate_left 1; (conv => lhs; cbv; (try cbv); (try cbv)); intro hT; clear hT; with_reducible refine Sh.mk (by kernel_rfl) ?_)
  repeat' (first
    | with_reducible (first | refine Ck.mk (C := tt) tt_intro ?_ | refine Ck.mk (show drawOk _ _ = true by kernel_rfl) ?_ | refine Ck.all_cons ?_ | refine Ck.all_nil ?_ | refine Ck.mk (by assumption) ?_ | refine Ck.mk (decide_eq_true (by assumption)) ?_ | refine Ck.mk (decide_eq_false (by assumption)) ?_ | refine Ck.mk ?_ ?_)
    | (with_reducible (first | refine Both.mk (fun h => ?_) (fun h => ?_) | refine Alt.mk (fun h => ?_) (fun h => ?_) | refine Pick.mk (fun h => ?_) (fun l1 x l2 h => ?_)) <;> (have hk := h) <;> (try simp only [nrm, reduceCtorEq, pair_eta, map_idL] at h) <;> (try dsimp only [Ty.T, Ty.dflt, KT.T, getM, putM, delM] at h) <;> (try simp only [natCast_eq] at h) <;> (try (refine Exists.elim (nums1 hP h) ?_; rintro c ⟨b, ec, eb, N⟩)) <;> (try (refine Exists.elim (nums2 hP x h) ?_; rintro c ⟨b, ec, eb, N⟩)) <;> (try first | rw [if_pos h] at hr | rw [if_neg h] at hr | rw [ifF h] at hr | rw [ifN h] at hr) <;> (try (have hb : (_ : Bool) = _ := h; clear h; subst hb; (try first | rw [if_pos rfl] at hr | rw [if_neg Bool.false_ne_true] at hr))) <;> first | (exfalso; omega) | exact absurd (h.symm.trans (by assumption) : true = false) Bool.noConfusion | exact absurd (h.symm.trans (by assumption) : false = true) Bool.noConfusion | (with_reducible refine (?_ : T1 _ ?_) ?_; rotate_left 1; (conv => lhs; cbv; (try cbv); (try cbv)); intro hT; clear hT; with_reducible refine Sh.mk (by kernel_rfl) ?_))
    | ((with_reducible refine End.mk ?_); (try ((repeat (first | rw [if_pos (by first | assumption | omega)] at hr | rw [if_neg (by first | assumption | omega | (simp only [Bool.false_eq_true, Bool.true_eq_false, reduceCtorEq, not_false_eq_true]; done) | (simp only [Bool.not_eq_true]; assumption) | (simp only [Bool.not_eq_false]; assumption))] at hr | rw [if_pos rfl] at hr)); subst hr)))
    | with_reducible exact True.intro)
  all_goals first
    | (fail_if_success (with_reducible refine Exists.intro ?_ ?_)
       first
         | with_reducible rfl
         | with_reducible assumption
         | (symm; with_reducible assumption)
         | omega
         | ((try dsimp only [Ty.T, Ty.dflt, KT.T, getM, putM, delM, inI64, maxRow]); first | done | with_reducible rfl | with_reducible assumption | (symm; with_reducible assumption) | ((try simp only [natCast_eq, List.nil_append]); first | done | with_reducible rfl | omega | exact take_cg (by omega) | exact drop_cg (by omega) | exact take_drop_cg (by omega) (by omega) | exact take_all (by omega) | exact take_drop_all (by omega) (by omega) | exact drop_take_cg (by omega) (by omega) (by omega)))
         | exact ⟨h1, fun x hx => by have := h2 x hx; unfold inI64; omega, by show S.bals.length ≤ _; omega⟩
         | ((try dsimp only [Ty.T, Ty.dflt, KT.T, getM, putM, delM, inI64, maxRow]); first | (simp only [nrm, reduceCtorEq, pair_eta, map_idL, natCast_eq, inI64, maxRow]; first | done | with_reducible assumption | omega) | exact map_pair_id _)
         | ((try dsimp only [Ty.T, Ty.dflt, KT.T, getM, putM, delM, inI64, maxRow] at *); first | ((try simp only [natCast_eq] at *) <;> omega) | ((try simp only [lens, natCast_eq] at *) <;> omega))
         | assumption
         | (symm; assumption)
         | (dsimp only; simp only [nrb, *]; done)
         | (simp; done)
         | (and_intros <;> first | trivial | with_reducible assumption | omega)
         | ((try dsimp only [Ty.T, Ty.dflt, KT.T, getM, putM, delM, inI64, maxRow] at *) <;> simp [*] <;> done))
    | skip
  refine ⟨⟨Unit, fun _ => ⟨[(0, Sx.one (.ptr 0 0)), (3, Sx.one (.ptr 3 0)), (9, Sx.one (.ro I64 (fun _ => keysL S))), (10, Sx.one (.int .i64 (fun _ => (keysL S).length))), (11, Sx.one (.li .i64 0))],
      lay (.led (fun _ => S)) ++ [.cells 70 [.nilP, .nilS]]⟩, fun _ => (keysL S).length + 1, ()⟩,
    ⟨LR S, fun x => ⟨[(0, Sx.one (.ptr 0 0)), (3, Sx.one (.ptr 3 0)), (9, Sx.one (.ro I64 (fun _ => keysL S))), (10, Sx.one (.int .i64 (fun _ => (keysL S).length))), (11, Sx.one (.int .i64 (fun _ => x.i)))],
      lay (.led (fun _ => S)) ++ [.cells 70 [.ptr 3 0, .hd 5 0], .gone, .row 5 (.int .u8) 0 (fun _ => x.out)]⟩, fun x => ((keysL S).length - x.i).toNat⟩, ?_, fun (u : Unit) => ?_, fun (x : LR S) => ?_⟩
  · (try (conv in (LoopInv.inv _ _) => dsimp only)); (try (conv in (SS.mk _ _) => cbv; (try dsimp only [Ty.T, Ty.dflt, KT.T]); (try simp only [natCast_eq])))
    (with_reducible refine (?_ : T1 _ ?_) ?_; rotate_left 1; (conv => lhs; cbv; (try cbv); (try cbv)); intro hT; clear hT; with_reducible refine Sh.mk (by kernel_rfl) ?_)
    repeat' (first
      | with_reducible (first | refine Ck.mk (C := tt) tt_intro ?_ | refine Ck.mk (show drawOk _ _ = true by kernel_rfl) ?_ | refine Ck.all_cons ?_ | refine Ck.all_nil ?_ | refine Ck.mk (by assumption) ?_ | refine Ck.mk (decide_eq_true (by assumption)) ?_ | refine Ck.mk (decide_eq_false (by assumption)) ?_ | refine Ck.mk ?_ ?_)
      | (with_reducible (first | refine Both.mk (fun h => ?_) (fun h => ?_) | refine Alt.mk (fun h => ?_) (fun h => ?_) | refine Pick.mk (fun h => ?_) (fun l1 x l2 h => ?_)) <;> (have hk := h) <;> (try simp only [nrm, reduceCtorEq, pair_eta, map_idL] at h) <;> (try dsimp only [Ty.T, Ty.dflt, KT.T, getM, putM, delM] at h) <;> (try simp only [natCast_eq] at h) <;> (try (refine Exists.elim (nums1 hP h) ?_; rintro c ⟨b, ec, eb, N⟩)) <;> (try (refine Exists.elim (nums2 hP x h) ?_; rintro c ⟨b, ec, eb, N⟩)) <;> (try first | rw [if_pos h] at hr | rw [if_neg h] at hr | rw [ifF h] at hr | rw [ifN h] at hr) <;> (try (have hb : (_ : Bool) = _ := h; clear h; subst hb; (try first | rw [if_pos rfl] at hr | rw [if_neg Bool.false_ne_true] at hr))) <;> first | (exfalso; omega) | exact absurd (h.symm.trans (by assumption) : true = false) Bool.noConfusion | exact absurd (h.symm.trans (by assumption) : false = true) Bool.noConfusion | (with_reducible refine (?_ : T1 _ ?_) ?_; rotate_left 1; (conv => lhs; cbv; (try cbv); (try cbv)); intro hT; clear hT; with_reducible refine Sh.mk (by kernel_rfl) ?_))
      | ((with_reducible refine End.mk ?_); skip)
      | with_reducible exact True.intro)
    all_goals first
      | (fail_if_success (with_reducible refine Exists.intro ?_ ?_)
         first
           | with_reducible rfl
           | with_reducible assumption
           | (symm; with_reducible assumption)
           | omega
           | ((try dsimp only [Ty.T, Ty.dflt, KT.T, getM, putM, delM, inI64, maxRow]); first | done | with_reducible rfl | with_reducible assumption | (symm; with_reducible assumption) | ((try simp only [natCast_eq, List.nil_append]); first | done | with_reducible rfl | omega | exact take_cg (by omega) | exact drop_cg (by omega) | exact take_drop_cg (by omega) (by omega) | exact take_all (by omega) | exact take_drop_all (by omega) (by omega) | exact drop_take_cg (by omega) (by omega) (by omega)))
           | ((try dsimp only [Ty.T, Ty.dflt, KT.T, getM, putM, delM, inI64, maxRow]); first | (simp only [nrm, reduceCtorEq, pair_eta, map_idL, natCast_eq, inI64, maxRow]; first | done | with_reducible assumption | omega) | exact map_pair_id _)
           | ((try dsimp only [Ty.T, Ty.dflt, KT.T, getM, putM, delM, inI64, maxRow] at *); first | ((try simp only [natCast_eq] at *) <;> omega) | ((try simp only [lens, natCast_eq] at *) <;> omega))
           | assumption
           | (symm; assumption)
           | (dsimp only; simp only [nrb, *]; done)
           | (simp; done)
           | (and_intros <;> first | trivial | with_reducible assumption | omega)
           | ((try dsimp only [Ty.T, Ty.dflt, KT.T, getM, putM, delM, inI64, maxRow] at *) <;> simp [*] <;> done))
      | skip
  · (try (conv in (LoopInv.inv _ _) => dsimp only)); (try (conv in (SS.mk _ _) => cbv; (try dsimp only [Ty.T, Ty.dflt, KT.T]); (try simp only [natCast_eq])))
    (with_reducible refine (?_ : T1 _ ?_) ?_; rotate_left 1; (conv => lhs; cbv; (try cbv); (try cbv)); intro hT; clear hT; with_reducible refine Sh.mk (by kernel_rfl) ?_)
    repeat' (first
      | with_reducible (first | refine Ck.mk (C := tt) tt_intro ?_ | refine Ck.mk (show drawOk _ _ = true by kernel_rfl) ?_ | refine Ck.all_cons ?_ | refine Ck.all_nil ?_ | refine Ck.mk (by assumption) ?_ | refine Ck.mk (decide_eq_true (by assumption)) ?_ | refine Ck.mk (decide_eq_false (by assumption)) ?_ | refine Ck.mk ?_ ?_)
      | (with_reducible (first | refine Both.mk (fun h => ?_) (fun h => ?_) | refine Alt.mk (fun h => ?_) (fun h => ?_) | refine Pick.mk (fun h => ?_) (fun l1 x l2 h => ?_)) <;> (have hk := h) <;> (try simp only [nrm, reduceCtorEq, pair_eta, map_idL] at h) <;> (try dsimp only [Ty.T, Ty.dflt, KT.T, getM, putM, delM] at h) <;> (try simp only [natCast_eq] at h) <;> (try (refine Exists.elim (nums1 hP h) ?_; rintro c ⟨b, ec, eb, N⟩)) <;> (try (refine Exists.elim (nums2 hP x h) ?_; rintro c ⟨b, ec, eb, N⟩)) <;> (try first | rw [if_pos h] at hr | rw [if_neg h] at hr | rw [ifF h] at hr | rw [ifN h] at hr) <;> (try (have hb : (_ : Bool) = _ := h; clear h; subst hb; (try first | rw [if_pos rfl] at hr | rw [if_neg Bool.false_ne_true] at hr))) <;> first | (exfalso; omega) | exact absurd (h.symm.trans (by assumption) : true = false) Bool.noConfusion | exact absurd (h.symm.trans (by assumption) : false = true) Bool.noConfusion | (with_reducible refine (?_ : T1 _ ?_) ?_; rotate_left 1; (conv => lhs; cbv; (try cbv); (try cbv)); intro hT; clear hT; with_reducible refine Sh.mk (by kernel_rfl) ?_))
      | ((with_reducible refine End.mk ?_); skip)
      | with_reducible exact True.intro)
    all_goals first
      | (fail_if_success (with_reducible refine Exists.intro ?_ ?_)
         (try dsimp only [Ty.T, Ty.dflt, KT.T, getM])
         (try simp only [Int.toNat_zero, N.e1, N.e2])
         (try obtain ⟨_, _, q0, q1, q2, q3, q4, q5, d0, d1, d2, d3, d4, d5⟩ := N)
         first
         | done
         | assumption
         | omega
         | exact ⟨Int.le_refl 0, h⟩
         | exact ⟨by have := x.lo; omega, h⟩
         | (unfold inI64; omega)
         | exact x.i1 hP
         | exact x.ne
         | exact ⟨rfl, rfl, x.ne, (by unfold maxRow; omega), x.byt⟩
         | (simp only [List.length_map, List.length_append, List.length_cons, List.length_nil]; omega)
         | (unfold maxRow; simp only [List.length_map, List.length_append, List.length_cons, List.length_nil]; omega)
         | (simp only [pair_eta, map_idL]; done)
         | exact (rep_nil h).symm.trans (congrArg Prod.fst hr)
         | exact (x.done h).trans (congrArg Prod.fst hr))
      | skip
    refine Exists.elim (LR.first hP h) ?_
    rintro y ⟨hy0, hy1⟩
    refine ⟨y, by dsimp only; (try simp only [natCast_eq]); omega, ?_⟩
    (try (conv in (LoopInv.inv _ _) => dsimp only)); (try (conv in (SS.mk _ _) => cbv; (try dsimp only [Ty.T, Ty.dflt, KT.T]); (try simp only [natCast_eq])))
    (with_reducible refine (?_ : T1 _ ?_) ?_; rotate_left 1; (conv => lhs; cbv; (try cbv); (try cbv)); intro hT; clear hT; with_reducible refine Sh.mk (by kernel_rfl) ?_)
    repeat' (first
      | with_reducible (first | refine Ck.mk (C := tt) tt_intro ?_ | refine Ck.mk (show drawOk _ _ = true by kernel_rfl) ?_ | refine Ck.all_cons ?_ | refine Ck.all_nil ?_ | refine Ck.mk (by assumption) ?_ | refine Ck.mk (decide_eq_true (by assumption)) ?_ | refine Ck.mk (decide_eq_false (by assumption)) ?_ | refine Ck.mk ?_ ?_)
      | (with_reducible (first | refine Both.mk (fun h => ?_) (fun h => ?_) | refine Alt.mk (fun h => ?_) (fun h => ?_) | refine Pick.mk (fun h => ?_) (fun l1 x l2 h => ?_)) <;> (have hk := h) <;> (try simp only [nrm, reduceCtorEq, pair_eta, map_idL] at h) <;> (try dsimp only [Ty.T, Ty.dflt, KT.T, getM, putM, delM] at h) <;> (try simp only [natCast_eq] at h) <;> (try (refine Exists.elim (nums1 hP h) ?_; rintro c ⟨b, ec, eb, N⟩)) <;> (try (refine Exists.elim (nums2 hP x h) ?_; rintro c ⟨b, ec, eb, N⟩)) <;> (try first | rw [if_pos h] at hr | rw [if_neg h] at hr | rw [ifF h] at hr | rw [ifN h] at hr) <;> (try (have hb : (_ : Bool) = _ := h; clear h; subst hb; (try first | rw [if_pos rfl] at hr | rw [if_neg Bool.false_ne_true] at hr))) <;> first | (exfalso; omega) | exact absurd (h.symm.trans (by assumption) : true = false) Bool.noConfusion | exact absurd (h.symm.trans (by assumption) : false = true) Bool.noConfusion | (with_reducible refine (?_ : T1 _ ?_) ?_; rotate_left 1; (conv => lhs; cbv; (try cbv); (try cbv)); intro hT; clear hT; with_reducible refine Sh.mk (by kernel_rfl) ?_))
      | ((with_reducible refine End.mk ?_); skip)
      | with_reducible exact True.intro)
    all_goals
      ((try dsimp only [Ty.T, Ty.dflt, KT.T, getM])
       (try simp only [Int.toNat_zero, N.e1, N.e2])
       first
       | done
       | with_reducible rfl
       | omega
       | (simp only [pair_eta, map_idL]; done)
       | (rw [hy1, ← ec, ← eb]; simp only [List.map_append, u8i_dig, l58, l32, l10, lTot, lWai, lFly, lDel, lGon, line, item, List.append_assoc, List.nil_append]; done)
       | skip)
  · have hsz := x.sz hP
    have hi9 := x.hi
    (try (conv in (LoopInv.inv _ _) => dsimp only)); (try (conv in (SS.mk _ _) => cbv; (try dsimp only [Ty.T, Ty.dflt, KT.T]); (try simp only [natCast_eq])))
    (with_reducible refine (?_ : T1 _ ?_) ?_; rotate_left 1; (conv => lhs; cbv; (try cbv); (try cbv)); intro hT; clear hT; with_reducible refine Sh.mk (by kernel_rfl) ?_)
    repeat' (first
      | with_reducible (first | refine Ck.mk (C := tt) tt_intro ?_ | refine Ck.mk (show drawOk _ _ = true by kernel_rfl) ?_ | refine Ck.all_cons ?_ | refine Ck.all_nil ?_ | refine Ck.mk (by assumption) ?_ | refine Ck.mk (decide_eq_true (by assumption)) ?_ | refine Ck.mk (decide_eq_false (by assumption)) ?_ | refine Ck.mk ?_ ?_)
      | (with_reducible (first | refine Both.mk (fun h => ?_) (fun h => ?_) | refine Alt.mk (fun h => ?_) (fun h => ?_) | refine Pick.mk (fun h => ?_) (fun l1 x l2 h => ?_)) <;> (have hk := h) <;> (try simp only [nrm, reduceCtorEq, pair_eta, map_idL] at h) <;> (try dsimp only [Ty.T, Ty.dflt, KT.T, getM, putM, delM] at h) <;> (try simp only [natCast_eq] at h) <;> (try (refine Exists.elim (nums1 hP h) ?_; rintro c ⟨b, ec, eb, N⟩)) <;> (try (refine Exists.elim (nums2 hP x h) ?_; rintro c ⟨b, ec, eb, N⟩)) <;> (try first | rw [if_pos h] at hr | rw [if_neg h] at hr | rw [ifF h] at hr | rw [ifN h] at hr) <;> (try (have hb : (_ : Bool) = _ := h; clear h; subst hb; (try first | rw [if_pos rfl] at hr | rw [if_neg Bool.false_ne_true] at hr))) <;> first | (exfalso; omega) | exact absurd (h.symm.trans (by assumption) : true = false) Bool.noConfusion | exact absurd (h.symm.trans (by assumption) : false = true) Bool.noConfusion | (with_reducible refine (?_ : T1 _ ?_) ?_; rotate_left 1; (conv => lhs; cbv; (try cbv); (try cbv)); intro hT; clear hT; with_reducible refine Sh.mk (by kernel_rfl) ?_))
      | ((with_reducible refine End.mk ?_); skip)
      | with_reducible exact True.intro)
    all_goals first
      | (fail_if_success (with_reducible refine Exists.intro ?_ ?_)
         (try dsimp only [Ty.T, Ty.dflt, KT.T, getM])
         (try simp only [Int.toNat_zero, N.e1, N.e2])
         (try obtain ⟨_, _, q0, q1, q2, q3, q4, q5, d0, d1, d2, d3, d4, d5⟩ := N)
         first
         | done
         | assumption
         | omega
         | exact ⟨Int.le_refl 0, h⟩
         | exact ⟨by have := x.lo; omega, h⟩
         | (unfold inI64; omega)
         | exact x.i1 hP
         | exact x.ne
         | exact ⟨rfl, rfl, x.ne, (by unfold maxRow; omega), x.byt⟩
         | (simp only [List.length_map, List.length_append, List.length_cons, List.length_nil]; omega)
         | (unfold maxRow; simp only [List.length_map, List.length_append, List.length_cons, List.length_nil]; omega)
         | (simp only [pair_eta, map_idL]; done)
         | exact (rep_nil h).symm.trans (congrArg Prod.fst hr)
         | exact (x.done h).trans (congrArg Prod.fst hr))
      | skip
    refine Exists.elim (LR.next hP x h) ?_
    rintro y ⟨hy0, hy1⟩
    refine ⟨y, by dsimp only; (try simp only [natCast_eq]); omega, ?_⟩
    (try (conv in (LoopInv.inv _ _) => dsimp only)); (try (conv in (SS.mk _ _) => cbv; (try dsimp only [Ty.T, Ty.dflt, KT.T]); (try simp only [natCast_eq])))
    (with_reducible refine (?_ : T1 _ ?_) ?_; rotate_left 1; (conv => lhs; cbv; (try cbv); (try cbv)); intro hT; clear hT; with_reducible refine Sh.mk (by kernel_rfl) ?_)
    repeat' (first
      | with_reducible (first | refine Ck.mk (C := tt) tt_intro ?_ | refine Ck.mk (show drawOk _ _ = true by kernel_rfl) ?_ | refine Ck.all_cons ?_ | refine Ck.all_nil ?_ | refine Ck.mk (by assumption) ?_ | refine Ck.mk (decide_eq_true (by assumption)) ?_ | refine Ck.mk (decide_eq_false (by assumption)) ?_ | refine Ck.mk ?_ ?_)
      | (with_reducible (first | refine Both.mk (fun h => ?_) (fun h => ?_) | refine Alt.mk (fun h => ?_) (fun h => ?_) | refine Pick.mk (fun h => ?_) (fun l1 x l2 h => ?_)) <;> (have hk := h) <;> (try simp only [nrm, reduceCtorEq, pair_eta, map_idL] at h) <;> (try dsimp only [Ty.T, Ty.dflt, KT.T, getM, putM, delM] at h) <;> (try simp only [natCast_eq] at h) <;> (try (refine Exists.elim (nums1 hP h) ?_; rintro c ⟨b, ec, eb, N⟩)) <;> (try (refine Exists.elim (nums2 hP x h) ?_; rintro c ⟨b, ec, eb, N⟩)) <;> (try first | rw [if_pos h] at hr | rw [if_neg h] at hr | rw [ifF h] at hr | rw [ifN h] at hr) <;> (try (have hb : (_ : Bool) = _ := h; clear h; subst hb; (try first | rw [if_pos rfl] at hr | rw [if_neg Bool.false_ne_true] at hr))) <;> first | (exfalso; omega) | exact absurd (h.symm.trans (by assumption) : true = false) Bool.noConfusion | exact absurd (h.symm.trans (by assumption) : false = true) Bool.noConfusion | (with_reducible refine (?_ : T1 _ ?_) ?_; rotate_left 1; (conv => lhs; cbv; (try cbv); (try cbv)); intro hT; clear hT; with_reducible refine Sh.mk (by kernel_rfl) ?_))
      | ((with_reducible refine End.mk ?_); skip)
      | with_reducible exact True.intro)
    all_goals
      ((try dsimp only [Ty.T, Ty.dflt, KT.T, getM])
       (try simp only [Int.toNat_zero, N.e1, N.e2])
       first
       | done
       | with_reducible rfl
       | omega
       | (simp only [pair_eta, map_idL]; done)
       | (rw [hy1, ← ec, ← eb]; simp only [List.map_append, u8i_dig, l58, l32, l10, lTot, lWai, lFly, lDel, lGon, line, item, List.append_assoc, List.nil_append]; done)
       | skip)
theorem report_sound : ConSound Tryd.prog AI 26 reportSpec.con := MethSpec.sound Tryd.call26 ⟨fun a W h => by cases a <;> cases h; rfl, fun _ _ _ => rfl, fun W x h => report_ok W  h⟩
end Go.Proofs.YtfgfcbncnngniaaDoor
