/-
  Layer 44: StreamMemory, the walk.
-/
import Derived.Test.YtebhcmgfhkjmcaaAwk
import Derived.Test.YtebhcmgfhkjmcaaKv
import Derived.Test.YtebhcmgfhkjmcaaSem
import Derived.Test.YtebhcmgfhkjmcaaEng3
namespace Go.Proofs.Ytebhcmgfhkjmcaa
set_option linter.all false
set_option linter.unusedVariables false
set_option linter.unusedSimpArgs false
set_option linter.unusedSectionVars false
open Go.RowKit Go.Sx
set_option maxRecDepth 100000
set_option maxHeartbeats 16000000
def bcloneSpec : RowSpec := ⟨[.lst (.int .u8)], 5, .int .u8, fun (x : List Int × Unit) => x.1.length ≤ maxRow ∧ ¬ x.1 = [], fun (x : List Int × Unit) => x.1⟩
theorem bclone_ok (l : List Int) (h : bcloneSpec.pre (l, ())) : TmplOk Try.prog AI 23 (argS bcloneSpec.ds (fun _ => (l, ()))) [] (Sx.one (.hd 0 0)) [.row bcloneSpec.et bcloneSpec.e 0 (fun _ => bcloneSpec.f (l, ()))] := by
  dsimp only [bcloneSpec, maxRow] at h ⊢
  obtain ⟨hl, hn⟩ := h
  refine tmpl_of_body e0Ok mixed (fn := Try.f23) (c := bodyOf Try.f23) (by kernel_rfl) (by kernel_rfl) (by kernel_rfl) (Nat.le_of_ble_eq_true (by kernel_rfl)) ?_
  (try (conv in (LoopInv.inv _ _) => dsimp only)); (try (conv in (SS.mk _ _) => cbv; (try dsimp only [Ty.T, Ty.dflt, KT.T]); (try simp only [natCast_eq])))
  (with_reducible refine (?_ : T1 _ ?_) ?_; rotate_left 1; (conv => lhs; cbv; (try cbv); (try cbv)); intro hT; clear hT; with_reducible refine Sh.mk (by kernel_rfl) ?_)
  repeat' (first
    | with_reducible (first | refine Ck.mk (C := tt) tt_intro ?_ | refine Ck.mk (show drawOk _ _ = true by kernel_rfl) ?_ | refine Ck.all_cons ?_ | refine Ck.all_nil ?_ | refine Ck.mk (by assumption) ?_ | refine Ck.mk (decide_eq_true (by assumption)) ?_ | refine Ck.mk (decide_eq_false (by assumption)) ?_ | refine Ck.mk ?_ ?_)
    | (with_reducible (first | refine Both.mk (fun h => ?_) (fun h => ?_) | refine Alt.mk (fun h => ?_) (fun h => ?_) | refine Pick.mk (fun h => ?_) (fun l1 x l2 h => ?_)) <;> (have hk := h) <;> (try simp only [nrm, reduceCtorEq, pair_eta, map_idL] at h) <;> (try dsimp only [Ty.T, Ty.dflt, KT.T, getM, putM, delM] at h) <;> (try simp only [natCast_eq] at h) <;> skip <;> (try first | rw [if_pos h] at hr | rw [if_neg h] at hr | rw [ifF h] at hr | rw [ifN h] at hr) <;> (try (have hb : (_ : Bool) = _ := h; clear h; subst hb; (try first | rw [if_pos rfl] at hr | rw [if_neg Bool.false_ne_true] at hr))) <;> first | (exfalso; omega) | exact absurd (h.symm.trans (by assumption) : true = false) Bool.noConfusion | exact absurd (h.symm.trans (by assumption) : false = true) Bool.noConfusion | (with_reducible refine (?_ : T1 _ ?_) ?_; rotate_left 1; (conv => lhs; cbv; (try cbv); (try cbv)); intro hT; clear hT; with_reducible refine Sh.mk (by kernel_rfl) ?_))
    | ((with_reducible refine End.mk ?_); skip)
    | with_reducible exact True.intro)
  all_goals (try dsimp only [bcloneSpec, Ty.size] at *)
  all_goals first | (exfalso; exact hn (by assumption)) | (simp; done) | (simp only [List.length_nil, Nat.zero_add, maxRow]; omega) | (simp_all)
theorem bclone_sound : ConSound Try.prog AI 23 bcloneSpec.conO := RowSpec.soundO Try.call23 (fun x h => bclone_ok x.1 h)
theorem lay_free (x : Ab) (j : Nat) (hj : j < (lay x).length) : freeC (getC (lay x) j) = true := by
  cases x <;> (simp only [lay, List.length_cons, List.length_nil] at hj; obtain rfl | rfl : j = 0 ∨ j = 1 := by omega) <;> rfl
theorem rcvW_sound : ConSound Try.prog AI 25 rcvSpec.conW := MethSpec.soundW Try.call25 ⟨fun a W h => by cases a <;> cases h; rfl, (fun h => by cases h), fun W x h => rcv_ok W x.1 h⟩ (fun _ => rfl) (fun W => absOf_free lay_free _)
theorem nwr_inl : ConSound Try.prog AI 12 (inl E0 Try.f12 1) := inl_sound e0Ok mixed (fn := Try.f12) (c := bodyOf Try.f12) Try.call12 (by kernel_rfl) (by kernel_rfl) (by kernel_rfl) 1
theorem wrti_inl : ConSound Try.prog AI 13 (inl E0 Try.f13 1) := inl_sound e0Ok mixed (fn := Try.f13) (c := bodyOf Try.f13) Try.call13 (by kernel_rfl) (by kernel_rfl) (by kernel_rfl) 1
theorem tcki_inl : ConSound Try.prog AI 16 (inl E3 Try.f16 8) := inl_sound e3Ok mixed (fn := Try.f16) (c := bodyOf Try.f16) Try.call16 (by kernel_rfl) (by kernel_rfl) (by kernel_rfl) 8
theorem beq_inl : ConSound Try.prog AI 24 (inl E0 Try.f24 0) := inl_sound e0Ok mixed (fn := Try.f24) (c := bodyOf Try.f24) Try.call24 (by kernel_rfl) (by kernel_rfl) (by kernel_rfl) 0
noncomputable abbrev Emm : Env Ab := ⟨tis, [(26, rrdSpec.con), (25, rcvSpec.conW), (22, newRdrSpec.con), (16, inl E3 Try.f16 8), (13, inl E0 Try.f13 1), (12, inl E0 Try.f12 1), (11, awakeSpec.con), (23, bcloneSpec.conO), (24, inl E0 Try.f24 0)] ++ E0.con⟩
theorem emmOk : EnvOk Try.prog AI Emm := (((((((((e0Ok.add beq_inl).add bclone_sound).add awake_sound).add nwr_inl).add wrti_inl).add tcki_inl).add newRdr_sound).add rcvW_sound).add rrd_sound)
structure LB (D : List Int) where
  i : Int
  L : List Int
  lo : 0 ≤ i
  hi : i ≤ D.length
  len : L.length = D.length
theorem LB.next {D : List Int} {i : Int} (lo : 0 ≤ i) (hi : i < D.length) {B : List Int} (h : B.length = D.length) : ∃ y : LB D, y.i = i + 1 ∧ y.L = B := ⟨⟨i + 1, B, by omega, by omega, h⟩, rfl, rfl⟩
theorem clone_all {D : List Int} (hn : 0 < (D.length : Int) ∧ (D.length : Int) ≤ 50) : List.take (0 - 0 + min (min 60 ((D.length : Int) - 0)) (0 + 60 - 0) - (0 - 0) : Int).toNat (List.drop (0 - 0 : Int).toNat D) = D := by
  rw [show (0 - 0 : Int).toNat = 0 from rfl, List.drop_zero]
  exact List.take_of_length_le (by omega)
abbrev memR0 (D : List Int) : I1 × Rdr := rcvF ⟨newS 60, 60⟩ 0 D false
def memR (D : List Int) : Rdr := (memR0 D).2
theorem mOk {D : List Int} (hn : 0 < (D.length : Int) ∧ (D.length : Int) ≤ 50) : PutOk (newS 60) 0 D false :=
  ⟨Int.le_refl _, by decide, rfl, by
    cases hc : confl (newS 60).kept D 0 (pFr (newS 60) 0) (pN (newS 60) 0 D) with
    | false => rfl
    | true =>
      obtain ⟨k, v, _, _, h3, _⟩ := (confl_iff _ _).1 hc
      cases h3⟩
theorem mPut {D : List Int} (hn : 0 < (D.length : Int) ∧ (D.length : Int) ≤ 50) (hD : inBytes D) : ((memR0 D).1.1 : Int) = 0 := by
  show ((putF (newS 60) 0 D false).1.2.1 : Int) = 0
  rw [put_ok_eq (mOk hn)]
theorem mSto {D : List Int} (hn : 0 < (D.length : Int) ∧ (D.length : Int) ≤ 50) (hD : inBytes D) : StO (memR D).sto := put_sto (newS_ok (by decide) (by decide)) false hD (by omega)
theorem mGet {D : List Int} (hn : 0 < (D.length : Int) ∧ (D.length : Int) ≤ 50) (k : Int) : getI (memR D).sto.kept k = if 0 ≤ k ∧ k < D.length then some (D.getD k.toNat 0) else none := by
  show getI (putF (newS 60) 0 D false).2.kept k = _
  rw [put_ok_eq (mOk hn)]
  show getI (putK (newS 60) 0 D) k = _
  rw [get_put]
  have e1 : pFr (newS 60) 0 = 0 := rfl
  have e2 : pTo (newS 60) 0 D = D.length := by show min ((0 : Int) + D.length) (0 + 60) = _; omega
  rw [e1, e2, Int.sub_zero]
  rfl
theorem mNext {D : List Int} (hn : 0 < (D.length : Int) ∧ (D.length : Int) ≤ 50) (hD : inBytes D) : (memR D).sto.next = D.length ∧ (memR D).sto.off = 0 := by
  have ho : (memR D).sto.off = 0 := by
    show (putF (newS 60) 0 D false).2.off = 0
    rw [put_ok_eq (mOk hn)]; rfl
  refine ⟨next_eq (mSto hn hD) (by rw [ho]; omega) (fun k k1 k2 => ?_) ?_, ho⟩
  · rw [ho] at k1
    rw [mGet hn, if_pos ⟨k1, k2⟩]
    exact Option.some_ne_none _
  · rw [mGet hn, if_neg (by omega)]
theorem mRead {D : List Int} (hn : 0 < (D.length : Int) ∧ (D.length : Int) ≤ 50) (hD : inBytes D) : ((rdF (memR D) 100).1.1 : List Int) = D := by
  obtain ⟨h1, h2⟩ := mNext hn hD
  show ((readF (memR D).sto 100).1.1 : List Int) = D
  unfold readF
  rw [if_neg (by decide)]
  show rdB (memR D).sto.kept (memR D).sto.off (rdN (memR D).sto 100).toNat = D
  have e : (rdN (memR D).sto 100).toNat = D.length := by
    show (min 100 ((memR D).sto.next - (memR D).sto.off)).toNat = D.length
    rw [h1, h2]; omega
  rw [e, h2]
  refine rdB_eq rfl fun i hi => ?_
  rw [mGet hn, if_pos (by omega), Int.zero_add, Int.toNat_natCast]
structure LK (D : List Int) where
  k : Int
  idle : Int
  next : Int
  lo : 0 ≤ k
  hi : k ≤ 3
  a : k < 3 → idle = k ∧ next = D.length
  b : k = 3 → idle = 0 ∧ next = 0
theorem LK.next' {D : List Int} {k : Int} (lo : 0 ≤ k) (hi : k < 3) : ∃ y : LK D, y.k = k + 1 ∧ y.idle = (if k + 1 < 3 then k + 1 else 0) ∧ y.next = (if k + 1 < 3 then (D.length : Int) else 0) := by
  refine ⟨⟨k + 1, if k + 1 < 3 then k + 1 else 0, if k + 1 < 3 then (D.length : Int) else 0, by omega, by omega, fun h => by rw [if_pos h, if_pos h]; exact ⟨rfl, rfl⟩, fun h => by rw [if_neg (by omega), if_neg (by omega)]; exact ⟨rfl, rfl⟩⟩, rfl, rfl, rfl⟩
def memF (_ : List Int) : Tup [DT.cell .bool] := (true, ())
def smemSpec : PureSpec := ⟨[.lst (.int .u8)], fun (x : (List Int) × Unit) => x.1.length ≤ maxLen ∧ inBytes x.1, [.cell .bool], fun (x : (List Int) × Unit) => memF x.1⟩
theorem smem_ok (D : List Int) (h : smemSpec.pre (D, ())) : TmplOk Try.prog AI 4 (argS smemSpec.ds (fun _ => (D, ()))) [] (resOf (svs smemSpec.rs (fun _ => smemSpec.f (D, ())))) [] := by
  dsimp only [smemSpec] at h ⊢
  generalize hr : memF D = r
  obtain ⟨hD0, hD⟩ := h
  dsimp only [memF] at hr
  refine tmpl_of_body emmOk mixed (fn := Try.f4) (c := bodyOf Try.f4) (by kernel_rfl) (by kernel_rfl) (by kernel_rfl) (Nat.le_of_ble_eq_true (by kernel_rfl)) ?_
  (try (conv in (LoopInv.inv _ _) => dsimp only)); (try (conv in (SS.mk _ _) => cbv; (try dsimp only [rcvSpec, rcvF, rrdSpec, newRdrSpec, bcloneSpec, Ty.T, Ty.dflt, KT.T]); (try simp only [natCast_eq])))
  (with_reducible refine (?_ : T1 _ ?_) ?_; rotate_left 1; (conv => lhs; cbv; (try cbv); (try cbv)); intro hT; clear hT; with_reducible refine Sh.mk (by kernel_rfl) ?_)
  repeat' (first
    | with_reducible (first | refine Ck.mk (C := tt) tt_intro ?_ | refine Ck.mk (show drawOk _ _ = true by kernel_rfl) ?_ | refine Ck.all_cons ?_ | refine Ck.all_nil ?_ | refine Ck.mk (by assumption) ?_ | refine Ck.mk (decide_eq_true (by assumption)) ?_ | refine Ck.mk (decide_eq_false (by assumption)) ?_ | refine Ck.mk ?_ ?_)
    | (with_reducible (first | refine Both.mk (fun h => ?_) (fun h => ?_) | refine Alt.mk (fun h => ?_) (fun h => ?_) | refine Pick.mk (fun h => ?_) (fun l1 x l2 h => ?_)) <;> (have hk := h) <;> (try simp only [nrm, reduceCtorEq, pair_eta, map_idL] at h) <;> (try dsimp only [rcvSpec, rcvF, rrdSpec, newRdrSpec, bcloneSpec, Ty.T, Ty.dflt, KT.T, getM, putM, delM] at h) <;> (try simp only [natCast_eq] at h) <;> (try simp only [e1, e2] at h) <;> (try simp only [e5] at h) <;> (try (exfalso; first | exact absurd rfl h | exact absurd trivial h | omega)) <;> (try first | rw [if_pos h] at hr | rw [if_neg h] at hr | rw [ifF h] at hr | rw [ifN h] at hr) <;> (try (have hb : (_ : Bool) = _ := h; clear h; subst hb; (try first | rw [if_pos rfl] at hr | rw [if_neg Bool.false_ne_true] at hr))) <;> first | (exfalso; omega) | exact absurd (h.symm.trans (by assumption) : true = false) Bool.noConfusion | exact absurd (h.symm.trans (by assumption) : false = true) Bool.noConfusion | (with_reducible refine (?_ : T1 _ ?_) ?_; rotate_left 1; (conv => lhs; cbv; (try cbv); (try cbv)); intro hT; clear hT; with_reducible refine Sh.mk (by kernel_rfl) ?_))
    | ((with_reducible refine End.mk ?_); (try ((repeat (first | rw [if_pos (by first | assumption | omega)] at hr | rw [if_neg (by first | assumption | omega | (simp only [Bool.false_eq_true, Bool.true_eq_false, reduceCtorEq, not_false_eq_true]; done) | (simp only [Bool.not_eq_true]; assumption) | (simp only [Bool.not_eq_false]; assumption))] at hr | rw [if_pos rfl] at hr)); subst hr)))
    | with_reducible exact True.intro)
  all_goals first
    | (fail_if_success (with_reducible refine Exists.intro ?_ ?_)
       first
         | with_reducible rfl
         | with_reducible assumption
         | (symm; with_reducible assumption)
         | omega
         | ((try dsimp only [rcvSpec, rcvF, rrdSpec, newRdrSpec, bcloneSpec, Ty.T, Ty.dflt, KT.T, getM, putM, delM, inI64, maxRow]); first | done | with_reducible rfl | with_reducible assumption | (symm; with_reducible assumption) | ((try simp only [natCast_eq, List.nil_append]); first | done | with_reducible rfl | omega | exact take_cg (by omega) | exact drop_cg (by omega) | exact take_drop_cg (by omega) (by omega) | exact take_all (by omega) | exact take_drop_all (by omega) (by omega) | exact drop_take_cg (by omega) (by omega) (by omega)))
         | ((try dsimp only [rcvSpec, rcvF, rrdSpec, newRdrSpec, bcloneSpec, Ty.T, Ty.dflt, KT.T, getM, putM, delM, inI64, maxRow]); first | (simp only [nrm, reduceCtorEq, pair_eta, map_idL, natCast_eq, inI64, maxRow]; first | done | with_reducible assumption | omega) | exact map_pair_id _)
         | ((try dsimp only [rcvSpec, rcvF, rrdSpec, newRdrSpec, bcloneSpec, Ty.T, Ty.dflt, KT.T, getM, putM, delM, inI64, maxRow] at *); first | ((try simp only [natCast_eq] at *) <;> omega) | ((try simp only [lens, natCast_eq] at *) <;> omega))
         | assumption
         | (symm; assumption)
         | (dsimp only; simp only [nrb, *]; done)
         | (simp; done)
         | (and_intros <;> first | trivial | with_reducible assumption | omega)
         | ((try dsimp only [rcvSpec, rcvF, rrdSpec, newRdrSpec, bcloneSpec, Ty.T, Ty.dflt, KT.T, getM, putM, delM, inI64, maxRow] at *) <;> simp [*] <;> done))
    | skip
  · refine ⟨?_, fun e => ?_⟩
    · have : (D.length : Int) ≤ 50 := by omega
      show D.length ≤ 1099511627776; omega
    · have e : D = [] := e
      subst e
      rename_i h _; exact absurd rfl h
  have hn : 0 < (D.length : Int) ∧ (D.length : Int) ≤ 50 := by omega
  obtain ⟨x0, hx0, hx1⟩ : ∃ x : LB D, x.i = 0 ∧ x.L = D := ⟨⟨0, D, Int.le_refl _, by omega, rfl⟩, rfl, rfl⟩
  refine ⟨⟨LB D, fun x => ⟨[(0, Sx.one (.ro (.int .u8) (fun _ => D))), (3, Sx.one (.ptr 0 0)), (5, Sx.one (.ptr 1 0)), (7, Sx.one (.hd 2 0)), (58, Sx.one (.hd 2 0)), (59, Sx.one (.int .i64 (fun _ => D.length))), (60, Sx.one (.int .i64 (fun _ => x.i)))],
    [.cells 85 [.li .i64 60, .li .i64 3, .hd 3 0, .int .i64 (fun _ => D.length), .li .i64 0, .li .i64 0, .li .i64 0, .li .i64 60, .li .i64 0, .lb false, .lb false, .lb false, .lb false],
     .abs (.rdr (fun _ => ⟨newS 60, 60⟩)), .row 5 (.int .u8) 0 (fun _ => x.L), .row 5 (.int .u8) 0 (fun _ => D)]⟩, fun x => (D.length - x.i).toNat, x0⟩, ?_, fun (x : LB D) => ?_⟩
  · (try (conv in (LoopInv.inv _ _) => dsimp only)); (try (conv in (SS.mk _ _) => cbv; (try dsimp only [rcvSpec, rcvF, rrdSpec, newRdrSpec, bcloneSpec, Ty.T, Ty.dflt, KT.T]); (try simp only [natCast_eq])))
    (with_reducible refine (?_ : T1 _ ?_) ?_; rotate_left 1; (conv => lhs; cbv; (try cbv); (try cbv)); intro hT; clear hT; with_reducible refine Sh.mk (by kernel_rfl) ?_)
    repeat' (first
      | with_reducible (first | refine Ck.mk (C := tt) tt_intro ?_ | refine Ck.mk (show drawOk _ _ = true by kernel_rfl) ?_ | refine Ck.all_cons ?_ | refine Ck.all_nil ?_ | refine Ck.mk (by assumption) ?_ | refine Ck.mk (decide_eq_true (by assumption)) ?_ | refine Ck.mk (decide_eq_false (by assumption)) ?_ | refine Ck.mk ?_ ?_)
      | (with_reducible (first | refine Both.mk (fun h => ?_) (fun h => ?_) | refine Alt.mk (fun h => ?_) (fun h => ?_) | refine Pick.mk (fun h => ?_) (fun l1 x l2 h => ?_)) <;> (have hk := h) <;> (try simp only [nrm, reduceCtorEq, pair_eta, map_idL] at h) <;> (try dsimp only [rcvSpec, rcvF, rrdSpec, newRdrSpec, bcloneSpec, Ty.T, Ty.dflt, KT.T, getM, putM, delM] at h) <;> (try simp only [natCast_eq] at h) <;> (try simp only [e1, e2] at h) <;> (try simp only [e5] at h) <;> (try (exfalso; first | exact absurd rfl h | exact absurd trivial h | omega)) <;> (try first | rw [if_pos h] at hr | rw [if_neg h] at hr | rw [ifF h] at hr | rw [ifN h] at hr) <;> (try (have hb : (_ : Bool) = _ := h; clear h; subst hb; (try first | rw [if_pos rfl] at hr | rw [if_neg Bool.false_ne_true] at hr))) <;> first | (exfalso; omega) | exact absurd (h.symm.trans (by assumption) : true = false) Bool.noConfusion | exact absurd (h.symm.trans (by assumption) : false = true) Bool.noConfusion | (with_reducible refine (?_ : T1 _ ?_) ?_; rotate_left 1; (conv => lhs; cbv; (try cbv); (try cbv)); intro hT; clear hT; with_reducible refine Sh.mk (by kernel_rfl) ?_))
      | ((with_reducible refine End.mk ?_); skip)
      | with_reducible exact True.intro)
    all_goals first
      | (fail_if_success (with_reducible refine Exists.intro ?_ ?_)
         first
           | with_reducible rfl
           | with_reducible assumption
           | (symm; with_reducible assumption)
           | omega
           | ((try dsimp only [rcvSpec, rcvF, rrdSpec, newRdrSpec, bcloneSpec, Ty.T, Ty.dflt, KT.T, getM, putM, delM, inI64, maxRow]); first | done | with_reducible rfl | with_reducible assumption | (symm; with_reducible assumption) | ((try simp only [natCast_eq, List.nil_append]); first | done | with_reducible rfl | omega | exact take_cg (by omega) | exact drop_cg (by omega) | exact take_drop_cg (by omega) (by omega) | exact take_all (by omega) | exact take_drop_all (by omega) (by omega) | exact drop_take_cg (by omega) (by omega) (by omega)))
           | first | exact hx0.symm | exact hx1.symm | (show (0 : Int) + min (min (D.length : Int) (60 - (0 - 0))) (1048576 - 0) = D.length; omega) | (show (D.drop (Int.toNat 0)).take (min (min (D.length : Int) (60 - (0 - 0))) (1048576 - 0) - 0).toNat = D; rw [Int.toNat_zero, List.drop_zero]; exact take_all (by omega))
           | ((try dsimp only [rcvSpec, rcvF, rrdSpec, newRdrSpec, bcloneSpec, Ty.T, Ty.dflt, KT.T, getM, putM, delM, inI64, maxRow]); first | (simp only [nrm, reduceCtorEq, pair_eta, map_idL, natCast_eq, inI64, maxRow]; first | done | with_reducible assumption | omega) | exact map_pair_id _)
           | ((try dsimp only [rcvSpec, rcvF, rrdSpec, newRdrSpec, bcloneSpec, Ty.T, Ty.dflt, KT.T, getM, putM, delM, inI64, maxRow] at *); first | ((try simp only [natCast_eq] at *) <;> omega) | ((try simp only [lens, natCast_eq] at *) <;> omega))
           | assumption
           | (symm; assumption)
           | (dsimp only; simp only [nrb, *]; done)
           | (simp; done)
           | (and_intros <;> first | trivial | with_reducible assumption | omega)
           | ((try dsimp only [rcvSpec, rcvF, rrdSpec, newRdrSpec, bcloneSpec, Ty.T, Ty.dflt, KT.T, getM, putM, delM, inI64, maxRow] at *) <;> simp [*] <;> done))
      | skip
  obtain ⟨i, B, hlo, hhi, hB⟩ := x
  by_cases hi : i < (D.length : Int)
  · skip
    (try (conv in (LoopInv.inv _ _) => dsimp only)); (try (conv in (SS.mk _ _) => cbv; (try dsimp only [rcvSpec, rcvF, rrdSpec, newRdrSpec, bcloneSpec, Ty.T, Ty.dflt, KT.T]); (try simp only [natCast_eq])))
    (with_reducible refine (?_ : T1 _ ?_) ?_; rotate_left 1; (conv => lhs; cbv; (try cbv); (try cbv)); intro hT; clear hT; with_reducible refine Sh.mk (by kernel_rfl) ?_)
    repeat' (first
      | with_reducible (first | refine Ck.mk (C := tt) tt_intro ?_ | refine Ck.mk (show drawOk _ _ = true by kernel_rfl) ?_ | refine Ck.all_cons ?_ | refine Ck.all_nil ?_ | refine Ck.mk (by assumption) ?_ | refine Ck.mk (decide_eq_true (by assumption)) ?_ | refine Ck.mk (decide_eq_false (by assumption)) ?_ | refine Ck.mk ?_ ?_)
      | (with_reducible (first | refine Both.mk (fun h => ?_) (fun h => ?_) | refine Alt.mk (fun h => ?_) (fun h => ?_) | refine Pick.mk (fun h => ?_) (fun l1 x l2 h => ?_)) <;> (have hk := h) <;> (try simp only [nrm, reduceCtorEq, pair_eta, map_idL] at h) <;> (try dsimp only [rcvSpec, rcvF, rrdSpec, newRdrSpec, bcloneSpec, Ty.T, Ty.dflt, KT.T, getM, putM, delM] at h) <;> (try simp only [natCast_eq] at h) <;> (try simp only [e1, e2] at h) <;> (try simp only [e5] at h) <;> (try (exfalso; first | exact absurd rfl h | exact absurd trivial h | omega)) <;> (try first | rw [if_pos h] at hr | rw [if_neg h] at hr | rw [ifF h] at hr | rw [ifN h] at hr) <;> (try (have hb : (_ : Bool) = _ := h; clear h; subst hb; (try first | rw [if_pos rfl] at hr | rw [if_neg Bool.false_ne_true] at hr))) <;> first | (exfalso; omega) | exact absurd (h.symm.trans (by assumption) : true = false) Bool.noConfusion | exact absurd (h.symm.trans (by assumption) : false = true) Bool.noConfusion | (with_reducible refine (?_ : T1 _ ?_) ?_; rotate_left 1; (conv => lhs; cbv; (try cbv); (try cbv)); intro hT; clear hT; with_reducible refine Sh.mk (by kernel_rfl) ?_))
      | ((with_reducible refine End.mk ?_); skip)
      | with_reducible exact True.intro)
    all_goals first
      | (fail_if_success (with_reducible refine Exists.intro ?_ ?_)
         first
           | with_reducible rfl
           | with_reducible assumption
           | (symm; with_reducible assumption)
           | omega
           | ((try dsimp only [rcvSpec, rcvF, rrdSpec, newRdrSpec, bcloneSpec, Ty.T, Ty.dflt, KT.T, getM, putM, delM, inI64, maxRow]); first | done | with_reducible rfl | with_reducible assumption | (symm; with_reducible assumption) | ((try simp only [natCast_eq, List.nil_append]); first | done | with_reducible rfl | omega | exact take_cg (by omega) | exact drop_cg (by omega) | exact take_drop_cg (by omega) (by omega) | exact take_all (by omega) | exact take_drop_all (by omega) (by omega) | exact drop_take_cg (by omega) (by omega) (by omega)))
           | ((try dsimp only [rcvSpec, rcvF, rrdSpec, newRdrSpec, bcloneSpec, Ty.T, Ty.dflt, KT.T, getM, putM, delM, inI64, maxRow]); first | (simp only [nrm, reduceCtorEq, pair_eta, map_idL, natCast_eq, inI64, maxRow]; first | done | with_reducible assumption | omega) | exact map_pair_id _)
           | ((try dsimp only [rcvSpec, rcvF, rrdSpec, newRdrSpec, bcloneSpec, Ty.T, Ty.dflt, KT.T, getM, putM, delM, inI64, maxRow] at *); first | ((try simp only [natCast_eq] at *) <;> omega) | ((try simp only [lens, natCast_eq] at *) <;> omega))
           | assumption
           | (symm; assumption)
           | (dsimp only; simp only [nrb, *]; done)
           | (simp; done)
           | (and_intros <;> first | trivial | with_reducible assumption | omega)
           | ((try dsimp only [rcvSpec, rcvF, rrdSpec, newRdrSpec, bcloneSpec, Ty.T, Ty.dflt, KT.T, getM, putM, delM, inI64, maxRow] at *) <;> simp [*] <;> done))
      | skip
    all_goals
      (refine Exists.elim (LB.next (D := D) hlo hi (B := B.set i.toNat ((B.getD i.toNat 0 + 1) % 256)) (by rw [List.length_set]; exact hB)) ?_
       rintro y ⟨hy0, hy1⟩
       refine ⟨y, by (try dsimp only); (try simp only [natCast_eq]); omega, ?_⟩
       (try (conv in (LoopInv.inv _ _) => dsimp only)); (try (conv in (SS.mk _ _) => cbv; (try dsimp only [rcvSpec, rcvF, rrdSpec, newRdrSpec, bcloneSpec, Ty.T, Ty.dflt, KT.T]); (try simp only [natCast_eq])))
       (with_reducible refine (?_ : T1 _ ?_) ?_; rotate_left 1; (conv => lhs; cbv; (try cbv); (try cbv)); intro hT; clear hT; with_reducible refine Sh.mk (by kernel_rfl) ?_)
       repeat' (first
         | with_reducible (first | refine Ck.mk (C := tt) tt_intro ?_ | refine Ck.mk (show drawOk _ _ = true by kernel_rfl) ?_ | refine Ck.all_cons ?_ | refine Ck.all_nil ?_ | refine Ck.mk (by assumption) ?_ | refine Ck.mk (decide_eq_true (by assumption)) ?_ | refine Ck.mk (decide_eq_false (by assumption)) ?_ | refine Ck.mk ?_ ?_)
         | (with_reducible (first | refine Both.mk (fun h => ?_) (fun h => ?_) | refine Alt.mk (fun h => ?_) (fun h => ?_) | refine Pick.mk (fun h => ?_) (fun l1 x l2 h => ?_)) <;> (have hk := h) <;> (try simp only [nrm, reduceCtorEq, pair_eta, map_idL] at h) <;> (try dsimp only [rcvSpec, rcvF, rrdSpec, newRdrSpec, bcloneSpec, Ty.T, Ty.dflt, KT.T, getM, putM, delM] at h) <;> (try simp only [natCast_eq] at h) <;> (try simp only [e1, e2] at h) <;> (try simp only [e5] at h) <;> (try (exfalso; first | exact absurd rfl h | exact absurd trivial h | omega)) <;> (try first | rw [if_pos h] at hr | rw [if_neg h] at hr | rw [ifF h] at hr | rw [ifN h] at hr) <;> (try (have hb : (_ : Bool) = _ := h; clear h; subst hb; (try first | rw [if_pos rfl] at hr | rw [if_neg Bool.false_ne_true] at hr))) <;> first | (exfalso; omega) | exact absurd (h.symm.trans (by assumption) : true = false) Bool.noConfusion | exact absurd (h.symm.trans (by assumption) : false = true) Bool.noConfusion | (with_reducible refine (?_ : T1 _ ?_) ?_; rotate_left 1; (conv => lhs; cbv; (try cbv); (try cbv)); intro hT; clear hT; with_reducible refine Sh.mk (by kernel_rfl) ?_))
         | ((with_reducible refine End.mk ?_); skip)
         | with_reducible exact True.intro)
       all_goals first
         | (fail_if_success (with_reducible refine Exists.intro ?_ ?_)
            first
              | with_reducible rfl
              | with_reducible assumption
              | (symm; with_reducible assumption)
              | omega
              | ((try dsimp only [rcvSpec, rcvF, rrdSpec, newRdrSpec, bcloneSpec, Ty.T, Ty.dflt, KT.T, getM, putM, delM, inI64, maxRow]); first | done | with_reducible rfl | with_reducible assumption | (symm; with_reducible assumption) | ((try simp only [natCast_eq, List.nil_append]); first | done | with_reducible rfl | omega | exact take_cg (by omega) | exact drop_cg (by omega) | exact take_drop_cg (by omega) (by omega) | exact take_all (by omega) | exact take_drop_all (by omega) (by omega) | exact drop_take_cg (by omega) (by omega) (by omega)))
              | first | exact hy0.symm | exact hy1.symm
              | ((try dsimp only [rcvSpec, rcvF, rrdSpec, newRdrSpec, bcloneSpec, Ty.T, Ty.dflt, KT.T, getM, putM, delM, inI64, maxRow]); first | (simp only [nrm, reduceCtorEq, pair_eta, map_idL, natCast_eq, inI64, maxRow]; first | done | with_reducible assumption | omega) | exact map_pair_id _)
              | ((try dsimp only [rcvSpec, rcvF, rrdSpec, newRdrSpec, bcloneSpec, Ty.T, Ty.dflt, KT.T, getM, putM, delM, inI64, maxRow] at *); first | ((try simp only [natCast_eq] at *) <;> omega) | ((try simp only [lens, natCast_eq] at *) <;> omega))
              | assumption
              | (symm; assumption)
              | (dsimp only; simp only [nrb, *]; done)
              | (simp; done)
              | (and_intros <;> first | trivial | with_reducible assumption | omega)
              | ((try dsimp only [rcvSpec, rcvF, rrdSpec, newRdrSpec, bcloneSpec, Ty.T, Ty.dflt, KT.T, getM, putM, delM, inI64, maxRow] at *) <;> simp [*] <;> done))
         | skip
       skip)
  · have e1 := clone_all (D := D) hn
    have e2 := mPut hn hD
    have e4 := mSto hn hD
    skip
    (try (conv in (LoopInv.inv _ _) => dsimp only)); (try (conv in (SS.mk _ _) => cbv; (try dsimp only [rcvSpec, rcvF, rrdSpec, newRdrSpec, bcloneSpec, Ty.T, Ty.dflt, KT.T]); (try simp only [natCast_eq])))
    (with_reducible refine (?_ : T1 _ ?_) ?_; rotate_left 1; (conv => lhs; cbv; (try cbv); (try cbv)); intro hT; clear hT; with_reducible refine Sh.mk (by kernel_rfl) ?_)
    repeat' (first
      | with_reducible (first | refine Ck.mk (C := tt) tt_intro ?_ | refine Ck.mk (show drawOk _ _ = true by kernel_rfl) ?_ | refine Ck.all_cons ?_ | refine Ck.all_nil ?_ | refine Ck.mk (by assumption) ?_ | refine Ck.mk (decide_eq_true (by assumption)) ?_ | refine Ck.mk (decide_eq_false (by assumption)) ?_ | refine Ck.mk ?_ ?_)
      | (with_reducible (first | refine Both.mk (fun h => ?_) (fun h => ?_) | refine Alt.mk (fun h => ?_) (fun h => ?_) | refine Pick.mk (fun h => ?_) (fun l1 x l2 h => ?_)) <;> (have hk := h) <;> (try simp only [nrm, reduceCtorEq, pair_eta, map_idL] at h) <;> (try dsimp only [rcvSpec, rcvF, rrdSpec, newRdrSpec, bcloneSpec, Ty.T, Ty.dflt, KT.T, getM, putM, delM] at h) <;> (try simp only [natCast_eq] at h) <;> (try simp only [e1, e2] at h) <;> (try simp only [e5] at h) <;> (try (exfalso; first | exact absurd rfl h | exact absurd trivial h | omega)) <;> (try first | rw [if_pos h] at hr | rw [if_neg h] at hr | rw [ifF h] at hr | rw [ifN h] at hr) <;> (try (have hb : (_ : Bool) = _ := h; clear h; subst hb; (try first | rw [if_pos rfl] at hr | rw [if_neg Bool.false_ne_true] at hr))) <;> first | (exfalso; omega) | exact absurd (h.symm.trans (by assumption) : true = false) Bool.noConfusion | exact absurd (h.symm.trans (by assumption) : false = true) Bool.noConfusion | (with_reducible refine (?_ : T1 _ ?_) ?_; rotate_left 1; (conv => lhs; cbv; (try cbv); (try cbv)); intro hT; clear hT; with_reducible refine Sh.mk (by kernel_rfl) ?_))
      | ((with_reducible refine End.mk ?_); skip)
      | with_reducible exact True.intro)
    all_goals first
      | (fail_if_success (with_reducible refine Exists.intro ?_ ?_)
         first
           | with_reducible rfl
           | with_reducible assumption
           | (symm; with_reducible assumption)
           | omega
           | ((try dsimp only [rcvSpec, rcvF, rrdSpec, newRdrSpec, bcloneSpec, Ty.T, Ty.dflt, KT.T, getM, putM, delM, inI64, maxRow]); first | done | with_reducible rfl | with_reducible assumption | (symm; with_reducible assumption) | ((try simp only [natCast_eq, List.nil_append]); first | done | with_reducible rfl | omega | exact take_cg (by omega) | exact drop_cg (by omega) | exact take_drop_cg (by omega) (by omega) | exact take_all (by omega) | exact take_drop_all (by omega) (by omega) | exact drop_take_cg (by omega) (by omega) (by omega)))
           | first | (rw [show List.take _ _ = D from e1]; exact ⟨hD, hD⟩) | (refine And.intro (newS_ok (by decide) (by decide)).pre ?_; refine Nat.le_trans (Nat.le_of_eq (congrArg List.length e1)) ?_; omega)
           | ((try dsimp only [rcvSpec, rcvF, rrdSpec, newRdrSpec, bcloneSpec, Ty.T, Ty.dflt, KT.T, getM, putM, delM, inI64, maxRow]); first | (simp only [nrm, reduceCtorEq, pair_eta, map_idL, natCast_eq, inI64, maxRow]; first | done | with_reducible assumption | omega) | exact map_pair_id _)
           | ((try dsimp only [rcvSpec, rcvF, rrdSpec, newRdrSpec, bcloneSpec, Ty.T, Ty.dflt, KT.T, getM, putM, delM, inI64, maxRow] at *); first | ((try simp only [natCast_eq] at *) <;> omega) | ((try simp only [lens, natCast_eq] at *) <;> omega))
           | assumption
           | (symm; assumption)
           | (dsimp only; simp only [nrb, *]; done)
           | (simp; done)
           | (and_intros <;> first | trivial | with_reducible assumption | omega)
           | ((try dsimp only [rcvSpec, rcvF, rrdSpec, newRdrSpec, bcloneSpec, Ty.T, Ty.dflt, KT.T, getM, putM, delM, inI64, maxRow] at *) <;> simp [*] <;> done))
      | skip
    all_goals
      (obtain ⟨z0, hz0, hz1⟩ : ∃ x : LB D, x.i = 0 ∧ x.L = D := ⟨⟨0, D, Int.le_refl _, by omega, rfl⟩, rfl, rfl⟩
       dsimp only
       refine ⟨⟨LB D, fun x => ⟨[(0, Sx.one (.ro (.int .u8) (fun _ => D))), (3, Sx.one (.ptr 0 0)), (5, Sx.one (.ptr 1 0)), (11, Sx.one (.ptr 12 0)), (92, Sx.one (.int .i64 (fun _ => D.length))), (93, Sx.one (.int .i64 (fun _ => x.i)))],
         [.cells 85 [.li .i64 60, .li .i64 3, .hd 3 0, .int .i64 (fun _ => D.length), .li .i64 0, .int .i64 (fun _ => D.length), .int .i64 (fun _ => D.length), .li .i64 60, .li .i64 0, .lb false, .lb false, .lb false, .lb false],
          .abs (.rdr (fun _ => memR D)), .gone, .row 5 (.int .u8) 0 (fun _ => D), .gone, .gone, .row 5 (.int .u8) 0 (fun _ => x.L), .gone, .gone, .gone, .gone, .gone, .cells 39 [.li .i64 0, .hd 6 0, .lb false]]⟩, fun x => (D.length - x.i).toNat, z0⟩, ?_, fun (x : LB D) => ?_⟩
       · (try (conv in (LoopInv.inv _ _) => dsimp only)); (try (conv in (SS.mk _ _) => cbv; (try dsimp only [rcvSpec, rcvF, rrdSpec, newRdrSpec, bcloneSpec, Ty.T, Ty.dflt, KT.T]); (try simp only [natCast_eq])))
         (with_reducible refine (?_ : T1 _ ?_) ?_; rotate_left 1; (conv => lhs; cbv; (try cbv); (try cbv)); intro hT; clear hT; with_reducible refine Sh.mk (by kernel_rfl) ?_)
         repeat' (first
           | with_reducible (first | refine Ck.mk (C := tt) tt_intro ?_ | refine Ck.mk (show drawOk _ _ = true by kernel_rfl) ?_ | refine Ck.all_cons ?_ | refine Ck.all_nil ?_ | refine Ck.mk (by assumption) ?_ | refine Ck.mk (decide_eq_true (by assumption)) ?_ | refine Ck.mk (decide_eq_false (by assumption)) ?_ | refine Ck.mk ?_ ?_)
           | (with_reducible (first | refine Both.mk (fun h => ?_) (fun h => ?_) | refine Alt.mk (fun h => ?_) (fun h => ?_) | refine Pick.mk (fun h => ?_) (fun l1 x l2 h => ?_)) <;> (have hk := h) <;> (try simp only [nrm, reduceCtorEq, pair_eta, map_idL] at h) <;> (try dsimp only [rcvSpec, rcvF, rrdSpec, newRdrSpec, bcloneSpec, Ty.T, Ty.dflt, KT.T, getM, putM, delM] at h) <;> (try simp only [natCast_eq] at h) <;> (try simp only [e1, e2] at h) <;> (try simp only [e5] at h) <;> (try (exfalso; first | exact absurd rfl h | exact absurd trivial h | omega)) <;> (try first | rw [if_pos h] at hr | rw [if_neg h] at hr | rw [ifF h] at hr | rw [ifN h] at hr) <;> (try (have hb : (_ : Bool) = _ := h; clear h; subst hb; (try first | rw [if_pos rfl] at hr | rw [if_neg Bool.false_ne_true] at hr))) <;> first | (exfalso; omega) | exact absurd (h.symm.trans (by assumption) : true = false) Bool.noConfusion | exact absurd (h.symm.trans (by assumption) : false = true) Bool.noConfusion | (with_reducible refine (?_ : T1 _ ?_) ?_; rotate_left 1; (conv => lhs; cbv; (try cbv); (try cbv)); intro hT; clear hT; with_reducible refine Sh.mk (by kernel_rfl) ?_))
           | ((with_reducible refine End.mk ?_); skip)
           | with_reducible exact True.intro)
         all_goals first
           | (fail_if_success (with_reducible refine Exists.intro ?_ ?_)
              first
                | with_reducible rfl
                | with_reducible assumption
                | (symm; with_reducible assumption)
                | omega
                | ((try dsimp only [rcvSpec, rcvF, rrdSpec, newRdrSpec, bcloneSpec, Ty.T, Ty.dflt, KT.T, getM, putM, delM, inI64, maxRow]); first | done | with_reducible rfl | with_reducible assumption | (symm; with_reducible assumption) | ((try simp only [natCast_eq, List.nil_append]); first | done | with_reducible rfl | omega | exact take_cg (by omega) | exact drop_cg (by omega) | exact take_drop_cg (by omega) (by omega) | exact take_all (by omega) | exact take_drop_all (by omega) (by omega) | exact drop_take_cg (by omega) (by omega) (by omega)))
                | first | exact hz0.symm | (show (0 : Int) + min (min 60 ((D.length : Int) - 0)) (0 + 60 - 0) = D.length; omega) | (show max (0 : Int) (0 + min (min 60 ((D.length : Int) - 0)) (0 + 60 - 0)) = D.length; omega) | (rw [hz1]; exact e1) | (dsimp only; rw [e1]; rfl)
                | ((try dsimp only [rcvSpec, rcvF, rrdSpec, newRdrSpec, bcloneSpec, Ty.T, Ty.dflt, KT.T, getM, putM, delM, inI64, maxRow]); first | (simp only [nrm, reduceCtorEq, pair_eta, map_idL, natCast_eq, inI64, maxRow]; first | done | with_reducible assumption | omega) | exact map_pair_id _)
                | ((try dsimp only [rcvSpec, rcvF, rrdSpec, newRdrSpec, bcloneSpec, Ty.T, Ty.dflt, KT.T, getM, putM, delM, inI64, maxRow] at *); first | ((try simp only [natCast_eq] at *) <;> omega) | ((try simp only [lens, natCast_eq] at *) <;> omega))
                | assumption
                | (symm; assumption)
                | (dsimp only; simp only [nrb, *]; done)
                | (simp; done)
                | (and_intros <;> first | trivial | with_reducible assumption | omega)
                | ((try dsimp only [rcvSpec, rcvF, rrdSpec, newRdrSpec, bcloneSpec, Ty.T, Ty.dflt, KT.T, getM, putM, delM, inI64, maxRow] at *) <;> simp [*] <;> done))
           | skip
         skip
       obtain ⟨j, C, jlo, jhi, hC⟩ := x
       by_cases hj : j < (D.length : Int)
       · skip
         (try (conv in (LoopInv.inv _ _) => dsimp only)); (try (conv in (SS.mk _ _) => cbv; (try dsimp only [rcvSpec, rcvF, rrdSpec, newRdrSpec, bcloneSpec, Ty.T, Ty.dflt, KT.T]); (try simp only [natCast_eq])))
         (with_reducible refine (?_ : T1 _ ?_) ?_; rotate_left 1; (conv => lhs; cbv; (try cbv); (try cbv)); intro hT; clear hT; with_reducible refine Sh.mk (by kernel_rfl) ?_)
         repeat' (first
           | with_reducible (first | refine Ck.mk (C := tt) tt_intro ?_ | refine Ck.mk (show drawOk _ _ = true by kernel_rfl) ?_ | refine Ck.all_cons ?_ | refine Ck.all_nil ?_ | refine Ck.mk (by assumption) ?_ | refine Ck.mk (decide_eq_true (by assumption)) ?_ | refine Ck.mk (decide_eq_false (by assumption)) ?_ | refine Ck.mk ?_ ?_)
           | (with_reducible (first | refine Both.mk (fun h => ?_) (fun h => ?_) | refine Alt.mk (fun h => ?_) (fun h => ?_) | refine Pick.mk (fun h => ?_) (fun l1 x l2 h => ?_)) <;> (have hk := h) <;> (try simp only [nrm, reduceCtorEq, pair_eta, map_idL] at h) <;> (try dsimp only [rcvSpec, rcvF, rrdSpec, newRdrSpec, bcloneSpec, Ty.T, Ty.dflt, KT.T, getM, putM, delM] at h) <;> (try simp only [natCast_eq] at h) <;> (try simp only [e1, e2] at h) <;> (try simp only [e5] at h) <;> (try (exfalso; first | exact absurd rfl h | exact absurd trivial h | omega)) <;> (try first | rw [if_pos h] at hr | rw [if_neg h] at hr | rw [ifF h] at hr | rw [ifN h] at hr) <;> (try (have hb : (_ : Bool) = _ := h; clear h; subst hb; (try first | rw [if_pos rfl] at hr | rw [if_neg Bool.false_ne_true] at hr))) <;> first | (exfalso; omega) | exact absurd (h.symm.trans (by assumption) : true = false) Bool.noConfusion | exact absurd (h.symm.trans (by assumption) : false = true) Bool.noConfusion | (with_reducible refine (?_ : T1 _ ?_) ?_; rotate_left 1; (conv => lhs; cbv; (try cbv); (try cbv)); intro hT; clear hT; with_reducible refine Sh.mk (by kernel_rfl) ?_))
           | ((with_reducible refine End.mk ?_); skip)
           | with_reducible exact True.intro)
         all_goals first
           | (fail_if_success (with_reducible refine Exists.intro ?_ ?_)
              first
                | with_reducible rfl
                | with_reducible assumption
                | (symm; with_reducible assumption)
                | omega
                | ((try dsimp only [rcvSpec, rcvF, rrdSpec, newRdrSpec, bcloneSpec, Ty.T, Ty.dflt, KT.T, getM, putM, delM, inI64, maxRow]); first | done | with_reducible rfl | with_reducible assumption | (symm; with_reducible assumption) | ((try simp only [natCast_eq, List.nil_append]); first | done | with_reducible rfl | omega | exact take_cg (by omega) | exact drop_cg (by omega) | exact take_drop_cg (by omega) (by omega) | exact take_all (by omega) | exact take_drop_all (by omega) (by omega) | exact drop_take_cg (by omega) (by omega) (by omega)))
                | ((try dsimp only [rcvSpec, rcvF, rrdSpec, newRdrSpec, bcloneSpec, Ty.T, Ty.dflt, KT.T, getM, putM, delM, inI64, maxRow]); first | (simp only [nrm, reduceCtorEq, pair_eta, map_idL, natCast_eq, inI64, maxRow]; first | done | with_reducible assumption | omega) | exact map_pair_id _)
                | ((try dsimp only [rcvSpec, rcvF, rrdSpec, newRdrSpec, bcloneSpec, Ty.T, Ty.dflt, KT.T, getM, putM, delM, inI64, maxRow] at *); first | ((try simp only [natCast_eq] at *) <;> omega) | ((try simp only [lens, natCast_eq] at *) <;> omega))
                | assumption
                | (symm; assumption)
                | (dsimp only; simp only [nrb, *]; done)
                | (simp; done)
                | (and_intros <;> first | trivial | with_reducible assumption | omega)
                | ((try dsimp only [rcvSpec, rcvF, rrdSpec, newRdrSpec, bcloneSpec, Ty.T, Ty.dflt, KT.T, getM, putM, delM, inI64, maxRow] at *) <;> simp [*] <;> done))
           | skip
         all_goals
           (refine Exists.elim (LB.next (D := D) jlo hj (B := C.set j.toNat ((C.getD j.toNat 0 + 1) % 256)) (by rw [List.length_set]; exact hC)) ?_
            rintro y ⟨hy0, hy1⟩
            refine ⟨y, by (try dsimp only); (try simp only [natCast_eq]); omega, ?_⟩
            (try (conv in (LoopInv.inv _ _) => dsimp only)); (try (conv in (SS.mk _ _) => cbv; (try dsimp only [rcvSpec, rcvF, rrdSpec, newRdrSpec, bcloneSpec, Ty.T, Ty.dflt, KT.T]); (try simp only [natCast_eq])))
            (with_reducible refine (?_ : T1 _ ?_) ?_; rotate_left 1; (conv => lhs; cbv; (try cbv); (try cbv)); intro hT; clear hT; with_reducible refine Sh.mk (by kernel_rfl) ?_)
            repeat' (first
              | with_reducible (first | refine Ck.mk (C := tt) tt_intro ?_ | refine Ck.mk (show drawOk _ _ = true by kernel_rfl) ?_ | refine Ck.all_cons ?_ | refine Ck.all_nil ?_ | refine Ck.mk (by assumption) ?_ | refine Ck.mk (decide_eq_true (by assumption)) ?_ | refine Ck.mk (decide_eq_false (by assumption)) ?_ | refine Ck.mk ?_ ?_)
              | (with_reducible (first | refine Both.mk (fun h => ?_) (fun h => ?_) | refine Alt.mk (fun h => ?_) (fun h => ?_) | refine Pick.mk (fun h => ?_) (fun l1 x l2 h => ?_)) <;> (have hk := h) <;> (try simp only [nrm, reduceCtorEq, pair_eta, map_idL] at h) <;> (try dsimp only [rcvSpec, rcvF, rrdSpec, newRdrSpec, bcloneSpec, Ty.T, Ty.dflt, KT.T, getM, putM, delM] at h) <;> (try simp only [natCast_eq] at h) <;> (try simp only [e1, e2] at h) <;> (try simp only [e5] at h) <;> (try (exfalso; first | exact absurd rfl h | exact absurd trivial h | omega)) <;> (try first | rw [if_pos h] at hr | rw [if_neg h] at hr | rw [ifF h] at hr | rw [ifN h] at hr) <;> (try (have hb : (_ : Bool) = _ := h; clear h; subst hb; (try first | rw [if_pos rfl] at hr | rw [if_neg Bool.false_ne_true] at hr))) <;> first | (exfalso; omega) | exact absurd (h.symm.trans (by assumption) : true = false) Bool.noConfusion | exact absurd (h.symm.trans (by assumption) : false = true) Bool.noConfusion | (with_reducible refine (?_ : T1 _ ?_) ?_; rotate_left 1; (conv => lhs; cbv; (try cbv); (try cbv)); intro hT; clear hT; with_reducible refine Sh.mk (by kernel_rfl) ?_))
              | ((with_reducible refine End.mk ?_); skip)
              | with_reducible exact True.intro)
            all_goals first
              | (fail_if_success (with_reducible refine Exists.intro ?_ ?_)
                 first
                   | with_reducible rfl
                   | with_reducible assumption
                   | (symm; with_reducible assumption)
                   | omega
                   | ((try dsimp only [rcvSpec, rcvF, rrdSpec, newRdrSpec, bcloneSpec, Ty.T, Ty.dflt, KT.T, getM, putM, delM, inI64, maxRow]); first | done | with_reducible rfl | with_reducible assumption | (symm; with_reducible assumption) | ((try simp only [natCast_eq, List.nil_append]); first | done | with_reducible rfl | omega | exact take_cg (by omega) | exact drop_cg (by omega) | exact take_drop_cg (by omega) (by omega) | exact take_all (by omega) | exact take_drop_all (by omega) (by omega) | exact drop_take_cg (by omega) (by omega) (by omega)))
                   | first | exact hy0.symm | exact hy1.symm
                   | ((try dsimp only [rcvSpec, rcvF, rrdSpec, newRdrSpec, bcloneSpec, Ty.T, Ty.dflt, KT.T, getM, putM, delM, inI64, maxRow]); first | (simp only [nrm, reduceCtorEq, pair_eta, map_idL, natCast_eq, inI64, maxRow]; first | done | with_reducible assumption | omega) | exact map_pair_id _)
                   | ((try dsimp only [rcvSpec, rcvF, rrdSpec, newRdrSpec, bcloneSpec, Ty.T, Ty.dflt, KT.T, getM, putM, delM, inI64, maxRow] at *); first | ((try simp only [natCast_eq] at *) <;> omega) | ((try simp only [lens, natCast_eq] at *) <;> omega))
                   | assumption
                   | (symm; assumption)
                   | (dsimp only; simp only [nrb, *]; done)
                   | (simp; done)
                   | (and_intros <;> first | trivial | with_reducible assumption | omega)
                   | ((try dsimp only [rcvSpec, rcvF, rrdSpec, newRdrSpec, bcloneSpec, Ty.T, Ty.dflt, KT.T, getM, putM, delM, inI64, maxRow] at *) <;> simp [*] <;> done))
              | skip
            skip)
       · skip
         (try (conv in (LoopInv.inv _ _) => dsimp only)); (try (conv in (SS.mk _ _) => cbv; (try dsimp only [rcvSpec, rcvF, rrdSpec, newRdrSpec, bcloneSpec, Ty.T, Ty.dflt, KT.T]); (try simp only [natCast_eq])))
         (with_reducible refine (?_ : T1 _ ?_) ?_; rotate_left 1; (conv => lhs; cbv; (try cbv); (try cbv)); intro hT; clear hT; with_reducible refine Sh.mk (by kernel_rfl) ?_)
         repeat' (first
           | with_reducible (first | refine Ck.mk (C := tt) tt_intro ?_ | refine Ck.mk (show drawOk _ _ = true by kernel_rfl) ?_ | refine Ck.all_cons ?_ | refine Ck.all_nil ?_ | refine Ck.mk (by assumption) ?_ | refine Ck.mk (decide_eq_true (by assumption)) ?_ | refine Ck.mk (decide_eq_false (by assumption)) ?_ | refine Ck.mk ?_ ?_)
           | (with_reducible (first | refine Both.mk (fun h => ?_) (fun h => ?_) | refine Alt.mk (fun h => ?_) (fun h => ?_) | refine Pick.mk (fun h => ?_) (fun l1 x l2 h => ?_)) <;> (have hk := h) <;> (try simp only [nrm, reduceCtorEq, pair_eta, map_idL] at h) <;> (try dsimp only [rcvSpec, rcvF, rrdSpec, newRdrSpec, bcloneSpec, Ty.T, Ty.dflt, KT.T, getM, putM, delM] at h) <;> (try simp only [natCast_eq] at h) <;> (try simp only [e1, e2] at h) <;> (try simp only [e5] at h) <;> (try (exfalso; first | exact absurd rfl h | exact absurd trivial h | omega)) <;> (try first | rw [if_pos h] at hr | rw [if_neg h] at hr | rw [ifF h] at hr | rw [ifN h] at hr) <;> (try (have hb : (_ : Bool) = _ := h; clear h; subst hb; (try first | rw [if_pos rfl] at hr | rw [if_neg Bool.false_ne_true] at hr))) <;> first | (exfalso; omega) | exact absurd (h.symm.trans (by assumption) : true = false) Bool.noConfusion | exact absurd (h.symm.trans (by assumption) : false = true) Bool.noConfusion | (with_reducible refine (?_ : T1 _ ?_) ?_; rotate_left 1; (conv => lhs; cbv; (try cbv); (try cbv)); intro hT; clear hT; with_reducible refine Sh.mk (by kernel_rfl) ?_))
           | ((with_reducible refine End.mk ?_); skip)
           | with_reducible exact True.intro)
         all_goals first
           | (fail_if_success (with_reducible refine Exists.intro ?_ ?_)
              first
                | with_reducible rfl
                | with_reducible assumption
                | (symm; with_reducible assumption)
                | omega
                | ((try dsimp only [rcvSpec, rcvF, rrdSpec, newRdrSpec, bcloneSpec, Ty.T, Ty.dflt, KT.T, getM, putM, delM, inI64, maxRow]); first | done | with_reducible rfl | with_reducible assumption | (symm; with_reducible assumption) | ((try simp only [natCast_eq, List.nil_append]); first | done | with_reducible rfl | omega | exact take_cg (by omega) | exact drop_cg (by omega) | exact take_drop_cg (by omega) (by omega) | exact take_all (by omega) | exact take_drop_all (by omega) (by omega) | exact drop_take_cg (by omega) (by omega) (by omega)))
                | ((try dsimp only [rcvSpec, rcvF, rrdSpec, newRdrSpec, bcloneSpec, Ty.T, Ty.dflt, KT.T, getM, putM, delM, inI64, maxRow]); first | (simp only [nrm, reduceCtorEq, pair_eta, map_idL, natCast_eq, inI64, maxRow]; first | done | with_reducible assumption | omega) | exact map_pair_id _)
                | ((try dsimp only [rcvSpec, rcvF, rrdSpec, newRdrSpec, bcloneSpec, Ty.T, Ty.dflt, KT.T, getM, putM, delM, inI64, maxRow] at *); first | ((try simp only [natCast_eq] at *) <;> omega) | ((try simp only [lens, natCast_eq] at *) <;> omega))
                | assumption
                | (symm; assumption)
                | (dsimp only; simp only [nrb, *]; done)
                | (simp; done)
                | (and_intros <;> first | trivial | with_reducible assumption | omega)
                | ((try dsimp only [rcvSpec, rcvF, rrdSpec, newRdrSpec, bcloneSpec, Ty.T, Ty.dflt, KT.T, getM, putM, delM, inI64, maxRow] at *) <;> simp [*] <;> done))
           | skip
         all_goals
           (obtain ⟨k0, hk0, hk1, hk2⟩ : ∃ x : LK D, x.k = 0 ∧ x.idle = 0 ∧ x.next = D.length := ⟨⟨0, 0, D.length, Int.le_refl _, by decide, fun _ => ⟨rfl, rfl⟩, fun h => by cases h⟩, rfl, rfl, rfl⟩
            dsimp only
            refine ⟨⟨LK D, fun x => ⟨[(0, Sx.one (.ro (.int .u8) (fun _ => D))), (3, Sx.one (.ptr 0 0)), (5, Sx.one (.ptr 1 0)), (104, Sx.one (.int .i64 (fun _ => x.k)))],
              [.cells 85 [.li .i64 60, .li .i64 3, .hd 3 0, .int .i64 (fun _ => D.length), .li .i64 0, .int .i64 (fun _ => x.next), .int .i64 (fun _ => D.length), .li .i64 60, .int .i64 (fun _ => x.idle), .lb false, .lb false, .lb false, .lb false],
               .abs (.rdr (fun _ => memR D)), .gone, .row 5 (.int .u8) 0 (fun _ => D)]⟩, fun x => (3 - x.k).toNat, k0⟩, ?_, fun (x : LK D) => ?_⟩
            · (try (conv in (LoopInv.inv _ _) => dsimp only)); (try (conv in (SS.mk _ _) => cbv; (try dsimp only [rcvSpec, rcvF, rrdSpec, newRdrSpec, bcloneSpec, Ty.T, Ty.dflt, KT.T]); (try simp only [natCast_eq])))
              (with_reducible refine (?_ : T1 _ ?_) ?_; rotate_left 1; (conv => lhs; cbv; (try cbv); (try cbv)); intro hT; clear hT; with_reducible refine Sh.mk (by kernel_rfl) ?_)
              repeat' (first
                | with_reducible (first | refine Ck.mk (C := tt) tt_intro ?_ | refine Ck.mk (show drawOk _ _ = true by kernel_rfl) ?_ | refine Ck.all_cons ?_ | refine Ck.all_nil ?_ | refine Ck.mk (by assumption) ?_ | refine Ck.mk (decide_eq_true (by assumption)) ?_ | refine Ck.mk (decide_eq_false (by assumption)) ?_ | refine Ck.mk ?_ ?_)
                | (with_reducible (first | refine Both.mk (fun h => ?_) (fun h => ?_) | refine Alt.mk (fun h => ?_) (fun h => ?_) | refine Pick.mk (fun h => ?_) (fun l1 x l2 h => ?_)) <;> (have hk := h) <;> (try simp only [nrm, reduceCtorEq, pair_eta, map_idL] at h) <;> (try dsimp only [rcvSpec, rcvF, rrdSpec, newRdrSpec, bcloneSpec, Ty.T, Ty.dflt, KT.T, getM, putM, delM] at h) <;> (try simp only [natCast_eq] at h) <;> (try simp only [e1, e2] at h) <;> (try simp only [e5] at h) <;> (try (exfalso; first | exact absurd rfl h | exact absurd trivial h | omega)) <;> (try first | rw [if_pos h] at hr | rw [if_neg h] at hr | rw [ifF h] at hr | rw [ifN h] at hr) <;> (try (have hb : (_ : Bool) = _ := h; clear h; subst hb; (try first | rw [if_pos rfl] at hr | rw [if_neg Bool.false_ne_true] at hr))) <;> first | (exfalso; omega) | exact absurd (h.symm.trans (by assumption) : true = false) Bool.noConfusion | exact absurd (h.symm.trans (by assumption) : false = true) Bool.noConfusion | (with_reducible refine (?_ : T1 _ ?_) ?_; rotate_left 1; (conv => lhs; cbv; (try cbv); (try cbv)); intro hT; clear hT; with_reducible refine Sh.mk (by kernel_rfl) ?_))
                | ((with_reducible refine End.mk ?_); skip)
                | with_reducible exact True.intro)
              all_goals first
                | (fail_if_success (with_reducible refine Exists.intro ?_ ?_)
                   first
                     | with_reducible rfl
                     | with_reducible assumption
                     | (symm; with_reducible assumption)
                     | omega
                     | ((try dsimp only [rcvSpec, rcvF, rrdSpec, newRdrSpec, bcloneSpec, Ty.T, Ty.dflt, KT.T, getM, putM, delM, inI64, maxRow]); first | done | with_reducible rfl | with_reducible assumption | (symm; with_reducible assumption) | ((try simp only [natCast_eq, List.nil_append]); first | done | with_reducible rfl | omega | exact take_cg (by omega) | exact drop_cg (by omega) | exact take_drop_cg (by omega) (by omega) | exact take_all (by omega) | exact take_drop_all (by omega) (by omega) | exact drop_take_cg (by omega) (by omega) (by omega)))
                     | first | exact hk0.symm | exact hk1.symm | exact hk2.symm
                     | ((try dsimp only [rcvSpec, rcvF, rrdSpec, newRdrSpec, bcloneSpec, Ty.T, Ty.dflt, KT.T, getM, putM, delM, inI64, maxRow]); first | (simp only [nrm, reduceCtorEq, pair_eta, map_idL, natCast_eq, inI64, maxRow]; first | done | with_reducible assumption | omega) | exact map_pair_id _)
                     | ((try dsimp only [rcvSpec, rcvF, rrdSpec, newRdrSpec, bcloneSpec, Ty.T, Ty.dflt, KT.T, getM, putM, delM, inI64, maxRow] at *); first | ((try simp only [natCast_eq] at *) <;> omega) | ((try simp only [lens, natCast_eq] at *) <;> omega))
                     | assumption
                     | (symm; assumption)
                     | (dsimp only; simp only [nrb, *]; done)
                     | (simp; done)
                     | (and_intros <;> first | trivial | with_reducible assumption | omega)
                     | ((try dsimp only [rcvSpec, rcvF, rrdSpec, newRdrSpec, bcloneSpec, Ty.T, Ty.dflt, KT.T, getM, putM, delM, inI64, maxRow] at *) <;> simp [*] <;> done))
                | skip
              skip
            obtain ⟨k, idle, next, klo, khi, ka, kb⟩ := x
            by_cases hk3 : k < 3
            · obtain ⟨rfl, rfl⟩ := ka hk3
              (try (conv in (LoopInv.inv _ _) => dsimp only)); (try (conv in (SS.mk _ _) => cbv; (try dsimp only [rcvSpec, rcvF, rrdSpec, newRdrSpec, bcloneSpec, Ty.T, Ty.dflt, KT.T]); (try simp only [natCast_eq])))
              (with_reducible refine (?_ : T1 _ ?_) ?_; rotate_left 1; (conv => lhs; cbv; (try cbv); (try cbv)); intro hT; clear hT; with_reducible refine Sh.mk (by kernel_rfl) ?_)
              repeat' (first
                | with_reducible (first | refine Ck.mk (C := tt) tt_intro ?_ | refine Ck.mk (show drawOk _ _ = true by kernel_rfl) ?_ | refine Ck.all_cons ?_ | refine Ck.all_nil ?_ | refine Ck.mk (by assumption) ?_ | refine Ck.mk (decide_eq_true (by assumption)) ?_ | refine Ck.mk (decide_eq_false (by assumption)) ?_ | refine Ck.mk ?_ ?_)
                | (with_reducible (first | refine Both.mk (fun h => ?_) (fun h => ?_) | refine Alt.mk (fun h => ?_) (fun h => ?_) | refine Pick.mk (fun h => ?_) (fun l1 x l2 h => ?_)) <;> (have hk := h) <;> (try simp only [nrm, reduceCtorEq, pair_eta, map_idL] at h) <;> (try dsimp only [rcvSpec, rcvF, rrdSpec, newRdrSpec, bcloneSpec, Ty.T, Ty.dflt, KT.T, getM, putM, delM] at h) <;> (try simp only [natCast_eq] at h) <;> (try simp only [e1, e2] at h) <;> (try simp only [e5] at h) <;> (try (exfalso; first | exact absurd rfl h | exact absurd trivial h | omega)) <;> (try first | rw [if_pos h] at hr | rw [if_neg h] at hr | rw [ifF h] at hr | rw [ifN h] at hr) <;> (try (have hb : (_ : Bool) = _ := h; clear h; subst hb; (try first | rw [if_pos rfl] at hr | rw [if_neg Bool.false_ne_true] at hr))) <;> first | (exfalso; omega) | exact absurd (h.symm.trans (by assumption) : true = false) Bool.noConfusion | exact absurd (h.symm.trans (by assumption) : false = true) Bool.noConfusion | (with_reducible refine (?_ : T1 _ ?_) ?_; rotate_left 1; (conv => lhs; cbv; (try cbv); (try cbv)); intro hT; clear hT; with_reducible refine Sh.mk (by kernel_rfl) ?_))
                | ((with_reducible refine End.mk ?_); skip)
                | with_reducible exact True.intro)
              all_goals first
                | (fail_if_success (with_reducible refine Exists.intro ?_ ?_)
                   first
                     | with_reducible rfl
                     | with_reducible assumption
                     | (symm; with_reducible assumption)
                     | omega
                     | ((try dsimp only [rcvSpec, rcvF, rrdSpec, newRdrSpec, bcloneSpec, Ty.T, Ty.dflt, KT.T, getM, putM, delM, inI64, maxRow]); first | done | with_reducible rfl | with_reducible assumption | (symm; with_reducible assumption) | ((try simp only [natCast_eq, List.nil_append]); first | done | with_reducible rfl | omega | exact take_cg (by omega) | exact drop_cg (by omega) | exact take_drop_cg (by omega) (by omega) | exact take_all (by omega) | exact take_drop_all (by omega) (by omega) | exact drop_take_cg (by omega) (by omega) (by omega)))
                     | ((try dsimp only [rcvSpec, rcvF, rrdSpec, newRdrSpec, bcloneSpec, Ty.T, Ty.dflt, KT.T, getM, putM, delM, inI64, maxRow]); first | (simp only [nrm, reduceCtorEq, pair_eta, map_idL, natCast_eq, inI64, maxRow]; first | done | with_reducible assumption | omega) | exact map_pair_id _)
                     | ((try dsimp only [rcvSpec, rcvF, rrdSpec, newRdrSpec, bcloneSpec, Ty.T, Ty.dflt, KT.T, getM, putM, delM, inI64, maxRow] at *); first | ((try simp only [natCast_eq] at *) <;> omega) | ((try simp only [lens, natCast_eq] at *) <;> omega))
                     | assumption
                     | (symm; assumption)
                     | (dsimp only; simp only [nrb, *]; done)
                     | (simp; done)
                     | (and_intros <;> first | trivial | with_reducible assumption | omega)
                     | ((try dsimp only [rcvSpec, rcvF, rrdSpec, newRdrSpec, bcloneSpec, Ty.T, Ty.dflt, KT.T, getM, putM, delM, inI64, maxRow] at *) <;> simp [*] <;> done))
                | skip
              all_goals
                (refine Exists.elim (LK.next' (D := D) klo hk3) ?_
                 rintro y ⟨hy0, hy1, hy2⟩
                 refine ⟨y, by (try dsimp only); (try simp only [natCast_eq]); omega, ?_⟩
                 (try (conv in (LoopInv.inv _ _) => dsimp only)); (try (conv in (SS.mk _ _) => cbv; (try dsimp only [rcvSpec, rcvF, rrdSpec, newRdrSpec, bcloneSpec, Ty.T, Ty.dflt, KT.T]); (try simp only [natCast_eq])))
                 (with_reducible refine (?_ : T1 _ ?_) ?_; rotate_left 1; (conv => lhs; cbv; (try cbv); (try cbv)); intro hT; clear hT; with_reducible refine Sh.mk (by kernel_rfl) ?_)
                 repeat' (first
                   | with_reducible (first | refine Ck.mk (C := tt) tt_intro ?_ | refine Ck.mk (show drawOk _ _ = true by kernel_rfl) ?_ | refine Ck.all_cons ?_ | refine Ck.all_nil ?_ | refine Ck.mk (by assumption) ?_ | refine Ck.mk (decide_eq_true (by assumption)) ?_ | refine Ck.mk (decide_eq_false (by assumption)) ?_ | refine Ck.mk ?_ ?_)
                   | (with_reducible (first | refine Both.mk (fun h => ?_) (fun h => ?_) | refine Alt.mk (fun h => ?_) (fun h => ?_) | refine Pick.mk (fun h => ?_) (fun l1 x l2 h => ?_)) <;> (have hk := h) <;> (try simp only [nrm, reduceCtorEq, pair_eta, map_idL] at h) <;> (try dsimp only [rcvSpec, rcvF, rrdSpec, newRdrSpec, bcloneSpec, Ty.T, Ty.dflt, KT.T, getM, putM, delM] at h) <;> (try simp only [natCast_eq] at h) <;> (try simp only [e1, e2] at h) <;> (try simp only [e5] at h) <;> (try (exfalso; first | exact absurd rfl h | exact absurd trivial h | omega)) <;> (try first | rw [if_pos h] at hr | rw [if_neg h] at hr | rw [ifF h] at hr | rw [ifN h] at hr) <;> (try (have hb : (_ : Bool) = _ := h; clear h; subst hb; (try first | rw [if_pos rfl] at hr | rw [if_neg Bool.false_ne_true] at hr))) <;> first | (exfalso; omega) | exact absurd (h.symm.trans (by assumption) : true = false) Bool.noConfusion | exact absurd (h.symm.trans (by assumption) : false = true) Bool.noConfusion | (with_reducible refine (?_ : T1 _ ?_) ?_; rotate_left 1; (conv => lhs; cbv; (try cbv); (try cbv)); intro hT; clear hT; with_reducible refine Sh.mk (by kernel_rfl) ?_))
                   | ((with_reducible refine End.mk ?_); skip)
                   | with_reducible exact True.intro)
                 all_goals first
                   | (fail_if_success (with_reducible refine Exists.intro ?_ ?_)
                      first
                        | with_reducible rfl
                        | with_reducible assumption
                        | (symm; with_reducible assumption)
                        | omega
                        | ((try dsimp only [rcvSpec, rcvF, rrdSpec, newRdrSpec, bcloneSpec, Ty.T, Ty.dflt, KT.T, getM, putM, delM, inI64, maxRow]); first | done | with_reducible rfl | with_reducible assumption | (symm; with_reducible assumption) | ((try simp only [natCast_eq, List.nil_append]); first | done | with_reducible rfl | omega | exact take_cg (by omega) | exact drop_cg (by omega) | exact take_drop_cg (by omega) (by omega) | exact take_all (by omega) | exact take_drop_all (by omega) (by omega) | exact drop_take_cg (by omega) (by omega) (by omega)))
                        | first | exact hy0.symm | (rw [hy1]; omega) | (rw [hy2]; omega) | (rw [hy1]; split <;> omega) | (rw [hy2]; split <;> omega)
                        | ((try dsimp only [rcvSpec, rcvF, rrdSpec, newRdrSpec, bcloneSpec, Ty.T, Ty.dflt, KT.T, getM, putM, delM, inI64, maxRow]); first | (simp only [nrm, reduceCtorEq, pair_eta, map_idL, natCast_eq, inI64, maxRow]; first | done | with_reducible assumption | omega) | exact map_pair_id _)
                        | ((try dsimp only [rcvSpec, rcvF, rrdSpec, newRdrSpec, bcloneSpec, Ty.T, Ty.dflt, KT.T, getM, putM, delM, inI64, maxRow] at *); first | ((try simp only [natCast_eq] at *) <;> omega) | ((try simp only [lens, natCast_eq] at *) <;> omega))
                        | assumption
                        | (symm; assumption)
                        | (dsimp only; simp only [nrb, *]; done)
                        | (simp; done)
                        | (and_intros <;> first | trivial | with_reducible assumption | omega)
                        | ((try dsimp only [rcvSpec, rcvF, rrdSpec, newRdrSpec, bcloneSpec, Ty.T, Ty.dflt, KT.T, getM, putM, delM, inI64, maxRow] at *) <;> simp [*] <;> done))
                   | skip
                 skip)
            · obtain ⟨rfl, rfl⟩ := kb (by omega)
              have e5 := mRead hn hD
              (try (conv in (LoopInv.inv _ _) => dsimp only)); (try (conv in (SS.mk _ _) => cbv; (try dsimp only [rcvSpec, rcvF, rrdSpec, newRdrSpec, bcloneSpec, Ty.T, Ty.dflt, KT.T]); (try simp only [natCast_eq])))
              (with_reducible refine (?_ : T1 _ ?_) ?_; rotate_left 1; (conv => lhs; cbv; (try cbv); (try cbv)); intro hT; clear hT; with_reducible refine Sh.mk (by kernel_rfl) ?_)
              repeat' (first
                | with_reducible (first | refine Ck.mk (C := tt) tt_intro ?_ | refine Ck.mk (show drawOk _ _ = true by kernel_rfl) ?_ | refine Ck.all_cons ?_ | refine Ck.all_nil ?_ | refine Ck.mk (by assumption) ?_ | refine Ck.mk (decide_eq_true (by assumption)) ?_ | refine Ck.mk (decide_eq_false (by assumption)) ?_ | refine Ck.mk ?_ ?_)
                | (with_reducible (first | refine Both.mk (fun h => ?_) (fun h => ?_) | refine Alt.mk (fun h => ?_) (fun h => ?_) | refine Pick.mk (fun h => ?_) (fun l1 x l2 h => ?_)) <;> (have hk := h) <;> (try simp only [nrm, reduceCtorEq, pair_eta, map_idL] at h) <;> (try dsimp only [rcvSpec, rcvF, rrdSpec, newRdrSpec, bcloneSpec, Ty.T, Ty.dflt, KT.T, getM, putM, delM] at h) <;> (try simp only [natCast_eq] at h) <;> (try simp only [e1, e2] at h) <;> (try simp only [e5] at h) <;> (try (exfalso; first | exact absurd rfl h | exact absurd trivial h | omega)) <;> (try first | rw [if_pos h] at hr | rw [if_neg h] at hr | rw [ifF h] at hr | rw [ifN h] at hr) <;> (try (have hb : (_ : Bool) = _ := h; clear h; subst hb; (try first | rw [if_pos rfl] at hr | rw [if_neg Bool.false_ne_true] at hr))) <;> first | (exfalso; omega) | exact absurd (h.symm.trans (by assumption) : true = false) Bool.noConfusion | exact absurd (h.symm.trans (by assumption) : false = true) Bool.noConfusion | (with_reducible refine (?_ : T1 _ ?_) ?_; rotate_left 1; (conv => lhs; cbv; (try cbv); (try cbv)); intro hT; clear hT; with_reducible refine Sh.mk (by kernel_rfl) ?_))
                | ((with_reducible refine End.mk ?_); (try ((repeat (first | rw [if_pos (by first | assumption | omega)] at hr | rw [if_neg (by first | assumption | omega | (simp only [Bool.false_eq_true, Bool.true_eq_false, reduceCtorEq, not_false_eq_true]; done) | (simp only [Bool.not_eq_true]; assumption) | (simp only [Bool.not_eq_false]; assumption))] at hr | rw [if_pos rfl] at hr)); subst hr)))
                | with_reducible exact True.intro)
              all_goals first
                | (fail_if_success (with_reducible refine Exists.intro ?_ ?_)
                   first
                     | with_reducible rfl
                     | with_reducible assumption
                     | (symm; with_reducible assumption)
                     | omega
                     | ((try dsimp only [rcvSpec, rcvF, rrdSpec, newRdrSpec, bcloneSpec, Ty.T, Ty.dflt, KT.T, getM, putM, delM, inI64, maxRow]); first | done | with_reducible rfl | with_reducible assumption | (symm; with_reducible assumption) | ((try simp only [natCast_eq, List.nil_append]); first | done | with_reducible rfl | omega | exact take_cg (by omega) | exact drop_cg (by omega) | exact take_drop_cg (by omega) (by omega) | exact take_all (by omega) | exact take_drop_all (by omega) (by omega) | exact drop_take_cg (by omega) (by omega) (by omega)))
                     | first | exact e4.pre | (rw [show List.take _ _ = D from e1]; exact ⟨hD, hD⟩) | (refine And.intro ?_ hD; show inBytes (rdF (memR D) 100).1.1; rw [e5]; exact hD) | (refine And.intro ?_ hD; show inBytes (List.take _ _); rw [e1]; exact hD)
                     | ((try dsimp only [rcvSpec, rcvF, rrdSpec, newRdrSpec, bcloneSpec, Ty.T, Ty.dflt, KT.T, getM, putM, delM, inI64, maxRow]); first | (simp only [nrm, reduceCtorEq, pair_eta, map_idL, natCast_eq, inI64, maxRow]; first | done | with_reducible assumption | omega) | exact map_pair_id _)
                     | ((try dsimp only [rcvSpec, rcvF, rrdSpec, newRdrSpec, bcloneSpec, Ty.T, Ty.dflt, KT.T, getM, putM, delM, inI64, maxRow] at *); first | ((try simp only [natCast_eq] at *) <;> omega) | ((try simp only [lens, natCast_eq] at *) <;> omega))
                     | assumption
                     | (symm; assumption)
                     | (dsimp only; simp only [nrb, *]; done)
                     | (simp; done)
                     | (and_intros <;> first | trivial | with_reducible assumption | omega)
                     | ((try dsimp only [rcvSpec, rcvF, rrdSpec, newRdrSpec, bcloneSpec, Ty.T, Ty.dflt, KT.T, getM, putM, delM, inI64, maxRow] at *) <;> simp [*] <;> done))
                | skip
              skip))
theorem smem_sound : ConSound Try.prog AI 4 smemSpec.con := PureSpec.sound Try.call4 (fun x h => smem_ok x.1 h)
end Go.Proofs.Ytebhcmgfhkjmcaa
