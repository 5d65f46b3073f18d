/-
  Layer 43: ReorderRefuses, the walk.
-/
import Derived.Test.YtonegoinplddmaaAgn
import Derived.Test.YtonegoinplddmaaEng3
namespace Go.Proofs.Ytonegoinplddmaa
set_option linter.all false
set_option linter.unusedVariables false
set_option linter.unusedSimpArgs false
set_option linter.unusedSectionVars false
open Go.RowKit Go.Sx
set_option maxRecDepth 100000
set_option maxHeartbeats 16000000

noncomputable abbrev Er : Env Ab := ⟨tis, [(23, geqSpec.con), (19, heldSpec.con), (18, ctgSpec.con), (17, offSpec.con), (22, endSpec.con), (16, gapsSpec.con), (15, readSpec.con), (14, frzCon putSpec.con), (13, newStoSpec.con), (12, smallSpec.con), (11, awakeSpec.con)] ++ E0.con⟩
theorem erOk : EnvOk Try.prog AI Er := (((((((((((e0Ok.add awake_sound).add small_sound).add newSto_sound).add (frzCon_sound put_sound)).add read_sound).add gaps_sound).add end_sound).add off_sound).add ctg_sound).add held_sound).add geq_sound)
noncomputable abbrev Es : Env Ab := ⟨(3, ⟨.int .i64, 1, 2, [.li .i64 0]⟩) :: Er.ti, Er.con⟩
theorem esOk : EnvOk Try.prog AI Es := erOk.soft (t := 3) (i := ⟨.int .i64, 1, 0, [.li .i64 0]⟩) rfl
/-- What a Put does: n, e its results, T the store behind it. -/
structure PutFs (S T : Sto) (n e : Int) (o : Int) (d : List Int) (l : Bool) : Prop where
  ok : StO T
  err : ¬ e = 0 → n = 0 ∧ T = S
  rng : 0 ≤ n ∧ n ≤ 1048576
  held : e = 0 → (T.kept.length : Int) = S.kept.length + n
  fin : S.known = true → T.known = true ∧ T.fin = S.fin
  last : e = 0 → l = true → T.known = true ∧ T.fin = o + (d.length : Int)
  off : e = 0 → 0 ≤ o ∧ o ≤ 1099511627776 ∧ T.off = S.off
  bad : e = 0 → T.off < T.next → 0 ≤ T.off - o → T.off - o < (d.length : Int) → ∀ v, ¬ v = d.getD (T.off - o).toNat 0 → putF T o (d.set (T.off - o).toNat v) false = ((0, 3, ()), T)
theorem putI_grow (K : List KV) (a v : Int) : K.length ≤ (putI K a v).length := by
  induction K with
  | nil => exact Nat.zero_le _
  | cons q K ih => simp only [putI, putA] at ih ⊢; split <;> simp only [List.length_cons] <;> omega
theorem ins_grow {d : List Int} {o : Int} : ∀ (n : Nat) (K : List KV) (a : Int), K.length ≤ (ins d o K a n).length
  | 0, K, a => Nat.le_refl _
  | n + 1, K, a => Nat.le_trans (putI_grow K a _) (ins_grow n _ _)
theorem put_fs {S : Sto} (hS : StO S) {o : Int} {d : List Int} (l : Bool) (hd : ∀ x ∈ d, 0 ≤ x ∧ x < 256) (hl : d.length ≤ 1048576) : PutFs S (putF S o d l).2 (putF S o d l).1.1 (putF S o d l).1.2.1 o d l := by
  have h1 := put_sto hS l hd hl (o := o)
  have n2 : ¬ (2 : Int) = 0 := by decide
  have n3 : ¬ (3 : Int) = 0 := by decide
  rcases put_cases S o d l with ⟨_, e⟩ | ⟨_, _, e⟩ | h
  · rw [e]
    exact ⟨hS, fun _ => ⟨rfl, rfl⟩, ⟨Int.le_refl _, by show (0 : Int) ≤ 1048576; decide⟩, fun h => absurd h n2, fun h => ⟨h, rfl⟩, fun h => absurd h n2, fun h => absurd h n2, fun h => absurd h n2⟩
  · rw [e]
    exact ⟨hS, fun _ => ⟨rfl, rfl⟩, ⟨Int.le_refl _, by show (0 : Int) ≤ 1048576; decide⟩, fun h => absurd h n3, fun h => ⟨h, rfl⟩, fun h => absurd h n3, fun h => absurd h n3, fun h => absurd h n3⟩
  rw [put_ok_eq h] at h1 ⊢
  have hlen := h1.len
  have hwin := h1.win
  have hg := ins_grow (d := d) (o := o) (pN S o d) S.kept (pFr S o)
  have hm := h.mis
  refine ⟨h1, fun hh => absurd rfl hh, ⟨?_, ?_⟩, fun _ => ?_, fun hk => ?_, fun _ hl => ?_, fun _ => ⟨h.o0, h.o1, rfl⟩, fun _ k1 k2 k3 v hv => ?_⟩
  · show (0 : Int) ≤ (putK S o d).length - S.kept.length
    have hg : S.kept.length ≤ (putK S o d).length := hg
    omega
  · show ((putK S o d).length : Int) - S.kept.length ≤ 1048576
    have e1 : ((putK S o d).length : Int) ≤ S.win := hlen
    have e2 : S.win ≤ 1048576 := hwin.2
    omega
  · show ((putK S o d).length : Int) = S.kept.length + ((putK S o d).length - S.kept.length)
    omega
  · cases l
    · exact ⟨hk, rfl⟩
    · refine ⟨rfl, ?_⟩
      unfold Go.Proofs.Ytonegoinplddmaa.mis at hm
      rw [if_pos hk] at hm
      split at hm
      · cases hm
      · have : o + (d.length : Int) = S.fin := by simpa using hm
        exact this
  · subst hl
    exact ⟨rfl, rfl⟩
  · have k1 : (putS S o d l).off < (putS S o d l).next := k1
    have k2 : 0 ≤ (putS S o d l).off - o := k2
    have k3 : (putS S o d l).off - o < (d.length : Int) := k3
    have hv : ¬ v = d.getD ((putS S o d l).off - o).toNat 0 := hv
    show putF (putS S o d l) o (d.set ((putS S o d l).off - o).toNat v) false = ((0, 3, ()), putS S o d l)
    generalize hT : putS S o d l = T at *
    have hTo : T.off = S.off := by rw [← hT]
    have hTw : T.win = S.win := by rw [← hT]
    have hTk : T.kept = putK S o d := by rw [← hT]
    have w0 := hS.win
    have hlen2 : (d.set (T.off - o).toNat v).length = d.length := List.length_set
    have hb : (T.off - o).toNat < d.length := by omega
    have hget : getI T.kept T.off = some (d.getD (T.off - o).toNat 0) := by
      rw [hTk, get_put, hTo, if_pos]
      dsimp only [pFr, pTo]
      omega
    have hbad : ¬ PutOk T o (d.set (T.off - o).toNat v) false := by
      intro hp
      have := confl_no2 hp.confl (k := T.off) (v := d.getD (T.off - o).toNat 0) (by dsimp only [pFr]; omega) (by dsimp only [pTo]; rw [hlen2]; omega) hget
      apply hv
      rw [this, List.getD_eq_getElem?_getD, List.getElem?_set_self hb]
      rfl
    rcases put_cases T o (d.set (T.off - o).toNat v) false with ⟨hn, _⟩ | ⟨_, _, e⟩ | hp
    · exact absurd ⟨h.o0, h.o1⟩ hn
    · exact e
    · exact absurd hp hbad
theorem u8_ne {x : Int} (h : 0 ≤ x ∧ x < 256) : ¬ IntKind.u8.wrap (x + 1) = x := by rw [IntKind.wrap_u8]; omega
theorem bad_u8 {d : List Int} (hb : inBytes d) {k : Int} (h1 : k < (d.length : Int)) (h0 : 0 ≤ k) : ¬ IntKind.u8.wrap (d.getD k.toNat 0 + 1) = d.getD k.toNat 0 := u8_ne (hb _ (getD_mem (by omega)))
abbrev fsA (L : List TA) (S : Sto) (i : Int) : Prop := PutFs S (putA1 L S i).2 (putA1 L S i).1.1 (putA1 L S i).1.2.1 (segA L i).1 (segA L i).2.1 (segA L i).2.2
theorem rfs_facts {L : List TA} {S : Sto} (hok : StO S) (hL : ∀ a ∈ L, actE.ok a) (hs : SmallL L) {i : Int} (h0 : 0 ≤ i) (hi : i < L.length) :
    inBytes (segA L i).2.1 ∧ (segA L i).2.1.length ≤ 60 ∧ fsA L S i := by
  have hn : (segA L i).2.1.length ≤ 1048576 := Nat.le_trans (elA_len hs h0 hi) (by decide)
  exact ⟨elA_by hL h0 hi, elA_len hs h0 hi, put_fs hok _ (elA_by hL h0 hi) hn⟩
structure LRf (L : List TA) where
  i : Int
  S : Sto
  stop : Int
  lo : 0 ≤ i
  hi : i ≤ L.length
  ok : StO S
  st : 0 ≤ stop → S.known = true ∧ S.fin = stop
theorem next_LRf {L : List TA} {i : Int} {T : Sto} {p : Int} (h0 : 0 ≤ i) (hi : i < L.length) (h : StO T) (hp : 0 ≤ p → T.known = true ∧ T.fin = p) : ∃ y : LRf L, y.i = i + 1 ∧ y.S = T ∧ y.stop = p := ⟨⟨i + 1, T, p, by omega, by omega, h, hp⟩, rfl, rfl, rfl⟩
theorem read_fin (S : Sto) (m : Int) : (readF S m).2.known = S.known ∧ (readF S m).2.fin = S.fin := by
  unfold readF; split <;> exact ⟨rfl, rfl⟩
theorem st_known {T : Sto} (h : T.known = true) : 0 ≤ ((endF T).1 : Int) → T.known = true ∧ T.fin = ((endF T).1 : Int) := fun _ => ⟨h, by unfold endF; rw [if_pos h]⟩
theorem st_not {T S : Sto} {p : Int} (h : T.known = false) (hf : S.known = true → T.known = true ∧ T.fin = S.fin) (hs : 0 ≤ p → S.known = true ∧ S.fin = p) : 0 ≤ p → T.known = true ∧ T.fin = p := fun hp => absurd ((hf (hs hp).1).1.symm.trans h) Bool.noConfusion
def rfsF (_ : Int) (_ : List TA) : Tup [DT.cell .bool] := (true, ())
def rfsSpec : PureSpec := ⟨[.cell (.int .u8), .lst actE], fun (x : Int × (List TA) × Unit) => (0 ≤ x.1 ∧ x.1 ≤ 255) ∧ x.2.1.length ≤ maxLen ∧ ∀ a ∈ x.2.1, actE.ok a, [.cell .bool], fun (x : Int × (List TA) × Unit) => rfsF x.1 x.2.1⟩
theorem rfs_ok (w : Int) (L : List TA) (h : rfsSpec.pre (w, L, ())) : TmplOk Try.prog AI 9 (argS rfsSpec.ds (fun _ => (w, L, ()))) [] (resOf (svs rfsSpec.rs (fun _ => rfsSpec.f (w, L, ())))) [] := by
  dsimp only [rfsSpec] at h ⊢
  generalize hr : rfsF w L = r
  obtain ⟨⟨w1, w2⟩, hL0, hL⟩ := h
  dsimp only [rfsF] at hr
  refine tmpl_of_body esOk mixed (fn := Try.f9) (c := bodyOf Try.f9) (by kernel_rfl) (by kernel_rfl) (by kernel_rfl) (Nat.le_of_ble_eq_true (by kernel_rfl)) ?_
  (try (conv in (LoopInv.inv _ _) => dsimp only)); (try (conv in (SS.mk _ _) => cbv; (try dsimp only [putSpec, readSpec, gapsSpec, endSpec, endF, offSpec, offF, ctgSpec, ctgF, heldSpec, heldF, geqSpec, smallSpec, newStoSpec, Ty.T, Ty.dflt, KT.T]); (try simp only [natCast_eq])))
  (refine (?_ : T1 _ ?_) ?_; rotate_left 1; (conv => lhs; cbv; (try cbv); (try cbv)); intro hT; clear hT; refine Sh.mk (by kernel_rfl) ?_)
  repeat' (first
    | with_reducible refine Ck.mk (C := tt) tt_intro ?_
    | with_reducible refine Ck.mk (show drawOk _ _ = true by kernel_rfl) ?_
    | with_reducible refine Ck.all_cons ?_
    | with_reducible refine Ck.all_nil ?_
    | with_reducible refine Ck.mk (by assumption) ?_
    | with_reducible refine Ck.mk (decide_eq_true (by assumption)) ?_
    | with_reducible refine Ck.mk (decide_eq_false (by assumption)) ?_
    | with_reducible refine Ck.mk ?_ ?_
    | (with_reducible refine Both.mk (fun h => ?_) (fun h => ?_) <;> (have hk := h) <;> (try simp only [decide_eq_true_eq, decide_eq_false_iff_not, Bool.not_eq_true', Bool.not_eq_false', Bool.not_eq_true, Bool.not_eq_false, Bool.not_true, Bool.not_false, ne_eq, Bool.false_eq_true, Bool.true_eq_false, reduceCtorEq, beq_iff_eq, beq_eq_false_iff_ne, not_true_eq_false, not_false_eq_true, pair_eta, map_idL] at h) <;> (try dsimp only [putSpec, readSpec, gapsSpec, endSpec, endF, offSpec, offF, ctgSpec, ctgF, heldSpec, heldF, geqSpec, smallSpec, newStoSpec, Ty.T, Ty.dflt, KT.T, getM, putM, delM] at h) <;> (try simp only [natCast_eq] at h) <;> (try (have hA := rfs_facts hok hL hsm hlo h; obtain ⟨hb, hn, hA⟩ := hA; dsimp only [fsA, putA1, segA, elA] at hb hn hA; have hrg := hA.rng)) <;> (try (have q1 := hA.err h; obtain ⟨qn, qS⟩ := q1)) <;> (try (have q2 := hA.held h; have q3 := hA.off h; obtain ⟨q3a, q3b, q3c⟩ := q3; have qL := hA.last h; have qB := hA.bad h)) <;> (try (have q4 := hst h; obtain ⟨q4, q4b⟩ := q4; have q5 := hA.fin q4; obtain ⟨q5, q5b⟩ := q5)) <;> (try (have q6 := qL h; obtain ⟨q6, q6b⟩ := q6)) <;> (try simp only [qS] at h) <;> (try rw [if_pos q5] at h) <;> (try rw [if_pos q4] at h) <;> (try rw [if_pos q6] at h) <;> (try simp only [List.nil_append, hB] at h) <;> (try (have hB := qB (by assumption) (by assumption) h _ (bad_u8 hb h (by assumption)))) <;> (try (exfalso; exact absurd (q5.symm.trans h) Bool.noConfusion)) <;> (try (exfalso; exact absurd (q6.symm.trans h) Bool.noConfusion)) <;> (try (exfalso; exact absurd rfl h)) <;> (try (exfalso; exact absurd ((geq_self _).symm.trans h) Bool.noConfusion)) <;> (try first | rw [if_pos h] at hr | rw [if_neg h] at hr | rw [ifF h] at hr | rw [ifN h] at hr) <;> (try (have hb : (_ : Bool) = _ := h; clear h; subst hb; (try first | rw [if_pos rfl] at hr | rw [if_neg Bool.false_ne_true] at hr))) <;> first | (exfalso; omega) | exact absurd (h.symm.trans (by assumption) : true = false) Bool.noConfusion | exact absurd (h.symm.trans (by assumption) : false = true) Bool.noConfusion | (refine (?_ : T1 _ ?_) ?_; rotate_left 1; (conv => lhs; cbv; (try cbv); (try cbv)); intro hT; clear hT; refine Sh.mk (by kernel_rfl) ?_))
    | (with_reducible refine Alt.mk (fun h => ?_) (fun h => ?_) <;> (have hk := h) <;> (try simp only [decide_eq_true_eq, decide_eq_false_iff_not, Bool.not_eq_true', Bool.not_eq_false', Bool.not_eq_true, Bool.not_eq_false, Bool.not_true, Bool.not_false, ne_eq, Bool.false_eq_true, Bool.true_eq_false, reduceCtorEq, beq_iff_eq, beq_eq_false_iff_ne, not_true_eq_false, not_false_eq_true, pair_eta, map_idL] at h) <;> (try dsimp only [putSpec, readSpec, gapsSpec, endSpec, endF, offSpec, offF, ctgSpec, ctgF, heldSpec, heldF, geqSpec, smallSpec, newStoSpec, Ty.T, Ty.dflt, KT.T, getM, putM, delM] at h) <;> (try simp only [natCast_eq] at h) <;> (try (have hA := rfs_facts hok hL hsm hlo h; obtain ⟨hb, hn, hA⟩ := hA; dsimp only [fsA, putA1, segA, elA] at hb hn hA; have hrg := hA.rng)) <;> (try (have q1 := hA.err h; obtain ⟨qn, qS⟩ := q1)) <;> (try (have q2 := hA.held h; have q3 := hA.off h; obtain ⟨q3a, q3b, q3c⟩ := q3; have qL := hA.last h; have qB := hA.bad h)) <;> (try (have q4 := hst h; obtain ⟨q4, q4b⟩ := q4; have q5 := hA.fin q4; obtain ⟨q5, q5b⟩ := q5)) <;> (try (have q6 := qL h; obtain ⟨q6, q6b⟩ := q6)) <;> (try simp only [qS] at h) <;> (try rw [if_pos q5] at h) <;> (try rw [if_pos q4] at h) <;> (try rw [if_pos q6] at h) <;> (try simp only [List.nil_append, hB] at h) <;> (try (have hB := qB (by assumption) (by assumption) h _ (bad_u8 hb h (by assumption)))) <;> (try (exfalso; exact absurd (q5.symm.trans h) Bool.noConfusion)) <;> (try (exfalso; exact absurd (q6.symm.trans h) Bool.noConfusion)) <;> (try (exfalso; exact absurd rfl h)) <;> (try (exfalso; exact absurd ((geq_self _).symm.trans h) Bool.noConfusion)) <;> (try first | rw [if_pos h] at hr | rw [if_neg h] at hr | rw [ifF h] at hr | rw [ifN h] at hr) <;> (try (have hb : (_ : Bool) = _ := h; clear h; subst hb; (try first | rw [if_pos rfl] at hr | rw [if_neg Bool.false_ne_true] at hr))) <;> first | (exfalso; omega) | exact absurd (h.symm.trans (by assumption) : true = false) Bool.noConfusion | exact absurd (h.symm.trans (by assumption) : false = true) Bool.noConfusion | (refine (?_ : T1 _ ?_) ?_; rotate_left 1; (conv => lhs; cbv; (try cbv); (try cbv)); intro hT; clear hT; refine Sh.mk (by kernel_rfl) ?_))
    | (with_reducible refine Pick.mk (fun h => ?_) (fun l1 x l2 h => ?_) <;> (refine (?_ : T1 _ ?_) ?_; rotate_left 1; (conv => lhs; cbv; (try cbv); (try cbv)); intro hT; clear hT; refine Sh.mk (by kernel_rfl) ?_))
    | ((with_reducible refine End.mk ?_); (try ((repeat (first | rw [if_pos (by first | assumption | omega)] at hr | rw [if_neg (by first | assumption | omega | (simp only [Bool.false_eq_true, Bool.true_eq_false, reduceCtorEq, not_false_eq_true]; done) | (simp only [Bool.not_eq_true]; assumption) | (simp only [Bool.not_eq_false]; assumption))] at hr | rw [if_pos rfl] at hr)); subst hr)))
    | with_reducible exact True.intro)
  all_goals first
    | (fail_if_success (with_reducible refine Exists.intro ?_ ?_)
       first
         | with_reducible rfl
         | with_reducible assumption
         | (dsimp only [putSpec, readSpec, gapsSpec, endSpec, endF, offSpec, offF, ctgSpec, ctgF, heldSpec, heldF, geqSpec, smallSpec, newStoSpec, Ty.T, Ty.dflt, KT.T, getM, putM, delM, inI64, maxRow]; done)
         | (symm; with_reducible assumption)
         | (dsimp only [putSpec, readSpec, gapsSpec, endSpec, endF, offSpec, offF, ctgSpec, ctgF, heldSpec, heldF, geqSpec, smallSpec, newStoSpec, Ty.T, Ty.dflt, KT.T, getM, putM, delM, inI64, maxRow]; first | with_reducible rfl | with_reducible assumption | (symm; with_reducible assumption) | (simp only [natCast_eq]; with_reducible rfl) | omega)
         | omega
         | (dsimp only [putSpec, readSpec, gapsSpec, endSpec, endF, offSpec, offF, ctgSpec, ctgF, heldSpec, heldF, geqSpec, smallSpec, newStoSpec, Ty.T, Ty.dflt, KT.T, getM, putM, delM, inI64, maxRow]; (try simp only [natCast_eq, List.nil_append]); first | with_reducible rfl | exact take_cg (by omega) | exact drop_cg (by omega) | exact take_drop_cg (by omega) (by omega) | exact take_all (by omega) | exact take_drop_all (by omega) (by omega) | exact drop_take_cg (by omega) (by omega) (by omega))
         | ((try dsimp only [putSpec, readSpec, gapsSpec, endSpec, endF, offSpec, offF, ctgSpec, ctgF, heldSpec, heldF, geqSpec, smallSpec, newStoSpec, Ty.T, Ty.dflt, KT.T, getM, putM, delM, inI64, maxRow]); simp only [decide_eq_true_eq, decide_eq_false_iff_not, Bool.not_eq_true', Bool.not_eq_false', Bool.not_eq_true, Bool.not_eq_false, Bool.not_true, Bool.not_false, ne_eq, Bool.false_eq_true, Bool.true_eq_false, reduceCtorEq, beq_iff_eq, beq_eq_false_iff_ne, not_true_eq_false, not_false_eq_true, pair_eta, map_idL, natCast_eq, inI64, maxRow]; first | done | with_reducible assumption | omega)
         | exact map_pair_id _
         | ((try dsimp only [putSpec, readSpec, gapsSpec, endSpec, endF, offSpec, offF, ctgSpec, ctgF, heldSpec, heldF, geqSpec, smallSpec, newStoSpec, Ty.T, Ty.dflt, KT.T, getM, putM, delM, inI64, maxRow]) <;> (try simp only [natCast_eq]) <;> omega)
         | ((try dsimp only [putSpec, readSpec, gapsSpec, endSpec, endF, offSpec, offF, ctgSpec, ctgF, heldSpec, heldF, geqSpec, smallSpec, newStoSpec, Ty.T, Ty.dflt, KT.T, getM, putM, delM, inI64, maxRow] at *) <;> (try simp only [natCast_eq] at *) <;> omega)
         | ((try dsimp only [putSpec, readSpec, gapsSpec, endSpec, endF, offSpec, offF, ctgSpec, ctgF, heldSpec, heldF, geqSpec, smallSpec, newStoSpec, Ty.T, Ty.dflt, KT.T, getM, putM, delM, inI64, maxRow] at *) <;> (try simp only [List.length_append, List.length_cons, List.length_nil, List.length_replicate, List.length_take, List.length_drop, natCast_eq] at *) <;> omega)
         | assumption
         | (symm; assumption)
         | (dsimp only; simp only [Bool.or_true, Bool.true_or, Bool.or_false, Bool.false_or, Bool.and_true, Bool.true_and, Bool.and_false, Bool.false_and, Bool.not_true, Bool.not_false, *]; done)
         | (simp; done)
         | (and_intros <;> first | trivial | with_reducible assumption | omega)
         | ((try dsimp only [putSpec, readSpec, gapsSpec, endSpec, endF, offSpec, offF, ctgSpec, ctgF, heldSpec, heldF, geqSpec, smallSpec, newStoSpec, Ty.T, Ty.dflt, KT.T, getM, putM, delM, inI64, maxRow] at *) <;> simp [*] <;> done))
    | skip
  have hsm : SmallL L := small_of (by assumption)
  have hsl := hsm.1
  obtain ⟨x0, hx0, hx1, hx2⟩ : ∃ x : LRf L, x.i = 0 ∧ x.S = newS (1 + w % 80) ∧ x.stop = -1 := ⟨⟨0, newS (1 + w % 80), -1, Int.le_refl _, by omega, newS_ok (by omega) (by omega), fun h => absurd h (by omega)⟩, rfl, rfl, rfl⟩
  refine ⟨⟨LRf L, fun x => ⟨[(5, Sx.one (.ptr 0 0)), (7, Sx.one (.int .i64 (fun _ => x.stop))), (41, Sx.one (.ro actE (fun _ => L))), (42, Sx.one (.int .i64 (fun _ => L.length))), (43, Sx.one (.int .i64 (fun _ => x.i)))], [.abs (.sto (fun _ => x.S))]⟩, fun x => (L.length - x.i).toNat, x0⟩, ?_, fun (x : LRf L) => ?_⟩
  · (try (conv in (LoopInv.inv _ _) => dsimp only)); (try (conv in (SS.mk _ _) => cbv; (try dsimp only [putSpec, readSpec, gapsSpec, endSpec, endF, offSpec, offF, ctgSpec, ctgF, heldSpec, heldF, geqSpec, smallSpec, newStoSpec, Ty.T, Ty.dflt, KT.T]); (try simp only [natCast_eq])))
    (refine (?_ : T1 _ ?_) ?_; rotate_left 1; (conv => lhs; cbv; (try cbv); (try cbv)); intro hT; clear hT; refine Sh.mk (by kernel_rfl) ?_)
    repeat' (first
      | with_reducible refine Ck.mk (C := tt) tt_intro ?_
      | with_reducible refine Ck.mk (show drawOk _ _ = true by kernel_rfl) ?_
      | with_reducible refine Ck.all_cons ?_
      | with_reducible refine Ck.all_nil ?_
      | with_reducible refine Ck.mk (by assumption) ?_
      | with_reducible refine Ck.mk (decide_eq_true (by assumption)) ?_
      | with_reducible refine Ck.mk (decide_eq_false (by assumption)) ?_
      | with_reducible refine Ck.mk ?_ ?_
      | (with_reducible refine Both.mk (fun h => ?_) (fun h => ?_) <;> (have hk := h) <;> (try simp only [decide_eq_true_eq, decide_eq_false_iff_not, Bool.not_eq_true', Bool.not_eq_false', Bool.not_eq_true, Bool.not_eq_false, Bool.not_true, Bool.not_false, ne_eq, Bool.false_eq_true, Bool.true_eq_false, reduceCtorEq, beq_iff_eq, beq_eq_false_iff_ne, not_true_eq_false, not_false_eq_true, pair_eta, map_idL] at h) <;> (try dsimp only [putSpec, readSpec, gapsSpec, endSpec, endF, offSpec, offF, ctgSpec, ctgF, heldSpec, heldF, geqSpec, smallSpec, newStoSpec, Ty.T, Ty.dflt, KT.T, getM, putM, delM] at h) <;> (try simp only [natCast_eq] at h) <;> (try (have hA := rfs_facts hok hL hsm hlo h; obtain ⟨hb, hn, hA⟩ := hA; dsimp only [fsA, putA1, segA, elA] at hb hn hA; have hrg := hA.rng)) <;> (try (have q1 := hA.err h; obtain ⟨qn, qS⟩ := q1)) <;> (try (have q2 := hA.held h; have q3 := hA.off h; obtain ⟨q3a, q3b, q3c⟩ := q3; have qL := hA.last h; have qB := hA.bad h)) <;> (try (have q4 := hst h; obtain ⟨q4, q4b⟩ := q4; have q5 := hA.fin q4; obtain ⟨q5, q5b⟩ := q5)) <;> (try (have q6 := qL h; obtain ⟨q6, q6b⟩ := q6)) <;> (try simp only [qS] at h) <;> (try rw [if_pos q5] at h) <;> (try rw [if_pos q4] at h) <;> (try rw [if_pos q6] at h) <;> (try simp only [List.nil_append, hB] at h) <;> (try (have hB := qB (by assumption) (by assumption) h _ (bad_u8 hb h (by assumption)))) <;> (try (exfalso; exact absurd (q5.symm.trans h) Bool.noConfusion)) <;> (try (exfalso; exact absurd (q6.symm.trans h) Bool.noConfusion)) <;> (try (exfalso; exact absurd rfl h)) <;> (try (exfalso; exact absurd ((geq_self _).symm.trans h) Bool.noConfusion)) <;> (try first | rw [if_pos h] at hr | rw [if_neg h] at hr | rw [ifF h] at hr | rw [ifN h] at hr) <;> (try (have hb : (_ : Bool) = _ := h; clear h; subst hb; (try first | rw [if_pos rfl] at hr | rw [if_neg Bool.false_ne_true] at hr))) <;> first | (exfalso; omega) | exact absurd (h.symm.trans (by assumption) : true = false) Bool.noConfusion | exact absurd (h.symm.trans (by assumption) : false = true) Bool.noConfusion | (refine (?_ : T1 _ ?_) ?_; rotate_left 1; (conv => lhs; cbv; (try cbv); (try cbv)); intro hT; clear hT; refine Sh.mk (by kernel_rfl) ?_))
      | (with_reducible refine Alt.mk (fun h => ?_) (fun h => ?_) <;> (have hk := h) <;> (try simp only [decide_eq_true_eq, decide_eq_false_iff_not, Bool.not_eq_true', Bool.not_eq_false', Bool.not_eq_true, Bool.not_eq_false, Bool.not_true, Bool.not_false, ne_eq, Bool.false_eq_true, Bool.true_eq_false, reduceCtorEq, beq_iff_eq, beq_eq_false_iff_ne, not_true_eq_false, not_false_eq_true, pair_eta, map_idL] at h) <;> (try dsimp only [putSpec, readSpec, gapsSpec, endSpec, endF, offSpec, offF, ctgSpec, ctgF, heldSpec, heldF, geqSpec, smallSpec, newStoSpec, Ty.T, Ty.dflt, KT.T, getM, putM, delM] at h) <;> (try simp only [natCast_eq] at h) <;> (try (have hA := rfs_facts hok hL hsm hlo h; obtain ⟨hb, hn, hA⟩ := hA; dsimp only [fsA, putA1, segA, elA] at hb hn hA; have hrg := hA.rng)) <;> (try (have q1 := hA.err h; obtain ⟨qn, qS⟩ := q1)) <;> (try (have q2 := hA.held h; have q3 := hA.off h; obtain ⟨q3a, q3b, q3c⟩ := q3; have qL := hA.last h; have qB := hA.bad h)) <;> (try (have q4 := hst h; obtain ⟨q4, q4b⟩ := q4; have q5 := hA.fin q4; obtain ⟨q5, q5b⟩ := q5)) <;> (try (have q6 := qL h; obtain ⟨q6, q6b⟩ := q6)) <;> (try simp only [qS] at h) <;> (try rw [if_pos q5] at h) <;> (try rw [if_pos q4] at h) <;> (try rw [if_pos q6] at h) <;> (try simp only [List.nil_append, hB] at h) <;> (try (have hB := qB (by assumption) (by assumption) h _ (bad_u8 hb h (by assumption)))) <;> (try (exfalso; exact absurd (q5.symm.trans h) Bool.noConfusion)) <;> (try (exfalso; exact absurd (q6.symm.trans h) Bool.noConfusion)) <;> (try (exfalso; exact absurd rfl h)) <;> (try (exfalso; exact absurd ((geq_self _).symm.trans h) Bool.noConfusion)) <;> (try first | rw [if_pos h] at hr | rw [if_neg h] at hr | rw [ifF h] at hr | rw [ifN h] at hr) <;> (try (have hb : (_ : Bool) = _ := h; clear h; subst hb; (try first | rw [if_pos rfl] at hr | rw [if_neg Bool.false_ne_true] at hr))) <;> first | (exfalso; omega) | exact absurd (h.symm.trans (by assumption) : true = false) Bool.noConfusion | exact absurd (h.symm.trans (by assumption) : false = true) Bool.noConfusion | (refine (?_ : T1 _ ?_) ?_; rotate_left 1; (conv => lhs; cbv; (try cbv); (try cbv)); intro hT; clear hT; refine Sh.mk (by kernel_rfl) ?_))
      | (with_reducible refine Pick.mk (fun h => ?_) (fun l1 x l2 h => ?_) <;> (refine (?_ : T1 _ ?_) ?_; rotate_left 1; (conv => lhs; cbv; (try cbv); (try cbv)); intro hT; clear hT; refine Sh.mk (by kernel_rfl) ?_))
      | ((with_reducible refine End.mk ?_); skip)
      | with_reducible exact True.intro)
    all_goals first
      | (fail_if_success (with_reducible refine Exists.intro ?_ ?_)
         first
           | with_reducible rfl
           | with_reducible assumption
           | (dsimp only [putSpec, readSpec, gapsSpec, endSpec, endF, offSpec, offF, ctgSpec, ctgF, heldSpec, heldF, geqSpec, smallSpec, newStoSpec, Ty.T, Ty.dflt, KT.T, getM, putM, delM, inI64, maxRow]; done)
           | (symm; with_reducible assumption)
           | (dsimp only [putSpec, readSpec, gapsSpec, endSpec, endF, offSpec, offF, ctgSpec, ctgF, heldSpec, heldF, geqSpec, smallSpec, newStoSpec, Ty.T, Ty.dflt, KT.T, getM, putM, delM, inI64, maxRow]; first | with_reducible rfl | with_reducible assumption | (symm; with_reducible assumption) | (simp only [natCast_eq]; with_reducible rfl) | omega)
           | omega
           | (dsimp only [putSpec, readSpec, gapsSpec, endSpec, endF, offSpec, offF, ctgSpec, ctgF, heldSpec, heldF, geqSpec, smallSpec, newStoSpec, Ty.T, Ty.dflt, KT.T, getM, putM, delM, inI64, maxRow]; (try simp only [natCast_eq, List.nil_append]); first | with_reducible rfl | exact take_cg (by omega) | exact drop_cg (by omega) | exact take_drop_cg (by omega) (by omega) | exact take_all (by omega) | exact take_drop_all (by omega) (by omega) | exact drop_take_cg (by omega) (by omega) (by omega))
           | first | (rw [hx1]) | (rw [hx2])
           | ((try dsimp only [putSpec, readSpec, gapsSpec, endSpec, endF, offSpec, offF, ctgSpec, ctgF, heldSpec, heldF, geqSpec, smallSpec, newStoSpec, Ty.T, Ty.dflt, KT.T, getM, putM, delM, inI64, maxRow]); simp only [decide_eq_true_eq, decide_eq_false_iff_not, Bool.not_eq_true', Bool.not_eq_false', Bool.not_eq_true, Bool.not_eq_false, Bool.not_true, Bool.not_false, ne_eq, Bool.false_eq_true, Bool.true_eq_false, reduceCtorEq, beq_iff_eq, beq_eq_false_iff_ne, not_true_eq_false, not_false_eq_true, pair_eta, map_idL, natCast_eq, inI64, maxRow]; first | done | with_reducible assumption | omega)
           | exact map_pair_id _
           | ((try dsimp only [putSpec, readSpec, gapsSpec, endSpec, endF, offSpec, offF, ctgSpec, ctgF, heldSpec, heldF, geqSpec, smallSpec, newStoSpec, Ty.T, Ty.dflt, KT.T, getM, putM, delM, inI64, maxRow]) <;> (try simp only [natCast_eq]) <;> omega)
           | ((try dsimp only [putSpec, readSpec, gapsSpec, endSpec, endF, offSpec, offF, ctgSpec, ctgF, heldSpec, heldF, geqSpec, smallSpec, newStoSpec, Ty.T, Ty.dflt, KT.T, getM, putM, delM, inI64, maxRow] at *) <;> (try simp only [natCast_eq] at *) <;> omega)
           | ((try dsimp only [putSpec, readSpec, gapsSpec, endSpec, endF, offSpec, offF, ctgSpec, ctgF, heldSpec, heldF, geqSpec, smallSpec, newStoSpec, Ty.T, Ty.dflt, KT.T, getM, putM, delM, inI64, maxRow] at *) <;> (try simp only [List.length_append, List.length_cons, List.length_nil, List.length_replicate, List.length_take, List.length_drop, natCast_eq] at *) <;> omega)
           | assumption
           | (symm; assumption)
           | (dsimp only; simp only [Bool.or_true, Bool.true_or, Bool.or_false, Bool.false_or, Bool.and_true, Bool.true_and, Bool.and_false, Bool.false_and, Bool.not_true, Bool.not_false, *]; done)
           | (simp; done)
           | (and_intros <;> first | trivial | with_reducible assumption | omega)
           | ((try dsimp only [putSpec, readSpec, gapsSpec, endSpec, endF, offSpec, offF, ctgSpec, ctgF, heldSpec, heldF, geqSpec, smallSpec, newStoSpec, Ty.T, Ty.dflt, KT.T, getM, putM, delM, inI64, maxRow] at *) <;> simp [*] <;> done))
      | skip
  obtain ⟨i, S, stop, hlo, hhi, hok, hst⟩ := x
  have hof := hok.off
  have hnx := hok.nxt
  have hwn := hok.win
  have hkl := hok.len
  dsimp only [topK] at hnx
  (try (conv in (LoopInv.inv _ _) => dsimp only)); (try (conv in (SS.mk _ _) => cbv; (try dsimp only [putSpec, readSpec, gapsSpec, endSpec, endF, offSpec, offF, ctgSpec, ctgF, heldSpec, heldF, geqSpec, smallSpec, newStoSpec, Ty.T, Ty.dflt, KT.T]); (try simp only [natCast_eq])))
  (refine (?_ : T1 _ ?_) ?_; rotate_left 1; (conv => lhs; cbv; (try cbv); (try cbv)); intro hT; clear hT; refine Sh.mk (by kernel_rfl) ?_)
  repeat' (first
    | with_reducible refine Ck.mk (C := tt) tt_intro ?_
    | with_reducible refine Ck.mk (show drawOk _ _ = true by kernel_rfl) ?_
    | with_reducible refine Ck.all_cons ?_
    | with_reducible refine Ck.all_nil ?_
    | with_reducible refine Ck.mk (by assumption) ?_
    | with_reducible refine Ck.mk (decide_eq_true (by assumption)) ?_
    | with_reducible refine Ck.mk (decide_eq_false (by assumption)) ?_
    | with_reducible refine Ck.mk ?_ ?_
    | (with_reducible refine Both.mk (fun h => ?_) (fun h => ?_) <;> (have hk := h) <;> (try simp only [decide_eq_true_eq, decide_eq_false_iff_not, Bool.not_eq_true', Bool.not_eq_false', Bool.not_eq_true, Bool.not_eq_false, Bool.not_true, Bool.not_false, ne_eq, Bool.false_eq_true, Bool.true_eq_false, reduceCtorEq, beq_iff_eq, beq_eq_false_iff_ne, not_true_eq_false, not_false_eq_true, pair_eta, map_idL] at h) <;> (try dsimp only [putSpec, readSpec, gapsSpec, endSpec, endF, offSpec, offF, ctgSpec, ctgF, heldSpec, heldF, geqSpec, smallSpec, newStoSpec, Ty.T, Ty.dflt, KT.T, getM, putM, delM] at h) <;> (try simp only [natCast_eq] at h) <;> (try (have hA := rfs_facts hok hL hsm hlo h; obtain ⟨hb, hn, hA⟩ := hA; dsimp only [fsA, putA1, segA, elA] at hb hn hA; have hrg := hA.rng)) <;> (try (have q1 := hA.err h; obtain ⟨qn, qS⟩ := q1)) <;> (try (have q2 := hA.held h; have q3 := hA.off h; obtain ⟨q3a, q3b, q3c⟩ := q3; have qL := hA.last h; have qB := hA.bad h)) <;> (try (have q4 := hst h; obtain ⟨q4, q4b⟩ := q4; have q5 := hA.fin q4; obtain ⟨q5, q5b⟩ := q5)) <;> (try (have q6 := qL h; obtain ⟨q6, q6b⟩ := q6)) <;> (try simp only [qS] at h) <;> (try rw [if_pos q5] at h) <;> (try rw [if_pos q4] at h) <;> (try rw [if_pos q6] at h) <;> (try simp only [List.nil_append, hB] at h) <;> (try (have hB := qB (by assumption) (by assumption) h _ (bad_u8 hb h (by assumption)))) <;> (try (exfalso; exact absurd (q5.symm.trans h) Bool.noConfusion)) <;> (try (exfalso; exact absurd (q6.symm.trans h) Bool.noConfusion)) <;> (try (exfalso; exact absurd rfl h)) <;> (try (exfalso; exact absurd ((geq_self _).symm.trans h) Bool.noConfusion)) <;> (try first | rw [if_pos h] at hr | rw [if_neg h] at hr | rw [ifF h] at hr | rw [ifN h] at hr) <;> (try (have hb : (_ : Bool) = _ := h; clear h; subst hb; (try first | rw [if_pos rfl] at hr | rw [if_neg Bool.false_ne_true] at hr))) <;> first | (exfalso; omega) | exact absurd (h.symm.trans (by assumption) : true = false) Bool.noConfusion | exact absurd (h.symm.trans (by assumption) : false = true) Bool.noConfusion | (refine (?_ : T1 _ ?_) ?_; rotate_left 1; (conv => lhs; cbv; (try cbv); (try cbv)); intro hT; clear hT; refine Sh.mk (by kernel_rfl) ?_))
    | (with_reducible refine Alt.mk (fun h => ?_) (fun h => ?_) <;> (have hk := h) <;> (try simp only [decide_eq_true_eq, decide_eq_false_iff_not, Bool.not_eq_true', Bool.not_eq_false', Bool.not_eq_true, Bool.not_eq_false, Bool.not_true, Bool.not_false, ne_eq, Bool.false_eq_true, Bool.true_eq_false, reduceCtorEq, beq_iff_eq, beq_eq_false_iff_ne, not_true_eq_false, not_false_eq_true, pair_eta, map_idL] at h) <;> (try dsimp only [putSpec, readSpec, gapsSpec, endSpec, endF, offSpec, offF, ctgSpec, ctgF, heldSpec, heldF, geqSpec, smallSpec, newStoSpec, Ty.T, Ty.dflt, KT.T, getM, putM, delM] at h) <;> (try simp only [natCast_eq] at h) <;> (try (have hA := rfs_facts hok hL hsm hlo h; obtain ⟨hb, hn, hA⟩ := hA; dsimp only [fsA, putA1, segA, elA] at hb hn hA; have hrg := hA.rng)) <;> (try (have q1 := hA.err h; obtain ⟨qn, qS⟩ := q1)) <;> (try (have q2 := hA.held h; have q3 := hA.off h; obtain ⟨q3a, q3b, q3c⟩ := q3; have qL := hA.last h; have qB := hA.bad h)) <;> (try (have q4 := hst h; obtain ⟨q4, q4b⟩ := q4; have q5 := hA.fin q4; obtain ⟨q5, q5b⟩ := q5)) <;> (try (have q6 := qL h; obtain ⟨q6, q6b⟩ := q6)) <;> (try simp only [qS] at h) <;> (try rw [if_pos q5] at h) <;> (try rw [if_pos q4] at h) <;> (try rw [if_pos q6] at h) <;> (try simp only [List.nil_append, hB] at h) <;> (try (have hB := qB (by assumption) (by assumption) h _ (bad_u8 hb h (by assumption)))) <;> (try (exfalso; exact absurd (q5.symm.trans h) Bool.noConfusion)) <;> (try (exfalso; exact absurd (q6.symm.trans h) Bool.noConfusion)) <;> (try (exfalso; exact absurd rfl h)) <;> (try (exfalso; exact absurd ((geq_self _).symm.trans h) Bool.noConfusion)) <;> (try first | rw [if_pos h] at hr | rw [if_neg h] at hr | rw [ifF h] at hr | rw [ifN h] at hr) <;> (try (have hb : (_ : Bool) = _ := h; clear h; subst hb; (try first | rw [if_pos rfl] at hr | rw [if_neg Bool.false_ne_true] at hr))) <;> first | (exfalso; omega) | exact absurd (h.symm.trans (by assumption) : true = false) Bool.noConfusion | exact absurd (h.symm.trans (by assumption) : false = true) Bool.noConfusion | (refine (?_ : T1 _ ?_) ?_; rotate_left 1; (conv => lhs; cbv; (try cbv); (try cbv)); intro hT; clear hT; refine Sh.mk (by kernel_rfl) ?_))
    | (with_reducible refine Pick.mk (fun h => ?_) (fun l1 x l2 h => ?_) <;> (refine (?_ : T1 _ ?_) ?_; rotate_left 1; (conv => lhs; cbv; (try cbv); (try cbv)); intro hT; clear hT; refine Sh.mk (by kernel_rfl) ?_))
    | ((with_reducible refine End.mk ?_); (try ((repeat (first | rw [if_pos (by first | assumption | omega)] at hr | rw [if_neg (by first | assumption | omega | (simp only [Bool.false_eq_true, Bool.true_eq_false, reduceCtorEq, not_false_eq_true]; done) | (simp only [Bool.not_eq_true]; assumption) | (simp only [Bool.not_eq_false]; assumption))] at hr | rw [if_pos rfl] at hr)); subst hr)))
    | with_reducible exact True.intro)
  all_goals first
    | (fail_if_success (with_reducible refine Exists.intro ?_ ?_)
       first
         | with_reducible rfl
         | with_reducible assumption
         | (dsimp only [putSpec, readSpec, gapsSpec, endSpec, endF, offSpec, offF, ctgSpec, ctgF, heldSpec, heldF, geqSpec, smallSpec, newStoSpec, Ty.T, Ty.dflt, KT.T, getM, putM, delM, inI64, maxRow]; done)
         | (symm; with_reducible assumption)
         | (dsimp only [putSpec, readSpec, gapsSpec, endSpec, endF, offSpec, offF, ctgSpec, ctgF, heldSpec, heldF, geqSpec, smallSpec, newStoSpec, Ty.T, Ty.dflt, KT.T, getM, putM, delM, inI64, maxRow]; first | with_reducible rfl | with_reducible assumption | (symm; with_reducible assumption) | (simp only [natCast_eq]; with_reducible rfl) | omega)
         | omega
         | (dsimp only [putSpec, readSpec, gapsSpec, endSpec, endF, offSpec, offF, ctgSpec, ctgF, heldSpec, heldF, geqSpec, smallSpec, newStoSpec, Ty.T, Ty.dflt, KT.T, getM, putM, delM, inI64, maxRow]; (try simp only [natCast_eq, List.nil_append]); first | with_reducible rfl | exact take_cg (by omega) | exact drop_cg (by omega) | exact take_drop_cg (by omega) (by omega) | exact take_all (by omega) | exact take_drop_all (by omega) (by omega) | exact drop_take_cg (by omega) (by omega) (by omega))
         | first | exact ⟨hok.pre, Nat.le_trans hn (by decide)⟩ | exact hok.pre | exact hok.preG | exact hA.ok.preG | exact ⟨hA.ok.pre, Nat.le_trans (Nat.le_of_eq List.length_set) (Nat.le_trans hn (by decide))⟩ | exact Nat.le_trans (Nat.le_of_eq (List.length_map _)) (gaps_len hA.ok) | exact of_decide_eq_true (by assumption)
         | ((try dsimp only [putSpec, readSpec, gapsSpec, endSpec, endF, offSpec, offF, ctgSpec, ctgF, heldSpec, heldF, geqSpec, smallSpec, newStoSpec, Ty.T, Ty.dflt, KT.T, getM, putM, delM, inI64, maxRow]); simp only [decide_eq_true_eq, decide_eq_false_iff_not, Bool.not_eq_true', Bool.not_eq_false', Bool.not_eq_true, Bool.not_eq_false, Bool.not_true, Bool.not_false, ne_eq, Bool.false_eq_true, Bool.true_eq_false, reduceCtorEq, beq_iff_eq, beq_eq_false_iff_ne, not_true_eq_false, not_false_eq_true, pair_eta, map_idL, natCast_eq, inI64, maxRow]; first | done | with_reducible assumption | omega)
         | exact map_pair_id _
         | ((try dsimp only [putSpec, readSpec, gapsSpec, endSpec, endF, offSpec, offF, ctgSpec, ctgF, heldSpec, heldF, geqSpec, smallSpec, newStoSpec, Ty.T, Ty.dflt, KT.T, getM, putM, delM, inI64, maxRow]) <;> (try simp only [natCast_eq]) <;> omega)
         | ((try dsimp only [putSpec, readSpec, gapsSpec, endSpec, endF, offSpec, offF, ctgSpec, ctgF, heldSpec, heldF, geqSpec, smallSpec, newStoSpec, Ty.T, Ty.dflt, KT.T, getM, putM, delM, inI64, maxRow] at *) <;> (try simp only [natCast_eq] at *) <;> omega)
         | ((try dsimp only [putSpec, readSpec, gapsSpec, endSpec, endF, offSpec, offF, ctgSpec, ctgF, heldSpec, heldF, geqSpec, smallSpec, newStoSpec, Ty.T, Ty.dflt, KT.T, getM, putM, delM, inI64, maxRow] at *) <;> (try simp only [List.length_append, List.length_cons, List.length_nil, List.length_replicate, List.length_take, List.length_drop, natCast_eq] at *) <;> omega)
         | assumption
         | (symm; assumption)
         | (dsimp only; simp only [Bool.or_true, Bool.true_or, Bool.or_false, Bool.false_or, Bool.and_true, Bool.true_and, Bool.and_false, Bool.false_and, Bool.not_true, Bool.not_false, *]; done)
         | (simp; done)
         | (and_intros <;> first | trivial | with_reducible assumption | omega)
         | ((try dsimp only [putSpec, readSpec, gapsSpec, endSpec, endF, offSpec, offF, ctgSpec, ctgF, heldSpec, heldF, geqSpec, smallSpec, newStoSpec, Ty.T, Ty.dflt, KT.T, getM, putM, delM, inI64, maxRow] at *) <;> simp [*] <;> done))
    | skip
  · obtain ⟨y, hy0, hy1, hy2⟩ := next_LRf (L := L) (T := (readF S (elA L i).2.2).2) (p := stop) hlo (by assumption) (read_sto hok _) (by rw [(read_fin S _).1, (read_fin S _).2]; exact hst)
    refine ⟨y, by dsimp only; (try simp only [natCast_eq]); omega, ?_⟩
    (try (conv in (LoopInv.inv _ _) => dsimp only)); (try (conv in (SS.mk _ _) => cbv; (try dsimp only [putSpec, readSpec, gapsSpec, endSpec, endF, offSpec, offF, ctgSpec, ctgF, heldSpec, heldF, geqSpec, smallSpec, newStoSpec, Ty.T, Ty.dflt, KT.T]); (try simp only [natCast_eq])))
    (refine (?_ : T1 _ ?_) ?_; rotate_left 1; (conv => lhs; cbv; (try cbv); (try cbv)); intro hT; clear hT; refine Sh.mk (by kernel_rfl) ?_)
    repeat' (first
      | with_reducible refine Ck.mk (C := tt) tt_intro ?_
      | with_reducible refine Ck.mk (show drawOk _ _ = true by kernel_rfl) ?_
      | with_reducible refine Ck.all_cons ?_
      | with_reducible refine Ck.all_nil ?_
      | with_reducible refine Ck.mk (by assumption) ?_
      | with_reducible refine Ck.mk (decide_eq_true (by assumption)) ?_
      | with_reducible refine Ck.mk (decide_eq_false (by assumption)) ?_
      | with_reducible refine Ck.mk ?_ ?_
      | (with_reducible refine Both.mk (fun h => ?_) (fun h => ?_) <;> (have hk := h) <;> (try simp only [decide_eq_true_eq, decide_eq_false_iff_not, Bool.not_eq_true', Bool.not_eq_false', Bool.not_eq_true, Bool.not_eq_false, Bool.not_true, Bool.not_false, ne_eq, Bool.false_eq_true, Bool.true_eq_false, reduceCtorEq, beq_iff_eq, beq_eq_false_iff_ne, not_true_eq_false, not_false_eq_true, pair_eta, map_idL] at h) <;> (try dsimp only [putSpec, readSpec, gapsSpec, endSpec, endF, offSpec, offF, ctgSpec, ctgF, heldSpec, heldF, geqSpec, smallSpec, newStoSpec, Ty.T, Ty.dflt, KT.T, getM, putM, delM] at h) <;> (try simp only [natCast_eq] at h) <;> (try (have hA := rfs_facts hok hL hsm hlo h; obtain ⟨hb, hn, hA⟩ := hA; dsimp only [fsA, putA1, segA, elA] at hb hn hA; have hrg := hA.rng)) <;> (try (have q1 := hA.err h; obtain ⟨qn, qS⟩ := q1)) <;> (try (have q2 := hA.held h; have q3 := hA.off h; obtain ⟨q3a, q3b, q3c⟩ := q3; have qL := hA.last h; have qB := hA.bad h)) <;> (try (have q4 := hst h; obtain ⟨q4, q4b⟩ := q4; have q5 := hA.fin q4; obtain ⟨q5, q5b⟩ := q5)) <;> (try (have q6 := qL h; obtain ⟨q6, q6b⟩ := q6)) <;> (try simp only [qS] at h) <;> (try rw [if_pos q5] at h) <;> (try rw [if_pos q4] at h) <;> (try rw [if_pos q6] at h) <;> (try simp only [List.nil_append, hB] at h) <;> (try (have hB := qB (by assumption) (by assumption) h _ (bad_u8 hb h (by assumption)))) <;> (try (exfalso; exact absurd (q5.symm.trans h) Bool.noConfusion)) <;> (try (exfalso; exact absurd (q6.symm.trans h) Bool.noConfusion)) <;> (try (exfalso; exact absurd rfl h)) <;> (try (exfalso; exact absurd ((geq_self _).symm.trans h) Bool.noConfusion)) <;> (try first | rw [if_pos h] at hr | rw [if_neg h] at hr | rw [ifF h] at hr | rw [ifN h] at hr) <;> (try (have hb : (_ : Bool) = _ := h; clear h; subst hb; (try first | rw [if_pos rfl] at hr | rw [if_neg Bool.false_ne_true] at hr))) <;> first | (exfalso; omega) | exact absurd (h.symm.trans (by assumption) : true = false) Bool.noConfusion | exact absurd (h.symm.trans (by assumption) : false = true) Bool.noConfusion | (refine (?_ : T1 _ ?_) ?_; rotate_left 1; (conv => lhs; cbv; (try cbv); (try cbv)); intro hT; clear hT; refine Sh.mk (by kernel_rfl) ?_))
      | (with_reducible refine Alt.mk (fun h => ?_) (fun h => ?_) <;> (have hk := h) <;> (try simp only [decide_eq_true_eq, decide_eq_false_iff_not, Bool.not_eq_true', Bool.not_eq_false', Bool.not_eq_true, Bool.not_eq_false, Bool.not_true, Bool.not_false, ne_eq, Bool.false_eq_true, Bool.true_eq_false, reduceCtorEq, beq_iff_eq, beq_eq_false_iff_ne, not_true_eq_false, not_false_eq_true, pair_eta, map_idL] at h) <;> (try dsimp only [putSpec, readSpec, gapsSpec, endSpec, endF, offSpec, offF, ctgSpec, ctgF, heldSpec, heldF, geqSpec, smallSpec, newStoSpec, Ty.T, Ty.dflt, KT.T, getM, putM, delM] at h) <;> (try simp only [natCast_eq] at h) <;> (try (have hA := rfs_facts hok hL hsm hlo h; obtain ⟨hb, hn, hA⟩ := hA; dsimp only [fsA, putA1, segA, elA] at hb hn hA; have hrg := hA.rng)) <;> (try (have q1 := hA.err h; obtain ⟨qn, qS⟩ := q1)) <;> (try (have q2 := hA.held h; have q3 := hA.off h; obtain ⟨q3a, q3b, q3c⟩ := q3; have qL := hA.last h; have qB := hA.bad h)) <;> (try (have q4 := hst h; obtain ⟨q4, q4b⟩ := q4; have q5 := hA.fin q4; obtain ⟨q5, q5b⟩ := q5)) <;> (try (have q6 := qL h; obtain ⟨q6, q6b⟩ := q6)) <;> (try simp only [qS] at h) <;> (try rw [if_pos q5] at h) <;> (try rw [if_pos q4] at h) <;> (try rw [if_pos q6] at h) <;> (try simp only [List.nil_append, hB] at h) <;> (try (have hB := qB (by assumption) (by assumption) h _ (bad_u8 hb h (by assumption)))) <;> (try (exfalso; exact absurd (q5.symm.trans h) Bool.noConfusion)) <;> (try (exfalso; exact absurd (q6.symm.trans h) Bool.noConfusion)) <;> (try (exfalso; exact absurd rfl h)) <;> (try (exfalso; exact absurd ((geq_self _).symm.trans h) Bool.noConfusion)) <;> (try first | rw [if_pos h] at hr | rw [if_neg h] at hr | rw [ifF h] at hr | rw [ifN h] at hr) <;> (try (have hb : (_ : Bool) = _ := h; clear h; subst hb; (try first | rw [if_pos rfl] at hr | rw [if_neg Bool.false_ne_true] at hr))) <;> first | (exfalso; omega) | exact absurd (h.symm.trans (by assumption) : true = false) Bool.noConfusion | exact absurd (h.symm.trans (by assumption) : false = true) Bool.noConfusion | (refine (?_ : T1 _ ?_) ?_; rotate_left 1; (conv => lhs; cbv; (try cbv); (try cbv)); intro hT; clear hT; refine Sh.mk (by kernel_rfl) ?_))
      | (with_reducible refine Pick.mk (fun h => ?_) (fun l1 x l2 h => ?_) <;> (refine (?_ : T1 _ ?_) ?_; rotate_left 1; (conv => lhs; cbv; (try cbv); (try cbv)); intro hT; clear hT; refine Sh.mk (by kernel_rfl) ?_))
      | ((with_reducible refine End.mk ?_); skip)
      | with_reducible exact True.intro)
    all_goals first
      | (fail_if_success (with_reducible refine Exists.intro ?_ ?_)
         first
           | with_reducible rfl
           | with_reducible assumption
           | (dsimp only [putSpec, readSpec, gapsSpec, endSpec, endF, offSpec, offF, ctgSpec, ctgF, heldSpec, heldF, geqSpec, smallSpec, newStoSpec, Ty.T, Ty.dflt, KT.T, getM, putM, delM, inI64, maxRow]; done)
           | (symm; with_reducible assumption)
           | (dsimp only [putSpec, readSpec, gapsSpec, endSpec, endF, offSpec, offF, ctgSpec, ctgF, heldSpec, heldF, geqSpec, smallSpec, newStoSpec, Ty.T, Ty.dflt, KT.T, getM, putM, delM, inI64, maxRow]; first | with_reducible rfl | with_reducible assumption | (symm; with_reducible assumption) | (simp only [natCast_eq]; with_reducible rfl) | omega)
           | omega
           | (dsimp only [putSpec, readSpec, gapsSpec, endSpec, endF, offSpec, offF, ctgSpec, ctgF, heldSpec, heldF, geqSpec, smallSpec, newStoSpec, Ty.T, Ty.dflt, KT.T, getM, putM, delM, inI64, maxRow]; (try simp only [natCast_eq, List.nil_append]); first | with_reducible rfl | exact take_cg (by omega) | exact drop_cg (by omega) | exact take_drop_cg (by omega) (by omega) | exact take_all (by omega) | exact take_drop_all (by omega) (by omega) | exact drop_take_cg (by omega) (by omega) (by omega))
           | first | exact hy1.symm | exact hy2.symm
           | ((try dsimp only [putSpec, readSpec, gapsSpec, endSpec, endF, offSpec, offF, ctgSpec, ctgF, heldSpec, heldF, geqSpec, smallSpec, newStoSpec, Ty.T, Ty.dflt, KT.T, getM, putM, delM, inI64, maxRow]); simp only [decide_eq_true_eq, decide_eq_false_iff_not, Bool.not_eq_true', Bool.not_eq_false', Bool.not_eq_true, Bool.not_eq_false, Bool.not_true, Bool.not_false, ne_eq, Bool.false_eq_true, Bool.true_eq_false, reduceCtorEq, beq_iff_eq, beq_eq_false_iff_ne, not_true_eq_false, not_false_eq_true, pair_eta, map_idL, natCast_eq, inI64, maxRow]; first | done | with_reducible assumption | omega)
           | exact map_pair_id _
           | ((try dsimp only [putSpec, readSpec, gapsSpec, endSpec, endF, offSpec, offF, ctgSpec, ctgF, heldSpec, heldF, geqSpec, smallSpec, newStoSpec, Ty.T, Ty.dflt, KT.T, getM, putM, delM, inI64, maxRow]) <;> (try simp only [natCast_eq]) <;> omega)
           | ((try dsimp only [putSpec, readSpec, gapsSpec, endSpec, endF, offSpec, offF, ctgSpec, ctgF, heldSpec, heldF, geqSpec, smallSpec, newStoSpec, Ty.T, Ty.dflt, KT.T, getM, putM, delM, inI64, maxRow] at *) <;> (try simp only [natCast_eq] at *) <;> omega)
           | ((try dsimp only [putSpec, readSpec, gapsSpec, endSpec, endF, offSpec, offF, ctgSpec, ctgF, heldSpec, heldF, geqSpec, smallSpec, newStoSpec, Ty.T, Ty.dflt, KT.T, getM, putM, delM, inI64, maxRow] at *) <;> (try simp only [List.length_append, List.length_cons, List.length_nil, List.length_replicate, List.length_take, List.length_drop, natCast_eq] at *) <;> omega)
           | assumption
           | (symm; assumption)
           | (dsimp only; simp only [Bool.or_true, Bool.true_or, Bool.or_false, Bool.false_or, Bool.and_true, Bool.true_and, Bool.and_false, Bool.false_and, Bool.not_true, Bool.not_false, *]; done)
           | (simp; done)
           | (and_intros <;> first | trivial | with_reducible assumption | omega)
           | ((try dsimp only [putSpec, readSpec, gapsSpec, endSpec, endF, offSpec, offF, ctgSpec, ctgF, heldSpec, heldF, geqSpec, smallSpec, newStoSpec, Ty.T, Ty.dflt, KT.T, getM, putM, delM, inI64, maxRow] at *) <;> simp [*] <;> done))
      | skip
  all_goals
    ((first
        | (have hs := st_known (T := (putA1 L S i).2) (by first | assumption | (rw [qS]; assumption)))
        | (have hs := st_not (T := (putA1 L S i).2) (by first | assumption | (rw [qS]; assumption)) hA.fin hst))
     obtain ⟨y, hy0, hy1, hy2⟩ := next_LRf hlo (by assumption) hA.ok hs
     refine ⟨y, by dsimp only; (try simp only [natCast_eq]); omega, ?_⟩
     (try (conv in (LoopInv.inv _ _) => dsimp only)); (try (conv in (SS.mk _ _) => cbv; (try dsimp only [putSpec, readSpec, gapsSpec, endSpec, endF, offSpec, offF, ctgSpec, ctgF, heldSpec, heldF, geqSpec, smallSpec, newStoSpec, Ty.T, Ty.dflt, KT.T]); (try simp only [natCast_eq])))
     (refine (?_ : T1 _ ?_) ?_; rotate_left 1; (conv => lhs; cbv; (try cbv); (try cbv)); intro hT; clear hT; refine Sh.mk (by kernel_rfl) ?_)
     repeat' (first
       | with_reducible refine Ck.mk (C := tt) tt_intro ?_
       | with_reducible refine Ck.mk (show drawOk _ _ = true by kernel_rfl) ?_
       | with_reducible refine Ck.all_cons ?_
       | with_reducible refine Ck.all_nil ?_
       | with_reducible refine Ck.mk (by assumption) ?_
       | with_reducible refine Ck.mk (decide_eq_true (by assumption)) ?_
       | with_reducible refine Ck.mk (decide_eq_false (by assumption)) ?_
       | with_reducible refine Ck.mk ?_ ?_
       | (with_reducible refine Both.mk (fun h => ?_) (fun h => ?_) <;> (have hk := h) <;> (try simp only [decide_eq_true_eq, decide_eq_false_iff_not, Bool.not_eq_true', Bool.not_eq_false', Bool.not_eq_true, Bool.not_eq_false, Bool.not_true, Bool.not_false, ne_eq, Bool.false_eq_true, Bool.true_eq_false, reduceCtorEq, beq_iff_eq, beq_eq_false_iff_ne, not_true_eq_false, not_false_eq_true, pair_eta, map_idL] at h) <;> (try dsimp only [putSpec, readSpec, gapsSpec, endSpec, endF, offSpec, offF, ctgSpec, ctgF, heldSpec, heldF, geqSpec, smallSpec, newStoSpec, Ty.T, Ty.dflt, KT.T, getM, putM, delM] at h) <;> (try simp only [natCast_eq] at h) <;> (try (have hA := rfs_facts hok hL hsm hlo h; obtain ⟨hb, hn, hA⟩ := hA; dsimp only [fsA, putA1, segA, elA] at hb hn hA; have hrg := hA.rng)) <;> (try (have q1 := hA.err h; obtain ⟨qn, qS⟩ := q1)) <;> (try (have q2 := hA.held h; have q3 := hA.off h; obtain ⟨q3a, q3b, q3c⟩ := q3; have qL := hA.last h; have qB := hA.bad h)) <;> (try (have q4 := hst h; obtain ⟨q4, q4b⟩ := q4; have q5 := hA.fin q4; obtain ⟨q5, q5b⟩ := q5)) <;> (try (have q6 := qL h; obtain ⟨q6, q6b⟩ := q6)) <;> (try simp only [qS] at h) <;> (try rw [if_pos q5] at h) <;> (try rw [if_pos q4] at h) <;> (try rw [if_pos q6] at h) <;> (try simp only [List.nil_append, hB] at h) <;> (try (have hB := qB (by assumption) (by assumption) h _ (bad_u8 hb h (by assumption)))) <;> (try (exfalso; exact absurd (q5.symm.trans h) Bool.noConfusion)) <;> (try (exfalso; exact absurd (q6.symm.trans h) Bool.noConfusion)) <;> (try (exfalso; exact absurd rfl h)) <;> (try (exfalso; exact absurd ((geq_self _).symm.trans h) Bool.noConfusion)) <;> (try first | rw [if_pos h] at hr | rw [if_neg h] at hr | rw [ifF h] at hr | rw [ifN h] at hr) <;> (try (have hb : (_ : Bool) = _ := h; clear h; subst hb; (try first | rw [if_pos rfl] at hr | rw [if_neg Bool.false_ne_true] at hr))) <;> first | (exfalso; omega) | exact absurd (h.symm.trans (by assumption) : true = false) Bool.noConfusion | exact absurd (h.symm.trans (by assumption) : false = true) Bool.noConfusion | (refine (?_ : T1 _ ?_) ?_; rotate_left 1; (conv => lhs; cbv; (try cbv); (try cbv)); intro hT; clear hT; refine Sh.mk (by kernel_rfl) ?_))
       | (with_reducible refine Alt.mk (fun h => ?_) (fun h => ?_) <;> (have hk := h) <;> (try simp only [decide_eq_true_eq, decide_eq_false_iff_not, Bool.not_eq_true', Bool.not_eq_false', Bool.not_eq_true, Bool.not_eq_false, Bool.not_true, Bool.not_false, ne_eq, Bool.false_eq_true, Bool.true_eq_false, reduceCtorEq, beq_iff_eq, beq_eq_false_iff_ne, not_true_eq_false, not_false_eq_true, pair_eta, map_idL] at h) <;> (try dsimp only [putSpec, readSpec, gapsSpec, endSpec, endF, offSpec, offF, ctgSpec, ctgF, heldSpec, heldF, geqSpec, smallSpec, newStoSpec, Ty.T, Ty.dflt, KT.T, getM, putM, delM] at h) <;> (try simp only [natCast_eq] at h) <;> (try (have hA := rfs_facts hok hL hsm hlo h; obtain ⟨hb, hn, hA⟩ := hA; dsimp only [fsA, putA1, segA, elA] at hb hn hA; have hrg := hA.rng)) <;> (try (have q1 := hA.err h; obtain ⟨qn, qS⟩ := q1)) <;> (try (have q2 := hA.held h; have q3 := hA.off h; obtain ⟨q3a, q3b, q3c⟩ := q3; have qL := hA.last h; have qB := hA.bad h)) <;> (try (have q4 := hst h; obtain ⟨q4, q4b⟩ := q4; have q5 := hA.fin q4; obtain ⟨q5, q5b⟩ := q5)) <;> (try (have q6 := qL h; obtain ⟨q6, q6b⟩ := q6)) <;> (try simp only [qS] at h) <;> (try rw [if_pos q5] at h) <;> (try rw [if_pos q4] at h) <;> (try rw [if_pos q6] at h) <;> (try simp only [List.nil_append, hB] at h) <;> (try (have hB := qB (by assumption) (by assumption) h _ (bad_u8 hb h (by assumption)))) <;> (try (exfalso; exact absurd (q5.symm.trans h) Bool.noConfusion)) <;> (try (exfalso; exact absurd (q6.symm.trans h) Bool.noConfusion)) <;> (try (exfalso; exact absurd rfl h)) <;> (try (exfalso; exact absurd ((geq_self _).symm.trans h) Bool.noConfusion)) <;> (try first | rw [if_pos h] at hr | rw [if_neg h] at hr | rw [ifF h] at hr | rw [ifN h] at hr) <;> (try (have hb : (_ : Bool) = _ := h; clear h; subst hb; (try first | rw [if_pos rfl] at hr | rw [if_neg Bool.false_ne_true] at hr))) <;> first | (exfalso; omega) | exact absurd (h.symm.trans (by assumption) : true = false) Bool.noConfusion | exact absurd (h.symm.trans (by assumption) : false = true) Bool.noConfusion | (refine (?_ : T1 _ ?_) ?_; rotate_left 1; (conv => lhs; cbv; (try cbv); (try cbv)); intro hT; clear hT; refine Sh.mk (by kernel_rfl) ?_))
       | (with_reducible refine Pick.mk (fun h => ?_) (fun l1 x l2 h => ?_) <;> (refine (?_ : T1 _ ?_) ?_; rotate_left 1; (conv => lhs; cbv; (try cbv); (try cbv)); intro hT; clear hT; refine Sh.mk (by kernel_rfl) ?_))
       | ((with_reducible refine End.mk ?_); skip)
       | with_reducible exact True.intro)
     all_goals first
       | (fail_if_success (with_reducible refine Exists.intro ?_ ?_)
          first
            | with_reducible rfl
            | with_reducible assumption
            | (dsimp only [putSpec, readSpec, gapsSpec, endSpec, endF, offSpec, offF, ctgSpec, ctgF, heldSpec, heldF, geqSpec, smallSpec, newStoSpec, Ty.T, Ty.dflt, KT.T, getM, putM, delM, inI64, maxRow]; done)
            | (symm; with_reducible assumption)
            | (dsimp only [putSpec, readSpec, gapsSpec, endSpec, endF, offSpec, offF, ctgSpec, ctgF, heldSpec, heldF, geqSpec, smallSpec, newStoSpec, Ty.T, Ty.dflt, KT.T, getM, putM, delM, inI64, maxRow]; first | with_reducible rfl | with_reducible assumption | (symm; with_reducible assumption) | (simp only [natCast_eq]; with_reducible rfl) | omega)
            | omega
            | (dsimp only [putSpec, readSpec, gapsSpec, endSpec, endF, offSpec, offF, ctgSpec, ctgF, heldSpec, heldF, geqSpec, smallSpec, newStoSpec, Ty.T, Ty.dflt, KT.T, getM, putM, delM, inI64, maxRow]; (try simp only [natCast_eq, List.nil_append]); first | with_reducible rfl | exact take_cg (by omega) | exact drop_cg (by omega) | exact take_drop_cg (by omega) (by omega) | exact take_all (by omega) | exact take_drop_all (by omega) (by omega) | exact drop_take_cg (by omega) (by omega) (by omega))
            | first | exact hy1.symm | exact hy2.symm | exact (congrArg Prod.snd hB).trans hy1.symm
            | ((try dsimp only [putSpec, readSpec, gapsSpec, endSpec, endF, offSpec, offF, ctgSpec, ctgF, heldSpec, heldF, geqSpec, smallSpec, newStoSpec, Ty.T, Ty.dflt, KT.T, getM, putM, delM, inI64, maxRow]); simp only [decide_eq_true_eq, decide_eq_false_iff_not, Bool.not_eq_true', Bool.not_eq_false', Bool.not_eq_true, Bool.not_eq_false, Bool.not_true, Bool.not_false, ne_eq, Bool.false_eq_true, Bool.true_eq_false, reduceCtorEq, beq_iff_eq, beq_eq_false_iff_ne, not_true_eq_false, not_false_eq_true, pair_eta, map_idL, natCast_eq, inI64, maxRow]; first | done | with_reducible assumption | omega)
            | exact map_pair_id _
            | ((try dsimp only [putSpec, readSpec, gapsSpec, endSpec, endF, offSpec, offF, ctgSpec, ctgF, heldSpec, heldF, geqSpec, smallSpec, newStoSpec, Ty.T, Ty.dflt, KT.T, getM, putM, delM, inI64, maxRow]) <;> (try simp only [natCast_eq]) <;> omega)
            | ((try dsimp only [putSpec, readSpec, gapsSpec, endSpec, endF, offSpec, offF, ctgSpec, ctgF, heldSpec, heldF, geqSpec, smallSpec, newStoSpec, Ty.T, Ty.dflt, KT.T, getM, putM, delM, inI64, maxRow] at *) <;> (try simp only [natCast_eq] at *) <;> omega)
            | ((try dsimp only [putSpec, readSpec, gapsSpec, endSpec, endF, offSpec, offF, ctgSpec, ctgF, heldSpec, heldF, geqSpec, smallSpec, newStoSpec, Ty.T, Ty.dflt, KT.T, getM, putM, delM, inI64, maxRow] at *) <;> (try simp only [List.length_append, List.length_cons, List.length_nil, List.length_replicate, List.length_take, List.length_drop, natCast_eq] at *) <;> omega)
            | assumption
            | (symm; assumption)
            | (dsimp only; simp only [Bool.or_true, Bool.true_or, Bool.or_false, Bool.false_or, Bool.and_true, Bool.true_and, Bool.and_false, Bool.false_and, Bool.not_true, Bool.not_false, *]; done)
            | (simp; done)
            | (and_intros <;> first | trivial | with_reducible assumption | omega)
            | ((try dsimp only [putSpec, readSpec, gapsSpec, endSpec, endF, offSpec, offF, ctgSpec, ctgF, heldSpec, heldF, geqSpec, smallSpec, newStoSpec, Ty.T, Ty.dflt, KT.T, getM, putM, delM, inI64, maxRow] at *) <;> simp [*] <;> done))
       | skip
     )
theorem rfs_sound : ConSound Try.prog AI 9 rfsSpec.con := PureSpec.sound Try.call9 (fun x h => rfs_ok x.1 x.2.1 h)
end Go.Proofs.Ytonegoinplddmaa
