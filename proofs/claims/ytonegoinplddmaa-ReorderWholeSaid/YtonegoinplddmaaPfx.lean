/-
  Layer 43: ReorderPrefix, ReorderOrder, the walks.
-/
import Derived.Test.YtonegoinplddmaaPar
namespace Go.Proofs.Ytonegoinplddmaa
set_option linter.all false
set_option linter.unusedVariables false
set_option linter.unusedSimpArgs false
set_option linter.unusedSectionVars false
open Go.RowKit Go.Sx
set_option maxRecDepth 100000
set_option maxHeartbeats 16000000

theorem beq_inl : ConSound Try.prog AI 21 (inl E0 Try.f21 0) := inl_sound e0Ok mixed (fn := Try.f21) (c := bodyOf Try.f21) Try.call21 (by kernel_rfl) (by kernel_rfl) (by kernel_rfl) 0
noncomputable abbrev Ep : Env Ab := ⟨tis, [(23, geqSpec.con), (19, heldSpec.con), (18, ctgSpec.con), (17, offSpec.con), (22, endSpec.con), (16, gapsSpec.con), (15, readSpec.con), (14, putSpec.con), (13, newStoSpec.con), (20, partsSpec.con), (11, awakeSpec.con), (21, inl E0 Try.f21 0)] ++ E0.con⟩
theorem epOk : EnvOk Try.prog AI Ep := ((((((((((((e0Ok.add beq_inl).add awake_sound).add parts_sound).add newSto_sound).add put_sound).add read_sound).add gaps_sound).add end_sound).add off_sound).add ctg_sound).add held_sound).add geq_sound)
theorem parts_at {d : List Int} {l : List (Int × Int)} (hl : ∀ y ∈ l, u8p y) {i : Int} (h0 : 0 ≤ i) (hi : i < l.length) : (partsL d l).getD i.toNat (0, [], false) ∈ partsL d l ∧ IsPart d ((partsL d l).getD i.toNat (0, [], false)) := by
  have hm : (partsL d l).getD i.toNat (0, [], false) ∈ partsL d l := getD_mem (by unfold partsL; rw [List.length_map]; omega)
  refine ⟨hm, ?_⟩
  obtain ⟨x, hx, e⟩ := List.mem_map.1 hm
  rw [← e]
  have := hl x hx
  exact pseg_part d x this.1.1 this.2.1
theorem parts_len (d : List Int) (l : List (Int × Int)) : (partsL d l).length = l.length := List.length_map _
abbrev pAt (d : List Int) (l : List (Int × Int)) (i : Int) : Seg := (partsL d l).getD i.toNat (0, [], false)
structure LPf (d : List Int) (w : Int) (l : List (Int × Int)) where
  i : Int
  S : Sto
  lo : 0 ≤ i
  hi : i ≤ l.length
  fits : Fits S d
  win : S.win = w
/-- What a round does. -/
structure PfF (d : List Int) (S T : Sto) (n e : Int) (m : Int) : Prop where
  e : e = 0
  fits : Fits T d
  win : T.win = S.win
  off : T.off = S.off
  len : ((readF T m).1.1 : List Int).length ≤ d.length
  rd : d.take S.off.toNat ++ ((readF T m).1.1 : List Int) = d.take (readF T m).2.off.toNat
  fr : Fits (readF T m).2 d
  wr : (readF T m).2.win = S.win
theorem pfF {d : List Int} {S : Sto} (h : Fits S d) {s : Seg} (hs : IsPart d s) (hd : d.length ≤ 60) (hb : inBytes d) (m : Int) : PfF d S (putF S s.1 s.2.1 s.2.2).2 (putF S s.1 s.2.1 s.2.2).1.1 (putF S s.1 s.2.1 s.2.2).1.2.1 m := by
  have hok := fits_ok h hs (by omega)
  have hf := fits_put h hs (by omega) hb
  rw [put_ok_eq hok]
  obtain ⟨r1, r2, r3, r4, r5⟩ := fits_read hf m
  refine ⟨rfl, hf, rfl, rfl, ?_, take_read hf m, r2, r5⟩
  show List.length (readF (putS S s.1 s.2.1 s.2.2) m).1.1 ≤ _
  rw [r1, List.length_take, List.length_drop]; omega
theorem part_len {d : List Int} {s : Seg} (h : IsPart d s) : s.2.1.length ≤ d.length := by have := h.o; have := h.e; omega
/-- What is left is read. -/
structure EndF (d : List Int) (w : Int) (S : Sto) (got : List Int) : Prop where
  le : (got.length : Int) ≤ d.length
  eq : got = d.take got.length
  off : (readF S 1000).2.off = got.length
  nxt : (readF S 1000).2.next = got.length
  held : ((readF S 1000).2.kept.length : Int) ≤ w
  byt : inBytes got
theorem endFx {d : List Int} {w i n : Int} {S : Sto} (h : Fits S d) (hw : S.win = w) (hw2 : w ≤ 80) (hb : inBytes d) (_ : ¬ i < n) : EndF d w S (d.take S.off.toNat ++ (readF S 1000).1.1) := by
  obtain ⟨r1, r2, r3, r4, r5⟩ := fits_read h 1000
  have ho := h.ok.off; have hn := h.ok.nxt; have hx := h.next; have hwi := h.ok.win
  have hro := r2.off
  rw [take_read h 1000]
  have e1 : rdM S 1000 = S.next - S.off := by dsimp only [rdM, rdN]; omega
  have e2 : (readF S 1000).2.off = S.next := by rw [r3, e1]; omega
  have e3 : (d.take (readF S 1000).2.off.toNat).length = S.next.toNat := by rw [e2, List.length_take]; omega
  refine ⟨by rw [e3]; omega, by rw [e3, e2], by rw [e3, e2]; omega, by rw [e3, r4]; omega, ?_, fun z hz => hb z (List.mem_of_mem_take hz)⟩
  have := r2.ok.len
  rw [r5, hw] at this
  exact this
theorem take_eq {d : List Int} {n : Nat} : List.take (d.take n).length d = d.take n := by
  rw [List.length_take]
  by_cases h : n ≤ d.length
  · rw [Nat.min_eq_left h]
  · rw [Nat.min_eq_right (by omega), List.take_length, List.take_of_length_le (by omega)]
theorem parts_pre {d : List Int} {l : List (Int × Int)} (h1 : d.length ≤ 60) (h2 : l.length ≤ 40) (h3 : ∀ y ∈ l, u8p y) : d.length ≤ 60 ∧ (l.map fun x => ((fun l => l) x.1, (fun l => l) x.2)).length ≤ 40 ∧ ∀ y ∈ l.map fun x => ((fun l => l) x.1, (fun l => l) x.2), u8p y := by
  rw [map_pair_id]; exact ⟨h1, h2, h3⟩
def pfxF (_ : List Int) (_ : Int) (_ : List (Int × Int)) (_ : Int) : Tup [DT.cell .bool] := (true, ())
theorem next_LPf {d : List Int} {w : Int} {l : List (Int × Int)} {i : Int} {S : Sto} (h0 : 0 ≤ i) (hi : i < l.length) (h : Fits S d) (hw : S.win = w) : ∃ y : LPf d w l, y.i = i + 1 ∧ y.S = S := ⟨⟨i + 1, S, by omega, by omega, h, hw⟩, rfl, rfl⟩
def pfxSpec : PureSpec := ⟨[.lst (.int .u8), .cell (.int .u8), .lst u2E, .cell (.int .u8)], fun (x : (List Int) × Int × (List (Int × Int)) × Int × Unit) => (x.1.length ≤ maxLen ∧ inBytes x.1) ∧ (0 ≤ x.2.1 ∧ x.2.1 ≤ 255) ∧ (x.2.2.1.length ≤ maxLen ∧ ∀ y ∈ x.2.2.1, u8p y) ∧ (0 ≤ x.2.2.2.1 ∧ x.2.2.2.1 ≤ 255), [.cell .bool], fun (x : (List Int) × Int × (List (Int × Int)) × Int × Unit) => pfxF x.1 x.2.1 x.2.2.1 x.2.2.2.1⟩
theorem pfx_ok (d : List Int) (w : Int) (l : List (Int × Int)) (ev : Int) (h : pfxSpec.pre (d, w, l, ev, ())) : TmplOk Try.prog AI 4 (argS pfxSpec.ds (fun _ => (d, w, l, ev, ()))) [] (resOf (svs pfxSpec.rs (fun _ => pfxSpec.f (d, w, l, ev, ())))) [] := by
  dsimp only [pfxSpec] at h ⊢
  generalize hr : pfxF d w l ev = r
  obtain ⟨⟨hd0, hd⟩, ⟨w1, w2⟩, ⟨hl0, hl⟩, v1, v2⟩ := h
  dsimp only [pfxF] at hr
  refine tmpl_of_body epOk mixed (fn := Try.f4) (c := bodyOf Try.f4) (by kernel_rfl) (by kernel_rfl) (by kernel_rfl) (Nat.le_of_ble_eq_true (by kernel_rfl)) ?_
  (try (conv in (LoopInv.inv _ _) => dsimp only)); (try (conv in (SS.mk _ _) => cbv; (try dsimp only [putSpec, readSpec, gapsSpec, endSpec, endF, offSpec, offF, ctgSpec, ctgF, heldSpec, heldF, newStoSpec, partsSpec, partsF, Ty.T, Ty.dflt, KT.T]); (try simp only [natCast_eq])))
  (refine (?_ : T1 _ ?_) ?_; rotate_left 1; (conv => lhs; cbv; (try cbv); (try cbv)); intro hT; clear hT; refine Sh.mk (by kernel_rfl) ?_)
  repeat' (first
    | with_reducible refine Ck.mk (C := tt) tt_intro ?_
    | with_reducible refine Ck.mk (show drawOk _ _ = true by kernel_rfl) ?_
    | with_reducible refine Ck.all_cons ?_
    | with_reducible refine Ck.all_nil ?_
    | with_reducible refine Ck.mk (by assumption) ?_
    | with_reducible refine Ck.mk (decide_eq_true (by assumption)) ?_
    | with_reducible refine Ck.mk (decide_eq_false (by assumption)) ?_
    | with_reducible refine Ck.mk ?_ ?_
    | (with_reducible refine Both.mk (fun h => ?_) (fun h => ?_) <;> (have hk := h) <;> (try simp only [decide_eq_true_eq, decide_eq_false_iff_not, Bool.not_eq_true', Bool.not_eq_false', Bool.not_eq_true, Bool.not_eq_false, Bool.not_true, Bool.not_false, ne_eq, Bool.false_eq_true, Bool.true_eq_false, reduceCtorEq, beq_iff_eq, beq_eq_false_iff_ne, not_true_eq_false, not_false_eq_true, pair_eta, map_idL] at h) <;> (try dsimp only [putSpec, readSpec, gapsSpec, endSpec, endF, offSpec, offF, ctgSpec, ctgF, heldSpec, heldF, newStoSpec, partsSpec, partsF, Ty.T, Ty.dflt, KT.T, getM, putM, delM] at h) <;> (try simp only [natCast_eq] at h) <;> (try simp only [parts_len] at h) <;> (try (have hp := parts_at (d := d) hl hlo h; obtain ⟨_, hp⟩ := hp; have hq := pfF hfit hp (by omega) hd (1 + i % 5); have q1 := hq.e; have q2 := hq.len; have q3 := part_len hp)) <;> (try (have hE := endFx (w := 1 + w % 80) hfit hwin (by omega) hd h; have z1 := hE.le; have z2 := hE.eq.symm; have z3 := hE.off; have z4 := hE.nxt; have z5 := hE.held; have z6 := hE.byt; clear hE)) <;> (try (exfalso; apply h; rw [Int.toNat_zero, List.drop_zero, Int.toNat_natCast]; exact z2.symm)) <;> (try first | rw [if_pos h] at hr | rw [if_neg h] at hr | rw [ifF h] at hr | rw [ifN h] at hr) <;> (try (have hb : (_ : Bool) = _ := h; clear h; subst hb; (try first | rw [if_pos rfl] at hr | rw [if_neg Bool.false_ne_true] at hr))) <;> first | (exfalso; omega) | exact absurd (h.symm.trans (by assumption) : true = false) Bool.noConfusion | exact absurd (h.symm.trans (by assumption) : false = true) Bool.noConfusion | (refine (?_ : T1 _ ?_) ?_; rotate_left 1; (conv => lhs; cbv; (try cbv); (try cbv)); intro hT; clear hT; refine Sh.mk (by kernel_rfl) ?_))
    | (with_reducible refine Alt.mk (fun h => ?_) (fun h => ?_) <;> (have hk := h) <;> (try simp only [decide_eq_true_eq, decide_eq_false_iff_not, Bool.not_eq_true', Bool.not_eq_false', Bool.not_eq_true, Bool.not_eq_false, Bool.not_true, Bool.not_false, ne_eq, Bool.false_eq_true, Bool.true_eq_false, reduceCtorEq, beq_iff_eq, beq_eq_false_iff_ne, not_true_eq_false, not_false_eq_true, pair_eta, map_idL] at h) <;> (try dsimp only [putSpec, readSpec, gapsSpec, endSpec, endF, offSpec, offF, ctgSpec, ctgF, heldSpec, heldF, newStoSpec, partsSpec, partsF, Ty.T, Ty.dflt, KT.T, getM, putM, delM] at h) <;> (try simp only [natCast_eq] at h) <;> (try simp only [parts_len] at h) <;> (try (have hp := parts_at (d := d) hl hlo h; obtain ⟨_, hp⟩ := hp; have hq := pfF hfit hp (by omega) hd (1 + i % 5); have q1 := hq.e; have q2 := hq.len; have q3 := part_len hp)) <;> (try (have hE := endFx (w := 1 + w % 80) hfit hwin (by omega) hd h; have z1 := hE.le; have z2 := hE.eq.symm; have z3 := hE.off; have z4 := hE.nxt; have z5 := hE.held; have z6 := hE.byt; clear hE)) <;> (try (exfalso; apply h; rw [Int.toNat_zero, List.drop_zero, Int.toNat_natCast]; exact z2.symm)) <;> (try first | rw [if_pos h] at hr | rw [if_neg h] at hr | rw [ifF h] at hr | rw [ifN h] at hr) <;> (try (have hb : (_ : Bool) = _ := h; clear h; subst hb; (try first | rw [if_pos rfl] at hr | rw [if_neg Bool.false_ne_true] at hr))) <;> first | (exfalso; omega) | exact absurd (h.symm.trans (by assumption) : true = false) Bool.noConfusion | exact absurd (h.symm.trans (by assumption) : false = true) Bool.noConfusion | (refine (?_ : T1 _ ?_) ?_; rotate_left 1; (conv => lhs; cbv; (try cbv); (try cbv)); intro hT; clear hT; refine Sh.mk (by kernel_rfl) ?_))
    | (with_reducible refine Pick.mk (fun h => ?_) (fun l1 x l2 h => ?_) <;> (refine (?_ : T1 _ ?_) ?_; rotate_left 1; (conv => lhs; cbv; (try cbv); (try cbv)); intro hT; clear hT; refine Sh.mk (by kernel_rfl) ?_))
    | ((with_reducible refine End.mk ?_); (try ((repeat (first | rw [if_pos (by first | assumption | omega)] at hr | rw [if_neg (by first | assumption | omega | (simp only [Bool.false_eq_true, Bool.true_eq_false, reduceCtorEq, not_false_eq_true]; done) | (simp only [Bool.not_eq_true]; assumption) | (simp only [Bool.not_eq_false]; assumption))] at hr | rw [if_pos rfl] at hr)); subst hr)))
    | with_reducible exact True.intro)
  all_goals first
    | (fail_if_success (with_reducible refine Exists.intro ?_ ?_)
       first
         | with_reducible rfl
         | with_reducible assumption
         | (dsimp only [putSpec, readSpec, gapsSpec, endSpec, endF, offSpec, offF, ctgSpec, ctgF, heldSpec, heldF, newStoSpec, partsSpec, partsF, Ty.T, Ty.dflt, KT.T, getM, putM, delM, inI64, maxRow]; done)
         | (symm; with_reducible assumption)
         | (dsimp only [putSpec, readSpec, gapsSpec, endSpec, endF, offSpec, offF, ctgSpec, ctgF, heldSpec, heldF, newStoSpec, partsSpec, partsF, Ty.T, Ty.dflt, KT.T, getM, putM, delM, inI64, maxRow]; first | with_reducible rfl | with_reducible assumption | (symm; with_reducible assumption) | (simp only [natCast_eq]; with_reducible rfl) | omega)
         | omega
         | (dsimp only [putSpec, readSpec, gapsSpec, endSpec, endF, offSpec, offF, ctgSpec, ctgF, heldSpec, heldF, newStoSpec, partsSpec, partsF, Ty.T, Ty.dflt, KT.T, getM, putM, delM, inI64, maxRow]; (try simp only [natCast_eq, List.nil_append]); first | with_reducible rfl | exact take_cg (by omega) | exact drop_cg (by omega) | exact take_drop_cg (by omega) (by omega) | exact take_all (by omega) | exact take_drop_all (by omega) (by omega) | exact drop_take_cg (by omega) (by omega) (by omega))
         | exact parts_pre (d := d) (l := l) (by omega) (by omega) hl
         | ((try dsimp only [putSpec, readSpec, gapsSpec, endSpec, endF, offSpec, offF, ctgSpec, ctgF, heldSpec, heldF, newStoSpec, partsSpec, partsF, Ty.T, Ty.dflt, KT.T, getM, putM, delM, inI64, maxRow]); simp only [decide_eq_true_eq, decide_eq_false_iff_not, Bool.not_eq_true', Bool.not_eq_false', Bool.not_eq_true, Bool.not_eq_false, Bool.not_true, Bool.not_false, ne_eq, Bool.false_eq_true, Bool.true_eq_false, reduceCtorEq, beq_iff_eq, beq_eq_false_iff_ne, not_true_eq_false, not_false_eq_true, pair_eta, map_idL, natCast_eq, inI64, maxRow]; first | done | with_reducible assumption | omega)
         | exact map_pair_id _
         | ((try dsimp only [putSpec, readSpec, gapsSpec, endSpec, endF, offSpec, offF, ctgSpec, ctgF, heldSpec, heldF, newStoSpec, partsSpec, partsF, Ty.T, Ty.dflt, KT.T, getM, putM, delM, inI64, maxRow]) <;> (try simp only [natCast_eq]) <;> omega)
         | ((try dsimp only [putSpec, readSpec, gapsSpec, endSpec, endF, offSpec, offF, ctgSpec, ctgF, heldSpec, heldF, newStoSpec, partsSpec, partsF, Ty.T, Ty.dflt, KT.T, getM, putM, delM, inI64, maxRow] at *) <;> (try simp only [natCast_eq] at *) <;> omega)
         | ((try dsimp only [putSpec, readSpec, gapsSpec, endSpec, endF, offSpec, offF, ctgSpec, ctgF, heldSpec, heldF, newStoSpec, partsSpec, partsF, Ty.T, Ty.dflt, KT.T, getM, putM, delM, inI64, maxRow] at *) <;> (try simp only [List.length_append, List.length_cons, List.length_nil, List.length_replicate, List.length_take, List.length_drop, natCast_eq] at *) <;> omega)
         | assumption
         | (symm; assumption)
         | (dsimp only; simp only [Bool.or_true, Bool.true_or, Bool.or_false, Bool.false_or, Bool.and_true, Bool.true_and, Bool.and_false, Bool.false_and, Bool.not_true, Bool.not_false, *]; done)
         | (simp; done)
         | (and_intros <;> first | trivial | with_reducible assumption | omega)
         | ((try dsimp only [putSpec, readSpec, gapsSpec, endSpec, endF, offSpec, offF, ctgSpec, ctgF, heldSpec, heldF, newStoSpec, partsSpec, partsF, Ty.T, Ty.dflt, KT.T, getM, putM, delM, inI64, maxRow] at *) <;> simp [*] <;> done))
    | skip
  obtain ⟨x0, hx0, hx1⟩ : ∃ x : LPf d (1 + w % 80) l, x.i = 0 ∧ x.S = newS (1 + w % 80) := ⟨⟨0, newS (1 + w % 80), by omega, by omega, fits_new (by omega) (by omega), rfl⟩, rfl, rfl⟩
  refine ⟨⟨LPf d (1 + w % 80) l, fun x => ⟨[(0, Sx.one (.ro (.int .u8) (fun _ => d))), (1, Sx.one (.int .u8 (fun _ => w))), (3, Sx.one (.int .u8 (fun _ => ev))), (9, Sx.one (.ptr 0 0)), (11, Sx.one (.hd 1 0)), (42, Sx.one (.ro segE (fun _ => partsL d l))), (43, Sx.one (.int .i64 (fun _ => l.length))), (44, Sx.one (.int .i64 (fun _ => x.i)))], [.abs (.sto (fun _ => x.S)), .row 5 (.int .u8) 0 (fun _ => d.take x.S.off.toNat)]⟩, fun x => (l.length - x.i).toNat, x0⟩, ?_, fun (x : LPf d (1 + w % 80) l) => ?_⟩
  · (try (conv in (LoopInv.inv _ _) => dsimp only)); (try (conv in (SS.mk _ _) => cbv; (try dsimp only [putSpec, readSpec, gapsSpec, endSpec, endF, offSpec, offF, ctgSpec, ctgF, heldSpec, heldF, newStoSpec, partsSpec, partsF, Ty.T, Ty.dflt, KT.T]); (try simp only [natCast_eq])))
    (refine (?_ : T1 _ ?_) ?_; rotate_left 1; (conv => lhs; cbv; (try cbv); (try cbv)); intro hT; clear hT; refine Sh.mk (by kernel_rfl) ?_)
    repeat' (first
      | with_reducible refine Ck.mk (C := tt) tt_intro ?_
      | with_reducible refine Ck.mk (show drawOk _ _ = true by kernel_rfl) ?_
      | with_reducible refine Ck.all_cons ?_
      | with_reducible refine Ck.all_nil ?_
      | with_reducible refine Ck.mk (by assumption) ?_
      | with_reducible refine Ck.mk (decide_eq_true (by assumption)) ?_
      | with_reducible refine Ck.mk (decide_eq_false (by assumption)) ?_
      | with_reducible refine Ck.mk ?_ ?_
      | (with_reducible refine Both.mk (fun h => ?_) (fun h => ?_) <;> (have hk := h) <;> (try simp only [decide_eq_true_eq, decide_eq_false_iff_not, Bool.not_eq_true', Bool.not_eq_false', Bool.not_eq_true, Bool.not_eq_false, Bool.not_true, Bool.not_false, ne_eq, Bool.false_eq_true, Bool.true_eq_false, reduceCtorEq, beq_iff_eq, beq_eq_false_iff_ne, not_true_eq_false, not_false_eq_true, pair_eta, map_idL] at h) <;> (try dsimp only [putSpec, readSpec, gapsSpec, endSpec, endF, offSpec, offF, ctgSpec, ctgF, heldSpec, heldF, newStoSpec, partsSpec, partsF, Ty.T, Ty.dflt, KT.T, getM, putM, delM] at h) <;> (try simp only [natCast_eq] at h) <;> (try simp only [parts_len] at h) <;> (try (have hp := parts_at (d := d) hl hlo h; obtain ⟨_, hp⟩ := hp; have hq := pfF hfit hp (by omega) hd (1 + i % 5); have q1 := hq.e; have q2 := hq.len; have q3 := part_len hp)) <;> (try (have hE := endFx (w := 1 + w % 80) hfit hwin (by omega) hd h; have z1 := hE.le; have z2 := hE.eq.symm; have z3 := hE.off; have z4 := hE.nxt; have z5 := hE.held; have z6 := hE.byt; clear hE)) <;> (try (exfalso; apply h; rw [Int.toNat_zero, List.drop_zero, Int.toNat_natCast]; exact z2.symm)) <;> (try first | rw [if_pos h] at hr | rw [if_neg h] at hr | rw [ifF h] at hr | rw [ifN h] at hr) <;> (try (have hb : (_ : Bool) = _ := h; clear h; subst hb; (try first | rw [if_pos rfl] at hr | rw [if_neg Bool.false_ne_true] at hr))) <;> first | (exfalso; omega) | exact absurd (h.symm.trans (by assumption) : true = false) Bool.noConfusion | exact absurd (h.symm.trans (by assumption) : false = true) Bool.noConfusion | (refine (?_ : T1 _ ?_) ?_; rotate_left 1; (conv => lhs; cbv; (try cbv); (try cbv)); intro hT; clear hT; refine Sh.mk (by kernel_rfl) ?_))
      | (with_reducible refine Alt.mk (fun h => ?_) (fun h => ?_) <;> (have hk := h) <;> (try simp only [decide_eq_true_eq, decide_eq_false_iff_not, Bool.not_eq_true', Bool.not_eq_false', Bool.not_eq_true, Bool.not_eq_false, Bool.not_true, Bool.not_false, ne_eq, Bool.false_eq_true, Bool.true_eq_false, reduceCtorEq, beq_iff_eq, beq_eq_false_iff_ne, not_true_eq_false, not_false_eq_true, pair_eta, map_idL] at h) <;> (try dsimp only [putSpec, readSpec, gapsSpec, endSpec, endF, offSpec, offF, ctgSpec, ctgF, heldSpec, heldF, newStoSpec, partsSpec, partsF, Ty.T, Ty.dflt, KT.T, getM, putM, delM] at h) <;> (try simp only [natCast_eq] at h) <;> (try simp only [parts_len] at h) <;> (try (have hp := parts_at (d := d) hl hlo h; obtain ⟨_, hp⟩ := hp; have hq := pfF hfit hp (by omega) hd (1 + i % 5); have q1 := hq.e; have q2 := hq.len; have q3 := part_len hp)) <;> (try (have hE := endFx (w := 1 + w % 80) hfit hwin (by omega) hd h; have z1 := hE.le; have z2 := hE.eq.symm; have z3 := hE.off; have z4 := hE.nxt; have z5 := hE.held; have z6 := hE.byt; clear hE)) <;> (try (exfalso; apply h; rw [Int.toNat_zero, List.drop_zero, Int.toNat_natCast]; exact z2.symm)) <;> (try first | rw [if_pos h] at hr | rw [if_neg h] at hr | rw [ifF h] at hr | rw [ifN h] at hr) <;> (try (have hb : (_ : Bool) = _ := h; clear h; subst hb; (try first | rw [if_pos rfl] at hr | rw [if_neg Bool.false_ne_true] at hr))) <;> first | (exfalso; omega) | exact absurd (h.symm.trans (by assumption) : true = false) Bool.noConfusion | exact absurd (h.symm.trans (by assumption) : false = true) Bool.noConfusion | (refine (?_ : T1 _ ?_) ?_; rotate_left 1; (conv => lhs; cbv; (try cbv); (try cbv)); intro hT; clear hT; refine Sh.mk (by kernel_rfl) ?_))
      | (with_reducible refine Pick.mk (fun h => ?_) (fun l1 x l2 h => ?_) <;> (refine (?_ : T1 _ ?_) ?_; rotate_left 1; (conv => lhs; cbv; (try cbv); (try cbv)); intro hT; clear hT; refine Sh.mk (by kernel_rfl) ?_))
      | ((with_reducible refine End.mk ?_); skip)
      | with_reducible exact True.intro)
    all_goals first
      | (fail_if_success (with_reducible refine Exists.intro ?_ ?_)
         first
           | with_reducible rfl
           | with_reducible assumption
           | (dsimp only [putSpec, readSpec, gapsSpec, endSpec, endF, offSpec, offF, ctgSpec, ctgF, heldSpec, heldF, newStoSpec, partsSpec, partsF, Ty.T, Ty.dflt, KT.T, getM, putM, delM, inI64, maxRow]; done)
           | (symm; with_reducible assumption)
           | (dsimp only [putSpec, readSpec, gapsSpec, endSpec, endF, offSpec, offF, ctgSpec, ctgF, heldSpec, heldF, newStoSpec, partsSpec, partsF, Ty.T, Ty.dflt, KT.T, getM, putM, delM, inI64, maxRow]; first | with_reducible rfl | with_reducible assumption | (symm; with_reducible assumption) | (simp only [natCast_eq]; with_reducible rfl) | omega)
           | omega
           | (dsimp only [putSpec, readSpec, gapsSpec, endSpec, endF, offSpec, offF, ctgSpec, ctgF, heldSpec, heldF, newStoSpec, partsSpec, partsF, Ty.T, Ty.dflt, KT.T, getM, putM, delM, inI64, maxRow]; (try simp only [natCast_eq, List.nil_append]); first | with_reducible rfl | exact take_cg (by omega) | exact drop_cg (by omega) | exact take_drop_cg (by omega) (by omega) | exact take_all (by omega) | exact take_drop_all (by omega) (by omega) | exact drop_take_cg (by omega) (by omega) (by omega))
           | first | (rw [hx1]; done) | (rw [hx1]; rfl) | exact congrArg Nat.cast ((parts_len d _).trans (List.length_map _))
           | ((try dsimp only [putSpec, readSpec, gapsSpec, endSpec, endF, offSpec, offF, ctgSpec, ctgF, heldSpec, heldF, newStoSpec, partsSpec, partsF, Ty.T, Ty.dflt, KT.T, getM, putM, delM, inI64, maxRow]); simp only [decide_eq_true_eq, decide_eq_false_iff_not, Bool.not_eq_true', Bool.not_eq_false', Bool.not_eq_true, Bool.not_eq_false, Bool.not_true, Bool.not_false, ne_eq, Bool.false_eq_true, Bool.true_eq_false, reduceCtorEq, beq_iff_eq, beq_eq_false_iff_ne, not_true_eq_false, not_false_eq_true, pair_eta, map_idL, natCast_eq, inI64, maxRow]; first | done | with_reducible assumption | omega)
           | exact map_pair_id _
           | ((try dsimp only [putSpec, readSpec, gapsSpec, endSpec, endF, offSpec, offF, ctgSpec, ctgF, heldSpec, heldF, newStoSpec, partsSpec, partsF, Ty.T, Ty.dflt, KT.T, getM, putM, delM, inI64, maxRow]) <;> (try simp only [natCast_eq]) <;> omega)
           | ((try dsimp only [putSpec, readSpec, gapsSpec, endSpec, endF, offSpec, offF, ctgSpec, ctgF, heldSpec, heldF, newStoSpec, partsSpec, partsF, Ty.T, Ty.dflt, KT.T, getM, putM, delM, inI64, maxRow] at *) <;> (try simp only [natCast_eq] at *) <;> omega)
           | ((try dsimp only [putSpec, readSpec, gapsSpec, endSpec, endF, offSpec, offF, ctgSpec, ctgF, heldSpec, heldF, newStoSpec, partsSpec, partsF, Ty.T, Ty.dflt, KT.T, getM, putM, delM, inI64, maxRow] at *) <;> (try simp only [List.length_append, List.length_cons, List.length_nil, List.length_replicate, List.length_take, List.length_drop, natCast_eq] at *) <;> omega)
           | assumption
           | (symm; assumption)
           | (dsimp only; simp only [Bool.or_true, Bool.true_or, Bool.or_false, Bool.false_or, Bool.and_true, Bool.true_and, Bool.and_false, Bool.false_and, Bool.not_true, Bool.not_false, *]; done)
           | (simp; done)
           | (and_intros <;> first | trivial | with_reducible assumption | omega)
           | ((try dsimp only [putSpec, readSpec, gapsSpec, endSpec, endF, offSpec, offF, ctgSpec, ctgF, heldSpec, heldF, newStoSpec, partsSpec, partsF, Ty.T, Ty.dflt, KT.T, getM, putM, delM, inI64, maxRow] at *) <;> simp [*] <;> done))
      | skip
  obtain ⟨i, S, hlo, hhi, hfit, hwin⟩ := x
  (try (conv in (LoopInv.inv _ _) => dsimp only)); (try (conv in (SS.mk _ _) => cbv; (try dsimp only [putSpec, readSpec, gapsSpec, endSpec, endF, offSpec, offF, ctgSpec, ctgF, heldSpec, heldF, newStoSpec, partsSpec, partsF, Ty.T, Ty.dflt, KT.T]); (try simp only [natCast_eq])))
  (refine (?_ : T1 _ ?_) ?_; rotate_left 1; (conv => lhs; cbv; (try cbv); (try cbv)); intro hT; clear hT; refine Sh.mk (by kernel_rfl) ?_)
  repeat' (first
    | with_reducible refine Ck.mk (C := tt) tt_intro ?_
    | with_reducible refine Ck.mk (show drawOk _ _ = true by kernel_rfl) ?_
    | with_reducible refine Ck.all_cons ?_
    | with_reducible refine Ck.all_nil ?_
    | with_reducible refine Ck.mk (by assumption) ?_
    | with_reducible refine Ck.mk (decide_eq_true (by assumption)) ?_
    | with_reducible refine Ck.mk (decide_eq_false (by assumption)) ?_
    | with_reducible refine Ck.mk ?_ ?_
    | (with_reducible refine Both.mk (fun h => ?_) (fun h => ?_) <;> (have hk := h) <;> (try simp only [decide_eq_true_eq, decide_eq_false_iff_not, Bool.not_eq_true', Bool.not_eq_false', Bool.not_eq_true, Bool.not_eq_false, Bool.not_true, Bool.not_false, ne_eq, Bool.false_eq_true, Bool.true_eq_false, reduceCtorEq, beq_iff_eq, beq_eq_false_iff_ne, not_true_eq_false, not_false_eq_true, pair_eta, map_idL] at h) <;> (try dsimp only [putSpec, readSpec, gapsSpec, endSpec, endF, offSpec, offF, ctgSpec, ctgF, heldSpec, heldF, newStoSpec, partsSpec, partsF, Ty.T, Ty.dflt, KT.T, getM, putM, delM] at h) <;> (try simp only [natCast_eq] at h) <;> (try simp only [parts_len] at h) <;> (try (have hp := parts_at (d := d) hl hlo h; obtain ⟨_, hp⟩ := hp; have hq := pfF hfit hp (by omega) hd (1 + i % 5); have q1 := hq.e; have q2 := hq.len; have q3 := part_len hp)) <;> (try (have hE := endFx (w := 1 + w % 80) hfit hwin (by omega) hd h; have z1 := hE.le; have z2 := hE.eq.symm; have z3 := hE.off; have z4 := hE.nxt; have z5 := hE.held; have z6 := hE.byt; clear hE)) <;> (try (exfalso; apply h; rw [Int.toNat_zero, List.drop_zero, Int.toNat_natCast]; exact z2.symm)) <;> (try first | rw [if_pos h] at hr | rw [if_neg h] at hr | rw [ifF h] at hr | rw [ifN h] at hr) <;> (try (have hb : (_ : Bool) = _ := h; clear h; subst hb; (try first | rw [if_pos rfl] at hr | rw [if_neg Bool.false_ne_true] at hr))) <;> first | (exfalso; omega) | exact absurd (h.symm.trans (by assumption) : true = false) Bool.noConfusion | exact absurd (h.symm.trans (by assumption) : false = true) Bool.noConfusion | (refine (?_ : T1 _ ?_) ?_; rotate_left 1; (conv => lhs; cbv; (try cbv); (try cbv)); intro hT; clear hT; refine Sh.mk (by kernel_rfl) ?_))
    | (with_reducible refine Alt.mk (fun h => ?_) (fun h => ?_) <;> (have hk := h) <;> (try simp only [decide_eq_true_eq, decide_eq_false_iff_not, Bool.not_eq_true', Bool.not_eq_false', Bool.not_eq_true, Bool.not_eq_false, Bool.not_true, Bool.not_false, ne_eq, Bool.false_eq_true, Bool.true_eq_false, reduceCtorEq, beq_iff_eq, beq_eq_false_iff_ne, not_true_eq_false, not_false_eq_true, pair_eta, map_idL] at h) <;> (try dsimp only [putSpec, readSpec, gapsSpec, endSpec, endF, offSpec, offF, ctgSpec, ctgF, heldSpec, heldF, newStoSpec, partsSpec, partsF, Ty.T, Ty.dflt, KT.T, getM, putM, delM] at h) <;> (try simp only [natCast_eq] at h) <;> (try simp only [parts_len] at h) <;> (try (have hp := parts_at (d := d) hl hlo h; obtain ⟨_, hp⟩ := hp; have hq := pfF hfit hp (by omega) hd (1 + i % 5); have q1 := hq.e; have q2 := hq.len; have q3 := part_len hp)) <;> (try (have hE := endFx (w := 1 + w % 80) hfit hwin (by omega) hd h; have z1 := hE.le; have z2 := hE.eq.symm; have z3 := hE.off; have z4 := hE.nxt; have z5 := hE.held; have z6 := hE.byt; clear hE)) <;> (try (exfalso; apply h; rw [Int.toNat_zero, List.drop_zero, Int.toNat_natCast]; exact z2.symm)) <;> (try first | rw [if_pos h] at hr | rw [if_neg h] at hr | rw [ifF h] at hr | rw [ifN h] at hr) <;> (try (have hb : (_ : Bool) = _ := h; clear h; subst hb; (try first | rw [if_pos rfl] at hr | rw [if_neg Bool.false_ne_true] at hr))) <;> first | (exfalso; omega) | exact absurd (h.symm.trans (by assumption) : true = false) Bool.noConfusion | exact absurd (h.symm.trans (by assumption) : false = true) Bool.noConfusion | (refine (?_ : T1 _ ?_) ?_; rotate_left 1; (conv => lhs; cbv; (try cbv); (try cbv)); intro hT; clear hT; refine Sh.mk (by kernel_rfl) ?_))
    | (with_reducible refine Pick.mk (fun h => ?_) (fun l1 x l2 h => ?_) <;> (refine (?_ : T1 _ ?_) ?_; rotate_left 1; (conv => lhs; cbv; (try cbv); (try cbv)); intro hT; clear hT; refine Sh.mk (by kernel_rfl) ?_))
    | ((with_reducible refine End.mk ?_); (try ((repeat (first | rw [if_pos (by first | assumption | omega)] at hr | rw [if_neg (by first | assumption | omega | (simp only [Bool.false_eq_true, Bool.true_eq_false, reduceCtorEq, not_false_eq_true]; done) | (simp only [Bool.not_eq_true]; assumption) | (simp only [Bool.not_eq_false]; assumption))] at hr | rw [if_pos rfl] at hr)); subst hr)))
    | with_reducible exact True.intro)
  all_goals first
    | (fail_if_success (with_reducible refine Exists.intro ?_ ?_)
       first
         | with_reducible rfl
         | with_reducible assumption
         | (dsimp only [putSpec, readSpec, gapsSpec, endSpec, endF, offSpec, offF, ctgSpec, ctgF, heldSpec, heldF, newStoSpec, partsSpec, partsF, Ty.T, Ty.dflt, KT.T, getM, putM, delM, inI64, maxRow]; done)
         | (symm; with_reducible assumption)
         | (dsimp only [putSpec, readSpec, gapsSpec, endSpec, endF, offSpec, offF, ctgSpec, ctgF, heldSpec, heldF, newStoSpec, partsSpec, partsF, Ty.T, Ty.dflt, KT.T, getM, putM, delM, inI64, maxRow]; first | with_reducible rfl | with_reducible assumption | (symm; with_reducible assumption) | (simp only [natCast_eq]; with_reducible rfl) | omega)
         | omega
         | (dsimp only [putSpec, readSpec, gapsSpec, endSpec, endF, offSpec, offF, ctgSpec, ctgF, heldSpec, heldF, newStoSpec, partsSpec, partsF, Ty.T, Ty.dflt, KT.T, getM, putM, delM, inI64, maxRow]; (try simp only [natCast_eq, List.nil_append]); first | with_reducible rfl | exact take_cg (by omega) | exact drop_cg (by omega) | exact take_drop_cg (by omega) (by omega) | exact take_all (by omega) | exact take_drop_all (by omega) (by omega) | exact drop_take_cg (by omega) (by omega) (by omega))
         | first | (refine ⟨hlo, ?_⟩; show i < ((partsL d l).length : Int); rw [parts_len]; assumption) | exact ⟨hfit.ok.pre, by show List.length ((partsL d l).getD i.toNat (0, [], false)).2.1 ≤ 1048576; omega⟩ | exact hq.fits.ok.pre | exact hfit.ok.pre | (refine Nat.le_trans (Nat.add_le_add (Nat.le_of_eq List.length_take) q2) ?_; show _ ≤ 1099511627776; omega) | (have e := z1; rw [List.length_append] at e; show List.length _ + List.length _ ≤ 1099511627776; omega) | exact ⟨z6, fun z hz => hd z (List.mem_of_mem_take (by simpa using hz))⟩ | (refine ⟨by omega, Int.natCast_nonneg _, z1⟩) | exact absurd z2.symm h
         | ((try dsimp only [putSpec, readSpec, gapsSpec, endSpec, endF, offSpec, offF, ctgSpec, ctgF, heldSpec, heldF, newStoSpec, partsSpec, partsF, Ty.T, Ty.dflt, KT.T, getM, putM, delM, inI64, maxRow]); simp only [decide_eq_true_eq, decide_eq_false_iff_not, Bool.not_eq_true', Bool.not_eq_false', Bool.not_eq_true, Bool.not_eq_false, Bool.not_true, Bool.not_false, ne_eq, Bool.false_eq_true, Bool.true_eq_false, reduceCtorEq, beq_iff_eq, beq_eq_false_iff_ne, not_true_eq_false, not_false_eq_true, pair_eta, map_idL, natCast_eq, inI64, maxRow]; first | done | with_reducible assumption | omega)
         | exact map_pair_id _
         | ((try dsimp only [putSpec, readSpec, gapsSpec, endSpec, endF, offSpec, offF, ctgSpec, ctgF, heldSpec, heldF, newStoSpec, partsSpec, partsF, Ty.T, Ty.dflt, KT.T, getM, putM, delM, inI64, maxRow]) <;> (try simp only [natCast_eq]) <;> omega)
         | ((try dsimp only [putSpec, readSpec, gapsSpec, endSpec, endF, offSpec, offF, ctgSpec, ctgF, heldSpec, heldF, newStoSpec, partsSpec, partsF, Ty.T, Ty.dflt, KT.T, getM, putM, delM, inI64, maxRow] at *) <;> (try simp only [natCast_eq] at *) <;> omega)
         | ((try dsimp only [putSpec, readSpec, gapsSpec, endSpec, endF, offSpec, offF, ctgSpec, ctgF, heldSpec, heldF, newStoSpec, partsSpec, partsF, Ty.T, Ty.dflt, KT.T, getM, putM, delM, inI64, maxRow] at *) <;> (try simp only [List.length_append, List.length_cons, List.length_nil, List.length_replicate, List.length_take, List.length_drop, natCast_eq] at *) <;> omega)
         | assumption
         | (symm; assumption)
         | (dsimp only; simp only [Bool.or_true, Bool.true_or, Bool.or_false, Bool.false_or, Bool.and_true, Bool.true_and, Bool.and_false, Bool.false_and, Bool.not_true, Bool.not_false, *]; done)
         | (simp; done)
         | (and_intros <;> first | trivial | with_reducible assumption | omega)
         | ((try dsimp only [putSpec, readSpec, gapsSpec, endSpec, endF, offSpec, offF, ctgSpec, ctgF, heldSpec, heldF, newStoSpec, partsSpec, partsF, Ty.T, Ty.dflt, KT.T, getM, putM, delM, inI64, maxRow] at *) <;> simp [*] <;> done))
    | skip
  · obtain ⟨y, hy0, hy1⟩ := next_LPf (w := 1 + w % 80) (l := l) hlo (by assumption) hq.fr (by first | exact hq.wr.trans hwin | exact hq.win.trans hwin)
    refine ⟨y, by dsimp only; (try simp only [natCast_eq]); omega, ?_⟩
    (try (conv in (LoopInv.inv _ _) => dsimp only)); (try (conv in (SS.mk _ _) => cbv; (try dsimp only [putSpec, readSpec, gapsSpec, endSpec, endF, offSpec, offF, ctgSpec, ctgF, heldSpec, heldF, newStoSpec, partsSpec, partsF, Ty.T, Ty.dflt, KT.T]); (try simp only [natCast_eq])))
    (refine (?_ : T1 _ ?_) ?_; rotate_left 1; (conv => lhs; cbv; (try cbv); (try cbv)); intro hT; clear hT; refine Sh.mk (by kernel_rfl) ?_)
    repeat' (first
      | with_reducible refine Ck.mk (C := tt) tt_intro ?_
      | with_reducible refine Ck.mk (show drawOk _ _ = true by kernel_rfl) ?_
      | with_reducible refine Ck.all_cons ?_
      | with_reducible refine Ck.all_nil ?_
      | with_reducible refine Ck.mk (by assumption) ?_
      | with_reducible refine Ck.mk (decide_eq_true (by assumption)) ?_
      | with_reducible refine Ck.mk (decide_eq_false (by assumption)) ?_
      | with_reducible refine Ck.mk ?_ ?_
      | (with_reducible refine Both.mk (fun h => ?_) (fun h => ?_) <;> (have hk := h) <;> (try simp only [decide_eq_true_eq, decide_eq_false_iff_not, Bool.not_eq_true', Bool.not_eq_false', Bool.not_eq_true, Bool.not_eq_false, Bool.not_true, Bool.not_false, ne_eq, Bool.false_eq_true, Bool.true_eq_false, reduceCtorEq, beq_iff_eq, beq_eq_false_iff_ne, not_true_eq_false, not_false_eq_true, pair_eta, map_idL] at h) <;> (try dsimp only [putSpec, readSpec, gapsSpec, endSpec, endF, offSpec, offF, ctgSpec, ctgF, heldSpec, heldF, newStoSpec, partsSpec, partsF, Ty.T, Ty.dflt, KT.T, getM, putM, delM] at h) <;> (try simp only [natCast_eq] at h) <;> (try simp only [parts_len] at h) <;> (try (have hp := parts_at (d := d) hl hlo h; obtain ⟨_, hp⟩ := hp; have hq := pfF hfit hp (by omega) hd (1 + i % 5); have q1 := hq.e; have q2 := hq.len; have q3 := part_len hp)) <;> (try (have hE := endFx (w := 1 + w % 80) hfit hwin (by omega) hd h; have z1 := hE.le; have z2 := hE.eq.symm; have z3 := hE.off; have z4 := hE.nxt; have z5 := hE.held; have z6 := hE.byt; clear hE)) <;> (try (exfalso; apply h; rw [Int.toNat_zero, List.drop_zero, Int.toNat_natCast]; exact z2.symm)) <;> (try first | rw [if_pos h] at hr | rw [if_neg h] at hr | rw [ifF h] at hr | rw [ifN h] at hr) <;> (try (have hb : (_ : Bool) = _ := h; clear h; subst hb; (try first | rw [if_pos rfl] at hr | rw [if_neg Bool.false_ne_true] at hr))) <;> first | (exfalso; omega) | exact absurd (h.symm.trans (by assumption) : true = false) Bool.noConfusion | exact absurd (h.symm.trans (by assumption) : false = true) Bool.noConfusion | (refine (?_ : T1 _ ?_) ?_; rotate_left 1; (conv => lhs; cbv; (try cbv); (try cbv)); intro hT; clear hT; refine Sh.mk (by kernel_rfl) ?_))
      | (with_reducible refine Alt.mk (fun h => ?_) (fun h => ?_) <;> (have hk := h) <;> (try simp only [decide_eq_true_eq, decide_eq_false_iff_not, Bool.not_eq_true', Bool.not_eq_false', Bool.not_eq_true, Bool.not_eq_false, Bool.not_true, Bool.not_false, ne_eq, Bool.false_eq_true, Bool.true_eq_false, reduceCtorEq, beq_iff_eq, beq_eq_false_iff_ne, not_true_eq_false, not_false_eq_true, pair_eta, map_idL] at h) <;> (try dsimp only [putSpec, readSpec, gapsSpec, endSpec, endF, offSpec, offF, ctgSpec, ctgF, heldSpec, heldF, newStoSpec, partsSpec, partsF, Ty.T, Ty.dflt, KT.T, getM, putM, delM] at h) <;> (try simp only [natCast_eq] at h) <;> (try simp only [parts_len] at h) <;> (try (have hp := parts_at (d := d) hl hlo h; obtain ⟨_, hp⟩ := hp; have hq := pfF hfit hp (by omega) hd (1 + i % 5); have q1 := hq.e; have q2 := hq.len; have q3 := part_len hp)) <;> (try (have hE := endFx (w := 1 + w % 80) hfit hwin (by omega) hd h; have z1 := hE.le; have z2 := hE.eq.symm; have z3 := hE.off; have z4 := hE.nxt; have z5 := hE.held; have z6 := hE.byt; clear hE)) <;> (try (exfalso; apply h; rw [Int.toNat_zero, List.drop_zero, Int.toNat_natCast]; exact z2.symm)) <;> (try first | rw [if_pos h] at hr | rw [if_neg h] at hr | rw [ifF h] at hr | rw [ifN h] at hr) <;> (try (have hb : (_ : Bool) = _ := h; clear h; subst hb; (try first | rw [if_pos rfl] at hr | rw [if_neg Bool.false_ne_true] at hr))) <;> first | (exfalso; omega) | exact absurd (h.symm.trans (by assumption) : true = false) Bool.noConfusion | exact absurd (h.symm.trans (by assumption) : false = true) Bool.noConfusion | (refine (?_ : T1 _ ?_) ?_; rotate_left 1; (conv => lhs; cbv; (try cbv); (try cbv)); intro hT; clear hT; refine Sh.mk (by kernel_rfl) ?_))
      | (with_reducible refine Pick.mk (fun h => ?_) (fun l1 x l2 h => ?_) <;> (refine (?_ : T1 _ ?_) ?_; rotate_left 1; (conv => lhs; cbv; (try cbv); (try cbv)); intro hT; clear hT; refine Sh.mk (by kernel_rfl) ?_))
      | ((with_reducible refine End.mk ?_); skip)
      | with_reducible exact True.intro)
    all_goals first
      | (fail_if_success (with_reducible refine Exists.intro ?_ ?_)
         first
           | with_reducible rfl
           | with_reducible assumption
           | (dsimp only [putSpec, readSpec, gapsSpec, endSpec, endF, offSpec, offF, ctgSpec, ctgF, heldSpec, heldF, newStoSpec, partsSpec, partsF, Ty.T, Ty.dflt, KT.T, getM, putM, delM, inI64, maxRow]; done)
           | (symm; with_reducible assumption)
           | (dsimp only [putSpec, readSpec, gapsSpec, endSpec, endF, offSpec, offF, ctgSpec, ctgF, heldSpec, heldF, newStoSpec, partsSpec, partsF, Ty.T, Ty.dflt, KT.T, getM, putM, delM, inI64, maxRow]; first | with_reducible rfl | with_reducible assumption | (symm; with_reducible assumption) | (simp only [natCast_eq]; with_reducible rfl) | omega)
           | omega
           | (dsimp only [putSpec, readSpec, gapsSpec, endSpec, endF, offSpec, offF, ctgSpec, ctgF, heldSpec, heldF, newStoSpec, partsSpec, partsF, Ty.T, Ty.dflt, KT.T, getM, putM, delM, inI64, maxRow]; (try simp only [natCast_eq, List.nil_append]); first | with_reducible rfl | exact take_cg (by omega) | exact drop_cg (by omega) | exact take_drop_cg (by omega) (by omega) | exact take_all (by omega) | exact take_drop_all (by omega) (by omega) | exact drop_take_cg (by omega) (by omega) (by omega))
           | first | exact hy1.symm | (rw [hy1]; exact hq.rd) | (rw [hy1, hq.off])
           | ((try dsimp only [putSpec, readSpec, gapsSpec, endSpec, endF, offSpec, offF, ctgSpec, ctgF, heldSpec, heldF, newStoSpec, partsSpec, partsF, Ty.T, Ty.dflt, KT.T, getM, putM, delM, inI64, maxRow]); simp only [decide_eq_true_eq, decide_eq_false_iff_not, Bool.not_eq_true', Bool.not_eq_false', Bool.not_eq_true, Bool.not_eq_false, Bool.not_true, Bool.not_false, ne_eq, Bool.false_eq_true, Bool.true_eq_false, reduceCtorEq, beq_iff_eq, beq_eq_false_iff_ne, not_true_eq_false, not_false_eq_true, pair_eta, map_idL, natCast_eq, inI64, maxRow]; first | done | with_reducible assumption | omega)
           | exact map_pair_id _
           | ((try dsimp only [putSpec, readSpec, gapsSpec, endSpec, endF, offSpec, offF, ctgSpec, ctgF, heldSpec, heldF, newStoSpec, partsSpec, partsF, Ty.T, Ty.dflt, KT.T, getM, putM, delM, inI64, maxRow]) <;> (try simp only [natCast_eq]) <;> omega)
           | ((try dsimp only [putSpec, readSpec, gapsSpec, endSpec, endF, offSpec, offF, ctgSpec, ctgF, heldSpec, heldF, newStoSpec, partsSpec, partsF, Ty.T, Ty.dflt, KT.T, getM, putM, delM, inI64, maxRow] at *) <;> (try simp only [natCast_eq] at *) <;> omega)
           | ((try dsimp only [putSpec, readSpec, gapsSpec, endSpec, endF, offSpec, offF, ctgSpec, ctgF, heldSpec, heldF, newStoSpec, partsSpec, partsF, Ty.T, Ty.dflt, KT.T, getM, putM, delM, inI64, maxRow] at *) <;> (try simp only [List.length_append, List.length_cons, List.length_nil, List.length_replicate, List.length_take, List.length_drop, natCast_eq] at *) <;> omega)
           | assumption
           | (symm; assumption)
           | (dsimp only; simp only [Bool.or_true, Bool.true_or, Bool.or_false, Bool.false_or, Bool.and_true, Bool.true_and, Bool.and_false, Bool.false_and, Bool.not_true, Bool.not_false, *]; done)
           | (simp; done)
           | (and_intros <;> first | trivial | with_reducible assumption | omega)
           | ((try dsimp only [putSpec, readSpec, gapsSpec, endSpec, endF, offSpec, offF, ctgSpec, ctgF, heldSpec, heldF, newStoSpec, partsSpec, partsF, Ty.T, Ty.dflt, KT.T, getM, putM, delM, inI64, maxRow] at *) <;> simp [*] <;> done))
      | skip
  · obtain ⟨y, hy0, hy1⟩ := next_LPf (w := 1 + w % 80) (l := l) hlo (by assumption) hq.fits (by first | exact hq.wr.trans hwin | exact hq.win.trans hwin)
    refine ⟨y, by dsimp only; (try simp only [natCast_eq]); omega, ?_⟩
    (try (conv in (LoopInv.inv _ _) => dsimp only)); (try (conv in (SS.mk _ _) => cbv; (try dsimp only [putSpec, readSpec, gapsSpec, endSpec, endF, offSpec, offF, ctgSpec, ctgF, heldSpec, heldF, newStoSpec, partsSpec, partsF, Ty.T, Ty.dflt, KT.T]); (try simp only [natCast_eq])))
    (refine (?_ : T1 _ ?_) ?_; rotate_left 1; (conv => lhs; cbv; (try cbv); (try cbv)); intro hT; clear hT; refine Sh.mk (by kernel_rfl) ?_)
    repeat' (first
      | with_reducible refine Ck.mk (C := tt) tt_intro ?_
      | with_reducible refine Ck.mk (show drawOk _ _ = true by kernel_rfl) ?_
      | with_reducible refine Ck.all_cons ?_
      | with_reducible refine Ck.all_nil ?_
      | with_reducible refine Ck.mk (by assumption) ?_
      | with_reducible refine Ck.mk (decide_eq_true (by assumption)) ?_
      | with_reducible refine Ck.mk (decide_eq_false (by assumption)) ?_
      | with_reducible refine Ck.mk ?_ ?_
      | (with_reducible refine Both.mk (fun h => ?_) (fun h => ?_) <;> (have hk := h) <;> (try simp only [decide_eq_true_eq, decide_eq_false_iff_not, Bool.not_eq_true', Bool.not_eq_false', Bool.not_eq_true, Bool.not_eq_false, Bool.not_true, Bool.not_false, ne_eq, Bool.false_eq_true, Bool.true_eq_false, reduceCtorEq, beq_iff_eq, beq_eq_false_iff_ne, not_true_eq_false, not_false_eq_true, pair_eta, map_idL] at h) <;> (try dsimp only [putSpec, readSpec, gapsSpec, endSpec, endF, offSpec, offF, ctgSpec, ctgF, heldSpec, heldF, newStoSpec, partsSpec, partsF, Ty.T, Ty.dflt, KT.T, getM, putM, delM] at h) <;> (try simp only [natCast_eq] at h) <;> (try simp only [parts_len] at h) <;> (try (have hp := parts_at (d := d) hl hlo h; obtain ⟨_, hp⟩ := hp; have hq := pfF hfit hp (by omega) hd (1 + i % 5); have q1 := hq.e; have q2 := hq.len; have q3 := part_len hp)) <;> (try (have hE := endFx (w := 1 + w % 80) hfit hwin (by omega) hd h; have z1 := hE.le; have z2 := hE.eq.symm; have z3 := hE.off; have z4 := hE.nxt; have z5 := hE.held; have z6 := hE.byt; clear hE)) <;> (try (exfalso; apply h; rw [Int.toNat_zero, List.drop_zero, Int.toNat_natCast]; exact z2.symm)) <;> (try first | rw [if_pos h] at hr | rw [if_neg h] at hr | rw [ifF h] at hr | rw [ifN h] at hr) <;> (try (have hb : (_ : Bool) = _ := h; clear h; subst hb; (try first | rw [if_pos rfl] at hr | rw [if_neg Bool.false_ne_true] at hr))) <;> first | (exfalso; omega) | exact absurd (h.symm.trans (by assumption) : true = false) Bool.noConfusion | exact absurd (h.symm.trans (by assumption) : false = true) Bool.noConfusion | (refine (?_ : T1 _ ?_) ?_; rotate_left 1; (conv => lhs; cbv; (try cbv); (try cbv)); intro hT; clear hT; refine Sh.mk (by kernel_rfl) ?_))
      | (with_reducible refine Alt.mk (fun h => ?_) (fun h => ?_) <;> (have hk := h) <;> (try simp only [decide_eq_true_eq, decide_eq_false_iff_not, Bool.not_eq_true', Bool.not_eq_false', Bool.not_eq_true, Bool.not_eq_false, Bool.not_true, Bool.not_false, ne_eq, Bool.false_eq_true, Bool.true_eq_false, reduceCtorEq, beq_iff_eq, beq_eq_false_iff_ne, not_true_eq_false, not_false_eq_true, pair_eta, map_idL] at h) <;> (try dsimp only [putSpec, readSpec, gapsSpec, endSpec, endF, offSpec, offF, ctgSpec, ctgF, heldSpec, heldF, newStoSpec, partsSpec, partsF, Ty.T, Ty.dflt, KT.T, getM, putM, delM] at h) <;> (try simp only [natCast_eq] at h) <;> (try simp only [parts_len] at h) <;> (try (have hp := parts_at (d := d) hl hlo h; obtain ⟨_, hp⟩ := hp; have hq := pfF hfit hp (by omega) hd (1 + i % 5); have q1 := hq.e; have q2 := hq.len; have q3 := part_len hp)) <;> (try (have hE := endFx (w := 1 + w % 80) hfit hwin (by omega) hd h; have z1 := hE.le; have z2 := hE.eq.symm; have z3 := hE.off; have z4 := hE.nxt; have z5 := hE.held; have z6 := hE.byt; clear hE)) <;> (try (exfalso; apply h; rw [Int.toNat_zero, List.drop_zero, Int.toNat_natCast]; exact z2.symm)) <;> (try first | rw [if_pos h] at hr | rw [if_neg h] at hr | rw [ifF h] at hr | rw [ifN h] at hr) <;> (try (have hb : (_ : Bool) = _ := h; clear h; subst hb; (try first | rw [if_pos rfl] at hr | rw [if_neg Bool.false_ne_true] at hr))) <;> first | (exfalso; omega) | exact absurd (h.symm.trans (by assumption) : true = false) Bool.noConfusion | exact absurd (h.symm.trans (by assumption) : false = true) Bool.noConfusion | (refine (?_ : T1 _ ?_) ?_; rotate_left 1; (conv => lhs; cbv; (try cbv); (try cbv)); intro hT; clear hT; refine Sh.mk (by kernel_rfl) ?_))
      | (with_reducible refine Pick.mk (fun h => ?_) (fun l1 x l2 h => ?_) <;> (refine (?_ : T1 _ ?_) ?_; rotate_left 1; (conv => lhs; cbv; (try cbv); (try cbv)); intro hT; clear hT; refine Sh.mk (by kernel_rfl) ?_))
      | ((with_reducible refine End.mk ?_); skip)
      | with_reducible exact True.intro)
    all_goals first
      | (fail_if_success (with_reducible refine Exists.intro ?_ ?_)
         first
           | with_reducible rfl
           | with_reducible assumption
           | (dsimp only [putSpec, readSpec, gapsSpec, endSpec, endF, offSpec, offF, ctgSpec, ctgF, heldSpec, heldF, newStoSpec, partsSpec, partsF, Ty.T, Ty.dflt, KT.T, getM, putM, delM, inI64, maxRow]; done)
           | (symm; with_reducible assumption)
           | (dsimp only [putSpec, readSpec, gapsSpec, endSpec, endF, offSpec, offF, ctgSpec, ctgF, heldSpec, heldF, newStoSpec, partsSpec, partsF, Ty.T, Ty.dflt, KT.T, getM, putM, delM, inI64, maxRow]; first | with_reducible rfl | with_reducible assumption | (symm; with_reducible assumption) | (simp only [natCast_eq]; with_reducible rfl) | omega)
           | omega
           | (dsimp only [putSpec, readSpec, gapsSpec, endSpec, endF, offSpec, offF, ctgSpec, ctgF, heldSpec, heldF, newStoSpec, partsSpec, partsF, Ty.T, Ty.dflt, KT.T, getM, putM, delM, inI64, maxRow]; (try simp only [natCast_eq, List.nil_append]); first | with_reducible rfl | exact take_cg (by omega) | exact drop_cg (by omega) | exact take_drop_cg (by omega) (by omega) | exact take_all (by omega) | exact take_drop_all (by omega) (by omega) | exact drop_take_cg (by omega) (by omega) (by omega))
           | first | exact hy1.symm | (rw [hy1]; exact hq.rd) | (rw [hy1, hq.off])
           | ((try dsimp only [putSpec, readSpec, gapsSpec, endSpec, endF, offSpec, offF, ctgSpec, ctgF, heldSpec, heldF, newStoSpec, partsSpec, partsF, Ty.T, Ty.dflt, KT.T, getM, putM, delM, inI64, maxRow]); simp only [decide_eq_true_eq, decide_eq_false_iff_not, Bool.not_eq_true', Bool.not_eq_false', Bool.not_eq_true, Bool.not_eq_false, Bool.not_true, Bool.not_false, ne_eq, Bool.false_eq_true, Bool.true_eq_false, reduceCtorEq, beq_iff_eq, beq_eq_false_iff_ne, not_true_eq_false, not_false_eq_true, pair_eta, map_idL, natCast_eq, inI64, maxRow]; first | done | with_reducible assumption | omega)
           | exact map_pair_id _
           | ((try dsimp only [putSpec, readSpec, gapsSpec, endSpec, endF, offSpec, offF, ctgSpec, ctgF, heldSpec, heldF, newStoSpec, partsSpec, partsF, Ty.T, Ty.dflt, KT.T, getM, putM, delM, inI64, maxRow]) <;> (try simp only [natCast_eq]) <;> omega)
           | ((try dsimp only [putSpec, readSpec, gapsSpec, endSpec, endF, offSpec, offF, ctgSpec, ctgF, heldSpec, heldF, newStoSpec, partsSpec, partsF, Ty.T, Ty.dflt, KT.T, getM, putM, delM, inI64, maxRow] at *) <;> (try simp only [natCast_eq] at *) <;> omega)
           | ((try dsimp only [putSpec, readSpec, gapsSpec, endSpec, endF, offSpec, offF, ctgSpec, ctgF, heldSpec, heldF, newStoSpec, partsSpec, partsF, Ty.T, Ty.dflt, KT.T, getM, putM, delM, inI64, maxRow] at *) <;> (try simp only [List.length_append, List.length_cons, List.length_nil, List.length_replicate, List.length_take, List.length_drop, natCast_eq] at *) <;> omega)
           | assumption
           | (symm; assumption)
           | (dsimp only; simp only [Bool.or_true, Bool.true_or, Bool.or_false, Bool.false_or, Bool.and_true, Bool.true_and, Bool.and_false, Bool.false_and, Bool.not_true, Bool.not_false, *]; done)
           | (simp; done)
           | (and_intros <;> first | trivial | with_reducible assumption | omega)
           | ((try dsimp only [putSpec, readSpec, gapsSpec, endSpec, endF, offSpec, offF, ctgSpec, ctgF, heldSpec, heldF, newStoSpec, partsSpec, partsF, Ty.T, Ty.dflt, KT.T, getM, putM, delM, inI64, maxRow] at *) <;> simp [*] <;> done))
      | skip
theorem pfx_sound : ConSound Try.prog AI 4 pfxSpec.con := PureSpec.sound Try.call4 (fun x h => pfx_ok x.1 x.2.1 x.2.2.1 x.2.2.2.1 h)
end Go.Proofs.Ytonegoinplddmaa
