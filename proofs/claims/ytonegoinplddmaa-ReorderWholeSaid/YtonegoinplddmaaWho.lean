/-
  Layer 43: ReorderWhole, the walk.
-/
import Derived.Test.YtonegoinplddmaaOrd
import Derived.Test.YtonegoinplddmaaPfs
namespace Go.Proofs.Ytonegoinplddmaa
set_option linter.all false
set_option linter.unusedVariables false
set_option linter.unusedSimpArgs false
set_option linter.unusedSectionVars false
open Go.RowKit Go.Sx
set_option maxRecDepth 100000
set_option maxHeartbeats 16000000

noncomputable abbrev Eh : Env Ab := ⟨tis, [(23, geqSpec.con), (19, heldSpec.con), (18, ctgSpec.con), (17, offSpec.con), (22, endSpec.con), (16, gapsSpec.con), (15, readSpec.con), (14, putSpec.con), (13, newStoSpec.con), (20, partsRSpec.conO), (11, awakeSpec.con), (21, inl E0 Try.f21 0)] ++ E0.con⟩
theorem ehOk : EnvOk Try.prog AI Eh := ((((((((((((e0Ok.add beq_inl).add awake_sound).add partsR_sound).add newSto_sound).add put_sound).add read_sound).add gaps_sound).add end_sound).add off_sound).add ctg_sound).add held_sound).add geq_sound)
/-- Parts that make up the beginning of the stream. -/
structure Goo (d : List Int) (a : Int) (L : List Seg) : Prop where
  part : ∀ s ∈ L, IsPart d s
  cov : ∀ k, 0 ≤ k → k < min a d.length → ∃ s ∈ L, s.1 ≤ k ∧ k < s.1 + (s.2.1.length : Int)
  last : (d.length : Int) < a → ∃ s ∈ L, s.2.2 = true
  len : (L.length : Int) ≤ 40 + a
abbrev blk (d : List Int) (a : Int) : Seg := (a, (d.take (min (a + 7) d.length).toNat).drop a.toNat, decide (min (a + 7) (d.length : Int) = d.length))
theorem goo_parts {d : List Int} {l : List (Int × Int)} (hl : ∀ y ∈ l, u8p y) (h : l.length ≤ 40) : Goo d 0 (partsL d l) := by
  refine ⟨fun s hs => ?_, fun k h1 h2 => by omega, fun h => by omega, by rw [parts_len]; omega⟩
  obtain ⟨x, hx, e⟩ := List.mem_map.1 hs
  rw [← e]
  have := hl x hx
  exact pseg_part d x this.1.1 this.2.1
theorem goo_blk {d : List Int} {a : Int} {L : List Seg} (h : Goo d a L) (h0 : 0 ≤ a) (h1 : a ≤ d.length) : Goo d (a + 7) (L ++ [blk d a]) := by
  have hlen : (blk d a).2.1.length = (min (a + 7) (d.length : Int) - a).toNat := by
    show ((d.take (min (a + 7) (d.length : Int)).toNat).drop a.toNat).length = _
    rw [List.length_drop, List.length_take]; omega
  refine ⟨fun s hs => ?_, fun k k1 k2 => ?_, fun h2 => ?_, ?_⟩
  · rcases List.mem_append.1 hs with hs | hs
    · exact h.part s hs
    · rw [List.mem_singleton.1 hs]
      refine ⟨h0, ?_, ?_, fun hla => ?_⟩
      · rw [hlen]; show a + _ ≤ _; omega
      · rw [hlen]
        show (d.take (min (a + 7) (d.length : Int)).toNat).drop a.toNat = (d.drop a.toNat).take _
        rw [List.drop_take]; congr 1; omega
      · have hla : min (a + 7) (d.length : Int) = d.length := of_decide_eq_true hla
        rw [hlen]; show a + _ = _; omega
  · by_cases hk : k < a
    · obtain ⟨s, hs, h2⟩ := h.cov k k1 (by omega)
      exact ⟨s, List.mem_append.2 (.inl hs), h2⟩
    · exact ⟨blk d a, List.mem_append.2 (.inr (List.mem_singleton.2 rfl)), by show a ≤ k; omega, by rw [hlen]; show k < a + _; omega⟩
  · exact ⟨blk d a, List.mem_append.2 (.inr (List.mem_singleton.2 rfl)), decide_eq_true (by omega)⟩
  · have := h.len
    rw [List.length_append, List.length_singleton]; omega
/-- All parts. -/
structure Gd (d : List Int) (L : List Seg) : Prop where
  part : ∀ s ∈ L, IsPart d s
  cov : ∀ k, 0 ≤ k → k < (d.length : Int) → ∃ s ∈ L, s.1 ≤ k ∧ k < s.1 + (s.2.1.length : Int)
  last : ∃ s ∈ L, s.2.2 = true
  pos : 0 < (L.length : Int)
  len : (L.length : Int) ≤ 110
theorem Goo.gd {d : List Int} {a : Int} {L : List Seg} (h : Goo d a L) (h1 : ¬ a ≤ d.length) (h2 : a ≤ d.length + 7) (hd : d.length ≤ 60) : Gd d L := by
  obtain ⟨s, hs, hl⟩ := h.last (by omega)
  refine ⟨h.part, fun k k1 k2 => h.cov k k1 (by omega), ⟨s, hs, hl⟩, ?_, by have := h.len; omega⟩
  have := List.length_pos_of_mem hs
  omega
theorem mem_set_set {α : Type} {L : List α} {dflt : α} {i j : Nat} (hi : i < L.length) (hj : j < L.length) (x : α) : x ∈ (L.set i (L.getD j dflt)).set j (L.getD i dflt) ↔ x ∈ L := by
  have gi : L.getD i dflt = L[i] := by rw [List.getD_eq_getElem?_getD, List.getElem?_eq_getElem hi]; rfl
  have gj : L.getD j dflt = L[j] := by rw [List.getD_eq_getElem?_getD, List.getElem?_eq_getElem hj]; rfl
  rw [gi, gj]
  exact (List.set_set_perm hi hj).mem_iff
theorem Gd.swap {d : List Int} {L : List Seg} (h : Gd d L) {i j : Nat} (hi : i < L.length) (hj : j < L.length) : Gd d ((L.set i (L.getD j (0, [], false))).set j (L.getD i (0, [], false))) := by
  have hm := mem_set_set (dflt := ((0, [], false) : Seg)) hi hj
  refine ⟨fun s hs => h.part s ((hm s).1 hs), fun k k1 k2 => ?_, ?_, ?_, ?_⟩
  · obtain ⟨s, hs, h2⟩ := h.cov k k1 k2
    exact ⟨s, (hm s).2 hs, h2⟩
  · obtain ⟨s, hs, h2⟩ := h.last
    exact ⟨s, (hm s).2 hs, h2⟩
  · rw [List.length_set, List.length_set]; exact h.pos
  · rw [List.length_set, List.length_set]; exact h.len
/-- Behind all of them. -/
structure WhE (d : List Int) (S : Sto) : Prop where
  known : S.known = true
  fin : (if S.known = true then S.fin else 0) = d.length
  held : (S.kept.length : Int) = d.length
  gaps : ((gapsF S).1 : GL) = []
  nxt : S.next = d.length
  rd : ((readF S d.length).1.1 : List Int) = d
  rd2 : ((readF (readF S d.length).2 1).1.1 : List Int) = []
  held2 : (((readF (readF S d.length).2 1).2.kept.length : Nat) : Int) = 0
  off2 : (readF (readF S d.length).2 1).2.off = d.length
  gaps2 : ((gapsF (readF (readF S d.length).2 1).2).1 : GL) = []
  ok : StO S
  ok1 : StO (readF S d.length).2
  ok2 : StO (readF (readF S d.length).2 1).2
theorem whE {d : List Int} {S : Sto} {L : List Seg} (h : Cov S d (max d.length 1) L) (hg : Gd d L) : WhE d S := by
  have hS := h.fits.ok
  have ho := h.off
  have hrng : ∀ k, getI S.kept k ≠ none → 0 ≤ k ∧ k < (d.length : Int) := fun k hk => by
    cases hv : getI S.kept k with
    | none => exact absurd hv hk
    | some v =>
      have h1 := (h.fits.val k v hv).1
      have h2 := hS.rng _ (getI_mem hv)
      rw [ho] at h2
      exact ⟨h2.1, h1⟩
  have hget : ∀ k, getI S.kept k ≠ none ↔ S.off ≤ k ∧ k < S.off + (d.length : Nat) := fun k => by
    rw [ho, Int.zero_add]
    refine ⟨hrng k, fun hk => (h.get k).2 ⟨by omega, hg.cov k hk.1 hk.2⟩⟩
  have hk := h.known.2 hg.last
  have hf := h.fits.fin hk
  have hnx : S.next = d.length := next_eq hS (by omega) (fun k k1 k2 => (hget k).2 ⟨k1, by omega⟩) (by
    cases hv : getI S.kept d.length with
    | none => rfl
    | some v => exact absurd (hrng _ (by rw [hv]; exact fun h => by cases h)).2 (by omega))
  obtain ⟨r1, r2, r3, r4, r5⟩ := fits_read h.fits d.length
  have e1 : rdM S d.length = d.length := by dsimp only [rdM, rdN]; omega
  rw [e1] at r1 r3
  rw [ho] at r1 r3
  have f2 : ∀ T : Sto, Fits T d → T.off = d.length → ∀ k, getI T.kept k = none := fun T hT hoT k => by
    cases hv : getI T.kept k with
    | none => rfl
    | some v =>
      have h1 := (hT.val k v hv).1
      have h2 := (hT.ok.rng _ (getI_mem hv)).1
      dsimp only at h2
      omega
  have r6 : (readF S d.length).2.off = d.length := by rw [r3]; omega
  obtain ⟨s1, s2, s3, s4, s5⟩ := fits_read r2 1
  have e2 : rdM (readF S d.length).2 1 = 0 := by dsimp only [rdM, rdN]; rw [r4, r6, hnx]; omega
  rw [e2] at s1 s3
  have s6 : (readF (readF S d.length).2 1).2.off = d.length := by rw [s3, r6]; omega
  have hn2 := f2 _ s2 s6
  refine ⟨hk, by rw [if_pos hk]; exact hf, ?_, ?_, hnx, ?_, ?_, ?_, s6, ?_, hS, r2.ok, s2.ok⟩
  · rw [(keys_range hS hget).2]
  · rw [gaps_none hS hget (fun _ => by omega)]
  · rw [r1]
    show (d.drop 0).take (d.length : Int).toNat = d
    rw [List.drop_zero, Int.toNat_natCast, List.take_length]
  · rw [s1]; rfl
  · rw [nil_of_get hn2]; rfl
  · rw [gaps_none s2.ok (n := 0) (fun k => ⟨fun hh => absurd (hn2 k) hh, fun hh => by omega⟩) (fun hk2 => by rw [s2.fin hk2, s6]; omega)]
structure LW1 (d : List Int) where
  a : Int
  L : List Seg
  lo : 0 ≤ a
  hi : a ≤ d.length + 7
  g : Goo d a L
structure LW2 (d : List Int) (n : Int) where
  i : Int
  L : List Seg
  lo : 0 ≤ i
  hi : i ≤ n
  g : Gd d L
structure LW3 (d : List Int) (L : List Seg) where
  i : Int
  S : Sto
  lo : 0 ≤ i
  hi : i ≤ L.length
  cov : Cov S d (max d.length 1) (L.take i.toNat)
structure WhF (d : List Int) (L : List Seg) (i : Int) (S : Sto) (s : Seg) : Prop where
  e : ((putF S s.1 s.2.1 s.2.2).1.2.1 : Int) = 0
  n : 0 ≤ ((putF S s.1 s.2.1 s.2.2).1.1 : Int) ∧ ((putF S s.1 s.2.1 s.2.2).1.1 : Int) ≤ 1048576
  fr : (S.kept.length : Int) + ((putF S s.1 s.2.1 s.2.2).1.1 : Int) = (putF S s.1 s.2.1 s.2.2).2.kept.length
  sm : inI64 ((S.kept.length : Int) + ((putF S s.1 s.2.1 s.2.2).1.1 : Int))
  len : s.2.1.length ≤ d.length
  cov : Cov (putF S s.1 s.2.1 s.2.2).2 d (max d.length 1) (L.take (i + 1).toNat)
theorem whF {d : List Int} {L : List Seg} {i : Int} {S : Sto} (hd : d.length ≤ 60) (hb : inBytes d) (g : Gd d L) (h0 : 0 ≤ i) (hi : i < L.length) (h : Cov S d (max d.length 1) (L.take i.toNat)) : WhF d L i S (L.getD i.toNat (0, [], false)) := by
  have hp : IsPart d (L.getD i.toNat (0, [], false)) := g.part _ (getD_mem (by omega))
  have hok := fits_ok h.fits hp (by omega)
  have c := cov_put (M := L.take (i + 1).toNat) h hp (by omega) hb (fun x => mem_take_step h0 hi x)
  have hl := part_len hp
  have hf := put_fs h.fits.ok (o := (L.getD i.toNat (0, [], false)).1) (L.getD i.toNat (0, [], false)).2.2 (hp.byt hb) (by omega)
  have e0 : ((putF S (L.getD i.toNat (0, [], false)).1 (L.getD i.toNat (0, [], false)).2.1 (L.getD i.toNat (0, [], false)).2.2).1.2.1 : Int) = 0 := by rw [put_ok_eq hok]
  have hkl := h.fits.ok.len; have hkw := h.fits.ok.win; have hrg := hf.rng
  refine ⟨e0, hf.rng, (hf.held e0).symm, ?_, hl, by rw [put_ok_eq hok]; exact c⟩
  generalize ((putF S (L.getD i.toNat (0, [], false)).1 (L.getD i.toNat (0, [], false)).2.1 (L.getD i.toNat (0, [], false)).2.2).1.1 : Int) = n at hrg ⊢
  unfold inI64; omega
theorem who_ix {od : List Int} {M : List Seg} {i : Int} (hb : inBytes od) (hp : 0 < (M.length : Int)) (h0 : 0 ≤ i) (hi : i < od.length) : (0 ≤ od.getD i.toNat 0 ∧ od.getD i.toNat 0 ≤ 255) ∧ (0 ≤ i % (M.length : Int) ∧ i % (M.length : Int) < M.length) ∧ (0 ≤ od.getD i.toNat 0 % (M.length : Int) ∧ od.getD i.toNat 0 % (M.length : Int) < M.length) := by
  have h1 := hb _ (getD_mem (d := 0) (show i.toNat < od.length by omega))
  exact ⟨⟨h1.1, by omega⟩, ⟨Int.emod_nonneg _ (by omega), Int.emod_lt_of_pos _ hp⟩, ⟨Int.emod_nonneg _ (by omega), Int.emod_lt_of_pos _ hp⟩⟩
def whoF (_ : List Int) (_ : List (Int × Int)) (_ : List Int) : Tup [DT.cell .bool] := (true, ())
def whoSpec : PureSpec := ⟨[.lst (.int .u8), .lst u2E, .lst (.int .u8)], fun (x : (List Int) × (List (Int × Int)) × (List Int) × Unit) => (x.1.length ≤ maxLen ∧ inBytes x.1) ∧ (x.2.1.length ≤ maxLen ∧ ∀ y ∈ x.2.1, u8p y) ∧ (x.2.2.1.length ≤ maxLen ∧ inBytes x.2.2.1), [.cell .bool], fun (x : (List Int) × (List (Int × Int)) × (List Int) × Unit) => whoF x.1 x.2.1 x.2.2.1⟩
theorem who_ok (d : List Int) (l : List (Int × Int)) (od : List Int) (h : whoSpec.pre (d, l, od, ())) : TmplOk Try.prog AI 6 (argS whoSpec.ds (fun _ => (d, l, od, ()))) [] (resOf (svs whoSpec.rs (fun _ => whoSpec.f (d, l, od, ())))) [] := by
  dsimp only [whoSpec] at h ⊢
  generalize hr : whoF d l od = r
  obtain ⟨⟨hd0, hd⟩, ⟨hl0, hl⟩, ho0, hob⟩ := h
  dsimp only [whoF] at hr
  refine tmpl_of_body ehOk mixed (fn := Try.f6) (c := bodyOf Try.f6) (by kernel_rfl) (by kernel_rfl) (by kernel_rfl) (Nat.le_of_ble_eq_true (by kernel_rfl)) ?_
  (try (conv in (LoopInv.inv _ _) => dsimp only)); (try (conv in (SS.mk _ _) => cbv; (try dsimp only [putSpec, readSpec, gapsSpec, endSpec, endF, offSpec, offF, ctgSpec, ctgF, heldSpec, heldF, newStoSpec, partsRSpec, geqSpec, Ty.T, Ty.dflt, KT.T]); (try simp only [natCast_eq])))
  (refine (?_ : T1 _ ?_) ?_; rotate_left 1; (conv => lhs; cbv; (try cbv); (try cbv)); intro hT; clear hT; refine Sh.mk (by kernel_rfl) ?_)
  repeat' (first
    | with_reducible refine Ck.mk (C := tt) tt_intro ?_
    | with_reducible refine Ck.mk (show drawOk _ _ = true by kernel_rfl) ?_
    | with_reducible refine Ck.all_cons ?_
    | with_reducible refine Ck.all_nil ?_
    | with_reducible refine Ck.mk (by assumption) ?_
    | with_reducible refine Ck.mk (decide_eq_true (by assumption)) ?_
    | with_reducible refine Ck.mk (decide_eq_false (by assumption)) ?_
    | with_reducible refine Ck.mk ?_ ?_
    | (with_reducible refine Both.mk (fun h => ?_) (fun h => ?_) <;> (have hk := h) <;> (try simp only [decide_eq_true_eq, decide_eq_false_iff_not, Bool.not_eq_true', Bool.not_eq_false', Bool.not_eq_true, Bool.not_eq_false, Bool.not_true, Bool.not_false, ne_eq, Bool.false_eq_true, Bool.true_eq_false, reduceCtorEq, beq_iff_eq, beq_eq_false_iff_ne, not_true_eq_false, not_false_eq_true, pair_eta, map_idL] at h) <;> (try dsimp only [putSpec, readSpec, gapsSpec, endSpec, endF, offSpec, offF, ctgSpec, ctgF, heldSpec, heldF, newStoSpec, partsRSpec, geqSpec, Ty.T, Ty.dflt, KT.T, getM, putM, delM] at h) <;> (try simp only [natCast_eq] at h) <;> (try (have hm := who_ix hob hp hlo h; obtain ⟨⟨m0, m0b⟩, ⟨m1, m1b⟩, m2, m2b⟩ := hm)) <;> (try (have hq := whF (by omega) hd hg3 hlo h hcov; have q1 := hq.e; have q2 := hq.n; have q3 := hq.fr; have q4 := hq.len)) <;> (try (have hE := whE (hcv h) hg3; have z1 := hE.known; have z2 := hE.fin; have z3 := hE.held; have z4 := hE.gaps; have z5 := hE.nxt; have z6 := hE.rd; have z7 := hE.rd2; have z8 := hE.held2; have z9 := hE.off2; have z10 := hE.gaps2; have k0 := hE.ok; have k1 := hE.ok1; have k2 := hE.ok2; clear hE)) <;> (try simp only [z4, z6, z7, z10, List.length_nil] at h) <;> (try (exfalso; first | exact absurd rfl h | exact absurd z3 h | exact absurd z2 h | exact absurd z5 h | exact absurd z8 h | exact absurd z9 h | exact absurd (z1.symm.trans h) Bool.noConfusion | exact absurd h (Int.not_lt.2 q2.1))) <;> (try first | rw [if_pos h] at hr | rw [if_neg h] at hr | rw [ifF h] at hr | rw [ifN h] at hr) <;> (try (have hb : (_ : Bool) = _ := h; clear h; subst hb; (try first | rw [if_pos rfl] at hr | rw [if_neg Bool.false_ne_true] at hr))) <;> first | (exfalso; omega) | exact absurd (h.symm.trans (by assumption) : true = false) Bool.noConfusion | exact absurd (h.symm.trans (by assumption) : false = true) Bool.noConfusion | (refine (?_ : T1 _ ?_) ?_; rotate_left 1; (conv => lhs; cbv; (try cbv); (try cbv)); intro hT; clear hT; refine Sh.mk (by kernel_rfl) ?_))
    | (with_reducible refine Alt.mk (fun h => ?_) (fun h => ?_) <;> (have hk := h) <;> (try simp only [decide_eq_true_eq, decide_eq_false_iff_not, Bool.not_eq_true', Bool.not_eq_false', Bool.not_eq_true, Bool.not_eq_false, Bool.not_true, Bool.not_false, ne_eq, Bool.false_eq_true, Bool.true_eq_false, reduceCtorEq, beq_iff_eq, beq_eq_false_iff_ne, not_true_eq_false, not_false_eq_true, pair_eta, map_idL] at h) <;> (try dsimp only [putSpec, readSpec, gapsSpec, endSpec, endF, offSpec, offF, ctgSpec, ctgF, heldSpec, heldF, newStoSpec, partsRSpec, geqSpec, Ty.T, Ty.dflt, KT.T, getM, putM, delM] at h) <;> (try simp only [natCast_eq] at h) <;> (try (have hm := who_ix hob hp hlo h; obtain ⟨⟨m0, m0b⟩, ⟨m1, m1b⟩, m2, m2b⟩ := hm)) <;> (try (have hq := whF (by omega) hd hg3 hlo h hcov; have q1 := hq.e; have q2 := hq.n; have q3 := hq.fr; have q4 := hq.len)) <;> (try (have hE := whE (hcv h) hg3; have z1 := hE.known; have z2 := hE.fin; have z3 := hE.held; have z4 := hE.gaps; have z5 := hE.nxt; have z6 := hE.rd; have z7 := hE.rd2; have z8 := hE.held2; have z9 := hE.off2; have z10 := hE.gaps2; have k0 := hE.ok; have k1 := hE.ok1; have k2 := hE.ok2; clear hE)) <;> (try simp only [z4, z6, z7, z10, List.length_nil] at h) <;> (try (exfalso; first | exact absurd rfl h | exact absurd z3 h | exact absurd z2 h | exact absurd z5 h | exact absurd z8 h | exact absurd z9 h | exact absurd (z1.symm.trans h) Bool.noConfusion | exact absurd h (Int.not_lt.2 q2.1))) <;> (try first | rw [if_pos h] at hr | rw [if_neg h] at hr | rw [ifF h] at hr | rw [ifN h] at hr) <;> (try (have hb : (_ : Bool) = _ := h; clear h; subst hb; (try first | rw [if_pos rfl] at hr | rw [if_neg Bool.false_ne_true] at hr))) <;> first | (exfalso; omega) | exact absurd (h.symm.trans (by assumption) : true = false) Bool.noConfusion | exact absurd (h.symm.trans (by assumption) : false = true) Bool.noConfusion | (refine (?_ : T1 _ ?_) ?_; rotate_left 1; (conv => lhs; cbv; (try cbv); (try cbv)); intro hT; clear hT; refine Sh.mk (by kernel_rfl) ?_))
    | (with_reducible refine Pick.mk (fun h => ?_) (fun l1 x l2 h => ?_) <;> (refine (?_ : T1 _ ?_) ?_; rotate_left 1; (conv => lhs; cbv; (try cbv); (try cbv)); intro hT; clear hT; refine Sh.mk (by kernel_rfl) ?_))
    | ((with_reducible refine End.mk ?_); (try ((repeat (first | rw [if_pos (by first | assumption | omega)] at hr | rw [if_neg (by first | assumption | omega | (simp only [Bool.false_eq_true, Bool.true_eq_false, reduceCtorEq, not_false_eq_true]; done) | (simp only [Bool.not_eq_true]; assumption) | (simp only [Bool.not_eq_false]; assumption))] at hr | rw [if_pos rfl] at hr)); subst hr)))
    | with_reducible exact True.intro)
  all_goals first
    | (fail_if_success (with_reducible refine Exists.intro ?_ ?_)
       first
         | with_reducible rfl
         | with_reducible assumption
         | (dsimp only [putSpec, readSpec, gapsSpec, endSpec, endF, offSpec, offF, ctgSpec, ctgF, heldSpec, heldF, newStoSpec, partsRSpec, geqSpec, Ty.T, Ty.dflt, KT.T, getM, putM, delM, inI64, maxRow]; done)
         | (symm; with_reducible assumption)
         | (dsimp only [putSpec, readSpec, gapsSpec, endSpec, endF, offSpec, offF, ctgSpec, ctgF, heldSpec, heldF, newStoSpec, partsRSpec, geqSpec, Ty.T, Ty.dflt, KT.T, getM, putM, delM, inI64, maxRow]; first | with_reducible rfl | with_reducible assumption | (symm; with_reducible assumption) | (simp only [natCast_eq]; with_reducible rfl) | omega)
         | omega
         | (dsimp only [putSpec, readSpec, gapsSpec, endSpec, endF, offSpec, offF, ctgSpec, ctgF, heldSpec, heldF, newStoSpec, partsRSpec, geqSpec, Ty.T, Ty.dflt, KT.T, getM, putM, delM, inI64, maxRow]; (try simp only [natCast_eq, List.nil_append]); first | with_reducible rfl | exact take_cg (by omega) | exact drop_cg (by omega) | exact take_drop_cg (by omega) (by omega) | exact take_all (by omega) | exact take_drop_all (by omega) (by omega) | exact drop_take_cg (by omega) (by omega) (by omega))
         | exact parts_pre (d := d) (l := l) (by omega) (by omega) hl
         | ((try dsimp only [putSpec, readSpec, gapsSpec, endSpec, endF, offSpec, offF, ctgSpec, ctgF, heldSpec, heldF, newStoSpec, partsRSpec, geqSpec, Ty.T, Ty.dflt, KT.T, getM, putM, delM, inI64, maxRow]); simp only [decide_eq_true_eq, decide_eq_false_iff_not, Bool.not_eq_true', Bool.not_eq_false', Bool.not_eq_true, Bool.not_eq_false, Bool.not_true, Bool.not_false, ne_eq, Bool.false_eq_true, Bool.true_eq_false, reduceCtorEq, beq_iff_eq, beq_eq_false_iff_ne, not_true_eq_false, not_false_eq_true, pair_eta, map_idL, natCast_eq, inI64, maxRow]; first | done | with_reducible assumption | omega)
         | exact map_pair_id _
         | ((try dsimp only [putSpec, readSpec, gapsSpec, endSpec, endF, offSpec, offF, ctgSpec, ctgF, heldSpec, heldF, newStoSpec, partsRSpec, geqSpec, Ty.T, Ty.dflt, KT.T, getM, putM, delM, inI64, maxRow]) <;> (try simp only [natCast_eq]) <;> omega)
         | ((try dsimp only [putSpec, readSpec, gapsSpec, endSpec, endF, offSpec, offF, ctgSpec, ctgF, heldSpec, heldF, newStoSpec, partsRSpec, geqSpec, Ty.T, Ty.dflt, KT.T, getM, putM, delM, inI64, maxRow] at *) <;> (try simp only [natCast_eq] at *) <;> omega)
         | ((try dsimp only [putSpec, readSpec, gapsSpec, endSpec, endF, offSpec, offF, ctgSpec, ctgF, heldSpec, heldF, newStoSpec, partsRSpec, geqSpec, Ty.T, Ty.dflt, KT.T, getM, putM, delM, inI64, maxRow] at *) <;> (try simp only [List.length_append, List.length_cons, List.length_nil, List.length_replicate, List.length_take, List.length_drop, natCast_eq] at *) <;> omega)
         | assumption
         | (symm; assumption)
         | (dsimp only; simp only [Bool.or_true, Bool.true_or, Bool.or_false, Bool.false_or, Bool.and_true, Bool.true_and, Bool.and_false, Bool.false_and, Bool.not_true, Bool.not_false, *]; done)
         | (simp; done)
         | (and_intros <;> first | trivial | with_reducible assumption | omega)
         | ((try dsimp only [putSpec, readSpec, gapsSpec, endSpec, endF, offSpec, offF, ctgSpec, ctgF, heldSpec, heldF, newStoSpec, partsRSpec, geqSpec, Ty.T, Ty.dflt, KT.T, getM, putM, delM, inI64, maxRow] at *) <;> simp [*] <;> done))
    | skip
  obtain ⟨x0, hx0, hx1⟩ : ∃ x : LW1 d, x.a = 0 ∧ x.L = partsL d l := ⟨⟨0, partsL d l, by omega, by omega, goo_parts hl (by omega)⟩, rfl, rfl⟩
  refine ⟨⟨LW1 d, fun x => ⟨[(0, Sx.one (.ro (.int .u8) (fun _ => d))), (2, Sx.one (.ro (.int .u8) (fun _ => od))), (7, Sx.one (.ptr 0 0)), (9, Sx.one (.hd 1 0)), (10, Sx.one (.int .i64 (fun _ => x.a)))], [.abs (.sto (fun _ => newS (max d.length 1))), .row 31 segE 0 (fun _ => x.L)]⟩, fun x => (d.length + 7 - x.a).toNat, x0⟩, ?_, fun (x : LW1 d) => ?_⟩
  · (try (conv in (LoopInv.inv _ _) => dsimp only)); (try (conv in (SS.mk _ _) => cbv; (try dsimp only [putSpec, readSpec, gapsSpec, endSpec, endF, offSpec, offF, ctgSpec, ctgF, heldSpec, heldF, newStoSpec, partsRSpec, geqSpec, Ty.T, Ty.dflt, KT.T]); (try simp only [natCast_eq])))
    (refine (?_ : T1 _ ?_) ?_; rotate_left 1; (conv => lhs; cbv; (try cbv); (try cbv)); intro hT; clear hT; refine Sh.mk (by kernel_rfl) ?_)
    repeat' (first
      | with_reducible refine Ck.mk (C := tt) tt_intro ?_
      | with_reducible refine Ck.mk (show drawOk _ _ = true by kernel_rfl) ?_
      | with_reducible refine Ck.all_cons ?_
      | with_reducible refine Ck.all_nil ?_
      | with_reducible refine Ck.mk (by assumption) ?_
      | with_reducible refine Ck.mk (decide_eq_true (by assumption)) ?_
      | with_reducible refine Ck.mk (decide_eq_false (by assumption)) ?_
      | with_reducible refine Ck.mk ?_ ?_
      | (with_reducible refine Both.mk (fun h => ?_) (fun h => ?_) <;> (have hk := h) <;> (try simp only [decide_eq_true_eq, decide_eq_false_iff_not, Bool.not_eq_true', Bool.not_eq_false', Bool.not_eq_true, Bool.not_eq_false, Bool.not_true, Bool.not_false, ne_eq, Bool.false_eq_true, Bool.true_eq_false, reduceCtorEq, beq_iff_eq, beq_eq_false_iff_ne, not_true_eq_false, not_false_eq_true, pair_eta, map_idL] at h) <;> (try dsimp only [putSpec, readSpec, gapsSpec, endSpec, endF, offSpec, offF, ctgSpec, ctgF, heldSpec, heldF, newStoSpec, partsRSpec, geqSpec, Ty.T, Ty.dflt, KT.T, getM, putM, delM] at h) <;> (try simp only [natCast_eq] at h) <;> (try (have hm := who_ix hob hp hlo h; obtain ⟨⟨m0, m0b⟩, ⟨m1, m1b⟩, m2, m2b⟩ := hm)) <;> (try (have hq := whF (by omega) hd hg3 hlo h hcov; have q1 := hq.e; have q2 := hq.n; have q3 := hq.fr; have q4 := hq.len)) <;> (try (have hE := whE (hcv h) hg3; have z1 := hE.known; have z2 := hE.fin; have z3 := hE.held; have z4 := hE.gaps; have z5 := hE.nxt; have z6 := hE.rd; have z7 := hE.rd2; have z8 := hE.held2; have z9 := hE.off2; have z10 := hE.gaps2; have k0 := hE.ok; have k1 := hE.ok1; have k2 := hE.ok2; clear hE)) <;> (try simp only [z4, z6, z7, z10, List.length_nil] at h) <;> (try (exfalso; first | exact absurd rfl h | exact absurd z3 h | exact absurd z2 h | exact absurd z5 h | exact absurd z8 h | exact absurd z9 h | exact absurd (z1.symm.trans h) Bool.noConfusion | exact absurd h (Int.not_lt.2 q2.1))) <;> (try first | rw [if_pos h] at hr | rw [if_neg h] at hr | rw [ifF h] at hr | rw [ifN h] at hr) <;> (try (have hb : (_ : Bool) = _ := h; clear h; subst hb; (try first | rw [if_pos rfl] at hr | rw [if_neg Bool.false_ne_true] at hr))) <;> first | (exfalso; omega) | exact absurd (h.symm.trans (by assumption) : true = false) Bool.noConfusion | exact absurd (h.symm.trans (by assumption) : false = true) Bool.noConfusion | (refine (?_ : T1 _ ?_) ?_; rotate_left 1; (conv => lhs; cbv; (try cbv); (try cbv)); intro hT; clear hT; refine Sh.mk (by kernel_rfl) ?_))
      | (with_reducible refine Alt.mk (fun h => ?_) (fun h => ?_) <;> (have hk := h) <;> (try simp only [decide_eq_true_eq, decide_eq_false_iff_not, Bool.not_eq_true', Bool.not_eq_false', Bool.not_eq_true, Bool.not_eq_false, Bool.not_true, Bool.not_false, ne_eq, Bool.false_eq_true, Bool.true_eq_false, reduceCtorEq, beq_iff_eq, beq_eq_false_iff_ne, not_true_eq_false, not_false_eq_true, pair_eta, map_idL] at h) <;> (try dsimp only [putSpec, readSpec, gapsSpec, endSpec, endF, offSpec, offF, ctgSpec, ctgF, heldSpec, heldF, newStoSpec, partsRSpec, geqSpec, Ty.T, Ty.dflt, KT.T, getM, putM, delM] at h) <;> (try simp only [natCast_eq] at h) <;> (try (have hm := who_ix hob hp hlo h; obtain ⟨⟨m0, m0b⟩, ⟨m1, m1b⟩, m2, m2b⟩ := hm)) <;> (try (have hq := whF (by omega) hd hg3 hlo h hcov; have q1 := hq.e; have q2 := hq.n; have q3 := hq.fr; have q4 := hq.len)) <;> (try (have hE := whE (hcv h) hg3; have z1 := hE.known; have z2 := hE.fin; have z3 := hE.held; have z4 := hE.gaps; have z5 := hE.nxt; have z6 := hE.rd; have z7 := hE.rd2; have z8 := hE.held2; have z9 := hE.off2; have z10 := hE.gaps2; have k0 := hE.ok; have k1 := hE.ok1; have k2 := hE.ok2; clear hE)) <;> (try simp only [z4, z6, z7, z10, List.length_nil] at h) <;> (try (exfalso; first | exact absurd rfl h | exact absurd z3 h | exact absurd z2 h | exact absurd z5 h | exact absurd z8 h | exact absurd z9 h | exact absurd (z1.symm.trans h) Bool.noConfusion | exact absurd h (Int.not_lt.2 q2.1))) <;> (try first | rw [if_pos h] at hr | rw [if_neg h] at hr | rw [ifF h] at hr | rw [ifN h] at hr) <;> (try (have hb : (_ : Bool) = _ := h; clear h; subst hb; (try first | rw [if_pos rfl] at hr | rw [if_neg Bool.false_ne_true] at hr))) <;> first | (exfalso; omega) | exact absurd (h.symm.trans (by assumption) : true = false) Bool.noConfusion | exact absurd (h.symm.trans (by assumption) : false = true) Bool.noConfusion | (refine (?_ : T1 _ ?_) ?_; rotate_left 1; (conv => lhs; cbv; (try cbv); (try cbv)); intro hT; clear hT; refine Sh.mk (by kernel_rfl) ?_))
      | (with_reducible refine Pick.mk (fun h => ?_) (fun l1 x l2 h => ?_) <;> (refine (?_ : T1 _ ?_) ?_; rotate_left 1; (conv => lhs; cbv; (try cbv); (try cbv)); intro hT; clear hT; refine Sh.mk (by kernel_rfl) ?_))
      | ((with_reducible refine End.mk ?_); skip)
      | with_reducible exact True.intro)
    all_goals first
      | (fail_if_success (with_reducible refine Exists.intro ?_ ?_)
         first
           | with_reducible rfl
           | with_reducible assumption
           | (dsimp only [putSpec, readSpec, gapsSpec, endSpec, endF, offSpec, offF, ctgSpec, ctgF, heldSpec, heldF, newStoSpec, partsRSpec, geqSpec, Ty.T, Ty.dflt, KT.T, getM, putM, delM, inI64, maxRow]; done)
           | (symm; with_reducible assumption)
           | (dsimp only [putSpec, readSpec, gapsSpec, endSpec, endF, offSpec, offF, ctgSpec, ctgF, heldSpec, heldF, newStoSpec, partsRSpec, geqSpec, Ty.T, Ty.dflt, KT.T, getM, putM, delM, inI64, maxRow]; first | with_reducible rfl | with_reducible assumption | (symm; with_reducible assumption) | (simp only [natCast_eq]; with_reducible rfl) | omega)
           | omega
           | (dsimp only [putSpec, readSpec, gapsSpec, endSpec, endF, offSpec, offF, ctgSpec, ctgF, heldSpec, heldF, newStoSpec, partsRSpec, geqSpec, Ty.T, Ty.dflt, KT.T, getM, putM, delM, inI64, maxRow]; (try simp only [natCast_eq, List.nil_append]); first | with_reducible rfl | exact take_cg (by omega) | exact drop_cg (by omega) | exact take_drop_cg (by omega) (by omega) | exact take_all (by omega) | exact take_drop_all (by omega) (by omega) | exact drop_take_cg (by omega) (by omega) (by omega))
           | first | (rw [hx1]; simp only [pair_eta, map_idL]; done)
           | ((try dsimp only [putSpec, readSpec, gapsSpec, endSpec, endF, offSpec, offF, ctgSpec, ctgF, heldSpec, heldF, newStoSpec, partsRSpec, geqSpec, Ty.T, Ty.dflt, KT.T, getM, putM, delM, inI64, maxRow]); simp only [decide_eq_true_eq, decide_eq_false_iff_not, Bool.not_eq_true', Bool.not_eq_false', Bool.not_eq_true, Bool.not_eq_false, Bool.not_true, Bool.not_false, ne_eq, Bool.false_eq_true, Bool.true_eq_false, reduceCtorEq, beq_iff_eq, beq_eq_false_iff_ne, not_true_eq_false, not_false_eq_true, pair_eta, map_idL, natCast_eq, inI64, maxRow]; first | done | with_reducible assumption | omega)
           | exact map_pair_id _
           | ((try dsimp only [putSpec, readSpec, gapsSpec, endSpec, endF, offSpec, offF, ctgSpec, ctgF, heldSpec, heldF, newStoSpec, partsRSpec, geqSpec, Ty.T, Ty.dflt, KT.T, getM, putM, delM, inI64, maxRow]) <;> (try simp only [natCast_eq]) <;> omega)
           | ((try dsimp only [putSpec, readSpec, gapsSpec, endSpec, endF, offSpec, offF, ctgSpec, ctgF, heldSpec, heldF, newStoSpec, partsRSpec, geqSpec, Ty.T, Ty.dflt, KT.T, getM, putM, delM, inI64, maxRow] at *) <;> (try simp only [natCast_eq] at *) <;> omega)
           | ((try dsimp only [putSpec, readSpec, gapsSpec, endSpec, endF, offSpec, offF, ctgSpec, ctgF, heldSpec, heldF, newStoSpec, partsRSpec, geqSpec, Ty.T, Ty.dflt, KT.T, getM, putM, delM, inI64, maxRow] at *) <;> (try simp only [List.length_append, List.length_cons, List.length_nil, List.length_replicate, List.length_take, List.length_drop, natCast_eq] at *) <;> omega)
           | assumption
           | (symm; assumption)
           | (dsimp only; simp only [Bool.or_true, Bool.true_or, Bool.or_false, Bool.false_or, Bool.and_true, Bool.true_and, Bool.and_false, Bool.false_and, Bool.not_true, Bool.not_false, *]; done)
           | (simp; done)
           | (and_intros <;> first | trivial | with_reducible assumption | omega)
           | ((try dsimp only [putSpec, readSpec, gapsSpec, endSpec, endF, offSpec, offF, ctgSpec, ctgF, heldSpec, heldF, newStoSpec, partsRSpec, geqSpec, Ty.T, Ty.dflt, KT.T, getM, putM, delM, inI64, maxRow] at *) <;> simp [*] <;> done))
      | skip
  obtain ⟨a, L, hlo, hhi, hg⟩ := x
  have hgl := hg.len
  (try (conv in (LoopInv.inv _ _) => dsimp only)); (try (conv in (SS.mk _ _) => cbv; (try dsimp only [putSpec, readSpec, gapsSpec, endSpec, endF, offSpec, offF, ctgSpec, ctgF, heldSpec, heldF, newStoSpec, partsRSpec, geqSpec, Ty.T, Ty.dflt, KT.T]); (try simp only [natCast_eq])))
  (refine (?_ : T1 _ ?_) ?_; rotate_left 1; (conv => lhs; cbv; (try cbv); (try cbv)); intro hT; clear hT; refine Sh.mk (by kernel_rfl) ?_)
  repeat' (first
    | with_reducible refine Ck.mk (C := tt) tt_intro ?_
    | with_reducible refine Ck.mk (show drawOk _ _ = true by kernel_rfl) ?_
    | with_reducible refine Ck.all_cons ?_
    | with_reducible refine Ck.all_nil ?_
    | with_reducible refine Ck.mk (by assumption) ?_
    | with_reducible refine Ck.mk (decide_eq_true (by assumption)) ?_
    | with_reducible refine Ck.mk (decide_eq_false (by assumption)) ?_
    | with_reducible refine Ck.mk ?_ ?_
    | (with_reducible refine Both.mk (fun h => ?_) (fun h => ?_) <;> (have hk := h) <;> (try simp only [decide_eq_true_eq, decide_eq_false_iff_not, Bool.not_eq_true', Bool.not_eq_false', Bool.not_eq_true, Bool.not_eq_false, Bool.not_true, Bool.not_false, ne_eq, Bool.false_eq_true, Bool.true_eq_false, reduceCtorEq, beq_iff_eq, beq_eq_false_iff_ne, not_true_eq_false, not_false_eq_true, pair_eta, map_idL] at h) <;> (try dsimp only [putSpec, readSpec, gapsSpec, endSpec, endF, offSpec, offF, ctgSpec, ctgF, heldSpec, heldF, newStoSpec, partsRSpec, geqSpec, Ty.T, Ty.dflt, KT.T, getM, putM, delM] at h) <;> (try simp only [natCast_eq] at h) <;> (try (have hm := who_ix hob hp hlo h; obtain ⟨⟨m0, m0b⟩, ⟨m1, m1b⟩, m2, m2b⟩ := hm)) <;> (try (have hq := whF (by omega) hd hg3 hlo h hcov; have q1 := hq.e; have q2 := hq.n; have q3 := hq.fr; have q4 := hq.len)) <;> (try (have hE := whE (hcv h) hg3; have z1 := hE.known; have z2 := hE.fin; have z3 := hE.held; have z4 := hE.gaps; have z5 := hE.nxt; have z6 := hE.rd; have z7 := hE.rd2; have z8 := hE.held2; have z9 := hE.off2; have z10 := hE.gaps2; have k0 := hE.ok; have k1 := hE.ok1; have k2 := hE.ok2; clear hE)) <;> (try simp only [z4, z6, z7, z10, List.length_nil] at h) <;> (try (exfalso; first | exact absurd rfl h | exact absurd z3 h | exact absurd z2 h | exact absurd z5 h | exact absurd z8 h | exact absurd z9 h | exact absurd (z1.symm.trans h) Bool.noConfusion | exact absurd h (Int.not_lt.2 q2.1))) <;> (try first | rw [if_pos h] at hr | rw [if_neg h] at hr | rw [ifF h] at hr | rw [ifN h] at hr) <;> (try (have hb : (_ : Bool) = _ := h; clear h; subst hb; (try first | rw [if_pos rfl] at hr | rw [if_neg Bool.false_ne_true] at hr))) <;> first | (exfalso; omega) | exact absurd (h.symm.trans (by assumption) : true = false) Bool.noConfusion | exact absurd (h.symm.trans (by assumption) : false = true) Bool.noConfusion | (refine (?_ : T1 _ ?_) ?_; rotate_left 1; (conv => lhs; cbv; (try cbv); (try cbv)); intro hT; clear hT; refine Sh.mk (by kernel_rfl) ?_))
    | (with_reducible refine Alt.mk (fun h => ?_) (fun h => ?_) <;> (have hk := h) <;> (try simp only [decide_eq_true_eq, decide_eq_false_iff_not, Bool.not_eq_true', Bool.not_eq_false', Bool.not_eq_true, Bool.not_eq_false, Bool.not_true, Bool.not_false, ne_eq, Bool.false_eq_true, Bool.true_eq_false, reduceCtorEq, beq_iff_eq, beq_eq_false_iff_ne, not_true_eq_false, not_false_eq_true, pair_eta, map_idL] at h) <;> (try dsimp only [putSpec, readSpec, gapsSpec, endSpec, endF, offSpec, offF, ctgSpec, ctgF, heldSpec, heldF, newStoSpec, partsRSpec, geqSpec, Ty.T, Ty.dflt, KT.T, getM, putM, delM] at h) <;> (try simp only [natCast_eq] at h) <;> (try (have hm := who_ix hob hp hlo h; obtain ⟨⟨m0, m0b⟩, ⟨m1, m1b⟩, m2, m2b⟩ := hm)) <;> (try (have hq := whF (by omega) hd hg3 hlo h hcov; have q1 := hq.e; have q2 := hq.n; have q3 := hq.fr; have q4 := hq.len)) <;> (try (have hE := whE (hcv h) hg3; have z1 := hE.known; have z2 := hE.fin; have z3 := hE.held; have z4 := hE.gaps; have z5 := hE.nxt; have z6 := hE.rd; have z7 := hE.rd2; have z8 := hE.held2; have z9 := hE.off2; have z10 := hE.gaps2; have k0 := hE.ok; have k1 := hE.ok1; have k2 := hE.ok2; clear hE)) <;> (try simp only [z4, z6, z7, z10, List.length_nil] at h) <;> (try (exfalso; first | exact absurd rfl h | exact absurd z3 h | exact absurd z2 h | exact absurd z5 h | exact absurd z8 h | exact absurd z9 h | exact absurd (z1.symm.trans h) Bool.noConfusion | exact absurd h (Int.not_lt.2 q2.1))) <;> (try first | rw [if_pos h] at hr | rw [if_neg h] at hr | rw [ifF h] at hr | rw [ifN h] at hr) <;> (try (have hb : (_ : Bool) = _ := h; clear h; subst hb; (try first | rw [if_pos rfl] at hr | rw [if_neg Bool.false_ne_true] at hr))) <;> first | (exfalso; omega) | exact absurd (h.symm.trans (by assumption) : true = false) Bool.noConfusion | exact absurd (h.symm.trans (by assumption) : false = true) Bool.noConfusion | (refine (?_ : T1 _ ?_) ?_; rotate_left 1; (conv => lhs; cbv; (try cbv); (try cbv)); intro hT; clear hT; refine Sh.mk (by kernel_rfl) ?_))
    | (with_reducible refine Pick.mk (fun h => ?_) (fun l1 x l2 h => ?_) <;> (refine (?_ : T1 _ ?_) ?_; rotate_left 1; (conv => lhs; cbv; (try cbv); (try cbv)); intro hT; clear hT; refine Sh.mk (by kernel_rfl) ?_))
    | ((with_reducible refine End.mk ?_); (try ((repeat (first | rw [if_pos (by first | assumption | omega)] at hr | rw [if_neg (by first | assumption | omega | (simp only [Bool.false_eq_true, Bool.true_eq_false, reduceCtorEq, not_false_eq_true]; done) | (simp only [Bool.not_eq_true]; assumption) | (simp only [Bool.not_eq_false]; assumption))] at hr | rw [if_pos rfl] at hr)); subst hr)))
    | with_reducible exact True.intro)
  all_goals first
    | (fail_if_success (with_reducible refine Exists.intro ?_ ?_)
       first
         | with_reducible rfl
         | with_reducible assumption
         | (dsimp only [putSpec, readSpec, gapsSpec, endSpec, endF, offSpec, offF, ctgSpec, ctgF, heldSpec, heldF, newStoSpec, partsRSpec, geqSpec, Ty.T, Ty.dflt, KT.T, getM, putM, delM, inI64, maxRow]; done)
         | (symm; with_reducible assumption)
         | (dsimp only [putSpec, readSpec, gapsSpec, endSpec, endF, offSpec, offF, ctgSpec, ctgF, heldSpec, heldF, newStoSpec, partsRSpec, geqSpec, Ty.T, Ty.dflt, KT.T, getM, putM, delM, inI64, maxRow]; first | with_reducible rfl | with_reducible assumption | (symm; with_reducible assumption) | (simp only [natCast_eq]; with_reducible rfl) | omega)
         | omega
         | (dsimp only [putSpec, readSpec, gapsSpec, endSpec, endF, offSpec, offF, ctgSpec, ctgF, heldSpec, heldF, newStoSpec, partsRSpec, geqSpec, Ty.T, Ty.dflt, KT.T, getM, putM, delM, inI64, maxRow]; (try simp only [natCast_eq, List.nil_append]); first | with_reducible rfl | exact take_cg (by omega) | exact drop_cg (by omega) | exact take_drop_cg (by omega) (by omega) | exact take_all (by omega) | exact take_drop_all (by omega) (by omega) | exact drop_take_cg (by omega) (by omega) (by omega))
         | first | (dsimp only [Ty.T, Ty.dflt]; simp only [List.length_map, List.length_cons, List.length_nil, maxRow]; omega)
         | ((try dsimp only [putSpec, readSpec, gapsSpec, endSpec, endF, offSpec, offF, ctgSpec, ctgF, heldSpec, heldF, newStoSpec, partsRSpec, geqSpec, Ty.T, Ty.dflt, KT.T, getM, putM, delM, inI64, maxRow]); simp only [decide_eq_true_eq, decide_eq_false_iff_not, Bool.not_eq_true', Bool.not_eq_false', Bool.not_eq_true, Bool.not_eq_false, Bool.not_true, Bool.not_false, ne_eq, Bool.false_eq_true, Bool.true_eq_false, reduceCtorEq, beq_iff_eq, beq_eq_false_iff_ne, not_true_eq_false, not_false_eq_true, pair_eta, map_idL, natCast_eq, inI64, maxRow]; first | done | with_reducible assumption | omega)
         | exact map_pair_id _
         | ((try dsimp only [putSpec, readSpec, gapsSpec, endSpec, endF, offSpec, offF, ctgSpec, ctgF, heldSpec, heldF, newStoSpec, partsRSpec, geqSpec, Ty.T, Ty.dflt, KT.T, getM, putM, delM, inI64, maxRow]) <;> (try simp only [natCast_eq]) <;> omega)
         | ((try dsimp only [putSpec, readSpec, gapsSpec, endSpec, endF, offSpec, offF, ctgSpec, ctgF, heldSpec, heldF, newStoSpec, partsRSpec, geqSpec, Ty.T, Ty.dflt, KT.T, getM, putM, delM, inI64, maxRow] at *) <;> (try simp only [natCast_eq] at *) <;> omega)
         | ((try dsimp only [putSpec, readSpec, gapsSpec, endSpec, endF, offSpec, offF, ctgSpec, ctgF, heldSpec, heldF, newStoSpec, partsRSpec, geqSpec, Ty.T, Ty.dflt, KT.T, getM, putM, delM, inI64, maxRow] at *) <;> (try simp only [List.length_append, List.length_cons, List.length_nil, List.length_replicate, List.length_take, List.length_drop, natCast_eq] at *) <;> omega)
         | assumption
         | (symm; assumption)
         | (dsimp only; simp only [Bool.or_true, Bool.true_or, Bool.or_false, Bool.false_or, Bool.and_true, Bool.true_and, Bool.and_false, Bool.false_and, Bool.not_true, Bool.not_false, *]; done)
         | (simp; done)
         | (and_intros <;> first | trivial | with_reducible assumption | omega)
         | ((try dsimp only [putSpec, readSpec, gapsSpec, endSpec, endF, offSpec, offF, ctgSpec, ctgF, heldSpec, heldF, newStoSpec, partsRSpec, geqSpec, Ty.T, Ty.dflt, KT.T, getM, putM, delM, inI64, maxRow] at *) <;> simp [*] <;> done))
    | skip
  · obtain ⟨y, hy0, hy1⟩ : ∃ y : LW1 d, y.a = a + 7 ∧ y.L = L ++ [blk d a] := ⟨⟨a + 7, _, by omega, by omega, goo_blk hg hlo (by assumption)⟩, rfl, rfl⟩
    refine ⟨y, by dsimp only; (try simp only [natCast_eq]); omega, ?_⟩
    (try (conv in (LoopInv.inv _ _) => dsimp only)); (try (conv in (SS.mk _ _) => cbv; (try dsimp only [putSpec, readSpec, gapsSpec, endSpec, endF, offSpec, offF, ctgSpec, ctgF, heldSpec, heldF, newStoSpec, partsRSpec, geqSpec, Ty.T, Ty.dflt, KT.T]); (try simp only [natCast_eq])))
    (refine (?_ : T1 _ ?_) ?_; rotate_left 1; (conv => lhs; cbv; (try cbv); (try cbv)); intro hT; clear hT; refine Sh.mk (by kernel_rfl) ?_)
    repeat' (first
      | with_reducible refine Ck.mk (C := tt) tt_intro ?_
      | with_reducible refine Ck.mk (show drawOk _ _ = true by kernel_rfl) ?_
      | with_reducible refine Ck.all_cons ?_
      | with_reducible refine Ck.all_nil ?_
      | with_reducible refine Ck.mk (by assumption) ?_
      | with_reducible refine Ck.mk (decide_eq_true (by assumption)) ?_
      | with_reducible refine Ck.mk (decide_eq_false (by assumption)) ?_
      | with_reducible refine Ck.mk ?_ ?_
      | (with_reducible refine Both.mk (fun h => ?_) (fun h => ?_) <;> (have hk := h) <;> (try simp only [decide_eq_true_eq, decide_eq_false_iff_not, Bool.not_eq_true', Bool.not_eq_false', Bool.not_eq_true, Bool.not_eq_false, Bool.not_true, Bool.not_false, ne_eq, Bool.false_eq_true, Bool.true_eq_false, reduceCtorEq, beq_iff_eq, beq_eq_false_iff_ne, not_true_eq_false, not_false_eq_true, pair_eta, map_idL] at h) <;> (try dsimp only [putSpec, readSpec, gapsSpec, endSpec, endF, offSpec, offF, ctgSpec, ctgF, heldSpec, heldF, newStoSpec, partsRSpec, geqSpec, Ty.T, Ty.dflt, KT.T, getM, putM, delM] at h) <;> (try simp only [natCast_eq] at h) <;> (try (have hm := who_ix hob hp hlo h; obtain ⟨⟨m0, m0b⟩, ⟨m1, m1b⟩, m2, m2b⟩ := hm)) <;> (try (have hq := whF (by omega) hd hg3 hlo h hcov; have q1 := hq.e; have q2 := hq.n; have q3 := hq.fr; have q4 := hq.len)) <;> (try (have hE := whE (hcv h) hg3; have z1 := hE.known; have z2 := hE.fin; have z3 := hE.held; have z4 := hE.gaps; have z5 := hE.nxt; have z6 := hE.rd; have z7 := hE.rd2; have z8 := hE.held2; have z9 := hE.off2; have z10 := hE.gaps2; have k0 := hE.ok; have k1 := hE.ok1; have k2 := hE.ok2; clear hE)) <;> (try simp only [z4, z6, z7, z10, List.length_nil] at h) <;> (try (exfalso; first | exact absurd rfl h | exact absurd z3 h | exact absurd z2 h | exact absurd z5 h | exact absurd z8 h | exact absurd z9 h | exact absurd (z1.symm.trans h) Bool.noConfusion | exact absurd h (Int.not_lt.2 q2.1))) <;> (try first | rw [if_pos h] at hr | rw [if_neg h] at hr | rw [ifF h] at hr | rw [ifN h] at hr) <;> (try (have hb : (_ : Bool) = _ := h; clear h; subst hb; (try first | rw [if_pos rfl] at hr | rw [if_neg Bool.false_ne_true] at hr))) <;> first | (exfalso; omega) | exact absurd (h.symm.trans (by assumption) : true = false) Bool.noConfusion | exact absurd (h.symm.trans (by assumption) : false = true) Bool.noConfusion | (refine (?_ : T1 _ ?_) ?_; rotate_left 1; (conv => lhs; cbv; (try cbv); (try cbv)); intro hT; clear hT; refine Sh.mk (by kernel_rfl) ?_))
      | (with_reducible refine Alt.mk (fun h => ?_) (fun h => ?_) <;> (have hk := h) <;> (try simp only [decide_eq_true_eq, decide_eq_false_iff_not, Bool.not_eq_true', Bool.not_eq_false', Bool.not_eq_true, Bool.not_eq_false, Bool.not_true, Bool.not_false, ne_eq, Bool.false_eq_true, Bool.true_eq_false, reduceCtorEq, beq_iff_eq, beq_eq_false_iff_ne, not_true_eq_false, not_false_eq_true, pair_eta, map_idL] at h) <;> (try dsimp only [putSpec, readSpec, gapsSpec, endSpec, endF, offSpec, offF, ctgSpec, ctgF, heldSpec, heldF, newStoSpec, partsRSpec, geqSpec, Ty.T, Ty.dflt, KT.T, getM, putM, delM] at h) <;> (try simp only [natCast_eq] at h) <;> (try (have hm := who_ix hob hp hlo h; obtain ⟨⟨m0, m0b⟩, ⟨m1, m1b⟩, m2, m2b⟩ := hm)) <;> (try (have hq := whF (by omega) hd hg3 hlo h hcov; have q1 := hq.e; have q2 := hq.n; have q3 := hq.fr; have q4 := hq.len)) <;> (try (have hE := whE (hcv h) hg3; have z1 := hE.known; have z2 := hE.fin; have z3 := hE.held; have z4 := hE.gaps; have z5 := hE.nxt; have z6 := hE.rd; have z7 := hE.rd2; have z8 := hE.held2; have z9 := hE.off2; have z10 := hE.gaps2; have k0 := hE.ok; have k1 := hE.ok1; have k2 := hE.ok2; clear hE)) <;> (try simp only [z4, z6, z7, z10, List.length_nil] at h) <;> (try (exfalso; first | exact absurd rfl h | exact absurd z3 h | exact absurd z2 h | exact absurd z5 h | exact absurd z8 h | exact absurd z9 h | exact absurd (z1.symm.trans h) Bool.noConfusion | exact absurd h (Int.not_lt.2 q2.1))) <;> (try first | rw [if_pos h] at hr | rw [if_neg h] at hr | rw [ifF h] at hr | rw [ifN h] at hr) <;> (try (have hb : (_ : Bool) = _ := h; clear h; subst hb; (try first | rw [if_pos rfl] at hr | rw [if_neg Bool.false_ne_true] at hr))) <;> first | (exfalso; omega) | exact absurd (h.symm.trans (by assumption) : true = false) Bool.noConfusion | exact absurd (h.symm.trans (by assumption) : false = true) Bool.noConfusion | (refine (?_ : T1 _ ?_) ?_; rotate_left 1; (conv => lhs; cbv; (try cbv); (try cbv)); intro hT; clear hT; refine Sh.mk (by kernel_rfl) ?_))
      | (with_reducible refine Pick.mk (fun h => ?_) (fun l1 x l2 h => ?_) <;> (refine (?_ : T1 _ ?_) ?_; rotate_left 1; (conv => lhs; cbv; (try cbv); (try cbv)); intro hT; clear hT; refine Sh.mk (by kernel_rfl) ?_))
      | ((with_reducible refine End.mk ?_); skip)
      | with_reducible exact True.intro)
    all_goals first
      | (fail_if_success (with_reducible refine Exists.intro ?_ ?_)
         first
           | with_reducible rfl
           | with_reducible assumption
           | (dsimp only [putSpec, readSpec, gapsSpec, endSpec, endF, offSpec, offF, ctgSpec, ctgF, heldSpec, heldF, newStoSpec, partsRSpec, geqSpec, Ty.T, Ty.dflt, KT.T, getM, putM, delM, inI64, maxRow]; done)
           | (symm; with_reducible assumption)
           | (dsimp only [putSpec, readSpec, gapsSpec, endSpec, endF, offSpec, offF, ctgSpec, ctgF, heldSpec, heldF, newStoSpec, partsRSpec, geqSpec, Ty.T, Ty.dflt, KT.T, getM, putM, delM, inI64, maxRow]; first | with_reducible rfl | with_reducible assumption | (symm; with_reducible assumption) | (simp only [natCast_eq]; with_reducible rfl) | omega)
           | omega
           | (dsimp only [putSpec, readSpec, gapsSpec, endSpec, endF, offSpec, offF, ctgSpec, ctgF, heldSpec, heldF, newStoSpec, partsRSpec, geqSpec, Ty.T, Ty.dflt, KT.T, getM, putM, delM, inI64, maxRow]; (try simp only [natCast_eq, List.nil_append]); first | with_reducible rfl | exact take_cg (by omega) | exact drop_cg (by omega) | exact take_drop_cg (by omega) (by omega) | exact take_all (by omega) | exact take_drop_all (by omega) (by omega) | exact drop_take_cg (by omega) (by omega) (by omega))
           | (rw [hy1]; simp only [pair_eta, map_idL, List.map_cons, List.map_nil]; done)
           | ((try dsimp only [putSpec, readSpec, gapsSpec, endSpec, endF, offSpec, offF, ctgSpec, ctgF, heldSpec, heldF, newStoSpec, partsRSpec, geqSpec, Ty.T, Ty.dflt, KT.T, getM, putM, delM, inI64, maxRow]); simp only [decide_eq_true_eq, decide_eq_false_iff_not, Bool.not_eq_true', Bool.not_eq_false', Bool.not_eq_true, Bool.not_eq_false, Bool.not_true, Bool.not_false, ne_eq, Bool.false_eq_true, Bool.true_eq_false, reduceCtorEq, beq_iff_eq, beq_eq_false_iff_ne, not_true_eq_false, not_false_eq_true, pair_eta, map_idL, natCast_eq, inI64, maxRow]; first | done | with_reducible assumption | omega)
           | exact map_pair_id _
           | ((try dsimp only [putSpec, readSpec, gapsSpec, endSpec, endF, offSpec, offF, ctgSpec, ctgF, heldSpec, heldF, newStoSpec, partsRSpec, geqSpec, Ty.T, Ty.dflt, KT.T, getM, putM, delM, inI64, maxRow]) <;> (try simp only [natCast_eq]) <;> omega)
           | ((try dsimp only [putSpec, readSpec, gapsSpec, endSpec, endF, offSpec, offF, ctgSpec, ctgF, heldSpec, heldF, newStoSpec, partsRSpec, geqSpec, Ty.T, Ty.dflt, KT.T, getM, putM, delM, inI64, maxRow] at *) <;> (try simp only [natCast_eq] at *) <;> omega)
           | ((try dsimp only [putSpec, readSpec, gapsSpec, endSpec, endF, offSpec, offF, ctgSpec, ctgF, heldSpec, heldF, newStoSpec, partsRSpec, geqSpec, Ty.T, Ty.dflt, KT.T, getM, putM, delM, inI64, maxRow] at *) <;> (try simp only [List.length_append, List.length_cons, List.length_nil, List.length_replicate, List.length_take, List.length_drop, natCast_eq] at *) <;> omega)
           | assumption
           | (symm; assumption)
           | (dsimp only; simp only [Bool.or_true, Bool.true_or, Bool.or_false, Bool.false_or, Bool.and_true, Bool.true_and, Bool.and_false, Bool.false_and, Bool.not_true, Bool.not_false, *]; done)
           | (simp; done)
           | (and_intros <;> first | trivial | with_reducible assumption | omega)
           | ((try dsimp only [putSpec, readSpec, gapsSpec, endSpec, endF, offSpec, offF, ctgSpec, ctgF, heldSpec, heldF, newStoSpec, partsRSpec, geqSpec, Ty.T, Ty.dflt, KT.T, getM, putM, delM, inI64, maxRow] at *) <;> simp [*] <;> done))
      | skip
  have hG := hg.gd (by assumption) hhi (by omega)
  clear hg hgl hx0 hx1 x0
  obtain ⟨x0, hx0, hx1⟩ : ∃ x : LW2 d od.length, x.i = 0 ∧ x.L = L := ⟨⟨0, L, by omega, by omega, hG⟩, rfl, rfl⟩
  refine ⟨⟨LW2 d od.length, fun x => ⟨[(0, Sx.one (.ro (.int .u8) (fun _ => d))), (7, Sx.one (.ptr 0 0)), (9, Sx.one (.hd 1 0)), (79, Sx.one (.ro (.int .u8) (fun _ => od))), (80, Sx.one (.int .i64 (fun _ => od.length))), (81, Sx.one (.int .i64 (fun _ => x.i)))], [.abs (.sto (fun _ => newS (max d.length 1))), .row 31 segE 0 (fun _ => x.L)]⟩, fun x => (od.length - x.i).toNat, x0⟩, ?_, fun (x : LW2 d od.length) => ?_⟩
  · (try (conv in (LoopInv.inv _ _) => dsimp only)); (try (conv in (SS.mk _ _) => cbv; (try dsimp only [putSpec, readSpec, gapsSpec, endSpec, endF, offSpec, offF, ctgSpec, ctgF, heldSpec, heldF, newStoSpec, partsRSpec, geqSpec, Ty.T, Ty.dflt, KT.T]); (try simp only [natCast_eq])))
    (refine (?_ : T1 _ ?_) ?_; rotate_left 1; (conv => lhs; cbv; (try cbv); (try cbv)); intro hT; clear hT; refine Sh.mk (by kernel_rfl) ?_)
    repeat' (first
      | with_reducible refine Ck.mk (C := tt) tt_intro ?_
      | with_reducible refine Ck.mk (show drawOk _ _ = true by kernel_rfl) ?_
      | with_reducible refine Ck.all_cons ?_
      | with_reducible refine Ck.all_nil ?_
      | with_reducible refine Ck.mk (by assumption) ?_
      | with_reducible refine Ck.mk (decide_eq_true (by assumption)) ?_
      | with_reducible refine Ck.mk (decide_eq_false (by assumption)) ?_
      | with_reducible refine Ck.mk ?_ ?_
      | (with_reducible refine Both.mk (fun h => ?_) (fun h => ?_) <;> (have hk := h) <;> (try simp only [decide_eq_true_eq, decide_eq_false_iff_not, Bool.not_eq_true', Bool.not_eq_false', Bool.not_eq_true, Bool.not_eq_false, Bool.not_true, Bool.not_false, ne_eq, Bool.false_eq_true, Bool.true_eq_false, reduceCtorEq, beq_iff_eq, beq_eq_false_iff_ne, not_true_eq_false, not_false_eq_true, pair_eta, map_idL] at h) <;> (try dsimp only [putSpec, readSpec, gapsSpec, endSpec, endF, offSpec, offF, ctgSpec, ctgF, heldSpec, heldF, newStoSpec, partsRSpec, geqSpec, Ty.T, Ty.dflt, KT.T, getM, putM, delM] at h) <;> (try simp only [natCast_eq] at h) <;> (try (have hm := who_ix hob hp hlo h; obtain ⟨⟨m0, m0b⟩, ⟨m1, m1b⟩, m2, m2b⟩ := hm)) <;> (try (have hq := whF (by omega) hd hg3 hlo h hcov; have q1 := hq.e; have q2 := hq.n; have q3 := hq.fr; have q4 := hq.len)) <;> (try (have hE := whE (hcv h) hg3; have z1 := hE.known; have z2 := hE.fin; have z3 := hE.held; have z4 := hE.gaps; have z5 := hE.nxt; have z6 := hE.rd; have z7 := hE.rd2; have z8 := hE.held2; have z9 := hE.off2; have z10 := hE.gaps2; have k0 := hE.ok; have k1 := hE.ok1; have k2 := hE.ok2; clear hE)) <;> (try simp only [z4, z6, z7, z10, List.length_nil] at h) <;> (try (exfalso; first | exact absurd rfl h | exact absurd z3 h | exact absurd z2 h | exact absurd z5 h | exact absurd z8 h | exact absurd z9 h | exact absurd (z1.symm.trans h) Bool.noConfusion | exact absurd h (Int.not_lt.2 q2.1))) <;> (try first | rw [if_pos h] at hr | rw [if_neg h] at hr | rw [ifF h] at hr | rw [ifN h] at hr) <;> (try (have hb : (_ : Bool) = _ := h; clear h; subst hb; (try first | rw [if_pos rfl] at hr | rw [if_neg Bool.false_ne_true] at hr))) <;> first | (exfalso; omega) | exact absurd (h.symm.trans (by assumption) : true = false) Bool.noConfusion | exact absurd (h.symm.trans (by assumption) : false = true) Bool.noConfusion | (refine (?_ : T1 _ ?_) ?_; rotate_left 1; (conv => lhs; cbv; (try cbv); (try cbv)); intro hT; clear hT; refine Sh.mk (by kernel_rfl) ?_))
      | (with_reducible refine Alt.mk (fun h => ?_) (fun h => ?_) <;> (have hk := h) <;> (try simp only [decide_eq_true_eq, decide_eq_false_iff_not, Bool.not_eq_true', Bool.not_eq_false', Bool.not_eq_true, Bool.not_eq_false, Bool.not_true, Bool.not_false, ne_eq, Bool.false_eq_true, Bool.true_eq_false, reduceCtorEq, beq_iff_eq, beq_eq_false_iff_ne, not_true_eq_false, not_false_eq_true, pair_eta, map_idL] at h) <;> (try dsimp only [putSpec, readSpec, gapsSpec, endSpec, endF, offSpec, offF, ctgSpec, ctgF, heldSpec, heldF, newStoSpec, partsRSpec, geqSpec, Ty.T, Ty.dflt, KT.T, getM, putM, delM] at h) <;> (try simp only [natCast_eq] at h) <;> (try (have hm := who_ix hob hp hlo h; obtain ⟨⟨m0, m0b⟩, ⟨m1, m1b⟩, m2, m2b⟩ := hm)) <;> (try (have hq := whF (by omega) hd hg3 hlo h hcov; have q1 := hq.e; have q2 := hq.n; have q3 := hq.fr; have q4 := hq.len)) <;> (try (have hE := whE (hcv h) hg3; have z1 := hE.known; have z2 := hE.fin; have z3 := hE.held; have z4 := hE.gaps; have z5 := hE.nxt; have z6 := hE.rd; have z7 := hE.rd2; have z8 := hE.held2; have z9 := hE.off2; have z10 := hE.gaps2; have k0 := hE.ok; have k1 := hE.ok1; have k2 := hE.ok2; clear hE)) <;> (try simp only [z4, z6, z7, z10, List.length_nil] at h) <;> (try (exfalso; first | exact absurd rfl h | exact absurd z3 h | exact absurd z2 h | exact absurd z5 h | exact absurd z8 h | exact absurd z9 h | exact absurd (z1.symm.trans h) Bool.noConfusion | exact absurd h (Int.not_lt.2 q2.1))) <;> (try first | rw [if_pos h] at hr | rw [if_neg h] at hr | rw [ifF h] at hr | rw [ifN h] at hr) <;> (try (have hb : (_ : Bool) = _ := h; clear h; subst hb; (try first | rw [if_pos rfl] at hr | rw [if_neg Bool.false_ne_true] at hr))) <;> first | (exfalso; omega) | exact absurd (h.symm.trans (by assumption) : true = false) Bool.noConfusion | exact absurd (h.symm.trans (by assumption) : false = true) Bool.noConfusion | (refine (?_ : T1 _ ?_) ?_; rotate_left 1; (conv => lhs; cbv; (try cbv); (try cbv)); intro hT; clear hT; refine Sh.mk (by kernel_rfl) ?_))
      | (with_reducible refine Pick.mk (fun h => ?_) (fun l1 x l2 h => ?_) <;> (refine (?_ : T1 _ ?_) ?_; rotate_left 1; (conv => lhs; cbv; (try cbv); (try cbv)); intro hT; clear hT; refine Sh.mk (by kernel_rfl) ?_))
      | ((with_reducible refine End.mk ?_); skip)
      | with_reducible exact True.intro)
    all_goals first
      | (fail_if_success (with_reducible refine Exists.intro ?_ ?_)
         first
           | with_reducible rfl
           | with_reducible assumption
           | (dsimp only [putSpec, readSpec, gapsSpec, endSpec, endF, offSpec, offF, ctgSpec, ctgF, heldSpec, heldF, newStoSpec, partsRSpec, geqSpec, Ty.T, Ty.dflt, KT.T, getM, putM, delM, inI64, maxRow]; done)
           | (symm; with_reducible assumption)
           | (dsimp only [putSpec, readSpec, gapsSpec, endSpec, endF, offSpec, offF, ctgSpec, ctgF, heldSpec, heldF, newStoSpec, partsRSpec, geqSpec, Ty.T, Ty.dflt, KT.T, getM, putM, delM, inI64, maxRow]; first | with_reducible rfl | with_reducible assumption | (symm; with_reducible assumption) | (simp only [natCast_eq]; with_reducible rfl) | omega)
           | omega
           | (dsimp only [putSpec, readSpec, gapsSpec, endSpec, endF, offSpec, offF, ctgSpec, ctgF, heldSpec, heldF, newStoSpec, partsRSpec, geqSpec, Ty.T, Ty.dflt, KT.T, getM, putM, delM, inI64, maxRow]; (try simp only [natCast_eq, List.nil_append]); first | with_reducible rfl | exact take_cg (by omega) | exact drop_cg (by omega) | exact take_drop_cg (by omega) (by omega) | exact take_all (by omega) | exact take_drop_all (by omega) (by omega) | exact drop_take_cg (by omega) (by omega) (by omega))
           | first | (rw [hx1]; simp only [pair_eta, map_idL]; done)
           | ((try dsimp only [putSpec, readSpec, gapsSpec, endSpec, endF, offSpec, offF, ctgSpec, ctgF, heldSpec, heldF, newStoSpec, partsRSpec, geqSpec, Ty.T, Ty.dflt, KT.T, getM, putM, delM, inI64, maxRow]); simp only [decide_eq_true_eq, decide_eq_false_iff_not, Bool.not_eq_true', Bool.not_eq_false', Bool.not_eq_true, Bool.not_eq_false, Bool.not_true, Bool.not_false, ne_eq, Bool.false_eq_true, Bool.true_eq_false, reduceCtorEq, beq_iff_eq, beq_eq_false_iff_ne, not_true_eq_false, not_false_eq_true, pair_eta, map_idL, natCast_eq, inI64, maxRow]; first | done | with_reducible assumption | omega)
           | exact map_pair_id _
           | ((try dsimp only [putSpec, readSpec, gapsSpec, endSpec, endF, offSpec, offF, ctgSpec, ctgF, heldSpec, heldF, newStoSpec, partsRSpec, geqSpec, Ty.T, Ty.dflt, KT.T, getM, putM, delM, inI64, maxRow]) <;> (try simp only [natCast_eq]) <;> omega)
           | ((try dsimp only [putSpec, readSpec, gapsSpec, endSpec, endF, offSpec, offF, ctgSpec, ctgF, heldSpec, heldF, newStoSpec, partsRSpec, geqSpec, Ty.T, Ty.dflt, KT.T, getM, putM, delM, inI64, maxRow] at *) <;> (try simp only [natCast_eq] at *) <;> omega)
           | ((try dsimp only [putSpec, readSpec, gapsSpec, endSpec, endF, offSpec, offF, ctgSpec, ctgF, heldSpec, heldF, newStoSpec, partsRSpec, geqSpec, Ty.T, Ty.dflt, KT.T, getM, putM, delM, inI64, maxRow] at *) <;> (try simp only [List.length_append, List.length_cons, List.length_nil, List.length_replicate, List.length_take, List.length_drop, natCast_eq] at *) <;> omega)
           | assumption
           | (symm; assumption)
           | (dsimp only; simp only [Bool.or_true, Bool.true_or, Bool.or_false, Bool.false_or, Bool.and_true, Bool.true_and, Bool.and_false, Bool.false_and, Bool.not_true, Bool.not_false, *]; done)
           | (simp; done)
           | (and_intros <;> first | trivial | with_reducible assumption | omega)
           | ((try dsimp only [putSpec, readSpec, gapsSpec, endSpec, endF, offSpec, offF, ctgSpec, ctgF, heldSpec, heldF, newStoSpec, partsRSpec, geqSpec, Ty.T, Ty.dflt, KT.T, getM, putM, delM, inI64, maxRow] at *) <;> simp [*] <;> done))
      | skip
  clear hG hhi hlo
  obtain ⟨i, M, hlo, hhi, hg⟩ := x
  have hp := hg.pos
  have hpl := hg.len
  (try (conv in (LoopInv.inv _ _) => dsimp only)); (try (conv in (SS.mk _ _) => cbv; (try dsimp only [putSpec, readSpec, gapsSpec, endSpec, endF, offSpec, offF, ctgSpec, ctgF, heldSpec, heldF, newStoSpec, partsRSpec, geqSpec, Ty.T, Ty.dflt, KT.T]); (try simp only [natCast_eq])))
  (refine (?_ : T1 _ ?_) ?_; rotate_left 1; (conv => lhs; cbv; (try cbv); (try cbv)); intro hT; clear hT; refine Sh.mk (by kernel_rfl) ?_)
  repeat' (first
    | with_reducible refine Ck.mk (C := tt) tt_intro ?_
    | with_reducible refine Ck.mk (show drawOk _ _ = true by kernel_rfl) ?_
    | with_reducible refine Ck.all_cons ?_
    | with_reducible refine Ck.all_nil ?_
    | with_reducible refine Ck.mk (by assumption) ?_
    | with_reducible refine Ck.mk (decide_eq_true (by assumption)) ?_
    | with_reducible refine Ck.mk (decide_eq_false (by assumption)) ?_
    | with_reducible refine Ck.mk ?_ ?_
    | (with_reducible refine Both.mk (fun h => ?_) (fun h => ?_) <;> (have hk := h) <;> (try simp only [decide_eq_true_eq, decide_eq_false_iff_not, Bool.not_eq_true', Bool.not_eq_false', Bool.not_eq_true, Bool.not_eq_false, Bool.not_true, Bool.not_false, ne_eq, Bool.false_eq_true, Bool.true_eq_false, reduceCtorEq, beq_iff_eq, beq_eq_false_iff_ne, not_true_eq_false, not_false_eq_true, pair_eta, map_idL] at h) <;> (try dsimp only [putSpec, readSpec, gapsSpec, endSpec, endF, offSpec, offF, ctgSpec, ctgF, heldSpec, heldF, newStoSpec, partsRSpec, geqSpec, Ty.T, Ty.dflt, KT.T, getM, putM, delM] at h) <;> (try simp only [natCast_eq] at h) <;> (try (have hm := who_ix hob hp hlo h; obtain ⟨⟨m0, m0b⟩, ⟨m1, m1b⟩, m2, m2b⟩ := hm)) <;> (try (have hq := whF (by omega) hd hg3 hlo h hcov; have q1 := hq.e; have q2 := hq.n; have q3 := hq.fr; have q4 := hq.len)) <;> (try (have hE := whE (hcv h) hg3; have z1 := hE.known; have z2 := hE.fin; have z3 := hE.held; have z4 := hE.gaps; have z5 := hE.nxt; have z6 := hE.rd; have z7 := hE.rd2; have z8 := hE.held2; have z9 := hE.off2; have z10 := hE.gaps2; have k0 := hE.ok; have k1 := hE.ok1; have k2 := hE.ok2; clear hE)) <;> (try simp only [z4, z6, z7, z10, List.length_nil] at h) <;> (try (exfalso; first | exact absurd rfl h | exact absurd z3 h | exact absurd z2 h | exact absurd z5 h | exact absurd z8 h | exact absurd z9 h | exact absurd (z1.symm.trans h) Bool.noConfusion | exact absurd h (Int.not_lt.2 q2.1))) <;> (try first | rw [if_pos h] at hr | rw [if_neg h] at hr | rw [ifF h] at hr | rw [ifN h] at hr) <;> (try (have hb : (_ : Bool) = _ := h; clear h; subst hb; (try first | rw [if_pos rfl] at hr | rw [if_neg Bool.false_ne_true] at hr))) <;> first | (exfalso; omega) | exact absurd (h.symm.trans (by assumption) : true = false) Bool.noConfusion | exact absurd (h.symm.trans (by assumption) : false = true) Bool.noConfusion | (refine (?_ : T1 _ ?_) ?_; rotate_left 1; (conv => lhs; cbv; (try cbv); (try cbv)); intro hT; clear hT; refine Sh.mk (by kernel_rfl) ?_))
    | (with_reducible refine Alt.mk (fun h => ?_) (fun h => ?_) <;> (have hk := h) <;> (try simp only [decide_eq_true_eq, decide_eq_false_iff_not, Bool.not_eq_true', Bool.not_eq_false', Bool.not_eq_true, Bool.not_eq_false, Bool.not_true, Bool.not_false, ne_eq, Bool.false_eq_true, Bool.true_eq_false, reduceCtorEq, beq_iff_eq, beq_eq_false_iff_ne, not_true_eq_false, not_false_eq_true, pair_eta, map_idL] at h) <;> (try dsimp only [putSpec, readSpec, gapsSpec, endSpec, endF, offSpec, offF, ctgSpec, ctgF, heldSpec, heldF, newStoSpec, partsRSpec, geqSpec, Ty.T, Ty.dflt, KT.T, getM, putM, delM] at h) <;> (try simp only [natCast_eq] at h) <;> (try (have hm := who_ix hob hp hlo h; obtain ⟨⟨m0, m0b⟩, ⟨m1, m1b⟩, m2, m2b⟩ := hm)) <;> (try (have hq := whF (by omega) hd hg3 hlo h hcov; have q1 := hq.e; have q2 := hq.n; have q3 := hq.fr; have q4 := hq.len)) <;> (try (have hE := whE (hcv h) hg3; have z1 := hE.known; have z2 := hE.fin; have z3 := hE.held; have z4 := hE.gaps; have z5 := hE.nxt; have z6 := hE.rd; have z7 := hE.rd2; have z8 := hE.held2; have z9 := hE.off2; have z10 := hE.gaps2; have k0 := hE.ok; have k1 := hE.ok1; have k2 := hE.ok2; clear hE)) <;> (try simp only [z4, z6, z7, z10, List.length_nil] at h) <;> (try (exfalso; first | exact absurd rfl h | exact absurd z3 h | exact absurd z2 h | exact absurd z5 h | exact absurd z8 h | exact absurd z9 h | exact absurd (z1.symm.trans h) Bool.noConfusion | exact absurd h (Int.not_lt.2 q2.1))) <;> (try first | rw [if_pos h] at hr | rw [if_neg h] at hr | rw [ifF h] at hr | rw [ifN h] at hr) <;> (try (have hb : (_ : Bool) = _ := h; clear h; subst hb; (try first | rw [if_pos rfl] at hr | rw [if_neg Bool.false_ne_true] at hr))) <;> first | (exfalso; omega) | exact absurd (h.symm.trans (by assumption) : true = false) Bool.noConfusion | exact absurd (h.symm.trans (by assumption) : false = true) Bool.noConfusion | (refine (?_ : T1 _ ?_) ?_; rotate_left 1; (conv => lhs; cbv; (try cbv); (try cbv)); intro hT; clear hT; refine Sh.mk (by kernel_rfl) ?_))
    | (with_reducible refine Pick.mk (fun h => ?_) (fun l1 x l2 h => ?_) <;> (refine (?_ : T1 _ ?_) ?_; rotate_left 1; (conv => lhs; cbv; (try cbv); (try cbv)); intro hT; clear hT; refine Sh.mk (by kernel_rfl) ?_))
    | ((with_reducible refine End.mk ?_); (try ((repeat (first | rw [if_pos (by first | assumption | omega)] at hr | rw [if_neg (by first | assumption | omega | (simp only [Bool.false_eq_true, Bool.true_eq_false, reduceCtorEq, not_false_eq_true]; done) | (simp only [Bool.not_eq_true]; assumption) | (simp only [Bool.not_eq_false]; assumption))] at hr | rw [if_pos rfl] at hr)); subst hr)))
    | with_reducible exact True.intro)
  all_goals first
    | (fail_if_success (with_reducible refine Exists.intro ?_ ?_)
       first
         | with_reducible rfl
         | with_reducible assumption
         | (dsimp only [putSpec, readSpec, gapsSpec, endSpec, endF, offSpec, offF, ctgSpec, ctgF, heldSpec, heldF, newStoSpec, partsRSpec, geqSpec, Ty.T, Ty.dflt, KT.T, getM, putM, delM, inI64, maxRow]; done)
         | (symm; with_reducible assumption)
         | (dsimp only [putSpec, readSpec, gapsSpec, endSpec, endF, offSpec, offF, ctgSpec, ctgF, heldSpec, heldF, newStoSpec, partsRSpec, geqSpec, Ty.T, Ty.dflt, KT.T, getM, putM, delM, inI64, maxRow]; first | with_reducible rfl | with_reducible assumption | (symm; with_reducible assumption) | (simp only [natCast_eq]; with_reducible rfl) | omega)
         | omega
         | (dsimp only [putSpec, readSpec, gapsSpec, endSpec, endF, offSpec, offF, ctgSpec, ctgF, heldSpec, heldF, newStoSpec, partsRSpec, geqSpec, Ty.T, Ty.dflt, KT.T, getM, putM, delM, inI64, maxRow]; (try simp only [natCast_eq, List.nil_append]); first | with_reducible rfl | exact take_cg (by omega) | exact drop_cg (by omega) | exact take_drop_cg (by omega) (by omega) | exact take_all (by omega) | exact take_drop_all (by omega) (by omega) | exact drop_take_cg (by omega) (by omega) (by omega))
         | first | exact ⟨m1, m1b⟩ | exact ⟨m2, m2b⟩ | (refine ⟨m2, ?_⟩; dsimp only [Ty.T, Ty.dflt]; rw [List.length_set]; exact m2b) | (dsimp only [Ty.T, Ty.dflt]; simp only [inI64, natCast_eq]; omega)
         | ((try dsimp only [putSpec, readSpec, gapsSpec, endSpec, endF, offSpec, offF, ctgSpec, ctgF, heldSpec, heldF, newStoSpec, partsRSpec, geqSpec, Ty.T, Ty.dflt, KT.T, getM, putM, delM, inI64, maxRow]); simp only [decide_eq_true_eq, decide_eq_false_iff_not, Bool.not_eq_true', Bool.not_eq_false', Bool.not_eq_true, Bool.not_eq_false, Bool.not_true, Bool.not_false, ne_eq, Bool.false_eq_true, Bool.true_eq_false, reduceCtorEq, beq_iff_eq, beq_eq_false_iff_ne, not_true_eq_false, not_false_eq_true, pair_eta, map_idL, natCast_eq, inI64, maxRow]; first | done | with_reducible assumption | omega)
         | exact map_pair_id _
         | ((try dsimp only [putSpec, readSpec, gapsSpec, endSpec, endF, offSpec, offF, ctgSpec, ctgF, heldSpec, heldF, newStoSpec, partsRSpec, geqSpec, Ty.T, Ty.dflt, KT.T, getM, putM, delM, inI64, maxRow]) <;> (try simp only [natCast_eq]) <;> omega)
         | ((try dsimp only [putSpec, readSpec, gapsSpec, endSpec, endF, offSpec, offF, ctgSpec, ctgF, heldSpec, heldF, newStoSpec, partsRSpec, geqSpec, Ty.T, Ty.dflt, KT.T, getM, putM, delM, inI64, maxRow] at *) <;> (try simp only [natCast_eq] at *) <;> omega)
         | ((try dsimp only [putSpec, readSpec, gapsSpec, endSpec, endF, offSpec, offF, ctgSpec, ctgF, heldSpec, heldF, newStoSpec, partsRSpec, geqSpec, Ty.T, Ty.dflt, KT.T, getM, putM, delM, inI64, maxRow] at *) <;> (try simp only [List.length_append, List.length_cons, List.length_nil, List.length_replicate, List.length_take, List.length_drop, natCast_eq] at *) <;> omega)
         | assumption
         | (symm; assumption)
         | (dsimp only; simp only [Bool.or_true, Bool.true_or, Bool.or_false, Bool.false_or, Bool.and_true, Bool.true_and, Bool.and_false, Bool.false_and, Bool.not_true, Bool.not_false, *]; done)
         | (simp; done)
         | (and_intros <;> first | trivial | with_reducible assumption | omega)
         | ((try dsimp only [putSpec, readSpec, gapsSpec, endSpec, endF, offSpec, offF, ctgSpec, ctgF, heldSpec, heldF, newStoSpec, partsRSpec, geqSpec, Ty.T, Ty.dflt, KT.T, getM, putM, delM, inI64, maxRow] at *) <;> simp [*] <;> done))
    | skip
  · obtain ⟨y, hy0, hy1⟩ : ∃ y : LW2 d od.length, y.i = i + 1 ∧ y.L = (M.set (i % (M.length : Int)).toNat (M.getD (od.getD i.toNat 0 % (M.length : Int)).toNat (0, [], false))).set (od.getD i.toNat 0 % (M.length : Int)).toNat (M.getD (i % (M.length : Int)).toNat (0, [], false)) := ⟨⟨i + 1, _, by omega, by omega, hg.swap (by omega) (by omega)⟩, rfl, rfl⟩
    refine ⟨y, by dsimp only; (try simp only [natCast_eq]); omega, ?_⟩
    (try (conv in (LoopInv.inv _ _) => dsimp only)); (try (conv in (SS.mk _ _) => cbv; (try dsimp only [putSpec, readSpec, gapsSpec, endSpec, endF, offSpec, offF, ctgSpec, ctgF, heldSpec, heldF, newStoSpec, partsRSpec, geqSpec, Ty.T, Ty.dflt, KT.T]); (try simp only [natCast_eq])))
    (refine (?_ : T1 _ ?_) ?_; rotate_left 1; (conv => lhs; cbv; (try cbv); (try cbv)); intro hT; clear hT; refine Sh.mk (by kernel_rfl) ?_)
    repeat' (first
      | with_reducible refine Ck.mk (C := tt) tt_intro ?_
      | with_reducible refine Ck.mk (show drawOk _ _ = true by kernel_rfl) ?_
      | with_reducible refine Ck.all_cons ?_
      | with_reducible refine Ck.all_nil ?_
      | with_reducible refine Ck.mk (by assumption) ?_
      | with_reducible refine Ck.mk (decide_eq_true (by assumption)) ?_
      | with_reducible refine Ck.mk (decide_eq_false (by assumption)) ?_
      | with_reducible refine Ck.mk ?_ ?_
      | (with_reducible refine Both.mk (fun h => ?_) (fun h => ?_) <;> (have hk := h) <;> (try simp only [decide_eq_true_eq, decide_eq_false_iff_not, Bool.not_eq_true', Bool.not_eq_false', Bool.not_eq_true, Bool.not_eq_false, Bool.not_true, Bool.not_false, ne_eq, Bool.false_eq_true, Bool.true_eq_false, reduceCtorEq, beq_iff_eq, beq_eq_false_iff_ne, not_true_eq_false, not_false_eq_true, pair_eta, map_idL] at h) <;> (try dsimp only [putSpec, readSpec, gapsSpec, endSpec, endF, offSpec, offF, ctgSpec, ctgF, heldSpec, heldF, newStoSpec, partsRSpec, geqSpec, Ty.T, Ty.dflt, KT.T, getM, putM, delM] at h) <;> (try simp only [natCast_eq] at h) <;> (try (have hm := who_ix hob hp hlo h; obtain ⟨⟨m0, m0b⟩, ⟨m1, m1b⟩, m2, m2b⟩ := hm)) <;> (try (have hq := whF (by omega) hd hg3 hlo h hcov; have q1 := hq.e; have q2 := hq.n; have q3 := hq.fr; have q4 := hq.len)) <;> (try (have hE := whE (hcv h) hg3; have z1 := hE.known; have z2 := hE.fin; have z3 := hE.held; have z4 := hE.gaps; have z5 := hE.nxt; have z6 := hE.rd; have z7 := hE.rd2; have z8 := hE.held2; have z9 := hE.off2; have z10 := hE.gaps2; have k0 := hE.ok; have k1 := hE.ok1; have k2 := hE.ok2; clear hE)) <;> (try simp only [z4, z6, z7, z10, List.length_nil] at h) <;> (try (exfalso; first | exact absurd rfl h | exact absurd z3 h | exact absurd z2 h | exact absurd z5 h | exact absurd z8 h | exact absurd z9 h | exact absurd (z1.symm.trans h) Bool.noConfusion | exact absurd h (Int.not_lt.2 q2.1))) <;> (try first | rw [if_pos h] at hr | rw [if_neg h] at hr | rw [ifF h] at hr | rw [ifN h] at hr) <;> (try (have hb : (_ : Bool) = _ := h; clear h; subst hb; (try first | rw [if_pos rfl] at hr | rw [if_neg Bool.false_ne_true] at hr))) <;> first | (exfalso; omega) | exact absurd (h.symm.trans (by assumption) : true = false) Bool.noConfusion | exact absurd (h.symm.trans (by assumption) : false = true) Bool.noConfusion | (refine (?_ : T1 _ ?_) ?_; rotate_left 1; (conv => lhs; cbv; (try cbv); (try cbv)); intro hT; clear hT; refine Sh.mk (by kernel_rfl) ?_))
      | (with_reducible refine Alt.mk (fun h => ?_) (fun h => ?_) <;> (have hk := h) <;> (try simp only [decide_eq_true_eq, decide_eq_false_iff_not, Bool.not_eq_true', Bool.not_eq_false', Bool.not_eq_true, Bool.not_eq_false, Bool.not_true, Bool.not_false, ne_eq, Bool.false_eq_true, Bool.true_eq_false, reduceCtorEq, beq_iff_eq, beq_eq_false_iff_ne, not_true_eq_false, not_false_eq_true, pair_eta, map_idL] at h) <;> (try dsimp only [putSpec, readSpec, gapsSpec, endSpec, endF, offSpec, offF, ctgSpec, ctgF, heldSpec, heldF, newStoSpec, partsRSpec, geqSpec, Ty.T, Ty.dflt, KT.T, getM, putM, delM] at h) <;> (try simp only [natCast_eq] at h) <;> (try (have hm := who_ix hob hp hlo h; obtain ⟨⟨m0, m0b⟩, ⟨m1, m1b⟩, m2, m2b⟩ := hm)) <;> (try (have hq := whF (by omega) hd hg3 hlo h hcov; have q1 := hq.e; have q2 := hq.n; have q3 := hq.fr; have q4 := hq.len)) <;> (try (have hE := whE (hcv h) hg3; have z1 := hE.known; have z2 := hE.fin; have z3 := hE.held; have z4 := hE.gaps; have z5 := hE.nxt; have z6 := hE.rd; have z7 := hE.rd2; have z8 := hE.held2; have z9 := hE.off2; have z10 := hE.gaps2; have k0 := hE.ok; have k1 := hE.ok1; have k2 := hE.ok2; clear hE)) <;> (try simp only [z4, z6, z7, z10, List.length_nil] at h) <;> (try (exfalso; first | exact absurd rfl h | exact absurd z3 h | exact absurd z2 h | exact absurd z5 h | exact absurd z8 h | exact absurd z9 h | exact absurd (z1.symm.trans h) Bool.noConfusion | exact absurd h (Int.not_lt.2 q2.1))) <;> (try first | rw [if_pos h] at hr | rw [if_neg h] at hr | rw [ifF h] at hr | rw [ifN h] at hr) <;> (try (have hb : (_ : Bool) = _ := h; clear h; subst hb; (try first | rw [if_pos rfl] at hr | rw [if_neg Bool.false_ne_true] at hr))) <;> first | (exfalso; omega) | exact absurd (h.symm.trans (by assumption) : true = false) Bool.noConfusion | exact absurd (h.symm.trans (by assumption) : false = true) Bool.noConfusion | (refine (?_ : T1 _ ?_) ?_; rotate_left 1; (conv => lhs; cbv; (try cbv); (try cbv)); intro hT; clear hT; refine Sh.mk (by kernel_rfl) ?_))
      | (with_reducible refine Pick.mk (fun h => ?_) (fun l1 x l2 h => ?_) <;> (refine (?_ : T1 _ ?_) ?_; rotate_left 1; (conv => lhs; cbv; (try cbv); (try cbv)); intro hT; clear hT; refine Sh.mk (by kernel_rfl) ?_))
      | ((with_reducible refine End.mk ?_); skip)
      | with_reducible exact True.intro)
    all_goals first
      | (fail_if_success (with_reducible refine Exists.intro ?_ ?_)
         first
           | with_reducible rfl
           | with_reducible assumption
           | (dsimp only [putSpec, readSpec, gapsSpec, endSpec, endF, offSpec, offF, ctgSpec, ctgF, heldSpec, heldF, newStoSpec, partsRSpec, geqSpec, Ty.T, Ty.dflt, KT.T, getM, putM, delM, inI64, maxRow]; done)
           | (symm; with_reducible assumption)
           | (dsimp only [putSpec, readSpec, gapsSpec, endSpec, endF, offSpec, offF, ctgSpec, ctgF, heldSpec, heldF, newStoSpec, partsRSpec, geqSpec, Ty.T, Ty.dflt, KT.T, getM, putM, delM, inI64, maxRow]; first | with_reducible rfl | with_reducible assumption | (symm; with_reducible assumption) | (simp only [natCast_eq]; with_reducible rfl) | omega)
           | omega
           | (dsimp only [putSpec, readSpec, gapsSpec, endSpec, endF, offSpec, offF, ctgSpec, ctgF, heldSpec, heldF, newStoSpec, partsRSpec, geqSpec, Ty.T, Ty.dflt, KT.T, getM, putM, delM, inI64, maxRow]; (try simp only [natCast_eq, List.nil_append]); first | with_reducible rfl | exact take_cg (by omega) | exact drop_cg (by omega) | exact take_drop_cg (by omega) (by omega) | exact take_all (by omega) | exact take_drop_all (by omega) (by omega) | exact drop_take_cg (by omega) (by omega) (by omega))
           | (rw [hy1]; simp only [pair_eta, map_idL]; done)
           | ((try dsimp only [putSpec, readSpec, gapsSpec, endSpec, endF, offSpec, offF, ctgSpec, ctgF, heldSpec, heldF, newStoSpec, partsRSpec, geqSpec, Ty.T, Ty.dflt, KT.T, getM, putM, delM, inI64, maxRow]); simp only [decide_eq_true_eq, decide_eq_false_iff_not, Bool.not_eq_true', Bool.not_eq_false', Bool.not_eq_true, Bool.not_eq_false, Bool.not_true, Bool.not_false, ne_eq, Bool.false_eq_true, Bool.true_eq_false, reduceCtorEq, beq_iff_eq, beq_eq_false_iff_ne, not_true_eq_false, not_false_eq_true, pair_eta, map_idL, natCast_eq, inI64, maxRow]; first | done | with_reducible assumption | omega)
           | exact map_pair_id _
           | ((try dsimp only [putSpec, readSpec, gapsSpec, endSpec, endF, offSpec, offF, ctgSpec, ctgF, heldSpec, heldF, newStoSpec, partsRSpec, geqSpec, Ty.T, Ty.dflt, KT.T, getM, putM, delM, inI64, maxRow]) <;> (try simp only [natCast_eq]) <;> omega)
           | ((try dsimp only [putSpec, readSpec, gapsSpec, endSpec, endF, offSpec, offF, ctgSpec, ctgF, heldSpec, heldF, newStoSpec, partsRSpec, geqSpec, Ty.T, Ty.dflt, KT.T, getM, putM, delM, inI64, maxRow] at *) <;> (try simp only [natCast_eq] at *) <;> omega)
           | ((try dsimp only [putSpec, readSpec, gapsSpec, endSpec, endF, offSpec, offF, ctgSpec, ctgF, heldSpec, heldF, newStoSpec, partsRSpec, geqSpec, Ty.T, Ty.dflt, KT.T, getM, putM, delM, inI64, maxRow] at *) <;> (try simp only [List.length_append, List.length_cons, List.length_nil, List.length_replicate, List.length_take, List.length_drop, natCast_eq] at *) <;> omega)
           | assumption
           | (symm; assumption)
           | (dsimp only; simp only [Bool.or_true, Bool.true_or, Bool.or_false, Bool.false_or, Bool.and_true, Bool.true_and, Bool.and_false, Bool.false_and, Bool.not_true, Bool.not_false, *]; done)
           | (simp; done)
           | (and_intros <;> first | trivial | with_reducible assumption | omega)
           | ((try dsimp only [putSpec, readSpec, gapsSpec, endSpec, endF, offSpec, offF, ctgSpec, ctgF, heldSpec, heldF, newStoSpec, partsRSpec, geqSpec, Ty.T, Ty.dflt, KT.T, getM, putM, delM, inI64, maxRow] at *) <;> simp [*] <;> done))
      | skip
  clear hx0 hx1 x0
  have hg3 := hg
  clear hg hlo hhi
  obtain ⟨x0, hx0, hx1⟩ : ∃ x : LW3 d M, x.i = 0 ∧ x.S = newS (max d.length 1) := ⟨⟨0, newS (max d.length 1), by omega, by omega, cov_new (by omega) (by omega)⟩, rfl, rfl⟩
  refine ⟨⟨LW3 d M, fun x => ⟨[(0, Sx.one (.ro (.int .u8) (fun _ => d))), (7, Sx.one (.ptr 0 0)), (16, Sx.one (.int .i64 (fun _ => x.S.kept.length))), (110, Sx.one (.hd 1 0)), (111, Sx.one (.int .i64 (fun _ => M.length))), (112, Sx.one (.int .i64 (fun _ => x.i)))], [.abs (.sto (fun _ => x.S)), .row 31 segE 0 (fun _ => M)]⟩, fun x => (M.length - x.i).toNat, x0⟩, ?_, fun (x : LW3 d M) => ?_⟩
  · (try (conv in (LoopInv.inv _ _) => dsimp only)); (try (conv in (SS.mk _ _) => cbv; (try dsimp only [putSpec, readSpec, gapsSpec, endSpec, endF, offSpec, offF, ctgSpec, ctgF, heldSpec, heldF, newStoSpec, partsRSpec, geqSpec, Ty.T, Ty.dflt, KT.T]); (try simp only [natCast_eq])))
    (refine (?_ : T1 _ ?_) ?_; rotate_left 1; (conv => lhs; cbv; (try cbv); (try cbv)); intro hT; clear hT; refine Sh.mk (by kernel_rfl) ?_)
    repeat' (first
      | with_reducible refine Ck.mk (C := tt) tt_intro ?_
      | with_reducible refine Ck.mk (show drawOk _ _ = true by kernel_rfl) ?_
      | with_reducible refine Ck.all_cons ?_
      | with_reducible refine Ck.all_nil ?_
      | with_reducible refine Ck.mk (by assumption) ?_
      | with_reducible refine Ck.mk (decide_eq_true (by assumption)) ?_
      | with_reducible refine Ck.mk (decide_eq_false (by assumption)) ?_
      | with_reducible refine Ck.mk ?_ ?_
      | (with_reducible refine Both.mk (fun h => ?_) (fun h => ?_) <;> (have hk := h) <;> (try simp only [decide_eq_true_eq, decide_eq_false_iff_not, Bool.not_eq_true', Bool.not_eq_false', Bool.not_eq_true, Bool.not_eq_false, Bool.not_true, Bool.not_false, ne_eq, Bool.false_eq_true, Bool.true_eq_false, reduceCtorEq, beq_iff_eq, beq_eq_false_iff_ne, not_true_eq_false, not_false_eq_true, pair_eta, map_idL] at h) <;> (try dsimp only [putSpec, readSpec, gapsSpec, endSpec, endF, offSpec, offF, ctgSpec, ctgF, heldSpec, heldF, newStoSpec, partsRSpec, geqSpec, Ty.T, Ty.dflt, KT.T, getM, putM, delM] at h) <;> (try simp only [natCast_eq] at h) <;> (try (have hm := who_ix hob hp hlo h; obtain ⟨⟨m0, m0b⟩, ⟨m1, m1b⟩, m2, m2b⟩ := hm)) <;> (try (have hq := whF (by omega) hd hg3 hlo h hcov; have q1 := hq.e; have q2 := hq.n; have q3 := hq.fr; have q4 := hq.len)) <;> (try (have hE := whE (hcv h) hg3; have z1 := hE.known; have z2 := hE.fin; have z3 := hE.held; have z4 := hE.gaps; have z5 := hE.nxt; have z6 := hE.rd; have z7 := hE.rd2; have z8 := hE.held2; have z9 := hE.off2; have z10 := hE.gaps2; have k0 := hE.ok; have k1 := hE.ok1; have k2 := hE.ok2; clear hE)) <;> (try simp only [z4, z6, z7, z10, List.length_nil] at h) <;> (try (exfalso; first | exact absurd rfl h | exact absurd z3 h | exact absurd z2 h | exact absurd z5 h | exact absurd z8 h | exact absurd z9 h | exact absurd (z1.symm.trans h) Bool.noConfusion | exact absurd h (Int.not_lt.2 q2.1))) <;> (try first | rw [if_pos h] at hr | rw [if_neg h] at hr | rw [ifF h] at hr | rw [ifN h] at hr) <;> (try (have hb : (_ : Bool) = _ := h; clear h; subst hb; (try first | rw [if_pos rfl] at hr | rw [if_neg Bool.false_ne_true] at hr))) <;> first | (exfalso; omega) | exact absurd (h.symm.trans (by assumption) : true = false) Bool.noConfusion | exact absurd (h.symm.trans (by assumption) : false = true) Bool.noConfusion | (refine (?_ : T1 _ ?_) ?_; rotate_left 1; (conv => lhs; cbv; (try cbv); (try cbv)); intro hT; clear hT; refine Sh.mk (by kernel_rfl) ?_))
      | (with_reducible refine Alt.mk (fun h => ?_) (fun h => ?_) <;> (have hk := h) <;> (try simp only [decide_eq_true_eq, decide_eq_false_iff_not, Bool.not_eq_true', Bool.not_eq_false', Bool.not_eq_true, Bool.not_eq_false, Bool.not_true, Bool.not_false, ne_eq, Bool.false_eq_true, Bool.true_eq_false, reduceCtorEq, beq_iff_eq, beq_eq_false_iff_ne, not_true_eq_false, not_false_eq_true, pair_eta, map_idL] at h) <;> (try dsimp only [putSpec, readSpec, gapsSpec, endSpec, endF, offSpec, offF, ctgSpec, ctgF, heldSpec, heldF, newStoSpec, partsRSpec, geqSpec, Ty.T, Ty.dflt, KT.T, getM, putM, delM] at h) <;> (try simp only [natCast_eq] at h) <;> (try (have hm := who_ix hob hp hlo h; obtain ⟨⟨m0, m0b⟩, ⟨m1, m1b⟩, m2, m2b⟩ := hm)) <;> (try (have hq := whF (by omega) hd hg3 hlo h hcov; have q1 := hq.e; have q2 := hq.n; have q3 := hq.fr; have q4 := hq.len)) <;> (try (have hE := whE (hcv h) hg3; have z1 := hE.known; have z2 := hE.fin; have z3 := hE.held; have z4 := hE.gaps; have z5 := hE.nxt; have z6 := hE.rd; have z7 := hE.rd2; have z8 := hE.held2; have z9 := hE.off2; have z10 := hE.gaps2; have k0 := hE.ok; have k1 := hE.ok1; have k2 := hE.ok2; clear hE)) <;> (try simp only [z4, z6, z7, z10, List.length_nil] at h) <;> (try (exfalso; first | exact absurd rfl h | exact absurd z3 h | exact absurd z2 h | exact absurd z5 h | exact absurd z8 h | exact absurd z9 h | exact absurd (z1.symm.trans h) Bool.noConfusion | exact absurd h (Int.not_lt.2 q2.1))) <;> (try first | rw [if_pos h] at hr | rw [if_neg h] at hr | rw [ifF h] at hr | rw [ifN h] at hr) <;> (try (have hb : (_ : Bool) = _ := h; clear h; subst hb; (try first | rw [if_pos rfl] at hr | rw [if_neg Bool.false_ne_true] at hr))) <;> first | (exfalso; omega) | exact absurd (h.symm.trans (by assumption) : true = false) Bool.noConfusion | exact absurd (h.symm.trans (by assumption) : false = true) Bool.noConfusion | (refine (?_ : T1 _ ?_) ?_; rotate_left 1; (conv => lhs; cbv; (try cbv); (try cbv)); intro hT; clear hT; refine Sh.mk (by kernel_rfl) ?_))
      | (with_reducible refine Pick.mk (fun h => ?_) (fun l1 x l2 h => ?_) <;> (refine (?_ : T1 _ ?_) ?_; rotate_left 1; (conv => lhs; cbv; (try cbv); (try cbv)); intro hT; clear hT; refine Sh.mk (by kernel_rfl) ?_))
      | ((with_reducible refine End.mk ?_); skip)
      | with_reducible exact True.intro)
    all_goals first
      | (fail_if_success (with_reducible refine Exists.intro ?_ ?_)
         first
           | with_reducible rfl
           | with_reducible assumption
           | (dsimp only [putSpec, readSpec, gapsSpec, endSpec, endF, offSpec, offF, ctgSpec, ctgF, heldSpec, heldF, newStoSpec, partsRSpec, geqSpec, Ty.T, Ty.dflt, KT.T, getM, putM, delM, inI64, maxRow]; done)
           | (symm; with_reducible assumption)
           | (dsimp only [putSpec, readSpec, gapsSpec, endSpec, endF, offSpec, offF, ctgSpec, ctgF, heldSpec, heldF, newStoSpec, partsRSpec, geqSpec, Ty.T, Ty.dflt, KT.T, getM, putM, delM, inI64, maxRow]; first | with_reducible rfl | with_reducible assumption | (symm; with_reducible assumption) | (simp only [natCast_eq]; with_reducible rfl) | omega)
           | omega
           | (dsimp only [putSpec, readSpec, gapsSpec, endSpec, endF, offSpec, offF, ctgSpec, ctgF, heldSpec, heldF, newStoSpec, partsRSpec, geqSpec, Ty.T, Ty.dflt, KT.T, getM, putM, delM, inI64, maxRow]; (try simp only [natCast_eq, List.nil_append]); first | with_reducible rfl | exact take_cg (by omega) | exact drop_cg (by omega) | exact take_drop_cg (by omega) (by omega) | exact take_all (by omega) | exact take_drop_all (by omega) (by omega) | exact drop_take_cg (by omega) (by omega) (by omega))
           | first | (rw [hx1]; done) | (rw [hx1]; rfl)
           | ((try dsimp only [putSpec, readSpec, gapsSpec, endSpec, endF, offSpec, offF, ctgSpec, ctgF, heldSpec, heldF, newStoSpec, partsRSpec, geqSpec, Ty.T, Ty.dflt, KT.T, getM, putM, delM, inI64, maxRow]); simp only [decide_eq_true_eq, decide_eq_false_iff_not, Bool.not_eq_true', Bool.not_eq_false', Bool.not_eq_true, Bool.not_eq_false, Bool.not_true, Bool.not_false, ne_eq, Bool.false_eq_true, Bool.true_eq_false, reduceCtorEq, beq_iff_eq, beq_eq_false_iff_ne, not_true_eq_false, not_false_eq_true, pair_eta, map_idL, natCast_eq, inI64, maxRow]; first | done | with_reducible assumption | omega)
           | exact map_pair_id _
           | ((try dsimp only [putSpec, readSpec, gapsSpec, endSpec, endF, offSpec, offF, ctgSpec, ctgF, heldSpec, heldF, newStoSpec, partsRSpec, geqSpec, Ty.T, Ty.dflt, KT.T, getM, putM, delM, inI64, maxRow]) <;> (try simp only [natCast_eq]) <;> omega)
           | ((try dsimp only [putSpec, readSpec, gapsSpec, endSpec, endF, offSpec, offF, ctgSpec, ctgF, heldSpec, heldF, newStoSpec, partsRSpec, geqSpec, Ty.T, Ty.dflt, KT.T, getM, putM, delM, inI64, maxRow] at *) <;> (try simp only [natCast_eq] at *) <;> omega)
           | ((try dsimp only [putSpec, readSpec, gapsSpec, endSpec, endF, offSpec, offF, ctgSpec, ctgF, heldSpec, heldF, newStoSpec, partsRSpec, geqSpec, Ty.T, Ty.dflt, KT.T, getM, putM, delM, inI64, maxRow] at *) <;> (try simp only [List.length_append, List.length_cons, List.length_nil, List.length_replicate, List.length_take, List.length_drop, natCast_eq] at *) <;> omega)
           | assumption
           | (symm; assumption)
           | (dsimp only; simp only [Bool.or_true, Bool.true_or, Bool.or_false, Bool.false_or, Bool.and_true, Bool.true_and, Bool.and_false, Bool.false_and, Bool.not_true, Bool.not_false, *]; done)
           | (simp; done)
           | (and_intros <;> first | trivial | with_reducible assumption | omega)
           | ((try dsimp only [putSpec, readSpec, gapsSpec, endSpec, endF, offSpec, offF, ctgSpec, ctgF, heldSpec, heldF, newStoSpec, partsRSpec, geqSpec, Ty.T, Ty.dflt, KT.T, getM, putM, delM, inI64, maxRow] at *) <;> simp [*] <;> done))
      | skip
  obtain ⟨i2, S, hlo, hhi, hcov⟩ := x
  have hcv : ¬ i2 < (M.length : Int) → Cov S d (max d.length 1) M := fun hh => by
    have := hcov
    rwa [List.take_of_length_le (by omega)] at this
  have hkl := hcov.fits.ok.len
  have hkw := hcov.win
  (try (conv in (LoopInv.inv _ _) => dsimp only)); (try (conv in (SS.mk _ _) => cbv; (try dsimp only [putSpec, readSpec, gapsSpec, endSpec, endF, offSpec, offF, ctgSpec, ctgF, heldSpec, heldF, newStoSpec, partsRSpec, geqSpec, Ty.T, Ty.dflt, KT.T]); (try simp only [natCast_eq])))
  (refine (?_ : T1 _ ?_) ?_; rotate_left 1; (conv => lhs; cbv; (try cbv); (try cbv)); intro hT; clear hT; refine Sh.mk (by kernel_rfl) ?_)
  repeat' (first
    | with_reducible refine Ck.mk (C := tt) tt_intro ?_
    | with_reducible refine Ck.mk (show drawOk _ _ = true by kernel_rfl) ?_
    | with_reducible refine Ck.all_cons ?_
    | with_reducible refine Ck.all_nil ?_
    | with_reducible refine Ck.mk (by assumption) ?_
    | with_reducible refine Ck.mk (decide_eq_true (by assumption)) ?_
    | with_reducible refine Ck.mk (decide_eq_false (by assumption)) ?_
    | with_reducible refine Ck.mk ?_ ?_
    | (with_reducible refine Both.mk (fun h => ?_) (fun h => ?_) <;> (have hk := h) <;> (try simp only [decide_eq_true_eq, decide_eq_false_iff_not, Bool.not_eq_true', Bool.not_eq_false', Bool.not_eq_true, Bool.not_eq_false, Bool.not_true, Bool.not_false, ne_eq, Bool.false_eq_true, Bool.true_eq_false, reduceCtorEq, beq_iff_eq, beq_eq_false_iff_ne, not_true_eq_false, not_false_eq_true, pair_eta, map_idL] at h) <;> (try dsimp only [putSpec, readSpec, gapsSpec, endSpec, endF, offSpec, offF, ctgSpec, ctgF, heldSpec, heldF, newStoSpec, partsRSpec, geqSpec, Ty.T, Ty.dflt, KT.T, getM, putM, delM] at h) <;> (try simp only [natCast_eq] at h) <;> (try (have hm := who_ix hob hp hlo h; obtain ⟨⟨m0, m0b⟩, ⟨m1, m1b⟩, m2, m2b⟩ := hm)) <;> (try (have hq := whF (by omega) hd hg3 hlo h hcov; have q1 := hq.e; have q2 := hq.n; have q3 := hq.fr; have q4 := hq.len)) <;> (try (have hE := whE (hcv h) hg3; have z1 := hE.known; have z2 := hE.fin; have z3 := hE.held; have z4 := hE.gaps; have z5 := hE.nxt; have z6 := hE.rd; have z7 := hE.rd2; have z8 := hE.held2; have z9 := hE.off2; have z10 := hE.gaps2; have k0 := hE.ok; have k1 := hE.ok1; have k2 := hE.ok2; clear hE)) <;> (try simp only [z4, z6, z7, z10, List.length_nil] at h) <;> (try (exfalso; first | exact absurd rfl h | exact absurd z3 h | exact absurd z2 h | exact absurd z5 h | exact absurd z8 h | exact absurd z9 h | exact absurd (z1.symm.trans h) Bool.noConfusion | exact absurd h (Int.not_lt.2 q2.1))) <;> (try first | rw [if_pos h] at hr | rw [if_neg h] at hr | rw [ifF h] at hr | rw [ifN h] at hr) <;> (try (have hb : (_ : Bool) = _ := h; clear h; subst hb; (try first | rw [if_pos rfl] at hr | rw [if_neg Bool.false_ne_true] at hr))) <;> first | (exfalso; omega) | exact absurd (h.symm.trans (by assumption) : true = false) Bool.noConfusion | exact absurd (h.symm.trans (by assumption) : false = true) Bool.noConfusion | (refine (?_ : T1 _ ?_) ?_; rotate_left 1; (conv => lhs; cbv; (try cbv); (try cbv)); intro hT; clear hT; refine Sh.mk (by kernel_rfl) ?_))
    | (with_reducible refine Alt.mk (fun h => ?_) (fun h => ?_) <;> (have hk := h) <;> (try simp only [decide_eq_true_eq, decide_eq_false_iff_not, Bool.not_eq_true', Bool.not_eq_false', Bool.not_eq_true, Bool.not_eq_false, Bool.not_true, Bool.not_false, ne_eq, Bool.false_eq_true, Bool.true_eq_false, reduceCtorEq, beq_iff_eq, beq_eq_false_iff_ne, not_true_eq_false, not_false_eq_true, pair_eta, map_idL] at h) <;> (try dsimp only [putSpec, readSpec, gapsSpec, endSpec, endF, offSpec, offF, ctgSpec, ctgF, heldSpec, heldF, newStoSpec, partsRSpec, geqSpec, Ty.T, Ty.dflt, KT.T, getM, putM, delM] at h) <;> (try simp only [natCast_eq] at h) <;> (try (have hm := who_ix hob hp hlo h; obtain ⟨⟨m0, m0b⟩, ⟨m1, m1b⟩, m2, m2b⟩ := hm)) <;> (try (have hq := whF (by omega) hd hg3 hlo h hcov; have q1 := hq.e; have q2 := hq.n; have q3 := hq.fr; have q4 := hq.len)) <;> (try (have hE := whE (hcv h) hg3; have z1 := hE.known; have z2 := hE.fin; have z3 := hE.held; have z4 := hE.gaps; have z5 := hE.nxt; have z6 := hE.rd; have z7 := hE.rd2; have z8 := hE.held2; have z9 := hE.off2; have z10 := hE.gaps2; have k0 := hE.ok; have k1 := hE.ok1; have k2 := hE.ok2; clear hE)) <;> (try simp only [z4, z6, z7, z10, List.length_nil] at h) <;> (try (exfalso; first | exact absurd rfl h | exact absurd z3 h | exact absurd z2 h | exact absurd z5 h | exact absurd z8 h | exact absurd z9 h | exact absurd (z1.symm.trans h) Bool.noConfusion | exact absurd h (Int.not_lt.2 q2.1))) <;> (try first | rw [if_pos h] at hr | rw [if_neg h] at hr | rw [ifF h] at hr | rw [ifN h] at hr) <;> (try (have hb : (_ : Bool) = _ := h; clear h; subst hb; (try first | rw [if_pos rfl] at hr | rw [if_neg Bool.false_ne_true] at hr))) <;> first | (exfalso; omega) | exact absurd (h.symm.trans (by assumption) : true = false) Bool.noConfusion | exact absurd (h.symm.trans (by assumption) : false = true) Bool.noConfusion | (refine (?_ : T1 _ ?_) ?_; rotate_left 1; (conv => lhs; cbv; (try cbv); (try cbv)); intro hT; clear hT; refine Sh.mk (by kernel_rfl) ?_))
    | (with_reducible refine Pick.mk (fun h => ?_) (fun l1 x l2 h => ?_) <;> (refine (?_ : T1 _ ?_) ?_; rotate_left 1; (conv => lhs; cbv; (try cbv); (try cbv)); intro hT; clear hT; refine Sh.mk (by kernel_rfl) ?_))
    | ((with_reducible refine End.mk ?_); (try ((repeat (first | rw [if_pos (by first | assumption | omega)] at hr | rw [if_neg (by first | assumption | omega | (simp only [Bool.false_eq_true, Bool.true_eq_false, reduceCtorEq, not_false_eq_true]; done) | (simp only [Bool.not_eq_true]; assumption) | (simp only [Bool.not_eq_false]; assumption))] at hr | rw [if_pos rfl] at hr)); subst hr)))
    | with_reducible exact True.intro)
  all_goals first
    | (fail_if_success (with_reducible refine Exists.intro ?_ ?_)
       first
         | with_reducible rfl
         | with_reducible assumption
         | (dsimp only [putSpec, readSpec, gapsSpec, endSpec, endF, offSpec, offF, ctgSpec, ctgF, heldSpec, heldF, newStoSpec, partsRSpec, geqSpec, Ty.T, Ty.dflt, KT.T, getM, putM, delM, inI64, maxRow]; done)
         | (symm; with_reducible assumption)
         | (dsimp only [putSpec, readSpec, gapsSpec, endSpec, endF, offSpec, offF, ctgSpec, ctgF, heldSpec, heldF, newStoSpec, partsRSpec, geqSpec, Ty.T, Ty.dflt, KT.T, getM, putM, delM, inI64, maxRow]; first | with_reducible rfl | with_reducible assumption | (symm; with_reducible assumption) | (simp only [natCast_eq]; with_reducible rfl) | omega)
         | omega
         | (dsimp only [putSpec, readSpec, gapsSpec, endSpec, endF, offSpec, offF, ctgSpec, ctgF, heldSpec, heldF, newStoSpec, partsRSpec, geqSpec, Ty.T, Ty.dflt, KT.T, getM, putM, delM, inI64, maxRow]; (try simp only [natCast_eq, List.nil_append]); first | with_reducible rfl | exact take_cg (by omega) | exact drop_cg (by omega) | exact take_drop_cg (by omega) (by omega) | exact take_all (by omega) | exact take_drop_all (by omega) (by omega) | exact drop_take_cg (by omega) (by omega) (by omega))
         | first | exact ⟨hcov.fits.ok.pre, Nat.le_trans q4 (by omega)⟩ | exact hq.sm | exact k0.pre | exact k1.pre | exact k2.pre | exact k0.preG | exact k2.preG | exact ⟨z6.symm ▸ hd, hd⟩
         | ((try dsimp only [putSpec, readSpec, gapsSpec, endSpec, endF, offSpec, offF, ctgSpec, ctgF, heldSpec, heldF, newStoSpec, partsRSpec, geqSpec, Ty.T, Ty.dflt, KT.T, getM, putM, delM, inI64, maxRow]); simp only [decide_eq_true_eq, decide_eq_false_iff_not, Bool.not_eq_true', Bool.not_eq_false', Bool.not_eq_true, Bool.not_eq_false, Bool.not_true, Bool.not_false, ne_eq, Bool.false_eq_true, Bool.true_eq_false, reduceCtorEq, beq_iff_eq, beq_eq_false_iff_ne, not_true_eq_false, not_false_eq_true, pair_eta, map_idL, natCast_eq, inI64, maxRow]; first | done | with_reducible assumption | omega)
         | exact map_pair_id _
         | ((try dsimp only [putSpec, readSpec, gapsSpec, endSpec, endF, offSpec, offF, ctgSpec, ctgF, heldSpec, heldF, newStoSpec, partsRSpec, geqSpec, Ty.T, Ty.dflt, KT.T, getM, putM, delM, inI64, maxRow]) <;> (try simp only [natCast_eq]) <;> omega)
         | ((try dsimp only [putSpec, readSpec, gapsSpec, endSpec, endF, offSpec, offF, ctgSpec, ctgF, heldSpec, heldF, newStoSpec, partsRSpec, geqSpec, Ty.T, Ty.dflt, KT.T, getM, putM, delM, inI64, maxRow] at *) <;> (try simp only [natCast_eq] at *) <;> omega)
         | ((try dsimp only [putSpec, readSpec, gapsSpec, endSpec, endF, offSpec, offF, ctgSpec, ctgF, heldSpec, heldF, newStoSpec, partsRSpec, geqSpec, Ty.T, Ty.dflt, KT.T, getM, putM, delM, inI64, maxRow] at *) <;> (try simp only [List.length_append, List.length_cons, List.length_nil, List.length_replicate, List.length_take, List.length_drop, natCast_eq] at *) <;> omega)
         | assumption
         | (symm; assumption)
         | (dsimp only; simp only [Bool.or_true, Bool.true_or, Bool.or_false, Bool.false_or, Bool.and_true, Bool.true_and, Bool.and_false, Bool.false_and, Bool.not_true, Bool.not_false, *]; done)
         | (simp; done)
         | (and_intros <;> first | trivial | with_reducible assumption | omega)
         | ((try dsimp only [putSpec, readSpec, gapsSpec, endSpec, endF, offSpec, offF, ctgSpec, ctgF, heldSpec, heldF, newStoSpec, partsRSpec, geqSpec, Ty.T, Ty.dflt, KT.T, getM, putM, delM, inI64, maxRow] at *) <;> simp [*] <;> done))
    | skip
  obtain ⟨y, hy0, hy1⟩ : ∃ y : LW3 d M, y.i = i2 + 1 ∧ y.S = (putF S (M.getD i2.toNat (0, [], false)).1 (M.getD i2.toNat (0, [], false)).2.1 (M.getD i2.toNat (0, [], false)).2.2).2 := ⟨⟨i2 + 1, _, by omega, by omega, hq.cov⟩, rfl, rfl⟩
  refine ⟨y, by dsimp only; (try simp only [natCast_eq]); omega, ?_⟩
  (try (conv in (LoopInv.inv _ _) => dsimp only)); (try (conv in (SS.mk _ _) => cbv; (try dsimp only [putSpec, readSpec, gapsSpec, endSpec, endF, offSpec, offF, ctgSpec, ctgF, heldSpec, heldF, newStoSpec, partsRSpec, geqSpec, Ty.T, Ty.dflt, KT.T]); (try simp only [natCast_eq])))
  (refine (?_ : T1 _ ?_) ?_; rotate_left 1; (conv => lhs; cbv; (try cbv); (try cbv)); intro hT; clear hT; refine Sh.mk (by kernel_rfl) ?_)
  repeat' (first
    | with_reducible refine Ck.mk (C := tt) tt_intro ?_
    | with_reducible refine Ck.mk (show drawOk _ _ = true by kernel_rfl) ?_
    | with_reducible refine Ck.all_cons ?_
    | with_reducible refine Ck.all_nil ?_
    | with_reducible refine Ck.mk (by assumption) ?_
    | with_reducible refine Ck.mk (decide_eq_true (by assumption)) ?_
    | with_reducible refine Ck.mk (decide_eq_false (by assumption)) ?_
    | with_reducible refine Ck.mk ?_ ?_
    | (with_reducible refine Both.mk (fun h => ?_) (fun h => ?_) <;> (have hk := h) <;> (try simp only [decide_eq_true_eq, decide_eq_false_iff_not, Bool.not_eq_true', Bool.not_eq_false', Bool.not_eq_true, Bool.not_eq_false, Bool.not_true, Bool.not_false, ne_eq, Bool.false_eq_true, Bool.true_eq_false, reduceCtorEq, beq_iff_eq, beq_eq_false_iff_ne, not_true_eq_false, not_false_eq_true, pair_eta, map_idL] at h) <;> (try dsimp only [putSpec, readSpec, gapsSpec, endSpec, endF, offSpec, offF, ctgSpec, ctgF, heldSpec, heldF, newStoSpec, partsRSpec, geqSpec, Ty.T, Ty.dflt, KT.T, getM, putM, delM] at h) <;> (try simp only [natCast_eq] at h) <;> (try (have hm := who_ix hob hp hlo h; obtain ⟨⟨m0, m0b⟩, ⟨m1, m1b⟩, m2, m2b⟩ := hm)) <;> (try (have hq := whF (by omega) hd hg3 hlo h hcov; have q1 := hq.e; have q2 := hq.n; have q3 := hq.fr; have q4 := hq.len)) <;> (try (have hE := whE (hcv h) hg3; have z1 := hE.known; have z2 := hE.fin; have z3 := hE.held; have z4 := hE.gaps; have z5 := hE.nxt; have z6 := hE.rd; have z7 := hE.rd2; have z8 := hE.held2; have z9 := hE.off2; have z10 := hE.gaps2; have k0 := hE.ok; have k1 := hE.ok1; have k2 := hE.ok2; clear hE)) <;> (try simp only [z4, z6, z7, z10, List.length_nil] at h) <;> (try (exfalso; first | exact absurd rfl h | exact absurd z3 h | exact absurd z2 h | exact absurd z5 h | exact absurd z8 h | exact absurd z9 h | exact absurd (z1.symm.trans h) Bool.noConfusion | exact absurd h (Int.not_lt.2 q2.1))) <;> (try first | rw [if_pos h] at hr | rw [if_neg h] at hr | rw [ifF h] at hr | rw [ifN h] at hr) <;> (try (have hb : (_ : Bool) = _ := h; clear h; subst hb; (try first | rw [if_pos rfl] at hr | rw [if_neg Bool.false_ne_true] at hr))) <;> first | (exfalso; omega) | exact absurd (h.symm.trans (by assumption) : true = false) Bool.noConfusion | exact absurd (h.symm.trans (by assumption) : false = true) Bool.noConfusion | (refine (?_ : T1 _ ?_) ?_; rotate_left 1; (conv => lhs; cbv; (try cbv); (try cbv)); intro hT; clear hT; refine Sh.mk (by kernel_rfl) ?_))
    | (with_reducible refine Alt.mk (fun h => ?_) (fun h => ?_) <;> (have hk := h) <;> (try simp only [decide_eq_true_eq, decide_eq_false_iff_not, Bool.not_eq_true', Bool.not_eq_false', Bool.not_eq_true, Bool.not_eq_false, Bool.not_true, Bool.not_false, ne_eq, Bool.false_eq_true, Bool.true_eq_false, reduceCtorEq, beq_iff_eq, beq_eq_false_iff_ne, not_true_eq_false, not_false_eq_true, pair_eta, map_idL] at h) <;> (try dsimp only [putSpec, readSpec, gapsSpec, endSpec, endF, offSpec, offF, ctgSpec, ctgF, heldSpec, heldF, newStoSpec, partsRSpec, geqSpec, Ty.T, Ty.dflt, KT.T, getM, putM, delM] at h) <;> (try simp only [natCast_eq] at h) <;> (try (have hm := who_ix hob hp hlo h; obtain ⟨⟨m0, m0b⟩, ⟨m1, m1b⟩, m2, m2b⟩ := hm)) <;> (try (have hq := whF (by omega) hd hg3 hlo h hcov; have q1 := hq.e; have q2 := hq.n; have q3 := hq.fr; have q4 := hq.len)) <;> (try (have hE := whE (hcv h) hg3; have z1 := hE.known; have z2 := hE.fin; have z3 := hE.held; have z4 := hE.gaps; have z5 := hE.nxt; have z6 := hE.rd; have z7 := hE.rd2; have z8 := hE.held2; have z9 := hE.off2; have z10 := hE.gaps2; have k0 := hE.ok; have k1 := hE.ok1; have k2 := hE.ok2; clear hE)) <;> (try simp only [z4, z6, z7, z10, List.length_nil] at h) <;> (try (exfalso; first | exact absurd rfl h | exact absurd z3 h | exact absurd z2 h | exact absurd z5 h | exact absurd z8 h | exact absurd z9 h | exact absurd (z1.symm.trans h) Bool.noConfusion | exact absurd h (Int.not_lt.2 q2.1))) <;> (try first | rw [if_pos h] at hr | rw [if_neg h] at hr | rw [ifF h] at hr | rw [ifN h] at hr) <;> (try (have hb : (_ : Bool) = _ := h; clear h; subst hb; (try first | rw [if_pos rfl] at hr | rw [if_neg Bool.false_ne_true] at hr))) <;> first | (exfalso; omega) | exact absurd (h.symm.trans (by assumption) : true = false) Bool.noConfusion | exact absurd (h.symm.trans (by assumption) : false = true) Bool.noConfusion | (refine (?_ : T1 _ ?_) ?_; rotate_left 1; (conv => lhs; cbv; (try cbv); (try cbv)); intro hT; clear hT; refine Sh.mk (by kernel_rfl) ?_))
    | (with_reducible refine Pick.mk (fun h => ?_) (fun l1 x l2 h => ?_) <;> (refine (?_ : T1 _ ?_) ?_; rotate_left 1; (conv => lhs; cbv; (try cbv); (try cbv)); intro hT; clear hT; refine Sh.mk (by kernel_rfl) ?_))
    | ((with_reducible refine End.mk ?_); skip)
    | with_reducible exact True.intro)
  all_goals first
    | (fail_if_success (with_reducible refine Exists.intro ?_ ?_)
       first
         | with_reducible rfl
         | with_reducible assumption
         | (dsimp only [putSpec, readSpec, gapsSpec, endSpec, endF, offSpec, offF, ctgSpec, ctgF, heldSpec, heldF, newStoSpec, partsRSpec, geqSpec, Ty.T, Ty.dflt, KT.T, getM, putM, delM, inI64, maxRow]; done)
         | (symm; with_reducible assumption)
         | (dsimp only [putSpec, readSpec, gapsSpec, endSpec, endF, offSpec, offF, ctgSpec, ctgF, heldSpec, heldF, newStoSpec, partsRSpec, geqSpec, Ty.T, Ty.dflt, KT.T, getM, putM, delM, inI64, maxRow]; first | with_reducible rfl | with_reducible assumption | (symm; with_reducible assumption) | (simp only [natCast_eq]; with_reducible rfl) | omega)
         | omega
         | (dsimp only [putSpec, readSpec, gapsSpec, endSpec, endF, offSpec, offF, ctgSpec, ctgF, heldSpec, heldF, newStoSpec, partsRSpec, geqSpec, Ty.T, Ty.dflt, KT.T, getM, putM, delM, inI64, maxRow]; (try simp only [natCast_eq, List.nil_append]); first | with_reducible rfl | exact take_cg (by omega) | exact drop_cg (by omega) | exact take_drop_cg (by omega) (by omega) | exact take_all (by omega) | exact take_drop_all (by omega) (by omega) | exact drop_take_cg (by omega) (by omega) (by omega))
         | first | exact hy1.symm | (rw [hy1]; exact hq.fr)
         | ((try dsimp only [putSpec, readSpec, gapsSpec, endSpec, endF, offSpec, offF, ctgSpec, ctgF, heldSpec, heldF, newStoSpec, partsRSpec, geqSpec, Ty.T, Ty.dflt, KT.T, getM, putM, delM, inI64, maxRow]); simp only [decide_eq_true_eq, decide_eq_false_iff_not, Bool.not_eq_true', Bool.not_eq_false', Bool.not_eq_true, Bool.not_eq_false, Bool.not_true, Bool.not_false, ne_eq, Bool.false_eq_true, Bool.true_eq_false, reduceCtorEq, beq_iff_eq, beq_eq_false_iff_ne, not_true_eq_false, not_false_eq_true, pair_eta, map_idL, natCast_eq, inI64, maxRow]; first | done | with_reducible assumption | omega)
         | exact map_pair_id _
         | ((try dsimp only [putSpec, readSpec, gapsSpec, endSpec, endF, offSpec, offF, ctgSpec, ctgF, heldSpec, heldF, newStoSpec, partsRSpec, geqSpec, Ty.T, Ty.dflt, KT.T, getM, putM, delM, inI64, maxRow]) <;> (try simp only [natCast_eq]) <;> omega)
         | ((try dsimp only [putSpec, readSpec, gapsSpec, endSpec, endF, offSpec, offF, ctgSpec, ctgF, heldSpec, heldF, newStoSpec, partsRSpec, geqSpec, Ty.T, Ty.dflt, KT.T, getM, putM, delM, inI64, maxRow] at *) <;> (try simp only [natCast_eq] at *) <;> omega)
         | ((try dsimp only [putSpec, readSpec, gapsSpec, endSpec, endF, offSpec, offF, ctgSpec, ctgF, heldSpec, heldF, newStoSpec, partsRSpec, geqSpec, Ty.T, Ty.dflt, KT.T, getM, putM, delM, inI64, maxRow] at *) <;> (try simp only [List.length_append, List.length_cons, List.length_nil, List.length_replicate, List.length_take, List.length_drop, natCast_eq] at *) <;> omega)
         | assumption
         | (symm; assumption)
         | (dsimp only; simp only [Bool.or_true, Bool.true_or, Bool.or_false, Bool.false_or, Bool.and_true, Bool.true_and, Bool.and_false, Bool.false_and, Bool.not_true, Bool.not_false, *]; done)
         | (simp; done)
         | (and_intros <;> first | trivial | with_reducible assumption | omega)
         | ((try dsimp only [putSpec, readSpec, gapsSpec, endSpec, endF, offSpec, offF, ctgSpec, ctgF, heldSpec, heldF, newStoSpec, partsRSpec, geqSpec, Ty.T, Ty.dflt, KT.T, getM, putM, delM, inI64, maxRow] at *) <;> simp [*] <;> done))
    | skip
theorem who_sound : ConSound Try.prog AI 6 whoSpec.con := PureSpec.sound Try.call6 (fun x h => who_ok x.1 x.2.1 x.2.2.1 h)
end Go.Proofs.Ytonegoinplddmaa
