/-
  Layer 48: MoveCompletes, the walk.
-/
import Derived.Test.YtgdiepbjdpmfbaaPrt
import Derived.Test.YtgdiepbjdpmfbaaMcf
namespace Go.Proofs.Ytgdiepbjdpmfbaa
set_option linter.all false
set_option linter.unusedVariables false
set_option linter.unusedSimpArgs false
set_option linter.unusedSectionVars false
open Go.RowKit Go.Sx
set_option maxRecDepth 100000
set_option maxHeartbeats 16000000
theorem bytes_of {d : List Int} (h : ∀ x ∈ d, (Ty.int .u8).ok x) : inBytes d := fun x hx => by have := inRange_u8 (h x hx); omega
theorem beq_inl : ConSound Try.prog AI 18 (inl E0 Try.f18 0) := inl_sound e0Ok mixed (fn := Try.f18) (c := bodyOf Try.f18) Try.call18 (by kernel_rfl) (by kernel_rfl) (by kernel_rfl) 0
noncomputable abbrev Ec : Env Ab := ⟨tis, [(22, maccSpec.con), (21, mphaseSpec.con), (20, mfinSpec.con), (17, mhandSpec.con), (16, mstartSpec.con), (15, mreadSpec.con), (13, mrcvSpec.con), (12, newMovSpec.con), (11, awakeSpec.con), (14, partSpec.con), (18, inl E0 Try.f18 0)] ++ E0.con⟩
theorem ecOk : EnvOk Try.prog AI Ec := (((((((((((e0Ok.add beq_inl).add part_sound).add awake_sound).add newMov_sound).add mrcv_sound).add mread_sound).add mstart_sound).add mhand_sound).add mfin_sound).add mphase_sound).add macc_sound)
structure LCx (d : List Int) (s f : Int) (n : Int) where
  i : Int
  M : Mov
  H : List Bool
  lo : 0 ≤ i
  hi : i ≤ n
  m : CxF d H M (ph0 s f i) (rdO M)
theorem next_LCx {d : List Int} {s f n i : Int} {M : Mov} {H : List Bool} (h0 : 0 ≤ i) (h : i < n + 1) (h1 : ¬ i = n) (hm : CxF d H M (ph0 s f (i + 1)) (rdO M)) : ∃ y : LCx d s f n, y.i = i + 1 ∧ y.M = M ∧ y.H = H := ⟨⟨i + 1, M, H, by omega, by omega, hm⟩, rfl, rfl, rfl⟩
structure LIx (n : Int) where
  j : Int
  lo : 0 ≤ j
  hi : j ≤ n
theorem lt_of {i n : Int} (h : i ≤ n) (h2 : ¬ i = n) : i < n := by omega
theorem mod2 (x : Int) : x % 2 = 0 ∨ x % 2 = 1 := by omega
theorem CxF.self {d : List Int} {H : List Bool} {N : Mov} {p : Ph} {o : Int} (h : CxF d H N p o) : CxF d H N p (rdO N) := by rw [h.o]; exact h
theorem CxF.tk {d : List Int} {H : List Bool} {N : Mov} {p : Ph} {o : Int} (h : CxF d H N p o) : d.take o.toNat = d.take (rdO N).toNat := by rw [h.o]
abbrev cst {d : List Int} {H : List Bool} {p : Ph} {o q : Int} {N : Mov} {s : Seg} (_ : CxC d H p o N q s) : Mov := (rcvM N q s).2
theorem sh_i {k c : Int} (h : 0 ≤ k ∧ k ≤ 65535) : inI64 (k / 2 ^ c.toNat) := by
  have h1 : 0 ≤ k / 2 ^ c.toNat := Int.ediv_nonneg h.1 (Int.le_of_lt (Int.pow_pos (by decide)))
  have h2 : k / 2 ^ c.toNat ≤ k := Int.ediv_le_self _ h.1
  unfold inI64; omega
theorem sh_r {k c m : Int} (h : 0 ≤ k ∧ k ≤ 65535) (hm : 0 < m) : 0 ≤ k / 2 ^ c.toNat ∧ 0 < m ∧ inI64 (k / 2 ^ c.toNat) :=
  ⟨Int.ediv_nonneg h.1 (Int.le_of_lt (Int.pow_pos (by decide))), hm, sh_i h⟩
theorem CxC.gen {d : List Int} {H : List Bool} {p : Ph} {o q : Int} {N : Mov} {s : Seg} (h : CxC d H p o N q s) : ∃ (n : Int) (sg : { z : Seg // s = z }) (N9 : { N' : Mov // (rcvM N q s).2 = N' }), 0 ≤ sg.1.1 ∧ sg.1.1 + n ≤ d.length ∧ (0 ≤ n ∧ (s.2.1.length : Int) = n) ∧ H.length = d.length ∧ CxF d (setTo H sg.1.1.toNat n.toNat) N9.1 p o :=
  ⟨s.2.1.length, ⟨s, rfl⟩, ⟨_, rfl⟩, h.o0, h.oe, ⟨Int.natCast_nonneg _, rfl⟩, by have := h.f.cov.len; rwa [setTo_len] at this, by rw [Int.toNat_natCast]; exact h.f⟩
theorem setTo_dn {H : List Bool} {o n j : Int} (h : ¬ j < n) (h2 : j ≤ n) : setTo H o.toNat j.toNat = setTo H o.toNat n.toNat := by rw [show j = n by omega]
theorem part_pt {d : List Int} {k : Int} (hk : 0 ≤ k ∧ k ≤ 65535) : IsPart d (partS d k) := partS_part d hk.1
def mcxF (_ : List Int) (_ : List Int) (_ _ : Int) : Tup [DT.cell .bool] := (true, ())
theorem sf_ok {n a b : Int} (hn : 0 ≤ n) (ha : 0 ≤ a ∧ a ≤ 255) (hb : 0 ≤ b ∧ b ≤ 255) : (0 ≤ a % (n + 1) ∧ a % (n + 1) ≤ n) ∧ a % (n + 1) ≤ a % (n + 1) + b % (n - a % (n + 1) + 1) ∧ a % (n + 1) + b % (n - a % (n + 1) + 1) ≤ n := by
  have h1 := Int.emod_nonneg a (show n + 1 ≠ 0 by omega)
  have h2 := Int.emod_lt_of_pos a (show 0 < n + 1 by omega)
  have h3 := Int.emod_nonneg b (show n - a % (n + 1) + 1 ≠ 0 by omega)
  have h4 := Int.emod_lt_of_pos b (show 0 < n - a % (n + 1) + 1 by omega)
  omega
theorem ph_new {s f : Int} (h : 0 ≤ s) : ph0 s f 0 = .old := if_pos h
theorem sf_i0 {n a : Int} (hn : 0 ≤ n) (h : ¬ 40 < n) (ha : 0 ≤ a ∧ a ≤ 255) : inI64 (n - a % (n + 1)) := by
  have h1 := Int.emod_nonneg a (show n + 1 ≠ 0 by omega)
  have h2 := Int.emod_lt_of_pos a (show 0 < n + 1 by omega)
  unfold inI64; omega
theorem sf_i1 {n a : Int} (hn : 0 ≤ n) (h : ¬ 40 < n) (ha : 0 ≤ a ∧ a ≤ 255) : inI64 (n - a % (n + 1) + 1) := by
  have h1 := Int.emod_nonneg a (show n + 1 ≠ 0 by omega)
  have h2 := Int.emod_lt_of_pos a (show 0 < n + 1 by omega)
  unfold inI64; omega
theorem sf_i2 {n a b : Int} (hn : 0 ≤ n) (h : ¬ 40 < n) (ha : 0 ≤ a ∧ a ≤ 255) (hb : 0 ≤ b ∧ b ≤ 255) : 0 ≤ b ∧ 0 < n - a % (n + 1) + 1 ∧ inI64 b := by
  have h1 := Int.emod_nonneg a (show n + 1 ≠ 0 by omega)
  have h2 := Int.emod_lt_of_pos a (show 0 < n + 1 by omega)
  unfold inI64; omega
theorem sf_i3 {n a b : Int} (hn : 0 ≤ n) (h : ¬ 40 < n) (ha : 0 ≤ a ∧ a ≤ 255) (hb : 0 ≤ b ∧ b ≤ 255) : inI64 (a % (n + 1) + b % (n - a % (n + 1) + 1)) := by
  have h1 := sf_ok hn ha hb
  unfold inI64; omega
def mcxSpec : PureSpec := ⟨[.lst (.int .u8), .lst (.int .u16), .cell (.int .u8), .cell (.int .u8)], fun (x : (List Int) × (List Int) × Int × Int × Unit) => (x.1.length ≤ maxLen ∧ inBytes x.1) ∧ (x.2.1.length ≤ maxLen ∧ ∀ y ∈ x.2.1, 0 ≤ y ∧ y ≤ 65535) ∧ (0 ≤ x.2.2.1 ∧ x.2.2.1 ≤ 255) ∧ (0 ≤ x.2.2.2.1 ∧ x.2.2.2.1 ≤ 255), [.cell .bool], fun (x : (List Int) × (List Int) × Int × Int × Unit) => mcxF x.1 x.2.1 x.2.2.1 x.2.2.2.1⟩
theorem mcx_ok (d : List Int) (l : List Int) (sa : Int) (fa : Int) (h : mcxSpec.pre (d, l, sa, fa, ())) : TmplOk Try.prog AI 8 (argS mcxSpec.ds (fun _ => (d, l, sa, fa, ()))) [] (resOf (svs mcxSpec.rs (fun _ => mcxSpec.f (d, l, sa, fa, ())))) [] := by
  dsimp only [mcxSpec] at h ⊢
  generalize hr : mcxF d l sa fa = r
  obtain ⟨⟨hd0, hd⟩, ⟨hl0, hl⟩, hsa, hfa⟩ := h
  dsimp only [mcxF] at hr
  refine tmpl_of_body ecOk mixed (fn := Try.f8) (c := bodyOf Try.f8) (by kernel_rfl) (by kernel_rfl) (by kernel_rfl) (Nat.le_of_ble_eq_true (by kernel_rfl)) ?_
  (try (conv in (LoopInv.inv _ _) => dsimp only)); (try (conv in (SS.mk _ _) => cbv; (try dsimp only [newMovSpec, mrcvSpec, mreadSpec, mstartSpec, mhandSpec, mfinSpec, mphaseSpec, maccSpec, partSpec, partF, accM, Ty.T, Ty.dflt, KT.T]); (try simp only [natCast_eq])))
  (with_reducible refine (?_ : T1 _ ?_) ?_; rotate_left 1; (conv => lhs; cbv; (try cbv); (try cbv)); intro hT; clear hT; with_reducible refine Sh.mk (by kernel_rfl) ?_)
  repeat' (first
    | with_reducible refine Ck.mk (C := tt) tt_intro ?_
    | with_reducible refine Ck.mk (show drawOk _ _ = true by kernel_rfl) ?_
    | with_reducible refine Ck.all_cons ?_
    | with_reducible refine Ck.all_nil ?_
    | with_reducible refine Ck.mk (by assumption) ?_
    | with_reducible refine Ck.mk (decide_eq_true (by assumption)) ?_
    | with_reducible refine Ck.mk (decide_eq_false (by assumption)) ?_
    | with_reducible refine Ck.mk ?_ ?_
    | (with_reducible refine Both.mk (fun h => ?_) (fun h => ?_) <;> (have hk := h) <;> (try simp only [decide_eq_true_eq, decide_eq_false_iff_not, Bool.not_eq_true', Bool.not_eq_false', Bool.not_eq_true, Bool.not_eq_false, Bool.not_true, Bool.not_false, ne_eq, Bool.false_eq_true, Bool.true_eq_false, reduceCtorEq, beq_iff_eq, beq_eq_false_iff_ne, not_true_eq_false, not_false_eq_true, pair_eta, map_idL] at h) <;> (try dsimp only [newMovSpec, mrcvSpec, mreadSpec, mstartSpec, mhandSpec, mfinSpec, mphaseSpec, maccSpec, partSpec, partF, accM, Ty.T, Ty.dflt, KT.T, getM, putM, delM] at h) <;> (try simp only [natCast_eq] at h) <;> (try (have A0 := cxA hd h60 hsf.2.1 hm h; have A := A0.f)) <;> (try (have A := cxA' hm h)) <;> (try (have B0 := cxB hd h60 hsf.2.1 A h; have B := B0.f)) <;> (try (have B := cxB' A h)) <;> (try (have lb := u16_at hl hlo (lt_of hhi h))) <;> (try (have C := cxC hd h60 B (mod2 _) (part_pt lb) h)) <;> (try first | rw [if_pos h] at hr | rw [if_neg h] at hr | rw [ifF h] at hr | rw [ifN h] at hr) <;> (try (have hb : (_ : Bool) = _ := h; clear h; subst hb; (try first | rw [if_pos rfl] at hr | rw [if_neg Bool.false_ne_true] at hr))) <;> first | (exfalso; omega) | exact absurd (h.symm.trans (by assumption) : true = false) Bool.noConfusion | exact absurd (h.symm.trans (by assumption) : false = true) Bool.noConfusion | (with_reducible refine (?_ : T1 _ ?_) ?_; rotate_left 1; (conv => lhs; cbv; (try cbv); (try cbv)); intro hT; clear hT; with_reducible refine Sh.mk (by kernel_rfl) ?_))
    | (with_reducible refine Alt.mk (fun h => ?_) (fun h => ?_) <;> (have hk := h) <;> (try simp only [decide_eq_true_eq, decide_eq_false_iff_not, Bool.not_eq_true', Bool.not_eq_false', Bool.not_eq_true, Bool.not_eq_false, Bool.not_true, Bool.not_false, ne_eq, Bool.false_eq_true, Bool.true_eq_false, reduceCtorEq, beq_iff_eq, beq_eq_false_iff_ne, not_true_eq_false, not_false_eq_true, pair_eta, map_idL] at h) <;> (try dsimp only [newMovSpec, mrcvSpec, mreadSpec, mstartSpec, mhandSpec, mfinSpec, mphaseSpec, maccSpec, partSpec, partF, accM, Ty.T, Ty.dflt, KT.T, getM, putM, delM] at h) <;> (try simp only [natCast_eq] at h) <;> (try (have A0 := cxA hd h60 hsf.2.1 hm h; have A := A0.f)) <;> (try (have A := cxA' hm h)) <;> (try (have B0 := cxB hd h60 hsf.2.1 A h; have B := B0.f)) <;> (try (have B := cxB' A h)) <;> (try (have lb := u16_at hl hlo (lt_of hhi h))) <;> (try (have C := cxC hd h60 B (mod2 _) (part_pt lb) h)) <;> (try first | rw [if_pos h] at hr | rw [if_neg h] at hr | rw [ifF h] at hr | rw [ifN h] at hr) <;> (try (have hb : (_ : Bool) = _ := h; clear h; subst hb; (try first | rw [if_pos rfl] at hr | rw [if_neg Bool.false_ne_true] at hr))) <;> first | (exfalso; omega) | exact absurd (h.symm.trans (by assumption) : true = false) Bool.noConfusion | exact absurd (h.symm.trans (by assumption) : false = true) Bool.noConfusion | (with_reducible refine (?_ : T1 _ ?_) ?_; rotate_left 1; (conv => lhs; cbv; (try cbv); (try cbv)); intro hT; clear hT; with_reducible refine Sh.mk (by kernel_rfl) ?_))
    | (with_reducible refine Pick.mk (fun h => ?_) (fun l1 x l2 h => ?_) <;> (with_reducible refine (?_ : T1 _ ?_) ?_; rotate_left 1; (conv => lhs; cbv; (try cbv); (try cbv)); intro hT; clear hT; with_reducible refine Sh.mk (by kernel_rfl) ?_))
    | ((with_reducible refine End.mk ?_); (try ((repeat (first | rw [if_pos (by first | assumption | omega)] at hr | rw [if_neg (by first | assumption | omega | (simp only [Bool.false_eq_true, Bool.true_eq_false, reduceCtorEq, not_false_eq_true]; done) | (simp only [Bool.not_eq_true]; assumption) | (simp only [Bool.not_eq_false]; assumption))] at hr | rw [if_pos rfl] at hr)); subst hr)))
    | with_reducible exact True.intro)
  all_goals first
    | (fail_if_success (with_reducible refine Exists.intro ?_ ?_)
       first
         | with_reducible rfl
         | with_reducible assumption
         | (dsimp only [newMovSpec, mrcvSpec, mreadSpec, mstartSpec, mhandSpec, mfinSpec, mphaseSpec, maccSpec, partSpec, partF, accM, Ty.T, Ty.dflt, KT.T, getM, putM, delM, inI64, maxRow]; done)
         | (symm; with_reducible assumption)
         | (dsimp only [newMovSpec, mrcvSpec, mreadSpec, mstartSpec, mhandSpec, mfinSpec, mphaseSpec, maccSpec, partSpec, partF, accM, Ty.T, Ty.dflt, KT.T, getM, putM, delM, inI64, maxRow]; first | with_reducible rfl | with_reducible assumption | (symm; with_reducible assumption) | (simp only [natCast_eq]; with_reducible rfl) | omega)
         | omega
         | (dsimp only [newMovSpec, mrcvSpec, mreadSpec, mstartSpec, mhandSpec, mfinSpec, mphaseSpec, maccSpec, partSpec, partF, accM, Ty.T, Ty.dflt, KT.T, getM, putM, delM, inI64, maxRow]; (try simp only [natCast_eq, List.nil_append]); first | with_reducible rfl | exact take_cg (by omega) | exact drop_cg (by omega) | exact take_drop_cg (by omega) (by omega) | exact take_all (by omega) | exact take_drop_all (by omega) (by omega) | exact drop_take_cg (by omega) (by omega) (by omega))
         | first | exact sf_i0 (Int.natCast_nonneg l.length) h hsa | exact sf_i1 (Int.natCast_nonneg l.length) h hsa | exact sf_i2 (Int.natCast_nonneg l.length) h hsa hfa | exact sf_i3 (Int.natCast_nonneg l.length) h hsa hfa
         | ((try dsimp only [newMovSpec, mrcvSpec, mreadSpec, mstartSpec, mhandSpec, mfinSpec, mphaseSpec, maccSpec, partSpec, partF, accM, Ty.T, Ty.dflt, KT.T, getM, putM, delM, inI64, maxRow]); simp only [decide_eq_true_eq, decide_eq_false_iff_not, Bool.not_eq_true', Bool.not_eq_false', Bool.not_eq_true, Bool.not_eq_false, Bool.not_true, Bool.not_false, ne_eq, Bool.false_eq_true, Bool.true_eq_false, reduceCtorEq, beq_iff_eq, beq_eq_false_iff_ne, not_true_eq_false, not_false_eq_true, pair_eta, map_idL, natCast_eq, inI64, maxRow]; first | done | with_reducible assumption | omega)
         | exact map_pair_id _
         | ((try dsimp only [newMovSpec, mrcvSpec, mreadSpec, mstartSpec, mhandSpec, mfinSpec, mphaseSpec, maccSpec, partSpec, partF, accM, Ty.T, Ty.dflt, KT.T, getM, putM, delM, inI64, maxRow]) <;> (try simp only [natCast_eq]) <;> omega)
         | ((try dsimp only [newMovSpec, mrcvSpec, mreadSpec, mstartSpec, mhandSpec, mfinSpec, mphaseSpec, maccSpec, partSpec, partF, accM, Ty.T, Ty.dflt, KT.T, getM, putM, delM, inI64, maxRow] at *) <;> (try simp only [natCast_eq] at *) <;> omega)
         | ((try dsimp only [newMovSpec, mrcvSpec, mreadSpec, mstartSpec, mhandSpec, mfinSpec, mphaseSpec, maccSpec, partSpec, partF, accM, Ty.T, Ty.dflt, KT.T, getM, putM, delM, inI64, maxRow] at *) <;> (try simp only [List.length_append, List.length_cons, List.length_nil, List.length_replicate, List.length_take, List.length_drop, natCast_eq] at *) <;> omega)
         | assumption
         | (symm; assumption)
         | (dsimp only; simp only [Bool.or_true, Bool.true_or, Bool.or_false, Bool.false_or, Bool.and_true, Bool.true_and, Bool.and_false, Bool.false_and, Bool.not_true, Bool.not_false, *]; done)
         | (simp; done)
         | (and_intros <;> first | trivial | with_reducible assumption | omega)
         | ((try dsimp only [newMovSpec, mrcvSpec, mreadSpec, mstartSpec, mhandSpec, mfinSpec, mphaseSpec, maccSpec, partSpec, partF, accM, Ty.T, Ty.dflt, KT.T, getM, putM, delM, inI64, maxRow] at *) <;> simp [*] <;> done))
    | skip
  have hsf := sf_ok (n := l.length) (Int.natCast_nonneg _) hsa hfa
  have hsf0 := hsf
  obtain ⟨s, hs⟩ : ∃ s : Int, s = sa % ((l.length : Int) + 1) := ⟨_, rfl⟩
  obtain ⟨f, hf⟩ : ∃ f : Int, f = s + fa % ((l.length : Int) - s + 1) := ⟨_, rfl⟩
  rw [← hs, ← hf] at hsf
  obtain ⟨x0, hx0, hx1, hx2⟩ : ∃ x : LCx d s f l.length, x.i = 0 ∧ x.M = newM 80 ∧ x.H = List.replicate d.length false := ⟨⟨0, newM 80, _, by omega, by omega, cxF (covM_new (by decide) (by decide)) (ph_new hsf.1.1).symm rfl (by assumption)⟩, rfl, rfl, rfl⟩
  refine ⟨⟨LCx d s f l.length, fun x => ⟨[(0, Sx.one (.ro (.int .u8) (fun _ => d))), (1, Sx.one (.ro (.int .u16) (fun _ => l))), (9, Sx.one (.ptr 0 0)), (11, Sx.one (.int .i64 (fun _ => s))), (12, Sx.one (.int .i64 (fun _ => f))), (13, Sx.one (.hd 1 0)), (14, Sx.one (.hd 2 0)), (66, Sx.one (.int .i64 (fun _ => (l.length : Int) + 1))), (67, Sx.one (.int .i64 (fun _ => x.i)))], [.abs (.mov (fun _ => x.M)), .row 4 .bool 0 (fun _ => x.H), .row 5 (.int .u8) 0 (fun _ => d.take (rdO x.M).toNat)]⟩, fun x => (l.length + 1 - x.i).toNat, x0⟩, ?_, fun (x : LCx d s f l.length) => ?_⟩
  · (try (conv in (LoopInv.inv _ _) => dsimp only)); (try (conv in (SS.mk _ _) => cbv; (try dsimp only [newMovSpec, mrcvSpec, mreadSpec, mstartSpec, mhandSpec, mfinSpec, mphaseSpec, maccSpec, partSpec, partF, accM, Ty.T, Ty.dflt, KT.T]); (try simp only [natCast_eq])))
    (with_reducible refine (?_ : T1 _ ?_) ?_; rotate_left 1; (conv => lhs; cbv; (try cbv); (try cbv)); intro hT; clear hT; with_reducible refine Sh.mk (by kernel_rfl) ?_)
    repeat' (first
      | with_reducible refine Ck.mk (C := tt) tt_intro ?_
      | with_reducible refine Ck.mk (show drawOk _ _ = true by kernel_rfl) ?_
      | with_reducible refine Ck.all_cons ?_
      | with_reducible refine Ck.all_nil ?_
      | with_reducible refine Ck.mk (by assumption) ?_
      | with_reducible refine Ck.mk (decide_eq_true (by assumption)) ?_
      | with_reducible refine Ck.mk (decide_eq_false (by assumption)) ?_
      | with_reducible refine Ck.mk ?_ ?_
      | (with_reducible refine Both.mk (fun h => ?_) (fun h => ?_) <;> (have hk := h) <;> (try simp only [decide_eq_true_eq, decide_eq_false_iff_not, Bool.not_eq_true', Bool.not_eq_false', Bool.not_eq_true, Bool.not_eq_false, Bool.not_true, Bool.not_false, ne_eq, Bool.false_eq_true, Bool.true_eq_false, reduceCtorEq, beq_iff_eq, beq_eq_false_iff_ne, not_true_eq_false, not_false_eq_true, pair_eta, map_idL] at h) <;> (try dsimp only [newMovSpec, mrcvSpec, mreadSpec, mstartSpec, mhandSpec, mfinSpec, mphaseSpec, maccSpec, partSpec, partF, accM, Ty.T, Ty.dflt, KT.T, getM, putM, delM] at h) <;> (try simp only [natCast_eq] at h) <;> (try (have A0 := cxA hd h60 hsf.2.1 hm h; have A := A0.f)) <;> (try (have A := cxA' hm h)) <;> (try (have B0 := cxB hd h60 hsf.2.1 A h; have B := B0.f)) <;> (try (have B := cxB' A h)) <;> (try (have lb := u16_at hl hlo (lt_of hhi h))) <;> (try (have C := cxC hd h60 B (mod2 _) (part_pt lb) h)) <;> (try first | rw [if_pos h] at hr | rw [if_neg h] at hr | rw [ifF h] at hr | rw [ifN h] at hr) <;> (try (have hb : (_ : Bool) = _ := h; clear h; subst hb; (try first | rw [if_pos rfl] at hr | rw [if_neg Bool.false_ne_true] at hr))) <;> first | (exfalso; omega) | exact absurd (h.symm.trans (by assumption) : true = false) Bool.noConfusion | exact absurd (h.symm.trans (by assumption) : false = true) Bool.noConfusion | (with_reducible refine (?_ : T1 _ ?_) ?_; rotate_left 1; (conv => lhs; cbv; (try cbv); (try cbv)); intro hT; clear hT; with_reducible refine Sh.mk (by kernel_rfl) ?_))
      | (with_reducible refine Alt.mk (fun h => ?_) (fun h => ?_) <;> (have hk := h) <;> (try simp only [decide_eq_true_eq, decide_eq_false_iff_not, Bool.not_eq_true', Bool.not_eq_false', Bool.not_eq_true, Bool.not_eq_false, Bool.not_true, Bool.not_false, ne_eq, Bool.false_eq_true, Bool.true_eq_false, reduceCtorEq, beq_iff_eq, beq_eq_false_iff_ne, not_true_eq_false, not_false_eq_true, pair_eta, map_idL] at h) <;> (try dsimp only [newMovSpec, mrcvSpec, mreadSpec, mstartSpec, mhandSpec, mfinSpec, mphaseSpec, maccSpec, partSpec, partF, accM, Ty.T, Ty.dflt, KT.T, getM, putM, delM] at h) <;> (try simp only [natCast_eq] at h) <;> (try (have A0 := cxA hd h60 hsf.2.1 hm h; have A := A0.f)) <;> (try (have A := cxA' hm h)) <;> (try (have B0 := cxB hd h60 hsf.2.1 A h; have B := B0.f)) <;> (try (have B := cxB' A h)) <;> (try (have lb := u16_at hl hlo (lt_of hhi h))) <;> (try (have C := cxC hd h60 B (mod2 _) (part_pt lb) h)) <;> (try first | rw [if_pos h] at hr | rw [if_neg h] at hr | rw [ifF h] at hr | rw [ifN h] at hr) <;> (try (have hb : (_ : Bool) = _ := h; clear h; subst hb; (try first | rw [if_pos rfl] at hr | rw [if_neg Bool.false_ne_true] at hr))) <;> first | (exfalso; omega) | exact absurd (h.symm.trans (by assumption) : true = false) Bool.noConfusion | exact absurd (h.symm.trans (by assumption) : false = true) Bool.noConfusion | (with_reducible refine (?_ : T1 _ ?_) ?_; rotate_left 1; (conv => lhs; cbv; (try cbv); (try cbv)); intro hT; clear hT; with_reducible refine Sh.mk (by kernel_rfl) ?_))
      | (with_reducible refine Pick.mk (fun h => ?_) (fun l1 x l2 h => ?_) <;> (with_reducible refine (?_ : T1 _ ?_) ?_; rotate_left 1; (conv => lhs; cbv; (try cbv); (try cbv)); intro hT; clear hT; with_reducible refine Sh.mk (by kernel_rfl) ?_))
      | ((with_reducible refine End.mk ?_); skip)
      | with_reducible exact True.intro)
    all_goals first
      | (fail_if_success (with_reducible refine Exists.intro ?_ ?_)
         first
           | with_reducible rfl
           | with_reducible assumption
           | (dsimp only [newMovSpec, mrcvSpec, mreadSpec, mstartSpec, mhandSpec, mfinSpec, mphaseSpec, maccSpec, partSpec, partF, accM, Ty.T, Ty.dflt, KT.T, getM, putM, delM, inI64, maxRow]; done)
           | (symm; with_reducible assumption)
           | (dsimp only [newMovSpec, mrcvSpec, mreadSpec, mstartSpec, mhandSpec, mfinSpec, mphaseSpec, maccSpec, partSpec, partF, accM, Ty.T, Ty.dflt, KT.T, getM, putM, delM, inI64, maxRow]; first | with_reducible rfl | with_reducible assumption | (symm; with_reducible assumption) | (simp only [natCast_eq]; with_reducible rfl) | omega)
           | omega
           | (dsimp only [newMovSpec, mrcvSpec, mreadSpec, mstartSpec, mhandSpec, mfinSpec, mphaseSpec, maccSpec, partSpec, partF, accM, Ty.T, Ty.dflt, KT.T, getM, putM, delM, inI64, maxRow]; (try simp only [natCast_eq, List.nil_append]); first | with_reducible rfl | exact take_cg (by omega) | exact drop_cg (by omega) | exact take_drop_cg (by omega) (by omega) | exact take_all (by omega) | exact take_drop_all (by omega) (by omega) | exact drop_take_cg (by omega) (by omega) (by omega))
           | first | exact rfl | (rw [hx1]; rfl) | (rw [hx2]; done) | (show _ = x0.M; rw [hx1]) | (show _ = x0.H; rw [hx2]; exact congrArg (fun n => List.replicate n false) (Int.toNat_natCast _))
           | ((try dsimp only [newMovSpec, mrcvSpec, mreadSpec, mstartSpec, mhandSpec, mfinSpec, mphaseSpec, maccSpec, partSpec, partF, accM, Ty.T, Ty.dflt, KT.T, getM, putM, delM, inI64, maxRow]); simp only [decide_eq_true_eq, decide_eq_false_iff_not, Bool.not_eq_true', Bool.not_eq_false', Bool.not_eq_true, Bool.not_eq_false, Bool.not_true, Bool.not_false, ne_eq, Bool.false_eq_true, Bool.true_eq_false, reduceCtorEq, beq_iff_eq, beq_eq_false_iff_ne, not_true_eq_false, not_false_eq_true, pair_eta, map_idL, natCast_eq, inI64, maxRow]; first | done | with_reducible assumption | omega)
           | exact map_pair_id _
           | ((try dsimp only [newMovSpec, mrcvSpec, mreadSpec, mstartSpec, mhandSpec, mfinSpec, mphaseSpec, maccSpec, partSpec, partF, accM, Ty.T, Ty.dflt, KT.T, getM, putM, delM, inI64, maxRow]) <;> (try simp only [natCast_eq]) <;> omega)
           | ((try dsimp only [newMovSpec, mrcvSpec, mreadSpec, mstartSpec, mhandSpec, mfinSpec, mphaseSpec, maccSpec, partSpec, partF, accM, Ty.T, Ty.dflt, KT.T, getM, putM, delM, inI64, maxRow] at *) <;> (try simp only [natCast_eq] at *) <;> omega)
           | ((try dsimp only [newMovSpec, mrcvSpec, mreadSpec, mstartSpec, mhandSpec, mfinSpec, mphaseSpec, maccSpec, partSpec, partF, accM, Ty.T, Ty.dflt, KT.T, getM, putM, delM, inI64, maxRow] at *) <;> (try simp only [List.length_append, List.length_cons, List.length_nil, List.length_replicate, List.length_take, List.length_drop, natCast_eq] at *) <;> omega)
           | assumption
           | (symm; assumption)
           | (dsimp only; simp only [Bool.or_true, Bool.true_or, Bool.or_false, Bool.false_or, Bool.and_true, Bool.true_and, Bool.and_false, Bool.false_and, Bool.not_true, Bool.not_false, *]; done)
           | (simp; done)
           | (and_intros <;> first | trivial | with_reducible assumption | omega)
           | ((try dsimp only [newMovSpec, mrcvSpec, mreadSpec, mstartSpec, mhandSpec, mfinSpec, mphaseSpec, maccSpec, partSpec, partF, accM, Ty.T, Ty.dflt, KT.T, getM, putM, delM, inI64, maxRow] at *) <;> simp [*] <;> done))
      | skip
  obtain ⟨i, M, H, hlo, hhi, hm⟩ := x
  have h60 : ¬ 60 < (d.length : Int) := by assumption
  (try (conv in (LoopInv.inv _ _) => dsimp only)); (try (conv in (SS.mk _ _) => cbv; (try dsimp only [newMovSpec, mrcvSpec, mreadSpec, mstartSpec, mhandSpec, mfinSpec, mphaseSpec, maccSpec, partSpec, partF, accM, Ty.T, Ty.dflt, KT.T]); (try simp only [natCast_eq])))
  (with_reducible refine (?_ : T1 _ ?_) ?_; rotate_left 1; (conv => lhs; cbv; (try cbv); (try cbv)); intro hT; clear hT; with_reducible refine Sh.mk (by kernel_rfl) ?_)
  repeat' (first
    | with_reducible refine Ck.mk (C := tt) tt_intro ?_
    | with_reducible refine Ck.mk (show drawOk _ _ = true by kernel_rfl) ?_
    | with_reducible refine Ck.all_cons ?_
    | with_reducible refine Ck.all_nil ?_
    | with_reducible refine Ck.mk (by assumption) ?_
    | with_reducible refine Ck.mk (decide_eq_true (by assumption)) ?_
    | with_reducible refine Ck.mk (decide_eq_false (by assumption)) ?_
    | with_reducible refine Ck.mk ?_ ?_
    | (with_reducible refine Both.mk (fun h => ?_) (fun h => ?_) <;> (have hk := h) <;> (try simp only [decide_eq_true_eq, decide_eq_false_iff_not, Bool.not_eq_true', Bool.not_eq_false', Bool.not_eq_true, Bool.not_eq_false, Bool.not_true, Bool.not_false, ne_eq, Bool.false_eq_true, Bool.true_eq_false, reduceCtorEq, beq_iff_eq, beq_eq_false_iff_ne, not_true_eq_false, not_false_eq_true, pair_eta, map_idL] at h) <;> (try dsimp only [newMovSpec, mrcvSpec, mreadSpec, mstartSpec, mhandSpec, mfinSpec, mphaseSpec, maccSpec, partSpec, partF, accM, Ty.T, Ty.dflt, KT.T, getM, putM, delM] at h) <;> (try simp only [natCast_eq] at h) <;> (try (have A0 := cxA hd h60 hsf.2.1 hm h; have A := A0.f)) <;> (try (have A := cxA' hm h)) <;> (try (have B0 := cxB hd h60 hsf.2.1 A h; have B := B0.f)) <;> (try (have B := cxB' A h)) <;> (try (have lb := u16_at hl hlo (lt_of hhi h))) <;> (try (have C := cxC hd h60 B (mod2 _) (part_pt lb) h)) <;> (try first | rw [if_pos h] at hr | rw [if_neg h] at hr | rw [ifF h] at hr | rw [ifN h] at hr) <;> (try (have hb : (_ : Bool) = _ := h; clear h; subst hb; (try first | rw [if_pos rfl] at hr | rw [if_neg Bool.false_ne_true] at hr))) <;> first | (exfalso; omega) | exact absurd (h.symm.trans (by assumption) : true = false) Bool.noConfusion | exact absurd (h.symm.trans (by assumption) : false = true) Bool.noConfusion | (with_reducible refine (?_ : T1 _ ?_) ?_; rotate_left 1; (conv => lhs; cbv; (try cbv); (try cbv)); intro hT; clear hT; with_reducible refine Sh.mk (by kernel_rfl) ?_))
    | (with_reducible refine Alt.mk (fun h => ?_) (fun h => ?_) <;> (have hk := h) <;> (try simp only [decide_eq_true_eq, decide_eq_false_iff_not, Bool.not_eq_true', Bool.not_eq_false', Bool.not_eq_true, Bool.not_eq_false, Bool.not_true, Bool.not_false, ne_eq, Bool.false_eq_true, Bool.true_eq_false, reduceCtorEq, beq_iff_eq, beq_eq_false_iff_ne, not_true_eq_false, not_false_eq_true, pair_eta, map_idL] at h) <;> (try dsimp only [newMovSpec, mrcvSpec, mreadSpec, mstartSpec, mhandSpec, mfinSpec, mphaseSpec, maccSpec, partSpec, partF, accM, Ty.T, Ty.dflt, KT.T, getM, putM, delM] at h) <;> (try simp only [natCast_eq] at h) <;> (try (have A0 := cxA hd h60 hsf.2.1 hm h; have A := A0.f)) <;> (try (have A := cxA' hm h)) <;> (try (have B0 := cxB hd h60 hsf.2.1 A h; have B := B0.f)) <;> (try (have B := cxB' A h)) <;> (try (have lb := u16_at hl hlo (lt_of hhi h))) <;> (try (have C := cxC hd h60 B (mod2 _) (part_pt lb) h)) <;> (try first | rw [if_pos h] at hr | rw [if_neg h] at hr | rw [ifF h] at hr | rw [ifN h] at hr) <;> (try (have hb : (_ : Bool) = _ := h; clear h; subst hb; (try first | rw [if_pos rfl] at hr | rw [if_neg Bool.false_ne_true] at hr))) <;> first | (exfalso; omega) | exact absurd (h.symm.trans (by assumption) : true = false) Bool.noConfusion | exact absurd (h.symm.trans (by assumption) : false = true) Bool.noConfusion | (with_reducible refine (?_ : T1 _ ?_) ?_; rotate_left 1; (conv => lhs; cbv; (try cbv); (try cbv)); intro hT; clear hT; with_reducible refine Sh.mk (by kernel_rfl) ?_))
    | (with_reducible refine Pick.mk (fun h => ?_) (fun l1 x l2 h => ?_) <;> (with_reducible refine (?_ : T1 _ ?_) ?_; rotate_left 1; (conv => lhs; cbv; (try cbv); (try cbv)); intro hT; clear hT; with_reducible refine Sh.mk (by kernel_rfl) ?_))
    | ((with_reducible refine End.mk ?_); skip)
    | with_reducible exact True.intro)
  all_goals first
    | (fail_if_success (with_reducible refine Exists.intro ?_ ?_)
       first
         | with_reducible rfl
         | with_reducible assumption
         | (dsimp only [newMovSpec, mrcvSpec, mreadSpec, mstartSpec, mhandSpec, mfinSpec, mphaseSpec, maccSpec, partSpec, partF, accM, Ty.T, Ty.dflt, KT.T, getM, putM, delM, inI64, maxRow]; done)
         | (symm; with_reducible assumption)
         | (dsimp only [newMovSpec, mrcvSpec, mreadSpec, mstartSpec, mhandSpec, mfinSpec, mphaseSpec, maccSpec, partSpec, partF, accM, Ty.T, Ty.dflt, KT.T, getM, putM, delM, inI64, maxRow]; first | with_reducible rfl | with_reducible assumption | (symm; with_reducible assumption) | (simp only [natCast_eq]; with_reducible rfl) | omega)
         | omega
         | (dsimp only [newMovSpec, mrcvSpec, mreadSpec, mstartSpec, mhandSpec, mfinSpec, mphaseSpec, maccSpec, partSpec, partF, accM, Ty.T, Ty.dflt, KT.T, getM, putM, delM, inI64, maxRow]; (try simp only [natCast_eq, List.nil_append]); first | with_reducible rfl | exact take_cg (by omega) | exact drop_cg (by omega) | exact take_drop_cg (by omega) (by omega) | exact take_all (by omega) | exact take_drop_all (by omega) (by omega) | exact drop_take_cg (by omega) (by omega) (by omega))
         | first | exact hm.pS | exact A.ok | exact A.pH | exact B0.ok | exact B.ok | exact absurd A0.e h | exact absurd A0.n h | exact absurd B0.e h | exact absurd B0.e2 h | exact absurd C.e h | exact sh_i lb | exact sh_r lb (by decide) | exact ⟨B.ok, C.l⟩ | exact (cxG hd h60 B _).l
         | ((try dsimp only [newMovSpec, mrcvSpec, mreadSpec, mstartSpec, mhandSpec, mfinSpec, mphaseSpec, maccSpec, partSpec, partF, accM, Ty.T, Ty.dflt, KT.T, getM, putM, delM, inI64, maxRow]); simp only [decide_eq_true_eq, decide_eq_false_iff_not, Bool.not_eq_true', Bool.not_eq_false', Bool.not_eq_true, Bool.not_eq_false, Bool.not_true, Bool.not_false, ne_eq, Bool.false_eq_true, Bool.true_eq_false, reduceCtorEq, beq_iff_eq, beq_eq_false_iff_ne, not_true_eq_false, not_false_eq_true, pair_eta, map_idL, natCast_eq, inI64, maxRow]; first | done | with_reducible assumption | omega)
         | exact map_pair_id _
         | ((try dsimp only [newMovSpec, mrcvSpec, mreadSpec, mstartSpec, mhandSpec, mfinSpec, mphaseSpec, maccSpec, partSpec, partF, accM, Ty.T, Ty.dflt, KT.T, getM, putM, delM, inI64, maxRow]) <;> (try simp only [natCast_eq]) <;> omega)
         | ((try dsimp only [newMovSpec, mrcvSpec, mreadSpec, mstartSpec, mhandSpec, mfinSpec, mphaseSpec, maccSpec, partSpec, partF, accM, Ty.T, Ty.dflt, KT.T, getM, putM, delM, inI64, maxRow] at *) <;> (try simp only [natCast_eq] at *) <;> omega)
         | ((try dsimp only [newMovSpec, mrcvSpec, mreadSpec, mstartSpec, mhandSpec, mfinSpec, mphaseSpec, maccSpec, partSpec, partF, accM, Ty.T, Ty.dflt, KT.T, getM, putM, delM, inI64, maxRow] at *) <;> (try simp only [List.length_append, List.length_cons, List.length_nil, List.length_replicate, List.length_take, List.length_drop, natCast_eq] at *) <;> omega)
         | assumption
         | (symm; assumption)
         | (dsimp only; simp only [Bool.or_true, Bool.true_or, Bool.or_false, Bool.false_or, Bool.and_true, Bool.true_and, Bool.and_false, Bool.false_and, Bool.not_true, Bool.not_false, *]; done)
         | (simp; done)
         | (and_intros <;> first | trivial | with_reducible assumption | omega)
         | ((try dsimp only [newMovSpec, mrcvSpec, mreadSpec, mstartSpec, mhandSpec, mfinSpec, mphaseSpec, maccSpec, partSpec, partF, accM, Ty.T, Ty.dflt, KT.T, getM, putM, delM, inI64, maxRow] at *) <;> simp [*] <;> done))
    | skip
  all_goals
    try (obtain ⟨x0, hx0, hx1⟩ := lF0 hsf.2.1 hsf.2.2 h B
         refine ⟨⟨LFx d H _, fun x => ⟨[(0, Sx.one (.ro (.int .u8) (fun _ => d))), (9, Sx.one (.ptr 0 0)), (14, Sx.one (.hd 2 0)), (157, Sx.one (.hd 1 0)), (158, Sx.one (.int .i64 (fun _ => d.length))), (159, Sx.one (.int .i64 (fun _ => x.k)))], [.abs (.mov (fun _ => x.M)), .row 4 .bool 0 (fun _ => H), .row 5 (.int .u8) 0 (fun _ => d.take (rdO M).toNat)]⟩, fun x => (d.length - x.k).toNat, x0⟩, ?_, fun x3 => ?_⟩
         · (try (conv in (LoopInv.inv _ _) => dsimp only)); (try (conv in (SS.mk _ _) => cbv; (try dsimp only [newMovSpec, mrcvSpec, mreadSpec, mstartSpec, mhandSpec, mfinSpec, mphaseSpec, maccSpec, partSpec, partF, accM, Ty.T, Ty.dflt, KT.T]); (try simp only [natCast_eq])))
           (with_reducible refine (?_ : T1 _ ?_) ?_; rotate_left 1; (conv => lhs; cbv; (try cbv); (try cbv)); intro hT; clear hT; with_reducible refine Sh.mk (by kernel_rfl) ?_)
           repeat' (first
             | with_reducible refine Ck.mk (C := tt) tt_intro ?_
             | with_reducible refine Ck.mk (show drawOk _ _ = true by kernel_rfl) ?_
             | with_reducible refine Ck.all_cons ?_
             | with_reducible refine Ck.all_nil ?_
             | with_reducible refine Ck.mk (by assumption) ?_
             | with_reducible refine Ck.mk (decide_eq_true (by assumption)) ?_
             | with_reducible refine Ck.mk (decide_eq_false (by assumption)) ?_
             | with_reducible refine Ck.mk ?_ ?_
             | (with_reducible refine Both.mk (fun h => ?_) (fun h => ?_) <;> (have hk := h) <;> (try simp only [decide_eq_true_eq, decide_eq_false_iff_not, Bool.not_eq_true', Bool.not_eq_false', Bool.not_eq_true, Bool.not_eq_false, Bool.not_true, Bool.not_false, ne_eq, Bool.false_eq_true, Bool.true_eq_false, reduceCtorEq, beq_iff_eq, beq_eq_false_iff_ne, not_true_eq_false, not_false_eq_true, pair_eta, map_idL] at h) <;> (try dsimp only [newMovSpec, mrcvSpec, mreadSpec, mstartSpec, mhandSpec, mfinSpec, mphaseSpec, maccSpec, partSpec, partF, accM, Ty.T, Ty.dflt, KT.T, getM, putM, delM] at h) <;> (try simp only [natCast_eq] at h) <;> (try (have A0 := cxA hd h60 hsf.2.1 hm h; have A := A0.f)) <;> (try (have A := cxA' hm h)) <;> (try (have B0 := cxB hd h60 hsf.2.1 A h; have B := B0.f)) <;> (try (have B := cxB' A h)) <;> (try (have lb := u16_at hl hlo (lt_of hhi h))) <;> (try (have C := cxC hd h60 B (mod2 _) (part_pt lb) h)) <;> (try first | rw [if_pos h] at hr | rw [if_neg h] at hr | rw [ifF h] at hr | rw [ifN h] at hr) <;> (try (have hb : (_ : Bool) = _ := h; clear h; subst hb; (try first | rw [if_pos rfl] at hr | rw [if_neg Bool.false_ne_true] at hr))) <;> first | (exfalso; omega) | exact absurd (h.symm.trans (by assumption) : true = false) Bool.noConfusion | exact absurd (h.symm.trans (by assumption) : false = true) Bool.noConfusion | (with_reducible refine (?_ : T1 _ ?_) ?_; rotate_left 1; (conv => lhs; cbv; (try cbv); (try cbv)); intro hT; clear hT; with_reducible refine Sh.mk (by kernel_rfl) ?_))
             | (with_reducible refine Alt.mk (fun h => ?_) (fun h => ?_) <;> (have hk := h) <;> (try simp only [decide_eq_true_eq, decide_eq_false_iff_not, Bool.not_eq_true', Bool.not_eq_false', Bool.not_eq_true, Bool.not_eq_false, Bool.not_true, Bool.not_false, ne_eq, Bool.false_eq_true, Bool.true_eq_false, reduceCtorEq, beq_iff_eq, beq_eq_false_iff_ne, not_true_eq_false, not_false_eq_true, pair_eta, map_idL] at h) <;> (try dsimp only [newMovSpec, mrcvSpec, mreadSpec, mstartSpec, mhandSpec, mfinSpec, mphaseSpec, maccSpec, partSpec, partF, accM, Ty.T, Ty.dflt, KT.T, getM, putM, delM] at h) <;> (try simp only [natCast_eq] at h) <;> (try (have A0 := cxA hd h60 hsf.2.1 hm h; have A := A0.f)) <;> (try (have A := cxA' hm h)) <;> (try (have B0 := cxB hd h60 hsf.2.1 A h; have B := B0.f)) <;> (try (have B := cxB' A h)) <;> (try (have lb := u16_at hl hlo (lt_of hhi h))) <;> (try (have C := cxC hd h60 B (mod2 _) (part_pt lb) h)) <;> (try first | rw [if_pos h] at hr | rw [if_neg h] at hr | rw [ifF h] at hr | rw [ifN h] at hr) <;> (try (have hb : (_ : Bool) = _ := h; clear h; subst hb; (try first | rw [if_pos rfl] at hr | rw [if_neg Bool.false_ne_true] at hr))) <;> first | (exfalso; omega) | exact absurd (h.symm.trans (by assumption) : true = false) Bool.noConfusion | exact absurd (h.symm.trans (by assumption) : false = true) Bool.noConfusion | (with_reducible refine (?_ : T1 _ ?_) ?_; rotate_left 1; (conv => lhs; cbv; (try cbv); (try cbv)); intro hT; clear hT; with_reducible refine Sh.mk (by kernel_rfl) ?_))
             | (with_reducible refine Pick.mk (fun h => ?_) (fun l1 x l2 h => ?_) <;> (with_reducible refine (?_ : T1 _ ?_) ?_; rotate_left 1; (conv => lhs; cbv; (try cbv); (try cbv)); intro hT; clear hT; with_reducible refine Sh.mk (by kernel_rfl) ?_))
             | ((with_reducible refine End.mk ?_); skip)
             | with_reducible exact True.intro)
           all_goals first
             | (fail_if_success (with_reducible refine Exists.intro ?_ ?_)
                first
                  | with_reducible rfl
                  | with_reducible assumption
                  | (dsimp only [newMovSpec, mrcvSpec, mreadSpec, mstartSpec, mhandSpec, mfinSpec, mphaseSpec, maccSpec, partSpec, partF, accM, Ty.T, Ty.dflt, KT.T, getM, putM, delM, inI64, maxRow]; done)
                  | (symm; with_reducible assumption)
                  | (dsimp only [newMovSpec, mrcvSpec, mreadSpec, mstartSpec, mhandSpec, mfinSpec, mphaseSpec, maccSpec, partSpec, partF, accM, Ty.T, Ty.dflt, KT.T, getM, putM, delM, inI64, maxRow]; first | with_reducible rfl | with_reducible assumption | (symm; with_reducible assumption) | (simp only [natCast_eq]; with_reducible rfl) | omega)
                  | omega
                  | (dsimp only [newMovSpec, mrcvSpec, mreadSpec, mstartSpec, mhandSpec, mfinSpec, mphaseSpec, maccSpec, partSpec, partF, accM, Ty.T, Ty.dflt, KT.T, getM, putM, delM, inI64, maxRow]; (try simp only [natCast_eq, List.nil_append]); first | with_reducible rfl | exact take_cg (by omega) | exact drop_cg (by omega) | exact take_drop_cg (by omega) (by omega) | exact take_all (by omega) | exact take_drop_all (by omega) (by omega) | exact drop_take_cg (by omega) (by omega) (by omega))
                  | first | exact hx1.symm | (rw [B.cov.len]; done) | exact congrArg Int.ofNat B.cov.len
                  | ((try dsimp only [newMovSpec, mrcvSpec, mreadSpec, mstartSpec, mhandSpec, mfinSpec, mphaseSpec, maccSpec, partSpec, partF, accM, Ty.T, Ty.dflt, KT.T, getM, putM, delM, inI64, maxRow]); simp only [decide_eq_true_eq, decide_eq_false_iff_not, Bool.not_eq_true', Bool.not_eq_false', Bool.not_eq_true, Bool.not_eq_false, Bool.not_true, Bool.not_false, ne_eq, Bool.false_eq_true, Bool.true_eq_false, reduceCtorEq, beq_iff_eq, beq_eq_false_iff_ne, not_true_eq_false, not_false_eq_true, pair_eta, map_idL, natCast_eq, inI64, maxRow]; first | done | with_reducible assumption | omega)
                  | exact map_pair_id _
                  | ((try dsimp only [newMovSpec, mrcvSpec, mreadSpec, mstartSpec, mhandSpec, mfinSpec, mphaseSpec, maccSpec, partSpec, partF, accM, Ty.T, Ty.dflt, KT.T, getM, putM, delM, inI64, maxRow]) <;> (try simp only [natCast_eq]) <;> omega)
                  | ((try dsimp only [newMovSpec, mrcvSpec, mreadSpec, mstartSpec, mhandSpec, mfinSpec, mphaseSpec, maccSpec, partSpec, partF, accM, Ty.T, Ty.dflt, KT.T, getM, putM, delM, inI64, maxRow] at *) <;> (try simp only [natCast_eq] at *) <;> omega)
                  | ((try dsimp only [newMovSpec, mrcvSpec, mreadSpec, mstartSpec, mhandSpec, mfinSpec, mphaseSpec, maccSpec, partSpec, partF, accM, Ty.T, Ty.dflt, KT.T, getM, putM, delM, inI64, maxRow] at *) <;> (try simp only [List.length_append, List.length_cons, List.length_nil, List.length_replicate, List.length_take, List.length_drop, natCast_eq] at *) <;> omega)
                  | assumption
                  | (symm; assumption)
                  | (dsimp only; simp only [Bool.or_true, Bool.true_or, Bool.or_false, Bool.false_or, Bool.and_true, Bool.true_and, Bool.and_false, Bool.false_and, Bool.not_true, Bool.not_false, *]; done)
                  | (simp; done)
                  | (and_intros <;> first | trivial | with_reducible assumption | omega)
                  | ((try dsimp only [newMovSpec, mrcvSpec, mreadSpec, mstartSpec, mhandSpec, mfinSpec, mphaseSpec, maccSpec, partSpec, partF, accM, Ty.T, Ty.dflt, KT.T, getM, putM, delM, inI64, maxRow] at *) <;> simp [*] <;> done))
             | skip
         have hlo3 := x3.lo
         have hlen3 := x3.f.cov.len
         (try (conv in (LoopInv.inv _ _) => dsimp only)); (try (conv in (SS.mk _ _) => cbv; (try dsimp only [newMovSpec, mrcvSpec, mreadSpec, mstartSpec, mhandSpec, mfinSpec, mphaseSpec, maccSpec, partSpec, partF, accM, Ty.T, Ty.dflt, KT.T]); (try simp only [natCast_eq])))
         (with_reducible refine (?_ : T1 _ ?_) ?_; rotate_left 1; (conv => lhs; cbv; (try cbv); (try cbv)); intro hT; clear hT; with_reducible refine Sh.mk (by kernel_rfl) ?_)
         repeat' (first
           | with_reducible refine Ck.mk (C := tt) tt_intro ?_
           | with_reducible refine Ck.mk (show drawOk _ _ = true by kernel_rfl) ?_
           | with_reducible refine Ck.all_cons ?_
           | with_reducible refine Ck.all_nil ?_
           | with_reducible refine Ck.mk (by assumption) ?_
           | with_reducible refine Ck.mk (decide_eq_true (by assumption)) ?_
           | with_reducible refine Ck.mk (decide_eq_false (by assumption)) ?_
           | with_reducible refine Ck.mk ?_ ?_
           | (with_reducible refine Both.mk (fun h => ?_) (fun h => ?_) <;> (have hk := h) <;> (try simp only [decide_eq_true_eq, decide_eq_false_iff_not, Bool.not_eq_true', Bool.not_eq_false', Bool.not_eq_true, Bool.not_eq_false, Bool.not_true, Bool.not_false, ne_eq, Bool.false_eq_true, Bool.true_eq_false, reduceCtorEq, beq_iff_eq, beq_eq_false_iff_ne, not_true_eq_false, not_false_eq_true, pair_eta, map_idL] at h) <;> (try dsimp only [newMovSpec, mrcvSpec, mreadSpec, mstartSpec, mhandSpec, mfinSpec, mphaseSpec, maccSpec, partSpec, partF, accM, Ty.T, Ty.dflt, KT.T, getM, putM, delM] at h) <;> (try simp only [natCast_eq] at h) <;> (try (have A0 := cxA hd h60 hsf.2.1 hm h; have A := A0.f)) <;> (try (have A := cxA' hm h)) <;> (try (have B0 := cxB hd h60 hsf.2.1 A h; have B := B0.f)) <;> (try (have B := cxB' A h)) <;> (try (have lb := u16_at hl hlo (lt_of hhi h))) <;> (try (have C := cxC hd h60 B (mod2 _) (part_pt lb) h)) <;> (try first | rw [if_pos h] at hr | rw [if_neg h] at hr | rw [ifF h] at hr | rw [ifN h] at hr) <;> (try (have hb : (_ : Bool) = _ := h; clear h; subst hb; (try first | rw [if_pos rfl] at hr | rw [if_neg Bool.false_ne_true] at hr))) <;> first | (exfalso; omega) | exact absurd (h.symm.trans (by assumption) : true = false) Bool.noConfusion | exact absurd (h.symm.trans (by assumption) : false = true) Bool.noConfusion | (with_reducible refine (?_ : T1 _ ?_) ?_; rotate_left 1; (conv => lhs; cbv; (try cbv); (try cbv)); intro hT; clear hT; with_reducible refine Sh.mk (by kernel_rfl) ?_))
           | (with_reducible refine Alt.mk (fun h => ?_) (fun h => ?_) <;> (have hk := h) <;> (try simp only [decide_eq_true_eq, decide_eq_false_iff_not, Bool.not_eq_true', Bool.not_eq_false', Bool.not_eq_true, Bool.not_eq_false, Bool.not_true, Bool.not_false, ne_eq, Bool.false_eq_true, Bool.true_eq_false, reduceCtorEq, beq_iff_eq, beq_eq_false_iff_ne, not_true_eq_false, not_false_eq_true, pair_eta, map_idL] at h) <;> (try dsimp only [newMovSpec, mrcvSpec, mreadSpec, mstartSpec, mhandSpec, mfinSpec, mphaseSpec, maccSpec, partSpec, partF, accM, Ty.T, Ty.dflt, KT.T, getM, putM, delM] at h) <;> (try simp only [natCast_eq] at h) <;> (try (have A0 := cxA hd h60 hsf.2.1 hm h; have A := A0.f)) <;> (try (have A := cxA' hm h)) <;> (try (have B0 := cxB hd h60 hsf.2.1 A h; have B := B0.f)) <;> (try (have B := cxB' A h)) <;> (try (have lb := u16_at hl hlo (lt_of hhi h))) <;> (try (have C := cxC hd h60 B (mod2 _) (part_pt lb) h)) <;> (try first | rw [if_pos h] at hr | rw [if_neg h] at hr | rw [ifF h] at hr | rw [ifN h] at hr) <;> (try (have hb : (_ : Bool) = _ := h; clear h; subst hb; (try first | rw [if_pos rfl] at hr | rw [if_neg Bool.false_ne_true] at hr))) <;> first | (exfalso; omega) | exact absurd (h.symm.trans (by assumption) : true = false) Bool.noConfusion | exact absurd (h.symm.trans (by assumption) : false = true) Bool.noConfusion | (with_reducible refine (?_ : T1 _ ?_) ?_; rotate_left 1; (conv => lhs; cbv; (try cbv); (try cbv)); intro hT; clear hT; with_reducible refine Sh.mk (by kernel_rfl) ?_))
           | (with_reducible refine Pick.mk (fun h => ?_) (fun l1 x l2 h => ?_) <;> (with_reducible refine (?_ : T1 _ ?_) ?_; rotate_left 1; (conv => lhs; cbv; (try cbv); (try cbv)); intro hT; clear hT; with_reducible refine Sh.mk (by kernel_rfl) ?_))
           | ((with_reducible refine End.mk ?_); skip)
           | with_reducible exact True.intro)
         all_goals first
           | (fail_if_success (with_reducible refine Exists.intro ?_ ?_)
              first
                | with_reducible rfl
                | with_reducible assumption
                | (dsimp only [newMovSpec, mrcvSpec, mreadSpec, mstartSpec, mhandSpec, mfinSpec, mphaseSpec, maccSpec, partSpec, partF, accM, Ty.T, Ty.dflt, KT.T, getM, putM, delM, inI64, maxRow]; done)
                | (symm; with_reducible assumption)
                | (dsimp only [newMovSpec, mrcvSpec, mreadSpec, mstartSpec, mhandSpec, mfinSpec, mphaseSpec, maccSpec, partSpec, partF, accM, Ty.T, Ty.dflt, KT.T, getM, putM, delM, inI64, maxRow]; first | with_reducible rfl | with_reducible assumption | (symm; with_reducible assumption) | (simp only [natCast_eq]; with_reducible rfl) | omega)
                | omega
                | (dsimp only [newMovSpec, mrcvSpec, mreadSpec, mstartSpec, mhandSpec, mfinSpec, mphaseSpec, maccSpec, partSpec, partF, accM, Ty.T, Ty.dflt, KT.T, getM, putM, delM, inI64, maxRow]; (try simp only [natCast_eq, List.nil_append]); first | with_reducible rfl | exact take_cg (by omega) | exact drop_cg (by omega) | exact take_drop_cg (by omega) (by omega) | exact take_all (by omega) | exact take_drop_all (by omega) (by omega) | exact drop_take_cg (by omega) (by omega) (by omega))
                | first | exact (cxK hd h60 x3 (by assumption)).1 | exact absurd (cxK hd h60 x3 (by assumption)).2.1 h | exact x3.f.ok | exact (cxE hd h60 x3 (by assumption)).l | exact (cxE hd h60 x3 (by assumption)).b | exact absurd (cxE hd h60 x3 (by assumption)).e h | exact (decide_eq_true (ph_mov (cxE hd h60 x3 (by assumption)).p)).trans (congrArg Prod.fst hr)
                | ((try dsimp only [newMovSpec, mrcvSpec, mreadSpec, mstartSpec, mhandSpec, mfinSpec, mphaseSpec, maccSpec, partSpec, partF, accM, Ty.T, Ty.dflt, KT.T, getM, putM, delM, inI64, maxRow]); simp only [decide_eq_true_eq, decide_eq_false_iff_not, Bool.not_eq_true', Bool.not_eq_false', Bool.not_eq_true, Bool.not_eq_false, Bool.not_true, Bool.not_false, ne_eq, Bool.false_eq_true, Bool.true_eq_false, reduceCtorEq, beq_iff_eq, beq_eq_false_iff_ne, not_true_eq_false, not_false_eq_true, pair_eta, map_idL, natCast_eq, inI64, maxRow]; first | done | with_reducible assumption | omega)
                | exact map_pair_id _
                | ((try dsimp only [newMovSpec, mrcvSpec, mreadSpec, mstartSpec, mhandSpec, mfinSpec, mphaseSpec, maccSpec, partSpec, partF, accM, Ty.T, Ty.dflt, KT.T, getM, putM, delM, inI64, maxRow]) <;> (try simp only [natCast_eq]) <;> omega)
                | ((try dsimp only [newMovSpec, mrcvSpec, mreadSpec, mstartSpec, mhandSpec, mfinSpec, mphaseSpec, maccSpec, partSpec, partF, accM, Ty.T, Ty.dflt, KT.T, getM, putM, delM, inI64, maxRow] at *) <;> (try simp only [natCast_eq] at *) <;> omega)
                | ((try dsimp only [newMovSpec, mrcvSpec, mreadSpec, mstartSpec, mhandSpec, mfinSpec, mphaseSpec, maccSpec, partSpec, partF, accM, Ty.T, Ty.dflt, KT.T, getM, putM, delM, inI64, maxRow] at *) <;> (try simp only [List.length_append, List.length_cons, List.length_nil, List.length_replicate, List.length_take, List.length_drop, natCast_eq] at *) <;> omega)
                | assumption
                | (symm; assumption)
                | (dsimp only; simp only [Bool.or_true, Bool.true_or, Bool.or_false, Bool.false_or, Bool.and_true, Bool.true_and, Bool.and_false, Bool.false_and, Bool.not_true, Bool.not_false, *]; done)
                | (simp; done)
                | (and_intros <;> first | trivial | with_reducible assumption | omega)
                | ((try dsimp only [newMovSpec, mrcvSpec, mreadSpec, mstartSpec, mhandSpec, mfinSpec, mphaseSpec, maccSpec, partSpec, partF, accM, Ty.T, Ty.dflt, KT.T, getM, putM, delM, inI64, maxRow] at *) <;> simp [*] <;> done))
           | skip
         all_goals
           (first
             | (refine Exists.elim (cxJ x3 (by assumption) h) ?_
                rintro y ⟨hy0, hy1⟩
                refine ⟨y, by (try dsimp only); (try simp only [natCast_eq]); omega, ?_⟩
                (try (conv in (LoopInv.inv _ _) => dsimp only)); (try (conv in (SS.mk _ _) => cbv; (try dsimp only [newMovSpec, mrcvSpec, mreadSpec, mstartSpec, mhandSpec, mfinSpec, mphaseSpec, maccSpec, partSpec, partF, accM, Ty.T, Ty.dflt, KT.T]); (try simp only [natCast_eq])))
                (with_reducible refine (?_ : T1 _ ?_) ?_; rotate_left 1; (conv => lhs; cbv; (try cbv); (try cbv)); intro hT; clear hT; with_reducible refine Sh.mk (by kernel_rfl) ?_)
                repeat' (first
                  | with_reducible refine Ck.mk (C := tt) tt_intro ?_
                  | with_reducible refine Ck.mk (show drawOk _ _ = true by kernel_rfl) ?_
                  | with_reducible refine Ck.all_cons ?_
                  | with_reducible refine Ck.all_nil ?_
                  | with_reducible refine Ck.mk (by assumption) ?_
                  | with_reducible refine Ck.mk (decide_eq_true (by assumption)) ?_
                  | with_reducible refine Ck.mk (decide_eq_false (by assumption)) ?_
                  | with_reducible refine Ck.mk ?_ ?_
                  | (with_reducible refine Both.mk (fun h => ?_) (fun h => ?_) <;> (have hk := h) <;> (try simp only [decide_eq_true_eq, decide_eq_false_iff_not, Bool.not_eq_true', Bool.not_eq_false', Bool.not_eq_true, Bool.not_eq_false, Bool.not_true, Bool.not_false, ne_eq, Bool.false_eq_true, Bool.true_eq_false, reduceCtorEq, beq_iff_eq, beq_eq_false_iff_ne, not_true_eq_false, not_false_eq_true, pair_eta, map_idL] at h) <;> (try dsimp only [newMovSpec, mrcvSpec, mreadSpec, mstartSpec, mhandSpec, mfinSpec, mphaseSpec, maccSpec, partSpec, partF, accM, Ty.T, Ty.dflt, KT.T, getM, putM, delM] at h) <;> (try simp only [natCast_eq] at h) <;> (try (have A0 := cxA hd h60 hsf.2.1 hm h; have A := A0.f)) <;> (try (have A := cxA' hm h)) <;> (try (have B0 := cxB hd h60 hsf.2.1 A h; have B := B0.f)) <;> (try (have B := cxB' A h)) <;> (try (have lb := u16_at hl hlo (lt_of hhi h))) <;> (try (have C := cxC hd h60 B (mod2 _) (part_pt lb) h)) <;> (try first | rw [if_pos h] at hr | rw [if_neg h] at hr | rw [ifF h] at hr | rw [ifN h] at hr) <;> (try (have hb : (_ : Bool) = _ := h; clear h; subst hb; (try first | rw [if_pos rfl] at hr | rw [if_neg Bool.false_ne_true] at hr))) <;> first | (exfalso; omega) | exact absurd (h.symm.trans (by assumption) : true = false) Bool.noConfusion | exact absurd (h.symm.trans (by assumption) : false = true) Bool.noConfusion | (with_reducible refine (?_ : T1 _ ?_) ?_; rotate_left 1; (conv => lhs; cbv; (try cbv); (try cbv)); intro hT; clear hT; with_reducible refine Sh.mk (by kernel_rfl) ?_))
                  | (with_reducible refine Alt.mk (fun h => ?_) (fun h => ?_) <;> (have hk := h) <;> (try simp only [decide_eq_true_eq, decide_eq_false_iff_not, Bool.not_eq_true', Bool.not_eq_false', Bool.not_eq_true, Bool.not_eq_false, Bool.not_true, Bool.not_false, ne_eq, Bool.false_eq_true, Bool.true_eq_false, reduceCtorEq, beq_iff_eq, beq_eq_false_iff_ne, not_true_eq_false, not_false_eq_true, pair_eta, map_idL] at h) <;> (try dsimp only [newMovSpec, mrcvSpec, mreadSpec, mstartSpec, mhandSpec, mfinSpec, mphaseSpec, maccSpec, partSpec, partF, accM, Ty.T, Ty.dflt, KT.T, getM, putM, delM] at h) <;> (try simp only [natCast_eq] at h) <;> (try (have A0 := cxA hd h60 hsf.2.1 hm h; have A := A0.f)) <;> (try (have A := cxA' hm h)) <;> (try (have B0 := cxB hd h60 hsf.2.1 A h; have B := B0.f)) <;> (try (have B := cxB' A h)) <;> (try (have lb := u16_at hl hlo (lt_of hhi h))) <;> (try (have C := cxC hd h60 B (mod2 _) (part_pt lb) h)) <;> (try first | rw [if_pos h] at hr | rw [if_neg h] at hr | rw [ifF h] at hr | rw [ifN h] at hr) <;> (try (have hb : (_ : Bool) = _ := h; clear h; subst hb; (try first | rw [if_pos rfl] at hr | rw [if_neg Bool.false_ne_true] at hr))) <;> first | (exfalso; omega) | exact absurd (h.symm.trans (by assumption) : true = false) Bool.noConfusion | exact absurd (h.symm.trans (by assumption) : false = true) Bool.noConfusion | (with_reducible refine (?_ : T1 _ ?_) ?_; rotate_left 1; (conv => lhs; cbv; (try cbv); (try cbv)); intro hT; clear hT; with_reducible refine Sh.mk (by kernel_rfl) ?_))
                  | (with_reducible refine Pick.mk (fun h => ?_) (fun l1 x l2 h => ?_) <;> (with_reducible refine (?_ : T1 _ ?_) ?_; rotate_left 1; (conv => lhs; cbv; (try cbv); (try cbv)); intro hT; clear hT; with_reducible refine Sh.mk (by kernel_rfl) ?_))
                  | ((with_reducible refine End.mk ?_); skip)
                  | with_reducible exact True.intro)
                all_goals first
                  | (fail_if_success (with_reducible refine Exists.intro ?_ ?_)
                     first
                       | with_reducible rfl
                       | with_reducible assumption
                       | (dsimp only [newMovSpec, mrcvSpec, mreadSpec, mstartSpec, mhandSpec, mfinSpec, mphaseSpec, maccSpec, partSpec, partF, accM, Ty.T, Ty.dflt, KT.T, getM, putM, delM, inI64, maxRow]; done)
                       | (symm; with_reducible assumption)
                       | (dsimp only [newMovSpec, mrcvSpec, mreadSpec, mstartSpec, mhandSpec, mfinSpec, mphaseSpec, maccSpec, partSpec, partF, accM, Ty.T, Ty.dflt, KT.T, getM, putM, delM, inI64, maxRow]; first | with_reducible rfl | with_reducible assumption | (symm; with_reducible assumption) | (simp only [natCast_eq]; with_reducible rfl) | omega)
                       | omega
                       | (dsimp only [newMovSpec, mrcvSpec, mreadSpec, mstartSpec, mhandSpec, mfinSpec, mphaseSpec, maccSpec, partSpec, partF, accM, Ty.T, Ty.dflt, KT.T, getM, putM, delM, inI64, maxRow]; (try simp only [natCast_eq, List.nil_append]); first | with_reducible rfl | exact take_cg (by omega) | exact drop_cg (by omega) | exact take_drop_cg (by omega) (by omega) | exact take_all (by omega) | exact take_drop_all (by omega) (by omega) | exact drop_take_cg (by omega) (by omega) (by omega))
                       | exact hy1.symm
                       | ((try dsimp only [newMovSpec, mrcvSpec, mreadSpec, mstartSpec, mhandSpec, mfinSpec, mphaseSpec, maccSpec, partSpec, partF, accM, Ty.T, Ty.dflt, KT.T, getM, putM, delM, inI64, maxRow]); simp only [decide_eq_true_eq, decide_eq_false_iff_not, Bool.not_eq_true', Bool.not_eq_false', Bool.not_eq_true, Bool.not_eq_false, Bool.not_true, Bool.not_false, ne_eq, Bool.false_eq_true, Bool.true_eq_false, reduceCtorEq, beq_iff_eq, beq_eq_false_iff_ne, not_true_eq_false, not_false_eq_true, pair_eta, map_idL, natCast_eq, inI64, maxRow]; first | done | with_reducible assumption | omega)
                       | exact map_pair_id _
                       | ((try dsimp only [newMovSpec, mrcvSpec, mreadSpec, mstartSpec, mhandSpec, mfinSpec, mphaseSpec, maccSpec, partSpec, partF, accM, Ty.T, Ty.dflt, KT.T, getM, putM, delM, inI64, maxRow]) <;> (try simp only [natCast_eq]) <;> omega)
                       | ((try dsimp only [newMovSpec, mrcvSpec, mreadSpec, mstartSpec, mhandSpec, mfinSpec, mphaseSpec, maccSpec, partSpec, partF, accM, Ty.T, Ty.dflt, KT.T, getM, putM, delM, inI64, maxRow] at *) <;> (try simp only [natCast_eq] at *) <;> omega)
                       | ((try dsimp only [newMovSpec, mrcvSpec, mreadSpec, mstartSpec, mhandSpec, mfinSpec, mphaseSpec, maccSpec, partSpec, partF, accM, Ty.T, Ty.dflt, KT.T, getM, putM, delM, inI64, maxRow] at *) <;> (try simp only [List.length_append, List.length_cons, List.length_nil, List.length_replicate, List.length_take, List.length_drop, natCast_eq] at *) <;> omega)
                       | assumption
                       | (symm; assumption)
                       | (dsimp only; simp only [Bool.or_true, Bool.true_or, Bool.or_false, Bool.false_or, Bool.and_true, Bool.true_and, Bool.and_false, Bool.false_and, Bool.not_true, Bool.not_false, *]; done)
                       | (simp; done)
                       | (and_intros <;> first | trivial | with_reducible assumption | omega)
                       | ((try dsimp only [newMovSpec, mrcvSpec, mreadSpec, mstartSpec, mhandSpec, mfinSpec, mphaseSpec, maccSpec, partSpec, partF, accM, Ty.T, Ty.dflt, KT.T, getM, putM, delM, inI64, maxRow] at *) <;> simp [*] <;> done))
                  | skip
                skip)
             | (refine Exists.elim (cxK hd h60 x3 (by assumption)).2.2 ?_
                rintro y ⟨hy0, hy1⟩
                refine ⟨y, by (try dsimp only); (try simp only [natCast_eq]); omega, ?_⟩
                (try (conv in (LoopInv.inv _ _) => dsimp only)); (try (conv in (SS.mk _ _) => cbv; (try dsimp only [newMovSpec, mrcvSpec, mreadSpec, mstartSpec, mhandSpec, mfinSpec, mphaseSpec, maccSpec, partSpec, partF, accM, Ty.T, Ty.dflt, KT.T]); (try simp only [natCast_eq])))
                (with_reducible refine (?_ : T1 _ ?_) ?_; rotate_left 1; (conv => lhs; cbv; (try cbv); (try cbv)); intro hT; clear hT; with_reducible refine Sh.mk (by kernel_rfl) ?_)
                repeat' (first
                  | with_reducible refine Ck.mk (C := tt) tt_intro ?_
                  | with_reducible refine Ck.mk (show drawOk _ _ = true by kernel_rfl) ?_
                  | with_reducible refine Ck.all_cons ?_
                  | with_reducible refine Ck.all_nil ?_
                  | with_reducible refine Ck.mk (by assumption) ?_
                  | with_reducible refine Ck.mk (decide_eq_true (by assumption)) ?_
                  | with_reducible refine Ck.mk (decide_eq_false (by assumption)) ?_
                  | with_reducible refine Ck.mk ?_ ?_
                  | (with_reducible refine Both.mk (fun h => ?_) (fun h => ?_) <;> (have hk := h) <;> (try simp only [decide_eq_true_eq, decide_eq_false_iff_not, Bool.not_eq_true', Bool.not_eq_false', Bool.not_eq_true, Bool.not_eq_false, Bool.not_true, Bool.not_false, ne_eq, Bool.false_eq_true, Bool.true_eq_false, reduceCtorEq, beq_iff_eq, beq_eq_false_iff_ne, not_true_eq_false, not_false_eq_true, pair_eta, map_idL] at h) <;> (try dsimp only [newMovSpec, mrcvSpec, mreadSpec, mstartSpec, mhandSpec, mfinSpec, mphaseSpec, maccSpec, partSpec, partF, accM, Ty.T, Ty.dflt, KT.T, getM, putM, delM] at h) <;> (try simp only [natCast_eq] at h) <;> (try (have A0 := cxA hd h60 hsf.2.1 hm h; have A := A0.f)) <;> (try (have A := cxA' hm h)) <;> (try (have B0 := cxB hd h60 hsf.2.1 A h; have B := B0.f)) <;> (try (have B := cxB' A h)) <;> (try (have lb := u16_at hl hlo (lt_of hhi h))) <;> (try (have C := cxC hd h60 B (mod2 _) (part_pt lb) h)) <;> (try first | rw [if_pos h] at hr | rw [if_neg h] at hr | rw [ifF h] at hr | rw [ifN h] at hr) <;> (try (have hb : (_ : Bool) = _ := h; clear h; subst hb; (try first | rw [if_pos rfl] at hr | rw [if_neg Bool.false_ne_true] at hr))) <;> first | (exfalso; omega) | exact absurd (h.symm.trans (by assumption) : true = false) Bool.noConfusion | exact absurd (h.symm.trans (by assumption) : false = true) Bool.noConfusion | (with_reducible refine (?_ : T1 _ ?_) ?_; rotate_left 1; (conv => lhs; cbv; (try cbv); (try cbv)); intro hT; clear hT; with_reducible refine Sh.mk (by kernel_rfl) ?_))
                  | (with_reducible refine Alt.mk (fun h => ?_) (fun h => ?_) <;> (have hk := h) <;> (try simp only [decide_eq_true_eq, decide_eq_false_iff_not, Bool.not_eq_true', Bool.not_eq_false', Bool.not_eq_true, Bool.not_eq_false, Bool.not_true, Bool.not_false, ne_eq, Bool.false_eq_true, Bool.true_eq_false, reduceCtorEq, beq_iff_eq, beq_eq_false_iff_ne, not_true_eq_false, not_false_eq_true, pair_eta, map_idL] at h) <;> (try dsimp only [newMovSpec, mrcvSpec, mreadSpec, mstartSpec, mhandSpec, mfinSpec, mphaseSpec, maccSpec, partSpec, partF, accM, Ty.T, Ty.dflt, KT.T, getM, putM, delM] at h) <;> (try simp only [natCast_eq] at h) <;> (try (have A0 := cxA hd h60 hsf.2.1 hm h; have A := A0.f)) <;> (try (have A := cxA' hm h)) <;> (try (have B0 := cxB hd h60 hsf.2.1 A h; have B := B0.f)) <;> (try (have B := cxB' A h)) <;> (try (have lb := u16_at hl hlo (lt_of hhi h))) <;> (try (have C := cxC hd h60 B (mod2 _) (part_pt lb) h)) <;> (try first | rw [if_pos h] at hr | rw [if_neg h] at hr | rw [ifF h] at hr | rw [ifN h] at hr) <;> (try (have hb : (_ : Bool) = _ := h; clear h; subst hb; (try first | rw [if_pos rfl] at hr | rw [if_neg Bool.false_ne_true] at hr))) <;> first | (exfalso; omega) | exact absurd (h.symm.trans (by assumption) : true = false) Bool.noConfusion | exact absurd (h.symm.trans (by assumption) : false = true) Bool.noConfusion | (with_reducible refine (?_ : T1 _ ?_) ?_; rotate_left 1; (conv => lhs; cbv; (try cbv); (try cbv)); intro hT; clear hT; with_reducible refine Sh.mk (by kernel_rfl) ?_))
                  | (with_reducible refine Pick.mk (fun h => ?_) (fun l1 x l2 h => ?_) <;> (with_reducible refine (?_ : T1 _ ?_) ?_; rotate_left 1; (conv => lhs; cbv; (try cbv); (try cbv)); intro hT; clear hT; with_reducible refine Sh.mk (by kernel_rfl) ?_))
                  | ((with_reducible refine End.mk ?_); skip)
                  | with_reducible exact True.intro)
                all_goals first
                  | (fail_if_success (with_reducible refine Exists.intro ?_ ?_)
                     first
                       | with_reducible rfl
                       | with_reducible assumption
                       | (dsimp only [newMovSpec, mrcvSpec, mreadSpec, mstartSpec, mhandSpec, mfinSpec, mphaseSpec, maccSpec, partSpec, partF, accM, Ty.T, Ty.dflt, KT.T, getM, putM, delM, inI64, maxRow]; done)
                       | (symm; with_reducible assumption)
                       | (dsimp only [newMovSpec, mrcvSpec, mreadSpec, mstartSpec, mhandSpec, mfinSpec, mphaseSpec, maccSpec, partSpec, partF, accM, Ty.T, Ty.dflt, KT.T, getM, putM, delM, inI64, maxRow]; first | with_reducible rfl | with_reducible assumption | (symm; with_reducible assumption) | (simp only [natCast_eq]; with_reducible rfl) | omega)
                       | omega
                       | (dsimp only [newMovSpec, mrcvSpec, mreadSpec, mstartSpec, mhandSpec, mfinSpec, mphaseSpec, maccSpec, partSpec, partF, accM, Ty.T, Ty.dflt, KT.T, getM, putM, delM, inI64, maxRow]; (try simp only [natCast_eq, List.nil_append]); first | with_reducible rfl | exact take_cg (by omega) | exact drop_cg (by omega) | exact take_drop_cg (by omega) (by omega) | exact take_all (by omega) | exact take_drop_all (by omega) (by omega) | exact drop_take_cg (by omega) (by omega) (by omega))
                       | exact hy1.symm
                       | ((try dsimp only [newMovSpec, mrcvSpec, mreadSpec, mstartSpec, mhandSpec, mfinSpec, mphaseSpec, maccSpec, partSpec, partF, accM, Ty.T, Ty.dflt, KT.T, getM, putM, delM, inI64, maxRow]); simp only [decide_eq_true_eq, decide_eq_false_iff_not, Bool.not_eq_true', Bool.not_eq_false', Bool.not_eq_true, Bool.not_eq_false, Bool.not_true, Bool.not_false, ne_eq, Bool.false_eq_true, Bool.true_eq_false, reduceCtorEq, beq_iff_eq, beq_eq_false_iff_ne, not_true_eq_false, not_false_eq_true, pair_eta, map_idL, natCast_eq, inI64, maxRow]; first | done | with_reducible assumption | omega)
                       | exact map_pair_id _
                       | ((try dsimp only [newMovSpec, mrcvSpec, mreadSpec, mstartSpec, mhandSpec, mfinSpec, mphaseSpec, maccSpec, partSpec, partF, accM, Ty.T, Ty.dflt, KT.T, getM, putM, delM, inI64, maxRow]) <;> (try simp only [natCast_eq]) <;> omega)
                       | ((try dsimp only [newMovSpec, mrcvSpec, mreadSpec, mstartSpec, mhandSpec, mfinSpec, mphaseSpec, maccSpec, partSpec, partF, accM, Ty.T, Ty.dflt, KT.T, getM, putM, delM, inI64, maxRow] at *) <;> (try simp only [natCast_eq] at *) <;> omega)
                       | ((try dsimp only [newMovSpec, mrcvSpec, mreadSpec, mstartSpec, mhandSpec, mfinSpec, mphaseSpec, maccSpec, partSpec, partF, accM, Ty.T, Ty.dflt, KT.T, getM, putM, delM, inI64, maxRow] at *) <;> (try simp only [List.length_append, List.length_cons, List.length_nil, List.length_replicate, List.length_take, List.length_drop, natCast_eq] at *) <;> omega)
                       | assumption
                       | (symm; assumption)
                       | (dsimp only; simp only [Bool.or_true, Bool.true_or, Bool.or_false, Bool.false_or, Bool.and_true, Bool.true_and, Bool.and_false, Bool.false_and, Bool.not_true, Bool.not_false, *]; done)
                       | (simp; done)
                       | (and_intros <;> first | trivial | with_reducible assumption | omega)
                       | ((try dsimp only [newMovSpec, mrcvSpec, mreadSpec, mstartSpec, mhandSpec, mfinSpec, mphaseSpec, maccSpec, partSpec, partF, accM, Ty.T, Ty.dflt, KT.T, getM, putM, delM, inI64, maxRow] at *) <;> simp [*] <;> done))
                  | skip
                skip)))
  all_goals
    try (obtain ⟨n, sg, N9, ho, hoe, hn, hl9, F9⟩ := CxC.gen C
         (repeat clear hk)
         clear C A B
         dsimp only
         refine ⟨⟨LIx n, fun x => ⟨[(0, Sx.one (.ro (.int .u8) (fun _ => d))), (1, Sx.one (.ro (.int .u16) (fun _ => l))), (9, Sx.one (.ptr 0 0)), (11, Sx.one (.int .i64 (fun _ => s))), (12, Sx.one (.int .i64 (fun _ => f))), (13, Sx.one (.hd 1 0)), (14, Sx.one (.hd 2 0)), (15, Sx.one (.int .i64 (fun _ => i))), (20, Sx.one (.ptr 3 0)), (66, Sx.one (.int .i64 (fun _ => (l.length : Int) + 1))), (67, Sx.one (.int .i64 (fun _ => i))), (128, Sx.one (.int .i64 (fun _ => n))), (129, Sx.one (.int .i64 (fun _ => x.j)))], [.abs (.mov (fun _ => N9.1)), .row 4 .bool 0 (fun _ => setTo H sg.1.1.toNat x.j.toNat), .row 5 (.int .u8) 0 (fun _ => d.take (rdO M).toNat), .cells 32 [.int .i64 (fun _ => sg.1.1), .ro (.int .u8) (fun _ => sg.1.2.1), .sb (fun _ => sg.1.2.2)]]⟩, fun x => (n - x.j).toNat, ⟨0, Int.le_refl _, hn.1⟩⟩, ?_, fun x3 => ?_⟩
         · (try (conv in (LoopInv.inv _ _) => dsimp only)); (try (conv in (SS.mk _ _) => cbv; (try dsimp only [newMovSpec, mrcvSpec, mreadSpec, mstartSpec, mhandSpec, mfinSpec, mphaseSpec, maccSpec, partSpec, partF, accM, Ty.T, Ty.dflt, KT.T]); (try simp only [natCast_eq])))
           (with_reducible refine (?_ : T1 _ ?_) ?_; rotate_left 1; (conv => lhs; cbv; (try cbv); (try cbv)); intro hT; clear hT; with_reducible refine Sh.mk (by kernel_rfl) ?_)
           repeat' (first
             | with_reducible refine Ck.mk (C := tt) tt_intro ?_
             | with_reducible refine Ck.mk (show drawOk _ _ = true by kernel_rfl) ?_
             | with_reducible refine Ck.all_cons ?_
             | with_reducible refine Ck.all_nil ?_
             | with_reducible refine Ck.mk (by assumption) ?_
             | with_reducible refine Ck.mk (decide_eq_true (by assumption)) ?_
             | with_reducible refine Ck.mk (decide_eq_false (by assumption)) ?_
             | with_reducible refine Ck.mk ?_ ?_
             | (with_reducible refine Both.mk (fun h => ?_) (fun h => ?_) <;> (have hk := h) <;> (try simp only [decide_eq_true_eq, decide_eq_false_iff_not, Bool.not_eq_true', Bool.not_eq_false', Bool.not_eq_true, Bool.not_eq_false, Bool.not_true, Bool.not_false, ne_eq, Bool.false_eq_true, Bool.true_eq_false, reduceCtorEq, beq_iff_eq, beq_eq_false_iff_ne, not_true_eq_false, not_false_eq_true, pair_eta, map_idL] at h) <;> (try dsimp only [newMovSpec, mrcvSpec, mreadSpec, mstartSpec, mhandSpec, mfinSpec, mphaseSpec, maccSpec, partSpec, partF, accM, Ty.T, Ty.dflt, KT.T, getM, putM, delM] at h) <;> (try simp only [natCast_eq] at h) <;> (try (have A0 := cxA hd h60 hsf.2.1 hm h; have A := A0.f)) <;> (try (have A := cxA' hm h)) <;> (try (have B0 := cxB hd h60 hsf.2.1 A h; have B := B0.f)) <;> (try (have B := cxB' A h)) <;> (try (have lb := u16_at hl hlo (lt_of hhi h))) <;> (try (have C := cxC hd h60 B (mod2 _) (part_pt lb) h)) <;> (try first | rw [if_pos h] at hr | rw [if_neg h] at hr | rw [ifF h] at hr | rw [ifN h] at hr) <;> (try (have hb : (_ : Bool) = _ := h; clear h; subst hb; (try first | rw [if_pos rfl] at hr | rw [if_neg Bool.false_ne_true] at hr))) <;> first | (exfalso; omega) | exact absurd (h.symm.trans (by assumption) : true = false) Bool.noConfusion | exact absurd (h.symm.trans (by assumption) : false = true) Bool.noConfusion | (with_reducible refine (?_ : T1 _ ?_) ?_; rotate_left 1; (conv => lhs; cbv; (try cbv); (try cbv)); intro hT; clear hT; with_reducible refine Sh.mk (by kernel_rfl) ?_))
             | (with_reducible refine Alt.mk (fun h => ?_) (fun h => ?_) <;> (have hk := h) <;> (try simp only [decide_eq_true_eq, decide_eq_false_iff_not, Bool.not_eq_true', Bool.not_eq_false', Bool.not_eq_true, Bool.not_eq_false, Bool.not_true, Bool.not_false, ne_eq, Bool.false_eq_true, Bool.true_eq_false, reduceCtorEq, beq_iff_eq, beq_eq_false_iff_ne, not_true_eq_false, not_false_eq_true, pair_eta, map_idL] at h) <;> (try dsimp only [newMovSpec, mrcvSpec, mreadSpec, mstartSpec, mhandSpec, mfinSpec, mphaseSpec, maccSpec, partSpec, partF, accM, Ty.T, Ty.dflt, KT.T, getM, putM, delM] at h) <;> (try simp only [natCast_eq] at h) <;> (try (have A0 := cxA hd h60 hsf.2.1 hm h; have A := A0.f)) <;> (try (have A := cxA' hm h)) <;> (try (have B0 := cxB hd h60 hsf.2.1 A h; have B := B0.f)) <;> (try (have B := cxB' A h)) <;> (try (have lb := u16_at hl hlo (lt_of hhi h))) <;> (try (have C := cxC hd h60 B (mod2 _) (part_pt lb) h)) <;> (try first | rw [if_pos h] at hr | rw [if_neg h] at hr | rw [ifF h] at hr | rw [ifN h] at hr) <;> (try (have hb : (_ : Bool) = _ := h; clear h; subst hb; (try first | rw [if_pos rfl] at hr | rw [if_neg Bool.false_ne_true] at hr))) <;> first | (exfalso; omega) | exact absurd (h.symm.trans (by assumption) : true = false) Bool.noConfusion | exact absurd (h.symm.trans (by assumption) : false = true) Bool.noConfusion | (with_reducible refine (?_ : T1 _ ?_) ?_; rotate_left 1; (conv => lhs; cbv; (try cbv); (try cbv)); intro hT; clear hT; with_reducible refine Sh.mk (by kernel_rfl) ?_))
             | (with_reducible refine Pick.mk (fun h => ?_) (fun l1 x l2 h => ?_) <;> (with_reducible refine (?_ : T1 _ ?_) ?_; rotate_left 1; (conv => lhs; cbv; (try cbv); (try cbv)); intro hT; clear hT; with_reducible refine Sh.mk (by kernel_rfl) ?_))
             | ((with_reducible refine End.mk ?_); skip)
             | with_reducible exact True.intro)
           all_goals first
             | (fail_if_success (with_reducible refine Exists.intro ?_ ?_)
                first
                  | with_reducible rfl
                  | with_reducible assumption
                  | (dsimp only [newMovSpec, mrcvSpec, mreadSpec, mstartSpec, mhandSpec, mfinSpec, mphaseSpec, maccSpec, partSpec, partF, accM, Ty.T, Ty.dflt, KT.T, getM, putM, delM, inI64, maxRow]; done)
                  | (symm; with_reducible assumption)
                  | (dsimp only [newMovSpec, mrcvSpec, mreadSpec, mstartSpec, mhandSpec, mfinSpec, mphaseSpec, maccSpec, partSpec, partF, accM, Ty.T, Ty.dflt, KT.T, getM, putM, delM, inI64, maxRow]; first | with_reducible rfl | with_reducible assumption | (symm; with_reducible assumption) | (simp only [natCast_eq]; with_reducible rfl) | omega)
                  | omega
                  | (dsimp only [newMovSpec, mrcvSpec, mreadSpec, mstartSpec, mhandSpec, mfinSpec, mphaseSpec, maccSpec, partSpec, partF, accM, Ty.T, Ty.dflt, KT.T, getM, putM, delM, inI64, maxRow]; (try simp only [natCast_eq, List.nil_append]); first | with_reducible rfl | exact take_cg (by omega) | exact drop_cg (by omega) | exact take_drop_cg (by omega) (by omega) | exact take_all (by omega) | exact take_drop_all (by omega) (by omega) | exact drop_take_cg (by omega) (by omega) (by omega))
                  | first | exact congrArg (fun z : Seg => z.1) sg.2 | exact congrArg (fun z : Seg => z.2.1) sg.2 | exact congrArg (fun z : Seg => z.2.2) sg.2 | exact N9.2 | exact hn.2
                  | ((try dsimp only [newMovSpec, mrcvSpec, mreadSpec, mstartSpec, mhandSpec, mfinSpec, mphaseSpec, maccSpec, partSpec, partF, accM, Ty.T, Ty.dflt, KT.T, getM, putM, delM, inI64, maxRow]); simp only [decide_eq_true_eq, decide_eq_false_iff_not, Bool.not_eq_true', Bool.not_eq_false', Bool.not_eq_true, Bool.not_eq_false, Bool.not_true, Bool.not_false, ne_eq, Bool.false_eq_true, Bool.true_eq_false, reduceCtorEq, beq_iff_eq, beq_eq_false_iff_ne, not_true_eq_false, not_false_eq_true, pair_eta, map_idL, natCast_eq, inI64, maxRow]; first | done | with_reducible assumption | omega)
                  | exact map_pair_id _
                  | ((try dsimp only [newMovSpec, mrcvSpec, mreadSpec, mstartSpec, mhandSpec, mfinSpec, mphaseSpec, maccSpec, partSpec, partF, accM, Ty.T, Ty.dflt, KT.T, getM, putM, delM, inI64, maxRow]) <;> (try simp only [natCast_eq]) <;> omega)
                  | ((try dsimp only [newMovSpec, mrcvSpec, mreadSpec, mstartSpec, mhandSpec, mfinSpec, mphaseSpec, maccSpec, partSpec, partF, accM, Ty.T, Ty.dflt, KT.T, getM, putM, delM, inI64, maxRow] at *) <;> (try simp only [natCast_eq] at *) <;> omega)
                  | ((try dsimp only [newMovSpec, mrcvSpec, mreadSpec, mstartSpec, mhandSpec, mfinSpec, mphaseSpec, maccSpec, partSpec, partF, accM, Ty.T, Ty.dflt, KT.T, getM, putM, delM, inI64, maxRow] at *) <;> (try simp only [List.length_append, List.length_cons, List.length_nil, List.length_replicate, List.length_take, List.length_drop, natCast_eq] at *) <;> omega)
                  | assumption
                  | (symm; assumption)
                  | (dsimp only; simp only [Bool.or_true, Bool.true_or, Bool.or_false, Bool.false_or, Bool.and_true, Bool.true_and, Bool.and_false, Bool.false_and, Bool.not_true, Bool.not_false, *]; done)
                  | (simp; done)
                  | (and_intros <;> first | trivial | with_reducible assumption | omega)
                  | ((try dsimp only [newMovSpec, mrcvSpec, mreadSpec, mstartSpec, mhandSpec, mfinSpec, mphaseSpec, maccSpec, partSpec, partF, accM, Ty.T, Ty.dflt, KT.T, getM, putM, delM, inI64, maxRow] at *) <;> simp [*] <;> done))
             | skip
         have hlo3 := x3.lo
         have hhi3 := x3.hi
         have hH := (setTo_len H sg.1.1.toNat x3.j.toNat).trans hl9
         (try (conv in (LoopInv.inv _ _) => dsimp only)); (try (conv in (SS.mk _ _) => cbv; (try dsimp only [newMovSpec, mrcvSpec, mreadSpec, mstartSpec, mhandSpec, mfinSpec, mphaseSpec, maccSpec, partSpec, partF, accM, Ty.T, Ty.dflt, KT.T]); (try simp only [natCast_eq])))
         (with_reducible refine (?_ : T1 _ ?_) ?_; rotate_left 1; (conv => lhs; cbv; (try cbv); (try cbv)); intro hT; clear hT; with_reducible refine Sh.mk (by kernel_rfl) ?_)
         repeat' (first
           | with_reducible refine Ck.mk (C := tt) tt_intro ?_
           | with_reducible refine Ck.mk (show drawOk _ _ = true by kernel_rfl) ?_
           | with_reducible refine Ck.all_cons ?_
           | with_reducible refine Ck.all_nil ?_
           | with_reducible refine Ck.mk (by assumption) ?_
           | with_reducible refine Ck.mk (decide_eq_true (by assumption)) ?_
           | with_reducible refine Ck.mk (decide_eq_false (by assumption)) ?_
           | with_reducible refine Ck.mk ?_ ?_
           | (with_reducible refine Both.mk (fun h => ?_) (fun h => ?_) <;> (have hk := h) <;> (try simp only [decide_eq_true_eq, decide_eq_false_iff_not, Bool.not_eq_true', Bool.not_eq_false', Bool.not_eq_true, Bool.not_eq_false, Bool.not_true, Bool.not_false, ne_eq, Bool.false_eq_true, Bool.true_eq_false, reduceCtorEq, beq_iff_eq, beq_eq_false_iff_ne, not_true_eq_false, not_false_eq_true, pair_eta, map_idL] at h) <;> (try dsimp only [newMovSpec, mrcvSpec, mreadSpec, mstartSpec, mhandSpec, mfinSpec, mphaseSpec, maccSpec, partSpec, partF, accM, Ty.T, Ty.dflt, KT.T, getM, putM, delM] at h) <;> (try simp only [natCast_eq] at h) <;> (try (have A0 := cxA hd h60 hsf.2.1 hm h; have A := A0.f)) <;> (try (have A := cxA' hm h)) <;> (try (have B0 := cxB hd h60 hsf.2.1 A h; have B := B0.f)) <;> (try (have B := cxB' A h)) <;> (try (have lb := u16_at hl hlo (lt_of hhi h))) <;> (try (have C := cxC hd h60 B (mod2 _) (part_pt lb) h)) <;> (try first | rw [if_pos h] at hr | rw [if_neg h] at hr | rw [ifF h] at hr | rw [ifN h] at hr) <;> (try (have hb : (_ : Bool) = _ := h; clear h; subst hb; (try first | rw [if_pos rfl] at hr | rw [if_neg Bool.false_ne_true] at hr))) <;> first | (exfalso; omega) | exact absurd (h.symm.trans (by assumption) : true = false) Bool.noConfusion | exact absurd (h.symm.trans (by assumption) : false = true) Bool.noConfusion | (with_reducible refine (?_ : T1 _ ?_) ?_; rotate_left 1; (conv => lhs; cbv; (try cbv); (try cbv)); intro hT; clear hT; with_reducible refine Sh.mk (by kernel_rfl) ?_))
           | (with_reducible refine Alt.mk (fun h => ?_) (fun h => ?_) <;> (have hk := h) <;> (try simp only [decide_eq_true_eq, decide_eq_false_iff_not, Bool.not_eq_true', Bool.not_eq_false', Bool.not_eq_true, Bool.not_eq_false, Bool.not_true, Bool.not_false, ne_eq, Bool.false_eq_true, Bool.true_eq_false, reduceCtorEq, beq_iff_eq, beq_eq_false_iff_ne, not_true_eq_false, not_false_eq_true, pair_eta, map_idL] at h) <;> (try dsimp only [newMovSpec, mrcvSpec, mreadSpec, mstartSpec, mhandSpec, mfinSpec, mphaseSpec, maccSpec, partSpec, partF, accM, Ty.T, Ty.dflt, KT.T, getM, putM, delM] at h) <;> (try simp only [natCast_eq] at h) <;> (try (have A0 := cxA hd h60 hsf.2.1 hm h; have A := A0.f)) <;> (try (have A := cxA' hm h)) <;> (try (have B0 := cxB hd h60 hsf.2.1 A h; have B := B0.f)) <;> (try (have B := cxB' A h)) <;> (try (have lb := u16_at hl hlo (lt_of hhi h))) <;> (try (have C := cxC hd h60 B (mod2 _) (part_pt lb) h)) <;> (try first | rw [if_pos h] at hr | rw [if_neg h] at hr | rw [ifF h] at hr | rw [ifN h] at hr) <;> (try (have hb : (_ : Bool) = _ := h; clear h; subst hb; (try first | rw [if_pos rfl] at hr | rw [if_neg Bool.false_ne_true] at hr))) <;> first | (exfalso; omega) | exact absurd (h.symm.trans (by assumption) : true = false) Bool.noConfusion | exact absurd (h.symm.trans (by assumption) : false = true) Bool.noConfusion | (with_reducible refine (?_ : T1 _ ?_) ?_; rotate_left 1; (conv => lhs; cbv; (try cbv); (try cbv)); intro hT; clear hT; with_reducible refine Sh.mk (by kernel_rfl) ?_))
           | (with_reducible refine Pick.mk (fun h => ?_) (fun l1 x l2 h => ?_) <;> (with_reducible refine (?_ : T1 _ ?_) ?_; rotate_left 1; (conv => lhs; cbv; (try cbv); (try cbv)); intro hT; clear hT; with_reducible refine Sh.mk (by kernel_rfl) ?_))
           | ((with_reducible refine End.mk ?_); skip)
           | with_reducible exact True.intro)
         all_goals first
           | (fail_if_success (with_reducible refine Exists.intro ?_ ?_)
              first
                | with_reducible rfl
                | with_reducible assumption
                | (dsimp only [newMovSpec, mrcvSpec, mreadSpec, mstartSpec, mhandSpec, mfinSpec, mphaseSpec, maccSpec, partSpec, partF, accM, Ty.T, Ty.dflt, KT.T, getM, putM, delM, inI64, maxRow]; done)
                | (symm; with_reducible assumption)
                | (dsimp only [newMovSpec, mrcvSpec, mreadSpec, mstartSpec, mhandSpec, mfinSpec, mphaseSpec, maccSpec, partSpec, partF, accM, Ty.T, Ty.dflt, KT.T, getM, putM, delM, inI64, maxRow]; first | with_reducible rfl | with_reducible assumption | (symm; with_reducible assumption) | (simp only [natCast_eq]; with_reducible rfl) | omega)
                | omega
                | (dsimp only [newMovSpec, mrcvSpec, mreadSpec, mstartSpec, mhandSpec, mfinSpec, mphaseSpec, maccSpec, partSpec, partF, accM, Ty.T, Ty.dflt, KT.T, getM, putM, delM, inI64, maxRow]; (try simp only [natCast_eq, List.nil_append]); first | with_reducible rfl | exact take_cg (by omega) | exact drop_cg (by omega) | exact take_drop_cg (by omega) (by omega) | exact take_all (by omega) | exact take_drop_all (by omega) (by omega) | exact drop_take_cg (by omega) (by omega) (by omega))
                | first | exact sh_i lb | exact sh_r lb (by decide) | exact F9.ok | exact (cxG hd h60 F9 _).l
                | ((try dsimp only [newMovSpec, mrcvSpec, mreadSpec, mstartSpec, mhandSpec, mfinSpec, mphaseSpec, maccSpec, partSpec, partF, accM, Ty.T, Ty.dflt, KT.T, getM, putM, delM, inI64, maxRow]); simp only [decide_eq_true_eq, decide_eq_false_iff_not, Bool.not_eq_true', Bool.not_eq_false', Bool.not_eq_true, Bool.not_eq_false, Bool.not_true, Bool.not_false, ne_eq, Bool.false_eq_true, Bool.true_eq_false, reduceCtorEq, beq_iff_eq, beq_eq_false_iff_ne, not_true_eq_false, not_false_eq_true, pair_eta, map_idL, natCast_eq, inI64, maxRow]; first | done | with_reducible assumption | omega)
                | exact map_pair_id _
                | ((try dsimp only [newMovSpec, mrcvSpec, mreadSpec, mstartSpec, mhandSpec, mfinSpec, mphaseSpec, maccSpec, partSpec, partF, accM, Ty.T, Ty.dflt, KT.T, getM, putM, delM, inI64, maxRow]) <;> (try simp only [natCast_eq]) <;> omega)
                | ((try dsimp only [newMovSpec, mrcvSpec, mreadSpec, mstartSpec, mhandSpec, mfinSpec, mphaseSpec, maccSpec, partSpec, partF, accM, Ty.T, Ty.dflt, KT.T, getM, putM, delM, inI64, maxRow] at *) <;> (try simp only [natCast_eq] at *) <;> omega)
                | ((try dsimp only [newMovSpec, mrcvSpec, mreadSpec, mstartSpec, mhandSpec, mfinSpec, mphaseSpec, maccSpec, partSpec, partF, accM, Ty.T, Ty.dflt, KT.T, getM, putM, delM, inI64, maxRow] at *) <;> (try simp only [List.length_append, List.length_cons, List.length_nil, List.length_replicate, List.length_take, List.length_drop, natCast_eq] at *) <;> omega)
                | assumption
                | (symm; assumption)
                | (dsimp only; simp only [Bool.or_true, Bool.true_or, Bool.or_false, Bool.false_or, Bool.and_true, Bool.true_and, Bool.and_false, Bool.false_and, Bool.not_true, Bool.not_false, *]; done)
                | (simp; done)
                | (and_intros <;> first | trivial | with_reducible assumption | omega)
                | ((try dsimp only [newMovSpec, mrcvSpec, mreadSpec, mstartSpec, mhandSpec, mfinSpec, mphaseSpec, maccSpec, partSpec, partF, accM, Ty.T, Ty.dflt, KT.T, getM, putM, delM, inI64, maxRow] at *) <;> simp [*] <;> done))
           | skip
         all_goals
           (first
             | (refine ⟨⟨x3.j + 1, by omega, by omega⟩, by (try dsimp only); (try simp only [natCast_eq]); omega, ?_⟩
                (try (conv in (LoopInv.inv _ _) => dsimp only)); (try (conv in (SS.mk _ _) => cbv; (try dsimp only [newMovSpec, mrcvSpec, mreadSpec, mstartSpec, mhandSpec, mfinSpec, mphaseSpec, maccSpec, partSpec, partF, accM, Ty.T, Ty.dflt, KT.T]); (try simp only [natCast_eq])))
                (with_reducible refine (?_ : T1 _ ?_) ?_; rotate_left 1; (conv => lhs; cbv; (try cbv); (try cbv)); intro hT; clear hT; with_reducible refine Sh.mk (by kernel_rfl) ?_)
                repeat' (first
                  | with_reducible refine Ck.mk (C := tt) tt_intro ?_
                  | with_reducible refine Ck.mk (show drawOk _ _ = true by kernel_rfl) ?_
                  | with_reducible refine Ck.all_cons ?_
                  | with_reducible refine Ck.all_nil ?_
                  | with_reducible refine Ck.mk (by assumption) ?_
                  | with_reducible refine Ck.mk (decide_eq_true (by assumption)) ?_
                  | with_reducible refine Ck.mk (decide_eq_false (by assumption)) ?_
                  | with_reducible refine Ck.mk ?_ ?_
                  | (with_reducible refine Both.mk (fun h => ?_) (fun h => ?_) <;> (have hk := h) <;> (try simp only [decide_eq_true_eq, decide_eq_false_iff_not, Bool.not_eq_true', Bool.not_eq_false', Bool.not_eq_true, Bool.not_eq_false, Bool.not_true, Bool.not_false, ne_eq, Bool.false_eq_true, Bool.true_eq_false, reduceCtorEq, beq_iff_eq, beq_eq_false_iff_ne, not_true_eq_false, not_false_eq_true, pair_eta, map_idL] at h) <;> (try dsimp only [newMovSpec, mrcvSpec, mreadSpec, mstartSpec, mhandSpec, mfinSpec, mphaseSpec, maccSpec, partSpec, partF, accM, Ty.T, Ty.dflt, KT.T, getM, putM, delM] at h) <;> (try simp only [natCast_eq] at h) <;> (try (have A0 := cxA hd h60 hsf.2.1 hm h; have A := A0.f)) <;> (try (have A := cxA' hm h)) <;> (try (have B0 := cxB hd h60 hsf.2.1 A h; have B := B0.f)) <;> (try (have B := cxB' A h)) <;> (try (have lb := u16_at hl hlo (lt_of hhi h))) <;> (try (have C := cxC hd h60 B (mod2 _) (part_pt lb) h)) <;> (try first | rw [if_pos h] at hr | rw [if_neg h] at hr | rw [ifF h] at hr | rw [ifN h] at hr) <;> (try (have hb : (_ : Bool) = _ := h; clear h; subst hb; (try first | rw [if_pos rfl] at hr | rw [if_neg Bool.false_ne_true] at hr))) <;> first | (exfalso; omega) | exact absurd (h.symm.trans (by assumption) : true = false) Bool.noConfusion | exact absurd (h.symm.trans (by assumption) : false = true) Bool.noConfusion | (with_reducible refine (?_ : T1 _ ?_) ?_; rotate_left 1; (conv => lhs; cbv; (try cbv); (try cbv)); intro hT; clear hT; with_reducible refine Sh.mk (by kernel_rfl) ?_))
                  | (with_reducible refine Alt.mk (fun h => ?_) (fun h => ?_) <;> (have hk := h) <;> (try simp only [decide_eq_true_eq, decide_eq_false_iff_not, Bool.not_eq_true', Bool.not_eq_false', Bool.not_eq_true, Bool.not_eq_false, Bool.not_true, Bool.not_false, ne_eq, Bool.false_eq_true, Bool.true_eq_false, reduceCtorEq, beq_iff_eq, beq_eq_false_iff_ne, not_true_eq_false, not_false_eq_true, pair_eta, map_idL] at h) <;> (try dsimp only [newMovSpec, mrcvSpec, mreadSpec, mstartSpec, mhandSpec, mfinSpec, mphaseSpec, maccSpec, partSpec, partF, accM, Ty.T, Ty.dflt, KT.T, getM, putM, delM] at h) <;> (try simp only [natCast_eq] at h) <;> (try (have A0 := cxA hd h60 hsf.2.1 hm h; have A := A0.f)) <;> (try (have A := cxA' hm h)) <;> (try (have B0 := cxB hd h60 hsf.2.1 A h; have B := B0.f)) <;> (try (have B := cxB' A h)) <;> (try (have lb := u16_at hl hlo (lt_of hhi h))) <;> (try (have C := cxC hd h60 B (mod2 _) (part_pt lb) h)) <;> (try first | rw [if_pos h] at hr | rw [if_neg h] at hr | rw [ifF h] at hr | rw [ifN h] at hr) <;> (try (have hb : (_ : Bool) = _ := h; clear h; subst hb; (try first | rw [if_pos rfl] at hr | rw [if_neg Bool.false_ne_true] at hr))) <;> first | (exfalso; omega) | exact absurd (h.symm.trans (by assumption) : true = false) Bool.noConfusion | exact absurd (h.symm.trans (by assumption) : false = true) Bool.noConfusion | (with_reducible refine (?_ : T1 _ ?_) ?_; rotate_left 1; (conv => lhs; cbv; (try cbv); (try cbv)); intro hT; clear hT; with_reducible refine Sh.mk (by kernel_rfl) ?_))
                  | (with_reducible refine Pick.mk (fun h => ?_) (fun l1 x l2 h => ?_) <;> (with_reducible refine (?_ : T1 _ ?_) ?_; rotate_left 1; (conv => lhs; cbv; (try cbv); (try cbv)); intro hT; clear hT; with_reducible refine Sh.mk (by kernel_rfl) ?_))
                  | ((with_reducible refine End.mk ?_); skip)
                  | with_reducible exact True.intro)
                all_goals first
                  | (fail_if_success (with_reducible refine Exists.intro ?_ ?_)
                     first
                       | with_reducible rfl
                       | with_reducible assumption
                       | (dsimp only [newMovSpec, mrcvSpec, mreadSpec, mstartSpec, mhandSpec, mfinSpec, mphaseSpec, maccSpec, partSpec, partF, accM, Ty.T, Ty.dflt, KT.T, getM, putM, delM, inI64, maxRow]; done)
                       | (symm; with_reducible assumption)
                       | (dsimp only [newMovSpec, mrcvSpec, mreadSpec, mstartSpec, mhandSpec, mfinSpec, mphaseSpec, maccSpec, partSpec, partF, accM, Ty.T, Ty.dflt, KT.T, getM, putM, delM, inI64, maxRow]; first | with_reducible rfl | with_reducible assumption | (symm; with_reducible assumption) | (simp only [natCast_eq]; with_reducible rfl) | omega)
                       | omega
                       | (dsimp only [newMovSpec, mrcvSpec, mreadSpec, mstartSpec, mhandSpec, mfinSpec, mphaseSpec, maccSpec, partSpec, partF, accM, Ty.T, Ty.dflt, KT.T, getM, putM, delM, inI64, maxRow]; (try simp only [natCast_eq, List.nil_append]); first | with_reducible rfl | exact take_cg (by omega) | exact drop_cg (by omega) | exact take_drop_cg (by omega) (by omega) | exact take_all (by omega) | exact take_drop_all (by omega) (by omega) | exact drop_take_cg (by omega) (by omega) (by omega))
                       | first | exact (setTo_step ho hlo3).symm | exact setTo_step ho hlo3
                       | ((try dsimp only [newMovSpec, mrcvSpec, mreadSpec, mstartSpec, mhandSpec, mfinSpec, mphaseSpec, maccSpec, partSpec, partF, accM, Ty.T, Ty.dflt, KT.T, getM, putM, delM, inI64, maxRow]); simp only [decide_eq_true_eq, decide_eq_false_iff_not, Bool.not_eq_true', Bool.not_eq_false', Bool.not_eq_true, Bool.not_eq_false, Bool.not_true, Bool.not_false, ne_eq, Bool.false_eq_true, Bool.true_eq_false, reduceCtorEq, beq_iff_eq, beq_eq_false_iff_ne, not_true_eq_false, not_false_eq_true, pair_eta, map_idL, natCast_eq, inI64, maxRow]; first | done | with_reducible assumption | omega)
                       | exact map_pair_id _
                       | ((try dsimp only [newMovSpec, mrcvSpec, mreadSpec, mstartSpec, mhandSpec, mfinSpec, mphaseSpec, maccSpec, partSpec, partF, accM, Ty.T, Ty.dflt, KT.T, getM, putM, delM, inI64, maxRow]) <;> (try simp only [natCast_eq]) <;> omega)
                       | ((try dsimp only [newMovSpec, mrcvSpec, mreadSpec, mstartSpec, mhandSpec, mfinSpec, mphaseSpec, maccSpec, partSpec, partF, accM, Ty.T, Ty.dflt, KT.T, getM, putM, delM, inI64, maxRow] at *) <;> (try simp only [natCast_eq] at *) <;> omega)
                       | ((try dsimp only [newMovSpec, mrcvSpec, mreadSpec, mstartSpec, mhandSpec, mfinSpec, mphaseSpec, maccSpec, partSpec, partF, accM, Ty.T, Ty.dflt, KT.T, getM, putM, delM, inI64, maxRow] at *) <;> (try simp only [List.length_append, List.length_cons, List.length_nil, List.length_replicate, List.length_take, List.length_drop, natCast_eq] at *) <;> omega)
                       | assumption
                       | (symm; assumption)
                       | (dsimp only; simp only [Bool.or_true, Bool.true_or, Bool.or_false, Bool.false_or, Bool.and_true, Bool.true_and, Bool.and_false, Bool.false_and, Bool.not_true, Bool.not_false, *]; done)
                       | (simp; done)
                       | (and_intros <;> first | trivial | with_reducible assumption | omega)
                       | ((try dsimp only [newMovSpec, mrcvSpec, mreadSpec, mstartSpec, mhandSpec, mfinSpec, mphaseSpec, maccSpec, partSpec, partF, accM, Ty.T, Ty.dflt, KT.T, getM, putM, delM, inI64, maxRow] at *) <;> simp [*] <;> done))
                  | skip
                skip)
             | (have h5 : l.getD i.toNat 0 % 5 = 0 := h
                obtain ⟨y, hy0, hy1, hy2⟩ := next_LCx (n := l.length) hlo (by assumption) (by assumption) (cxR h60 F9 (l.getD i.toNat 0 / 2 ^ (5 : Int).toNat % 9))
                refine ⟨y, by (try dsimp only); (try simp only [natCast_eq]); omega, ?_⟩
                (try (conv in (LoopInv.inv _ _) => dsimp only)); (try (conv in (SS.mk _ _) => cbv; (try dsimp only [newMovSpec, mrcvSpec, mreadSpec, mstartSpec, mhandSpec, mfinSpec, mphaseSpec, maccSpec, partSpec, partF, accM, Ty.T, Ty.dflt, KT.T]); (try simp only [natCast_eq])))
                (with_reducible refine (?_ : T1 _ ?_) ?_; rotate_left 1; (conv => lhs; cbv; (try cbv); (try cbv)); intro hT; clear hT; with_reducible refine Sh.mk (by kernel_rfl) ?_)
                repeat' (first
                  | with_reducible refine Ck.mk (C := tt) tt_intro ?_
                  | with_reducible refine Ck.mk (show drawOk _ _ = true by kernel_rfl) ?_
                  | with_reducible refine Ck.all_cons ?_
                  | with_reducible refine Ck.all_nil ?_
                  | with_reducible refine Ck.mk (by assumption) ?_
                  | with_reducible refine Ck.mk (decide_eq_true (by assumption)) ?_
                  | with_reducible refine Ck.mk (decide_eq_false (by assumption)) ?_
                  | with_reducible refine Ck.mk ?_ ?_
                  | (with_reducible refine Both.mk (fun h => ?_) (fun h => ?_) <;> (have hk := h) <;> (try simp only [decide_eq_true_eq, decide_eq_false_iff_not, Bool.not_eq_true', Bool.not_eq_false', Bool.not_eq_true, Bool.not_eq_false, Bool.not_true, Bool.not_false, ne_eq, Bool.false_eq_true, Bool.true_eq_false, reduceCtorEq, beq_iff_eq, beq_eq_false_iff_ne, not_true_eq_false, not_false_eq_true, pair_eta, map_idL] at h) <;> (try dsimp only [newMovSpec, mrcvSpec, mreadSpec, mstartSpec, mhandSpec, mfinSpec, mphaseSpec, maccSpec, partSpec, partF, accM, Ty.T, Ty.dflt, KT.T, getM, putM, delM] at h) <;> (try simp only [natCast_eq] at h) <;> (try (have A0 := cxA hd h60 hsf.2.1 hm h; have A := A0.f)) <;> (try (have A := cxA' hm h)) <;> (try (have B0 := cxB hd h60 hsf.2.1 A h; have B := B0.f)) <;> (try (have B := cxB' A h)) <;> (try (have lb := u16_at hl hlo (lt_of hhi h))) <;> (try (have C := cxC hd h60 B (mod2 _) (part_pt lb) h)) <;> (try first | rw [if_pos h] at hr | rw [if_neg h] at hr | rw [ifF h] at hr | rw [ifN h] at hr) <;> (try (have hb : (_ : Bool) = _ := h; clear h; subst hb; (try first | rw [if_pos rfl] at hr | rw [if_neg Bool.false_ne_true] at hr))) <;> first | (exfalso; omega) | exact absurd (h.symm.trans (by assumption) : true = false) Bool.noConfusion | exact absurd (h.symm.trans (by assumption) : false = true) Bool.noConfusion | (with_reducible refine (?_ : T1 _ ?_) ?_; rotate_left 1; (conv => lhs; cbv; (try cbv); (try cbv)); intro hT; clear hT; with_reducible refine Sh.mk (by kernel_rfl) ?_))
                  | (with_reducible refine Alt.mk (fun h => ?_) (fun h => ?_) <;> (have hk := h) <;> (try simp only [decide_eq_true_eq, decide_eq_false_iff_not, Bool.not_eq_true', Bool.not_eq_false', Bool.not_eq_true, Bool.not_eq_false, Bool.not_true, Bool.not_false, ne_eq, Bool.false_eq_true, Bool.true_eq_false, reduceCtorEq, beq_iff_eq, beq_eq_false_iff_ne, not_true_eq_false, not_false_eq_true, pair_eta, map_idL] at h) <;> (try dsimp only [newMovSpec, mrcvSpec, mreadSpec, mstartSpec, mhandSpec, mfinSpec, mphaseSpec, maccSpec, partSpec, partF, accM, Ty.T, Ty.dflt, KT.T, getM, putM, delM] at h) <;> (try simp only [natCast_eq] at h) <;> (try (have A0 := cxA hd h60 hsf.2.1 hm h; have A := A0.f)) <;> (try (have A := cxA' hm h)) <;> (try (have B0 := cxB hd h60 hsf.2.1 A h; have B := B0.f)) <;> (try (have B := cxB' A h)) <;> (try (have lb := u16_at hl hlo (lt_of hhi h))) <;> (try (have C := cxC hd h60 B (mod2 _) (part_pt lb) h)) <;> (try first | rw [if_pos h] at hr | rw [if_neg h] at hr | rw [ifF h] at hr | rw [ifN h] at hr) <;> (try (have hb : (_ : Bool) = _ := h; clear h; subst hb; (try first | rw [if_pos rfl] at hr | rw [if_neg Bool.false_ne_true] at hr))) <;> first | (exfalso; omega) | exact absurd (h.symm.trans (by assumption) : true = false) Bool.noConfusion | exact absurd (h.symm.trans (by assumption) : false = true) Bool.noConfusion | (with_reducible refine (?_ : T1 _ ?_) ?_; rotate_left 1; (conv => lhs; cbv; (try cbv); (try cbv)); intro hT; clear hT; with_reducible refine Sh.mk (by kernel_rfl) ?_))
                  | (with_reducible refine Pick.mk (fun h => ?_) (fun l1 x l2 h => ?_) <;> (with_reducible refine (?_ : T1 _ ?_) ?_; rotate_left 1; (conv => lhs; cbv; (try cbv); (try cbv)); intro hT; clear hT; with_reducible refine Sh.mk (by kernel_rfl) ?_))
                  | ((with_reducible refine End.mk ?_); skip)
                  | with_reducible exact True.intro)
                all_goals first
                  | (fail_if_success (with_reducible refine Exists.intro ?_ ?_)
                     first
                       | with_reducible rfl
                       | with_reducible assumption
                       | (dsimp only [newMovSpec, mrcvSpec, mreadSpec, mstartSpec, mhandSpec, mfinSpec, mphaseSpec, maccSpec, partSpec, partF, accM, Ty.T, Ty.dflt, KT.T, getM, putM, delM, inI64, maxRow]; done)
                       | (symm; with_reducible assumption)
                       | (dsimp only [newMovSpec, mrcvSpec, mreadSpec, mstartSpec, mhandSpec, mfinSpec, mphaseSpec, maccSpec, partSpec, partF, accM, Ty.T, Ty.dflt, KT.T, getM, putM, delM, inI64, maxRow]; first | with_reducible rfl | with_reducible assumption | (symm; with_reducible assumption) | (simp only [natCast_eq]; with_reducible rfl) | omega)
                       | omega
                       | (dsimp only [newMovSpec, mrcvSpec, mreadSpec, mstartSpec, mhandSpec, mfinSpec, mphaseSpec, maccSpec, partSpec, partF, accM, Ty.T, Ty.dflt, KT.T, getM, putM, delM, inI64, maxRow]; (try simp only [natCast_eq, List.nil_append]); first | with_reducible rfl | exact take_cg (by omega) | exact drop_cg (by omega) | exact take_drop_cg (by omega) (by omega) | exact take_all (by omega) | exact take_drop_all (by omega) (by omega) | exact drop_take_cg (by omega) (by omega) (by omega))
                       | first | exact hy1.symm | (rw [hy2]; exact setTo_dn (by assumption) hhi3) | (rw [hy1]; exact (cxG hd h60 F9 _).e)
                       | ((try dsimp only [newMovSpec, mrcvSpec, mreadSpec, mstartSpec, mhandSpec, mfinSpec, mphaseSpec, maccSpec, partSpec, partF, accM, Ty.T, Ty.dflt, KT.T, getM, putM, delM, inI64, maxRow]); simp only [decide_eq_true_eq, decide_eq_false_iff_not, Bool.not_eq_true', Bool.not_eq_false', Bool.not_eq_true, Bool.not_eq_false, Bool.not_true, Bool.not_false, ne_eq, Bool.false_eq_true, Bool.true_eq_false, reduceCtorEq, beq_iff_eq, beq_eq_false_iff_ne, not_true_eq_false, not_false_eq_true, pair_eta, map_idL, natCast_eq, inI64, maxRow]; first | done | with_reducible assumption | omega)
                       | exact map_pair_id _
                       | ((try dsimp only [newMovSpec, mrcvSpec, mreadSpec, mstartSpec, mhandSpec, mfinSpec, mphaseSpec, maccSpec, partSpec, partF, accM, Ty.T, Ty.dflt, KT.T, getM, putM, delM, inI64, maxRow]) <;> (try simp only [natCast_eq]) <;> omega)
                       | ((try dsimp only [newMovSpec, mrcvSpec, mreadSpec, mstartSpec, mhandSpec, mfinSpec, mphaseSpec, maccSpec, partSpec, partF, accM, Ty.T, Ty.dflt, KT.T, getM, putM, delM, inI64, maxRow] at *) <;> (try simp only [natCast_eq] at *) <;> omega)
                       | ((try dsimp only [newMovSpec, mrcvSpec, mreadSpec, mstartSpec, mhandSpec, mfinSpec, mphaseSpec, maccSpec, partSpec, partF, accM, Ty.T, Ty.dflt, KT.T, getM, putM, delM, inI64, maxRow] at *) <;> (try simp only [List.length_append, List.length_cons, List.length_nil, List.length_replicate, List.length_take, List.length_drop, natCast_eq] at *) <;> omega)
                       | assumption
                       | (symm; assumption)
                       | (dsimp only; simp only [Bool.or_true, Bool.true_or, Bool.or_false, Bool.false_or, Bool.and_true, Bool.true_and, Bool.and_false, Bool.false_and, Bool.not_true, Bool.not_false, *]; done)
                       | (simp; done)
                       | (and_intros <;> first | trivial | with_reducible assumption | omega)
                       | ((try dsimp only [newMovSpec, mrcvSpec, mreadSpec, mstartSpec, mhandSpec, mfinSpec, mphaseSpec, maccSpec, partSpec, partF, accM, Ty.T, Ty.dflt, KT.T, getM, putM, delM, inI64, maxRow] at *) <;> simp [*] <;> done))
                  | skip
                skip)
             | (obtain ⟨y, hy0, hy1, hy2⟩ := next_LCx (n := l.length) hlo (by assumption) (by assumption) F9.self
                refine ⟨y, by (try dsimp only); (try simp only [natCast_eq]); omega, ?_⟩
                (try (conv in (LoopInv.inv _ _) => dsimp only)); (try (conv in (SS.mk _ _) => cbv; (try dsimp only [newMovSpec, mrcvSpec, mreadSpec, mstartSpec, mhandSpec, mfinSpec, mphaseSpec, maccSpec, partSpec, partF, accM, Ty.T, Ty.dflt, KT.T]); (try simp only [natCast_eq])))
                (with_reducible refine (?_ : T1 _ ?_) ?_; rotate_left 1; (conv => lhs; cbv; (try cbv); (try cbv)); intro hT; clear hT; with_reducible refine Sh.mk (by kernel_rfl) ?_)
                repeat' (first
                  | with_reducible refine Ck.mk (C := tt) tt_intro ?_
                  | with_reducible refine Ck.mk (show drawOk _ _ = true by kernel_rfl) ?_
                  | with_reducible refine Ck.all_cons ?_
                  | with_reducible refine Ck.all_nil ?_
                  | with_reducible refine Ck.mk (by assumption) ?_
                  | with_reducible refine Ck.mk (decide_eq_true (by assumption)) ?_
                  | with_reducible refine Ck.mk (decide_eq_false (by assumption)) ?_
                  | with_reducible refine Ck.mk ?_ ?_
                  | (with_reducible refine Both.mk (fun h => ?_) (fun h => ?_) <;> (have hk := h) <;> (try simp only [decide_eq_true_eq, decide_eq_false_iff_not, Bool.not_eq_true', Bool.not_eq_false', Bool.not_eq_true, Bool.not_eq_false, Bool.not_true, Bool.not_false, ne_eq, Bool.false_eq_true, Bool.true_eq_false, reduceCtorEq, beq_iff_eq, beq_eq_false_iff_ne, not_true_eq_false, not_false_eq_true, pair_eta, map_idL] at h) <;> (try dsimp only [newMovSpec, mrcvSpec, mreadSpec, mstartSpec, mhandSpec, mfinSpec, mphaseSpec, maccSpec, partSpec, partF, accM, Ty.T, Ty.dflt, KT.T, getM, putM, delM] at h) <;> (try simp only [natCast_eq] at h) <;> (try (have A0 := cxA hd h60 hsf.2.1 hm h; have A := A0.f)) <;> (try (have A := cxA' hm h)) <;> (try (have B0 := cxB hd h60 hsf.2.1 A h; have B := B0.f)) <;> (try (have B := cxB' A h)) <;> (try (have lb := u16_at hl hlo (lt_of hhi h))) <;> (try (have C := cxC hd h60 B (mod2 _) (part_pt lb) h)) <;> (try first | rw [if_pos h] at hr | rw [if_neg h] at hr | rw [ifF h] at hr | rw [ifN h] at hr) <;> (try (have hb : (_ : Bool) = _ := h; clear h; subst hb; (try first | rw [if_pos rfl] at hr | rw [if_neg Bool.false_ne_true] at hr))) <;> first | (exfalso; omega) | exact absurd (h.symm.trans (by assumption) : true = false) Bool.noConfusion | exact absurd (h.symm.trans (by assumption) : false = true) Bool.noConfusion | (with_reducible refine (?_ : T1 _ ?_) ?_; rotate_left 1; (conv => lhs; cbv; (try cbv); (try cbv)); intro hT; clear hT; with_reducible refine Sh.mk (by kernel_rfl) ?_))
                  | (with_reducible refine Alt.mk (fun h => ?_) (fun h => ?_) <;> (have hk := h) <;> (try simp only [decide_eq_true_eq, decide_eq_false_iff_not, Bool.not_eq_true', Bool.not_eq_false', Bool.not_eq_true, Bool.not_eq_false, Bool.not_true, Bool.not_false, ne_eq, Bool.false_eq_true, Bool.true_eq_false, reduceCtorEq, beq_iff_eq, beq_eq_false_iff_ne, not_true_eq_false, not_false_eq_true, pair_eta, map_idL] at h) <;> (try dsimp only [newMovSpec, mrcvSpec, mreadSpec, mstartSpec, mhandSpec, mfinSpec, mphaseSpec, maccSpec, partSpec, partF, accM, Ty.T, Ty.dflt, KT.T, getM, putM, delM] at h) <;> (try simp only [natCast_eq] at h) <;> (try (have A0 := cxA hd h60 hsf.2.1 hm h; have A := A0.f)) <;> (try (have A := cxA' hm h)) <;> (try (have B0 := cxB hd h60 hsf.2.1 A h; have B := B0.f)) <;> (try (have B := cxB' A h)) <;> (try (have lb := u16_at hl hlo (lt_of hhi h))) <;> (try (have C := cxC hd h60 B (mod2 _) (part_pt lb) h)) <;> (try first | rw [if_pos h] at hr | rw [if_neg h] at hr | rw [ifF h] at hr | rw [ifN h] at hr) <;> (try (have hb : (_ : Bool) = _ := h; clear h; subst hb; (try first | rw [if_pos rfl] at hr | rw [if_neg Bool.false_ne_true] at hr))) <;> first | (exfalso; omega) | exact absurd (h.symm.trans (by assumption) : true = false) Bool.noConfusion | exact absurd (h.symm.trans (by assumption) : false = true) Bool.noConfusion | (with_reducible refine (?_ : T1 _ ?_) ?_; rotate_left 1; (conv => lhs; cbv; (try cbv); (try cbv)); intro hT; clear hT; with_reducible refine Sh.mk (by kernel_rfl) ?_))
                  | (with_reducible refine Pick.mk (fun h => ?_) (fun l1 x l2 h => ?_) <;> (with_reducible refine (?_ : T1 _ ?_) ?_; rotate_left 1; (conv => lhs; cbv; (try cbv); (try cbv)); intro hT; clear hT; with_reducible refine Sh.mk (by kernel_rfl) ?_))
                  | ((with_reducible refine End.mk ?_); skip)
                  | with_reducible exact True.intro)
                all_goals first
                  | (fail_if_success (with_reducible refine Exists.intro ?_ ?_)
                     first
                       | with_reducible rfl
                       | with_reducible assumption
                       | (dsimp only [newMovSpec, mrcvSpec, mreadSpec, mstartSpec, mhandSpec, mfinSpec, mphaseSpec, maccSpec, partSpec, partF, accM, Ty.T, Ty.dflt, KT.T, getM, putM, delM, inI64, maxRow]; done)
                       | (symm; with_reducible assumption)
                       | (dsimp only [newMovSpec, mrcvSpec, mreadSpec, mstartSpec, mhandSpec, mfinSpec, mphaseSpec, maccSpec, partSpec, partF, accM, Ty.T, Ty.dflt, KT.T, getM, putM, delM, inI64, maxRow]; first | with_reducible rfl | with_reducible assumption | (symm; with_reducible assumption) | (simp only [natCast_eq]; with_reducible rfl) | omega)
                       | omega
                       | (dsimp only [newMovSpec, mrcvSpec, mreadSpec, mstartSpec, mhandSpec, mfinSpec, mphaseSpec, maccSpec, partSpec, partF, accM, Ty.T, Ty.dflt, KT.T, getM, putM, delM, inI64, maxRow]; (try simp only [natCast_eq, List.nil_append]); first | with_reducible rfl | exact take_cg (by omega) | exact drop_cg (by omega) | exact take_drop_cg (by omega) (by omega) | exact take_all (by omega) | exact take_drop_all (by omega) (by omega) | exact drop_take_cg (by omega) (by omega) (by omega))
                       | first | exact hy1.symm | (rw [hy2]; exact setTo_dn (by assumption) hhi3) | (rw [hy1]; exact F9.tk)
                       | ((try dsimp only [newMovSpec, mrcvSpec, mreadSpec, mstartSpec, mhandSpec, mfinSpec, mphaseSpec, maccSpec, partSpec, partF, accM, Ty.T, Ty.dflt, KT.T, getM, putM, delM, inI64, maxRow]); simp only [decide_eq_true_eq, decide_eq_false_iff_not, Bool.not_eq_true', Bool.not_eq_false', Bool.not_eq_true, Bool.not_eq_false, Bool.not_true, Bool.not_false, ne_eq, Bool.false_eq_true, Bool.true_eq_false, reduceCtorEq, beq_iff_eq, beq_eq_false_iff_ne, not_true_eq_false, not_false_eq_true, pair_eta, map_idL, natCast_eq, inI64, maxRow]; first | done | with_reducible assumption | omega)
                       | exact map_pair_id _
                       | ((try dsimp only [newMovSpec, mrcvSpec, mreadSpec, mstartSpec, mhandSpec, mfinSpec, mphaseSpec, maccSpec, partSpec, partF, accM, Ty.T, Ty.dflt, KT.T, getM, putM, delM, inI64, maxRow]) <;> (try simp only [natCast_eq]) <;> omega)
                       | ((try dsimp only [newMovSpec, mrcvSpec, mreadSpec, mstartSpec, mhandSpec, mfinSpec, mphaseSpec, maccSpec, partSpec, partF, accM, Ty.T, Ty.dflt, KT.T, getM, putM, delM, inI64, maxRow] at *) <;> (try simp only [natCast_eq] at *) <;> omega)
                       | ((try dsimp only [newMovSpec, mrcvSpec, mreadSpec, mstartSpec, mhandSpec, mfinSpec, mphaseSpec, maccSpec, partSpec, partF, accM, Ty.T, Ty.dflt, KT.T, getM, putM, delM, inI64, maxRow] at *) <;> (try simp only [List.length_append, List.length_cons, List.length_nil, List.length_replicate, List.length_take, List.length_drop, natCast_eq] at *) <;> omega)
                       | assumption
                       | (symm; assumption)
                       | (dsimp only; simp only [Bool.or_true, Bool.true_or, Bool.or_false, Bool.false_or, Bool.and_true, Bool.true_and, Bool.and_false, Bool.false_and, Bool.not_true, Bool.not_false, *]; done)
                       | (simp; done)
                       | (and_intros <;> first | trivial | with_reducible assumption | omega)
                       | ((try dsimp only [newMovSpec, mrcvSpec, mreadSpec, mstartSpec, mhandSpec, mfinSpec, mphaseSpec, maccSpec, partSpec, partF, accM, Ty.T, Ty.dflt, KT.T, getM, putM, delM, inI64, maxRow] at *) <;> simp [*] <;> done))
                  | skip
                skip)
             ))
  all_goals
    (first
      | (have h5 : l.getD i.toNat 0 % 5 = 0 := h
         obtain ⟨y, hy0, hy1, hy2⟩ := next_LCx (n := l.length) hlo (by assumption) (by assumption) (cxR h60 B (l.getD i.toNat 0 / 2 ^ (5 : Int).toNat % 9))
         refine ⟨y, by (try dsimp only); (try simp only [natCast_eq]); omega, ?_⟩
         (try (conv in (LoopInv.inv _ _) => dsimp only)); (try (conv in (SS.mk _ _) => cbv; (try dsimp only [newMovSpec, mrcvSpec, mreadSpec, mstartSpec, mhandSpec, mfinSpec, mphaseSpec, maccSpec, partSpec, partF, accM, Ty.T, Ty.dflt, KT.T]); (try simp only [natCast_eq])))
         (with_reducible refine (?_ : T1 _ ?_) ?_; rotate_left 1; (conv => lhs; cbv; (try cbv); (try cbv)); intro hT; clear hT; with_reducible refine Sh.mk (by kernel_rfl) ?_)
         repeat' (first
           | with_reducible refine Ck.mk (C := tt) tt_intro ?_
           | with_reducible refine Ck.mk (show drawOk _ _ = true by kernel_rfl) ?_
           | with_reducible refine Ck.all_cons ?_
           | with_reducible refine Ck.all_nil ?_
           | with_reducible refine Ck.mk (by assumption) ?_
           | with_reducible refine Ck.mk (decide_eq_true (by assumption)) ?_
           | with_reducible refine Ck.mk (decide_eq_false (by assumption)) ?_
           | with_reducible refine Ck.mk ?_ ?_
           | (with_reducible refine Both.mk (fun h => ?_) (fun h => ?_) <;> (have hk := h) <;> (try simp only [decide_eq_true_eq, decide_eq_false_iff_not, Bool.not_eq_true', Bool.not_eq_false', Bool.not_eq_true, Bool.not_eq_false, Bool.not_true, Bool.not_false, ne_eq, Bool.false_eq_true, Bool.true_eq_false, reduceCtorEq, beq_iff_eq, beq_eq_false_iff_ne, not_true_eq_false, not_false_eq_true, pair_eta, map_idL] at h) <;> (try dsimp only [newMovSpec, mrcvSpec, mreadSpec, mstartSpec, mhandSpec, mfinSpec, mphaseSpec, maccSpec, partSpec, partF, accM, Ty.T, Ty.dflt, KT.T, getM, putM, delM] at h) <;> (try simp only [natCast_eq] at h) <;> (try (have A0 := cxA hd h60 hsf.2.1 hm h; have A := A0.f)) <;> (try (have A := cxA' hm h)) <;> (try (have B0 := cxB hd h60 hsf.2.1 A h; have B := B0.f)) <;> (try (have B := cxB' A h)) <;> (try (have lb := u16_at hl hlo (lt_of hhi h))) <;> (try (have C := cxC hd h60 B (mod2 _) (part_pt lb) h)) <;> (try first | rw [if_pos h] at hr | rw [if_neg h] at hr | rw [ifF h] at hr | rw [ifN h] at hr) <;> (try (have hb : (_ : Bool) = _ := h; clear h; subst hb; (try first | rw [if_pos rfl] at hr | rw [if_neg Bool.false_ne_true] at hr))) <;> first | (exfalso; omega) | exact absurd (h.symm.trans (by assumption) : true = false) Bool.noConfusion | exact absurd (h.symm.trans (by assumption) : false = true) Bool.noConfusion | (with_reducible refine (?_ : T1 _ ?_) ?_; rotate_left 1; (conv => lhs; cbv; (try cbv); (try cbv)); intro hT; clear hT; with_reducible refine Sh.mk (by kernel_rfl) ?_))
           | (with_reducible refine Alt.mk (fun h => ?_) (fun h => ?_) <;> (have hk := h) <;> (try simp only [decide_eq_true_eq, decide_eq_false_iff_not, Bool.not_eq_true', Bool.not_eq_false', Bool.not_eq_true, Bool.not_eq_false, Bool.not_true, Bool.not_false, ne_eq, Bool.false_eq_true, Bool.true_eq_false, reduceCtorEq, beq_iff_eq, beq_eq_false_iff_ne, not_true_eq_false, not_false_eq_true, pair_eta, map_idL] at h) <;> (try dsimp only [newMovSpec, mrcvSpec, mreadSpec, mstartSpec, mhandSpec, mfinSpec, mphaseSpec, maccSpec, partSpec, partF, accM, Ty.T, Ty.dflt, KT.T, getM, putM, delM] at h) <;> (try simp only [natCast_eq] at h) <;> (try (have A0 := cxA hd h60 hsf.2.1 hm h; have A := A0.f)) <;> (try (have A := cxA' hm h)) <;> (try (have B0 := cxB hd h60 hsf.2.1 A h; have B := B0.f)) <;> (try (have B := cxB' A h)) <;> (try (have lb := u16_at hl hlo (lt_of hhi h))) <;> (try (have C := cxC hd h60 B (mod2 _) (part_pt lb) h)) <;> (try first | rw [if_pos h] at hr | rw [if_neg h] at hr | rw [ifF h] at hr | rw [ifN h] at hr) <;> (try (have hb : (_ : Bool) = _ := h; clear h; subst hb; (try first | rw [if_pos rfl] at hr | rw [if_neg Bool.false_ne_true] at hr))) <;> first | (exfalso; omega) | exact absurd (h.symm.trans (by assumption) : true = false) Bool.noConfusion | exact absurd (h.symm.trans (by assumption) : false = true) Bool.noConfusion | (with_reducible refine (?_ : T1 _ ?_) ?_; rotate_left 1; (conv => lhs; cbv; (try cbv); (try cbv)); intro hT; clear hT; with_reducible refine Sh.mk (by kernel_rfl) ?_))
           | (with_reducible refine Pick.mk (fun h => ?_) (fun l1 x l2 h => ?_) <;> (with_reducible refine (?_ : T1 _ ?_) ?_; rotate_left 1; (conv => lhs; cbv; (try cbv); (try cbv)); intro hT; clear hT; with_reducible refine Sh.mk (by kernel_rfl) ?_))
           | ((with_reducible refine End.mk ?_); skip)
           | with_reducible exact True.intro)
         all_goals first
           | (fail_if_success (with_reducible refine Exists.intro ?_ ?_)
              first
                | with_reducible rfl
                | with_reducible assumption
                | (dsimp only [newMovSpec, mrcvSpec, mreadSpec, mstartSpec, mhandSpec, mfinSpec, mphaseSpec, maccSpec, partSpec, partF, accM, Ty.T, Ty.dflt, KT.T, getM, putM, delM, inI64, maxRow]; done)
                | (symm; with_reducible assumption)
                | (dsimp only [newMovSpec, mrcvSpec, mreadSpec, mstartSpec, mhandSpec, mfinSpec, mphaseSpec, maccSpec, partSpec, partF, accM, Ty.T, Ty.dflt, KT.T, getM, putM, delM, inI64, maxRow]; first | with_reducible rfl | with_reducible assumption | (symm; with_reducible assumption) | (simp only [natCast_eq]; with_reducible rfl) | omega)
                | omega
                | (dsimp only [newMovSpec, mrcvSpec, mreadSpec, mstartSpec, mhandSpec, mfinSpec, mphaseSpec, maccSpec, partSpec, partF, accM, Ty.T, Ty.dflt, KT.T, getM, putM, delM, inI64, maxRow]; (try simp only [natCast_eq, List.nil_append]); first | with_reducible rfl | exact take_cg (by omega) | exact drop_cg (by omega) | exact take_drop_cg (by omega) (by omega) | exact take_all (by omega) | exact take_drop_all (by omega) (by omega) | exact drop_take_cg (by omega) (by omega) (by omega))
                | first | exact hy1.symm | exact hy2.symm | (rw [hy1]; exact (cxG hd h60 B _).e)
                | ((try dsimp only [newMovSpec, mrcvSpec, mreadSpec, mstartSpec, mhandSpec, mfinSpec, mphaseSpec, maccSpec, partSpec, partF, accM, Ty.T, Ty.dflt, KT.T, getM, putM, delM, inI64, maxRow]); simp only [decide_eq_true_eq, decide_eq_false_iff_not, Bool.not_eq_true', Bool.not_eq_false', Bool.not_eq_true, Bool.not_eq_false, Bool.not_true, Bool.not_false, ne_eq, Bool.false_eq_true, Bool.true_eq_false, reduceCtorEq, beq_iff_eq, beq_eq_false_iff_ne, not_true_eq_false, not_false_eq_true, pair_eta, map_idL, natCast_eq, inI64, maxRow]; first | done | with_reducible assumption | omega)
                | exact map_pair_id _
                | ((try dsimp only [newMovSpec, mrcvSpec, mreadSpec, mstartSpec, mhandSpec, mfinSpec, mphaseSpec, maccSpec, partSpec, partF, accM, Ty.T, Ty.dflt, KT.T, getM, putM, delM, inI64, maxRow]) <;> (try simp only [natCast_eq]) <;> omega)
                | ((try dsimp only [newMovSpec, mrcvSpec, mreadSpec, mstartSpec, mhandSpec, mfinSpec, mphaseSpec, maccSpec, partSpec, partF, accM, Ty.T, Ty.dflt, KT.T, getM, putM, delM, inI64, maxRow] at *) <;> (try simp only [natCast_eq] at *) <;> omega)
                | ((try dsimp only [newMovSpec, mrcvSpec, mreadSpec, mstartSpec, mhandSpec, mfinSpec, mphaseSpec, maccSpec, partSpec, partF, accM, Ty.T, Ty.dflt, KT.T, getM, putM, delM, inI64, maxRow] at *) <;> (try simp only [List.length_append, List.length_cons, List.length_nil, List.length_replicate, List.length_take, List.length_drop, natCast_eq] at *) <;> omega)
                | assumption
                | (symm; assumption)
                | (dsimp only; simp only [Bool.or_true, Bool.true_or, Bool.or_false, Bool.false_or, Bool.and_true, Bool.true_and, Bool.and_false, Bool.false_and, Bool.not_true, Bool.not_false, *]; done)
                | (simp; done)
                | (and_intros <;> first | trivial | with_reducible assumption | omega)
                | ((try dsimp only [newMovSpec, mrcvSpec, mreadSpec, mstartSpec, mhandSpec, mfinSpec, mphaseSpec, maccSpec, partSpec, partF, accM, Ty.T, Ty.dflt, KT.T, getM, putM, delM, inI64, maxRow] at *) <;> simp [*] <;> done))
           | skip
         skip)
      | (obtain ⟨y, hy0, hy1, hy2⟩ := next_LCx (n := l.length) hlo (by assumption) (by assumption) B.self
         refine ⟨y, by (try dsimp only); (try simp only [natCast_eq]); omega, ?_⟩
         (try (conv in (LoopInv.inv _ _) => dsimp only)); (try (conv in (SS.mk _ _) => cbv; (try dsimp only [newMovSpec, mrcvSpec, mreadSpec, mstartSpec, mhandSpec, mfinSpec, mphaseSpec, maccSpec, partSpec, partF, accM, Ty.T, Ty.dflt, KT.T]); (try simp only [natCast_eq])))
         (with_reducible refine (?_ : T1 _ ?_) ?_; rotate_left 1; (conv => lhs; cbv; (try cbv); (try cbv)); intro hT; clear hT; with_reducible refine Sh.mk (by kernel_rfl) ?_)
         repeat' (first
           | with_reducible refine Ck.mk (C := tt) tt_intro ?_
           | with_reducible refine Ck.mk (show drawOk _ _ = true by kernel_rfl) ?_
           | with_reducible refine Ck.all_cons ?_
           | with_reducible refine Ck.all_nil ?_
           | with_reducible refine Ck.mk (by assumption) ?_
           | with_reducible refine Ck.mk (decide_eq_true (by assumption)) ?_
           | with_reducible refine Ck.mk (decide_eq_false (by assumption)) ?_
           | with_reducible refine Ck.mk ?_ ?_
           | (with_reducible refine Both.mk (fun h => ?_) (fun h => ?_) <;> (have hk := h) <;> (try simp only [decide_eq_true_eq, decide_eq_false_iff_not, Bool.not_eq_true', Bool.not_eq_false', Bool.not_eq_true, Bool.not_eq_false, Bool.not_true, Bool.not_false, ne_eq, Bool.false_eq_true, Bool.true_eq_false, reduceCtorEq, beq_iff_eq, beq_eq_false_iff_ne, not_true_eq_false, not_false_eq_true, pair_eta, map_idL] at h) <;> (try dsimp only [newMovSpec, mrcvSpec, mreadSpec, mstartSpec, mhandSpec, mfinSpec, mphaseSpec, maccSpec, partSpec, partF, accM, Ty.T, Ty.dflt, KT.T, getM, putM, delM] at h) <;> (try simp only [natCast_eq] at h) <;> (try (have A0 := cxA hd h60 hsf.2.1 hm h; have A := A0.f)) <;> (try (have A := cxA' hm h)) <;> (try (have B0 := cxB hd h60 hsf.2.1 A h; have B := B0.f)) <;> (try (have B := cxB' A h)) <;> (try (have lb := u16_at hl hlo (lt_of hhi h))) <;> (try (have C := cxC hd h60 B (mod2 _) (part_pt lb) h)) <;> (try first | rw [if_pos h] at hr | rw [if_neg h] at hr | rw [ifF h] at hr | rw [ifN h] at hr) <;> (try (have hb : (_ : Bool) = _ := h; clear h; subst hb; (try first | rw [if_pos rfl] at hr | rw [if_neg Bool.false_ne_true] at hr))) <;> first | (exfalso; omega) | exact absurd (h.symm.trans (by assumption) : true = false) Bool.noConfusion | exact absurd (h.symm.trans (by assumption) : false = true) Bool.noConfusion | (with_reducible refine (?_ : T1 _ ?_) ?_; rotate_left 1; (conv => lhs; cbv; (try cbv); (try cbv)); intro hT; clear hT; with_reducible refine Sh.mk (by kernel_rfl) ?_))
           | (with_reducible refine Alt.mk (fun h => ?_) (fun h => ?_) <;> (have hk := h) <;> (try simp only [decide_eq_true_eq, decide_eq_false_iff_not, Bool.not_eq_true', Bool.not_eq_false', Bool.not_eq_true, Bool.not_eq_false, Bool.not_true, Bool.not_false, ne_eq, Bool.false_eq_true, Bool.true_eq_false, reduceCtorEq, beq_iff_eq, beq_eq_false_iff_ne, not_true_eq_false, not_false_eq_true, pair_eta, map_idL] at h) <;> (try dsimp only [newMovSpec, mrcvSpec, mreadSpec, mstartSpec, mhandSpec, mfinSpec, mphaseSpec, maccSpec, partSpec, partF, accM, Ty.T, Ty.dflt, KT.T, getM, putM, delM] at h) <;> (try simp only [natCast_eq] at h) <;> (try (have A0 := cxA hd h60 hsf.2.1 hm h; have A := A0.f)) <;> (try (have A := cxA' hm h)) <;> (try (have B0 := cxB hd h60 hsf.2.1 A h; have B := B0.f)) <;> (try (have B := cxB' A h)) <;> (try (have lb := u16_at hl hlo (lt_of hhi h))) <;> (try (have C := cxC hd h60 B (mod2 _) (part_pt lb) h)) <;> (try first | rw [if_pos h] at hr | rw [if_neg h] at hr | rw [ifF h] at hr | rw [ifN h] at hr) <;> (try (have hb : (_ : Bool) = _ := h; clear h; subst hb; (try first | rw [if_pos rfl] at hr | rw [if_neg Bool.false_ne_true] at hr))) <;> first | (exfalso; omega) | exact absurd (h.symm.trans (by assumption) : true = false) Bool.noConfusion | exact absurd (h.symm.trans (by assumption) : false = true) Bool.noConfusion | (with_reducible refine (?_ : T1 _ ?_) ?_; rotate_left 1; (conv => lhs; cbv; (try cbv); (try cbv)); intro hT; clear hT; with_reducible refine Sh.mk (by kernel_rfl) ?_))
           | (with_reducible refine Pick.mk (fun h => ?_) (fun l1 x l2 h => ?_) <;> (with_reducible refine (?_ : T1 _ ?_) ?_; rotate_left 1; (conv => lhs; cbv; (try cbv); (try cbv)); intro hT; clear hT; with_reducible refine Sh.mk (by kernel_rfl) ?_))
           | ((with_reducible refine End.mk ?_); skip)
           | with_reducible exact True.intro)
         all_goals first
           | (fail_if_success (with_reducible refine Exists.intro ?_ ?_)
              first
                | with_reducible rfl
                | with_reducible assumption
                | (dsimp only [newMovSpec, mrcvSpec, mreadSpec, mstartSpec, mhandSpec, mfinSpec, mphaseSpec, maccSpec, partSpec, partF, accM, Ty.T, Ty.dflt, KT.T, getM, putM, delM, inI64, maxRow]; done)
                | (symm; with_reducible assumption)
                | (dsimp only [newMovSpec, mrcvSpec, mreadSpec, mstartSpec, mhandSpec, mfinSpec, mphaseSpec, maccSpec, partSpec, partF, accM, Ty.T, Ty.dflt, KT.T, getM, putM, delM, inI64, maxRow]; first | with_reducible rfl | with_reducible assumption | (symm; with_reducible assumption) | (simp only [natCast_eq]; with_reducible rfl) | omega)
                | omega
                | (dsimp only [newMovSpec, mrcvSpec, mreadSpec, mstartSpec, mhandSpec, mfinSpec, mphaseSpec, maccSpec, partSpec, partF, accM, Ty.T, Ty.dflt, KT.T, getM, putM, delM, inI64, maxRow]; (try simp only [natCast_eq, List.nil_append]); first | with_reducible rfl | exact take_cg (by omega) | exact drop_cg (by omega) | exact take_drop_cg (by omega) (by omega) | exact take_all (by omega) | exact take_drop_all (by omega) (by omega) | exact drop_take_cg (by omega) (by omega) (by omega))
                | first | exact hy1.symm | exact hy2.symm | (rw [hy1]; exact B.tk)
                | ((try dsimp only [newMovSpec, mrcvSpec, mreadSpec, mstartSpec, mhandSpec, mfinSpec, mphaseSpec, maccSpec, partSpec, partF, accM, Ty.T, Ty.dflt, KT.T, getM, putM, delM, inI64, maxRow]); simp only [decide_eq_true_eq, decide_eq_false_iff_not, Bool.not_eq_true', Bool.not_eq_false', Bool.not_eq_true, Bool.not_eq_false, Bool.not_true, Bool.not_false, ne_eq, Bool.false_eq_true, Bool.true_eq_false, reduceCtorEq, beq_iff_eq, beq_eq_false_iff_ne, not_true_eq_false, not_false_eq_true, pair_eta, map_idL, natCast_eq, inI64, maxRow]; first | done | with_reducible assumption | omega)
                | exact map_pair_id _
                | ((try dsimp only [newMovSpec, mrcvSpec, mreadSpec, mstartSpec, mhandSpec, mfinSpec, mphaseSpec, maccSpec, partSpec, partF, accM, Ty.T, Ty.dflt, KT.T, getM, putM, delM, inI64, maxRow]) <;> (try simp only [natCast_eq]) <;> omega)
                | ((try dsimp only [newMovSpec, mrcvSpec, mreadSpec, mstartSpec, mhandSpec, mfinSpec, mphaseSpec, maccSpec, partSpec, partF, accM, Ty.T, Ty.dflt, KT.T, getM, putM, delM, inI64, maxRow] at *) <;> (try simp only [natCast_eq] at *) <;> omega)
                | ((try dsimp only [newMovSpec, mrcvSpec, mreadSpec, mstartSpec, mhandSpec, mfinSpec, mphaseSpec, maccSpec, partSpec, partF, accM, Ty.T, Ty.dflt, KT.T, getM, putM, delM, inI64, maxRow] at *) <;> (try simp only [List.length_append, List.length_cons, List.length_nil, List.length_replicate, List.length_take, List.length_drop, natCast_eq] at *) <;> omega)
                | assumption
                | (symm; assumption)
                | (dsimp only; simp only [Bool.or_true, Bool.true_or, Bool.or_false, Bool.false_or, Bool.and_true, Bool.true_and, Bool.and_false, Bool.false_and, Bool.not_true, Bool.not_false, *]; done)
                | (simp; done)
                | (and_intros <;> first | trivial | with_reducible assumption | omega)
                | ((try dsimp only [newMovSpec, mrcvSpec, mreadSpec, mstartSpec, mhandSpec, mfinSpec, mphaseSpec, maccSpec, partSpec, partF, accM, Ty.T, Ty.dflt, KT.T, getM, putM, delM, inI64, maxRow] at *) <;> simp [*] <;> done))
           | skip
         skip)
      )
theorem mcx_sound : ConSound Try.prog AI 8 mcxSpec.con := PureSpec.sound Try.call8 (fun x h => mcx_ok x.1 x.2.1 x.2.2.1 x.2.2.2.1 h)
end Go.Proofs.Ytgdiepbjdpmfbaa
