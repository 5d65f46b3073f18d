/-
  Layer 48: MovePrefix, the walk.
-/
import Derived.Test.YtgdiepbjdpmfbaaPrt
namespace Go.Proofs.Ytgdiepbjdpmfbaa
set_option linter.all false
set_option linter.unusedVariables false
set_option linter.unusedSimpArgs false
set_option linter.unusedSectionVars false
open Go.RowKit Go.Sx
set_option maxRecDepth 100000
set_option maxHeartbeats 16000000
theorem bytes_of {d : List Int} (h : ∀ x ∈ d, (Ty.int .u8).ok x) : inBytes d := fun x hx => by have := inRange_u8 (h x hx); omega
theorem beq_inl : ConSound Try.prog AI 18 (inl E0 Try.f18 0) := inl_sound e0Ok mixed (fn := Try.f18) (c := bodyOf Try.f18) Try.call18 (by kernel_rfl) (by kernel_rfl) (by kernel_rfl) 0
noncomputable abbrev Eq0 : Env Ab := ⟨tis, [(18, inl E0 Try.f18 0)] ++ E0.con⟩
theorem eq0Ok : EnvOk Try.prog AI Eq0 := (e0Ok.add beq_inl)
theorem hpf_inl : ConSound Try.prog AI 19 (inl Eq0 Try.f19 0) := inl_sound eq0Ok mixed (fn := Try.f19) (c := bodyOf Try.f19) Try.call19 (by kernel_rfl) (by kernel_rfl) (by kernel_rfl) 0
noncomputable abbrev Ex : Env Ab := ⟨tis, [(22, maccSpec.con), (21, mphaseSpec.con), (20, mfinSpec.con), (17, mhandSpec.con), (16, mstartSpec.con), (15, mreadSpec.con), (13, mrcvSpec.con), (12, newMovSpec.con), (11, awakeSpec.con), (14, partSpec.con), (19, inl Eq0 Try.f19 0)] ++ E0.con⟩
theorem exOk : EnvOk Try.prog AI Ex := (((((((((((e0Ok.add hpf_inl).add part_sound).add awake_sound).add newMov_sound).add mrcv_sound).add mread_sound).add mstart_sound).add mhand_sound).add mfin_sound).add mphase_sound).add macc_sound)
structure LMp (d : List Int) (w : Int) (n : Nat) where
  i : Int
  M : Mov
  lo : 0 ≤ i
  hi : i ≤ n
  fit : FitM M d w
theorem next_LMp {d : List Int} {w : Int} {n : Nat} {i : Int} {M : Mov} (h0 : 0 ≤ i) (h : i < (n : Int)) (hs : FitM M d w) : ∃ y : LMp d w n, y.i = i + 1 ∧ y.M = M := ⟨⟨i + 1, M, by omega, by omega, hs⟩, rfl, rfl⟩
theorem st_i {k : Int} (h : 0 ≤ k ∧ k ≤ 65535) : inI64 k := by unfold inI64; omega
theorem st_m {k m : Int} (h : 0 ≤ k ∧ k ≤ 65535) (hm : 0 < m) : 0 ≤ k ∧ 0 < m ∧ inI64 k := ⟨h.1, hm, st_i h⟩
theorem byt_at {l : List Int} (hl : inBytes l) {i : Int} (h0 : 0 ≤ i) (h : i < (l.length : Int)) : 0 ≤ l.getD i.toNat 0 ∧ l.getD i.toNat 0 ≤ 65535 := by
  have hlt : i.toNat < l.length := by omega
  have := hl (l.getD i.toNat 0) (by rw [List.getD_eq_getElem?_getD, List.getElem?_eq_getElem hlt]; exact List.getElem_mem hlt)
  omega
theorem u16_at {l : List Int} (hl : ∀ y ∈ l, 0 ≤ y ∧ y ≤ 65535) {i : Int} (h0 : 0 ≤ i) (h : i < (l.length : Int)) : 0 ≤ l.getD i.toNat 0 ∧ l.getD i.toNat 0 ≤ 65535 := by
  have hlt : i.toNat < l.length := by omega
  exact hl (l.getD i.toNat 0) (by rw [List.getD_eq_getElem?_getD, List.getElem?_eq_getElem hlt]; exact List.getElem_mem hlt)
theorem tk_le (d : List Int) (n : Nat) : ((d.take n).length : Int) ≤ d.length := by rw [List.length_take]; omega
theorem tk_eq (d : List Int) (n : Nat) : List.drop (Int.toNat 0) (List.take ((((d.take n).length : Nat) : Int)).toNat d) = d.take n := by
  rw [Int.toNat_natCast, List.length_take]
  show List.take _ d = _
  by_cases h : n ≤ d.length
  · rw [Nat.min_eq_left h]
  · rw [Nat.min_eq_right (by omega), List.take_length, List.take_of_length_le (by omega)]
theorem tk_byt {d : List Int} (hd : inBytes d) (m n : Nat) : inBytes (List.drop (Int.toNat 0) (List.take m d)) ∧ inBytes (List.take n d) :=
  ⟨fun x hx => hd x (List.mem_of_mem_take (List.mem_of_mem_drop hx)), fun x hx => hd x (List.mem_of_mem_take hx)⟩
theorem tk_len {d : List Int} {n : Int} (h0 : 0 ≤ n) (h : n ≤ (d.length : Int)) : n = ((d.take n.toNat).length : Int) := by rw [List.length_take]; omega
structure MrF (d : List Int) (w : Int) (M : Mov) (m : Int) : Prop where
  r : FitM (readM M m).2 d w
  rz : d.take (rdO M).toNat ++ ((readM M m).1.1 : List Int) = d.take (rdO (readM M m).2).toNat
  rl : (d.take (rdO M).toNat).length + ((readM M m).1.1 : List Int).length ≤ 1099511627776
  rb : inBytes (d.take (rdO M).toNat ++ ((readM M m).1.1 : List Int))
  rs : (0 : Int) ≤ 0 ∧ 0 ≤ (((d.take (rdO M).toNat ++ ((readM M m).1.1 : List Int)).length : Nat) : Int) ∧ (((d.take (rdO M).toNat ++ ((readM M m).1.1 : List Int)).length : Nat) : Int) ≤ d.length
  re : List.drop (Int.toNat 0) (List.take ((((d.take (rdO M).toNat ++ ((readM M m).1.1 : List Int)).length : Nat) : Int)).toNat d) = d.take (rdO M).toNat ++ ((readM M m).1.1 : List Int)
theorem mrF {d : List Int} {w : Int} {M : Mov} (h : FitM M d w) (hd : inBytes d) (h60 : ¬ 60 < (d.length : Int)) (m : Int) : MrF d w M m := by
  obtain ⟨r1, r2, r3⟩ := m_read h m
  refine ⟨r1, r2, ?_, ?_, ?_, ?_⟩
  · have e : (d.take (rdO M).toNat).length ≤ d.length := by rw [List.length_take]; omega
    have r3 : List.length (readM M m).1.1 ≤ d.length := r3
    show (d.take (rdO M).toNat).length + List.length (readM M m).1.1 ≤ _
    omega
  · rw [r2]; exact fun x hx => hd x (List.mem_of_mem_take hx)
  · rw [r2]; exact ⟨by decide, Int.natCast_nonneg _, tk_le d _⟩
  · rw [r2]; exact tk_eq d _
structure MpF (d : List Int) (w : Int) (M : Mov) (k : Int) : Prop where
  s : StepM M (startM M).2 d w
  se : ((startM M).1.2.1 : Int) = 0 → ((startM M).1.1 : Int) = ((d.take (rdO M).toNat).length : Int)
  h : StepM M (handM M).2 d w
  f : StepM M (finM M).2 d w
  pS : OkM M ∧ (M.ph = .old → M.a.off ≤ 1099511627776)
  pH : OkM M ∧ (M.ph = .drain → M.a.off + M.win ≤ 1099511627776 ∧ (M.a.known = true → M.a.fin ≤ 1099512676352))
  pl : (partS d k).2.1.length ≤ 1048576
theorem mpF {d : List Int} {w : Int} {M : Mov} {k : Int} (h : FitM M d w) (hd : inBytes d) (h60 : ¬ 60 < (d.length : Int)) (hk : 0 ≤ k) : MpF d w M k := by
  obtain ⟨s1, s2⟩ := m_start h (by omega)
  have hr := rdO_le h
  have hp := partS_part d hk
  refine ⟨s1, fun e => (s2 e).trans (tk_len hr.1 hr.2), m_hand h (by omega) hd, m_fin h, ⟨h.ok, fun e => ?_⟩, ⟨h.ok, fun e => m_preR h (by omega) (fun e2 => by rw [e] at e2; cases e2)⟩, ?_⟩
  · have := (h.a (fun e2 => by rw [e] at e2; cases e2)).1.off; omega
  · have h1 := hp.o; have h2 := hp.e; omega
theorem mpE {M N : Mov} {p e : Int} (h : e = (if accB M p = true then 0 else 6) ∧ accB N p = accB M p) : decide (e = 0) = accB N p := by
  rw [h.2, h.1]
  cases accB M p <;> decide
theorem mpS {M N : Mov} {p e : Int} (h : e = (if accB M p = true then 0 else 6) ∧ accB N p = accB M p) (h0 : ¬ e = 0) : e = 6 := by
  rw [h.1] at h0 ⊢
  cases c : accB M p
  · rfl
  · rw [c] at h0; exact absurd rfl h0
theorem mpR {d : List Int} {w : Int} {M : Mov} {k p : Int} (h : FitM M d w) (hd : inBytes d) (h60 : ¬ 60 < (d.length : Int)) (hk : 0 ≤ k) (hp : p = 0 ∨ p = 1) :
    StepM M (rcvM M p (partS d k)).2 d w ∧ ((rcvM M p (partS d k)).1.1 : Int) = (if accB M p = true then 0 else 6) ∧ accB (rcvM M p (partS d k)).2 p = accB M p := m_rcv h (partS_part d hk) (by omega) hd hp
theorem tk_o {d : List Int} {M N : Mov} {w : Int} (h : StepM M N d w) : d.take (rdO M).toNat = d.take (rdO N).toNat := by rw [h.o]
def mpxF (_ : List Int) (_ : Int) (_ _ : List Int) : Tup [DT.cell .bool] := (true, ())
def mpxSpec : PureSpec := ⟨[.lst (.int .u8), .cell (.int .u8), .lst (.int .u16), .lst (.int .u8)], fun (x : (List Int) × Int × (List Int) × (List Int) × Unit) => (x.1.length ≤ maxLen ∧ inBytes x.1) ∧ (0 ≤ x.2.1 ∧ x.2.1 ≤ 255) ∧ (x.2.2.1.length ≤ maxLen ∧ ∀ y ∈ x.2.2.1, 0 ≤ y ∧ y ≤ 65535) ∧ (x.2.2.2.1.length ≤ maxLen ∧ inBytes x.2.2.2.1), [.cell .bool], fun (x : (List Int) × Int × (List Int) × (List Int) × Unit) => mpxF x.1 x.2.1 x.2.2.1 x.2.2.2.1⟩
theorem mpx_ok (d : List Int) (w : Int) (l : List Int) (ks : List Int) (h : mpxSpec.pre (d, w, l, ks, ())) : TmplOk Try.prog AI 6 (argS mpxSpec.ds (fun _ => (d, w, l, ks, ()))) [] (resOf (svs mpxSpec.rs (fun _ => mpxSpec.f (d, w, l, ks, ())))) [] := by
  dsimp only [mpxSpec] at h ⊢
  generalize hr : mpxF d w l ks = r
  obtain ⟨⟨hd0, hd⟩, ⟨w1, w2⟩, ⟨hl0, hl⟩, hk0, hks⟩ := h
  dsimp only [mpxF] at hr
  refine tmpl_of_body exOk mixed (fn := Try.f6) (c := bodyOf Try.f6) (by kernel_rfl) (by kernel_rfl) (by kernel_rfl) (Nat.le_of_ble_eq_true (by kernel_rfl)) ?_
  (try (conv in (LoopInv.inv _ _) => dsimp only)); (try (conv in (SS.mk _ _) => cbv; (try dsimp only [newMovSpec, mrcvSpec, mreadSpec, mstartSpec, mhandSpec, mfinSpec, mphaseSpec, maccSpec, partSpec, partF, accM, Ty.T, Ty.dflt, KT.T]); (try simp only [natCast_eq])))
  (refine (?_ : T1 _ ?_) ?_; rotate_left 1; (conv => lhs; cbv; (try cbv); (try cbv)); intro hT; clear hT; refine Sh.mk (by kernel_rfl) ?_)
  repeat' (first
    | with_reducible refine Ck.mk (C := tt) tt_intro ?_
    | with_reducible refine Ck.mk (show drawOk _ _ = true by kernel_rfl) ?_
    | with_reducible refine Ck.all_cons ?_
    | with_reducible refine Ck.all_nil ?_
    | with_reducible refine Ck.mk (by assumption) ?_
    | with_reducible refine Ck.mk (decide_eq_true (by assumption)) ?_
    | with_reducible refine Ck.mk (decide_eq_false (by assumption)) ?_
    | with_reducible refine Ck.mk ?_ ?_
    | (with_reducible refine Both.mk (fun h => ?_) (fun h => ?_) <;> (have hk := h) <;> (try simp only [decide_eq_true_eq, decide_eq_false_iff_not, Bool.not_eq_true', Bool.not_eq_false', Bool.not_eq_true, Bool.not_eq_false, Bool.not_true, Bool.not_false, ne_eq, Bool.false_eq_true, Bool.true_eq_false, reduceCtorEq, beq_iff_eq, beq_eq_false_iff_ne, not_true_eq_false, not_false_eq_true, pair_eta, map_idL] at h) <;> (try dsimp only [newMovSpec, mrcvSpec, mreadSpec, mstartSpec, mhandSpec, mfinSpec, mphaseSpec, maccSpec, partSpec, partF, accM, Ty.T, Ty.dflt, KT.T, getM, putM, delM] at h) <;> (try simp only [natCast_eq] at h) <;> (try (have kb := byt_at hks hlo h)) <;> (try (have lb := u16_at hl hlo h; have F := mpF hfit hd h60 lb.1; have R := mrF hfit hd h60 (l.getD i.toNat 0 % 20))) <;> (try (have G := mpR (p := ks.getD i.toNat 0 % 16 % 2) hfit hd h60 lb.1 (by omega))) <;> (try (have G0 := mpR (p := 0 % 2) hfit hd h60 lb.1 (.inl rfl))) <;> (try simp only [R.rz] at h) <;> (try (exfalso; exact h (F.se (by assumption)))) <;> (try (exfalso; exact h (tk_le d _))) <;> (try (exfalso; exact h (tk_eq d _))) <;> (try first | rw [if_pos h] at hr | rw [if_neg h] at hr | rw [ifF h] at hr | rw [ifN h] at hr) <;> (try (have hb : (_ : Bool) = _ := h; clear h; subst hb; (try first | rw [if_pos rfl] at hr | rw [if_neg Bool.false_ne_true] at hr))) <;> first | (exfalso; omega) | exact absurd (h.symm.trans (by assumption) : true = false) Bool.noConfusion | exact absurd (h.symm.trans (by assumption) : false = true) Bool.noConfusion | (refine (?_ : T1 _ ?_) ?_; rotate_left 1; (conv => lhs; cbv; (try cbv); (try cbv)); intro hT; clear hT; refine Sh.mk (by kernel_rfl) ?_))
    | (with_reducible refine Alt.mk (fun h => ?_) (fun h => ?_) <;> (have hk := h) <;> (try simp only [decide_eq_true_eq, decide_eq_false_iff_not, Bool.not_eq_true', Bool.not_eq_false', Bool.not_eq_true, Bool.not_eq_false, Bool.not_true, Bool.not_false, ne_eq, Bool.false_eq_true, Bool.true_eq_false, reduceCtorEq, beq_iff_eq, beq_eq_false_iff_ne, not_true_eq_false, not_false_eq_true, pair_eta, map_idL] at h) <;> (try dsimp only [newMovSpec, mrcvSpec, mreadSpec, mstartSpec, mhandSpec, mfinSpec, mphaseSpec, maccSpec, partSpec, partF, accM, Ty.T, Ty.dflt, KT.T, getM, putM, delM] at h) <;> (try simp only [natCast_eq] at h) <;> (try (have kb := byt_at hks hlo h)) <;> (try (have lb := u16_at hl hlo h; have F := mpF hfit hd h60 lb.1; have R := mrF hfit hd h60 (l.getD i.toNat 0 % 20))) <;> (try (have G := mpR (p := ks.getD i.toNat 0 % 16 % 2) hfit hd h60 lb.1 (by omega))) <;> (try (have G0 := mpR (p := 0 % 2) hfit hd h60 lb.1 (.inl rfl))) <;> (try simp only [R.rz] at h) <;> (try (exfalso; exact h (F.se (by assumption)))) <;> (try (exfalso; exact h (tk_le d _))) <;> (try (exfalso; exact h (tk_eq d _))) <;> (try first | rw [if_pos h] at hr | rw [if_neg h] at hr | rw [ifF h] at hr | rw [ifN h] at hr) <;> (try (have hb : (_ : Bool) = _ := h; clear h; subst hb; (try first | rw [if_pos rfl] at hr | rw [if_neg Bool.false_ne_true] at hr))) <;> first | (exfalso; omega) | exact absurd (h.symm.trans (by assumption) : true = false) Bool.noConfusion | exact absurd (h.symm.trans (by assumption) : false = true) Bool.noConfusion | (refine (?_ : T1 _ ?_) ?_; rotate_left 1; (conv => lhs; cbv; (try cbv); (try cbv)); intro hT; clear hT; refine Sh.mk (by kernel_rfl) ?_))
    | (with_reducible refine Pick.mk (fun h => ?_) (fun l1 x l2 h => ?_) <;> (refine (?_ : T1 _ ?_) ?_; rotate_left 1; (conv => lhs; cbv; (try cbv); (try cbv)); intro hT; clear hT; refine Sh.mk (by kernel_rfl) ?_))
    | ((with_reducible refine End.mk ?_); (try ((repeat (first | rw [if_pos (by first | assumption | omega)] at hr | rw [if_neg (by first | assumption | omega | (simp only [Bool.false_eq_true, Bool.true_eq_false, reduceCtorEq, not_false_eq_true]; done) | (simp only [Bool.not_eq_true]; assumption) | (simp only [Bool.not_eq_false]; assumption))] at hr | rw [if_pos rfl] at hr)); subst hr)))
    | with_reducible exact True.intro)
  all_goals first
    | (fail_if_success (with_reducible refine Exists.intro ?_ ?_)
       first
         | with_reducible rfl
         | with_reducible assumption
         | (dsimp only [newMovSpec, mrcvSpec, mreadSpec, mstartSpec, mhandSpec, mfinSpec, mphaseSpec, maccSpec, partSpec, partF, accM, Ty.T, Ty.dflt, KT.T, getM, putM, delM, inI64, maxRow]; done)
         | (symm; with_reducible assumption)
         | (dsimp only [newMovSpec, mrcvSpec, mreadSpec, mstartSpec, mhandSpec, mfinSpec, mphaseSpec, maccSpec, partSpec, partF, accM, Ty.T, Ty.dflt, KT.T, getM, putM, delM, inI64, maxRow]; first | with_reducible rfl | with_reducible assumption | (symm; with_reducible assumption) | (simp only [natCast_eq]; with_reducible rfl) | omega)
         | omega
         | (dsimp only [newMovSpec, mrcvSpec, mreadSpec, mstartSpec, mhandSpec, mfinSpec, mphaseSpec, maccSpec, partSpec, partF, accM, Ty.T, Ty.dflt, KT.T, getM, putM, delM, inI64, maxRow]; (try simp only [natCast_eq, List.nil_append]); first | with_reducible rfl | exact take_cg (by omega) | exact drop_cg (by omega) | exact take_drop_cg (by omega) (by omega) | exact take_all (by omega) | exact take_drop_all (by omega) (by omega) | exact drop_take_cg (by omega) (by omega) (by omega))
         | ((try dsimp only [newMovSpec, mrcvSpec, mreadSpec, mstartSpec, mhandSpec, mfinSpec, mphaseSpec, maccSpec, partSpec, partF, accM, Ty.T, Ty.dflt, KT.T, getM, putM, delM, inI64, maxRow]); simp only [decide_eq_true_eq, decide_eq_false_iff_not, Bool.not_eq_true', Bool.not_eq_false', Bool.not_eq_true, Bool.not_eq_false, Bool.not_true, Bool.not_false, ne_eq, Bool.false_eq_true, Bool.true_eq_false, reduceCtorEq, beq_iff_eq, beq_eq_false_iff_ne, not_true_eq_false, not_false_eq_true, pair_eta, map_idL, natCast_eq, inI64, maxRow]; first | done | with_reducible assumption | omega)
         | exact map_pair_id _
         | ((try dsimp only [newMovSpec, mrcvSpec, mreadSpec, mstartSpec, mhandSpec, mfinSpec, mphaseSpec, maccSpec, partSpec, partF, accM, Ty.T, Ty.dflt, KT.T, getM, putM, delM, inI64, maxRow]) <;> (try simp only [natCast_eq]) <;> omega)
         | ((try dsimp only [newMovSpec, mrcvSpec, mreadSpec, mstartSpec, mhandSpec, mfinSpec, mphaseSpec, maccSpec, partSpec, partF, accM, Ty.T, Ty.dflt, KT.T, getM, putM, delM, inI64, maxRow] at *) <;> (try simp only [natCast_eq] at *) <;> omega)
         | ((try dsimp only [newMovSpec, mrcvSpec, mreadSpec, mstartSpec, mhandSpec, mfinSpec, mphaseSpec, maccSpec, partSpec, partF, accM, Ty.T, Ty.dflt, KT.T, getM, putM, delM, inI64, maxRow] at *) <;> (try simp only [List.length_append, List.length_cons, List.length_nil, List.length_replicate, List.length_take, List.length_drop, natCast_eq] at *) <;> omega)
         | assumption
         | (symm; assumption)
         | (dsimp only; simp only [Bool.or_true, Bool.true_or, Bool.or_false, Bool.false_or, Bool.and_true, Bool.true_and, Bool.and_false, Bool.false_and, Bool.not_true, Bool.not_false, *]; done)
         | (simp; done)
         | (and_intros <;> first | trivial | with_reducible assumption | omega)
         | ((try dsimp only [newMovSpec, mrcvSpec, mreadSpec, mstartSpec, mhandSpec, mfinSpec, mphaseSpec, maccSpec, partSpec, partF, accM, Ty.T, Ty.dflt, KT.T, getM, putM, delM, inI64, maxRow] at *) <;> simp [*] <;> done))
    | skip
  obtain ⟨x0, hx0, hx1⟩ : ∃ x : LMp d (1 + w % 80) l.length, x.i = 0 ∧ x.M = newM (1 + w % 80) := ⟨⟨0, newM (1 + w % 80), by omega, by omega, (fitM_new (by omega) (by omega)).1⟩, rfl, rfl⟩
  refine ⟨⟨LMp d (1 + w % 80) l.length, fun x => ⟨[(0, Sx.one (.ro (.int .u8) (fun _ => d))), (3, Sx.one (.ro (.int .u8) (fun _ => ks))), (9, Sx.one (.ptr 0 0)), (11, Sx.one (.hd 1 0)), (43, Sx.one (.ro (.int .u16) (fun _ => l))), (44, Sx.one (.int .i64 (fun _ => l.length))), (45, Sx.one (.int .i64 (fun _ => x.i)))], [.abs (.mov (fun _ => x.M)), .row 5 (.int .u8) 0 (fun _ => d.take (rdO x.M).toNat)]⟩, fun x => (l.length - x.i).toNat, x0⟩, ?_, fun (x : LMp d (1 + w % 80) l.length) => ?_⟩
  · (try (conv in (LoopInv.inv _ _) => dsimp only)); (try (conv in (SS.mk _ _) => cbv; (try dsimp only [newMovSpec, mrcvSpec, mreadSpec, mstartSpec, mhandSpec, mfinSpec, mphaseSpec, maccSpec, partSpec, partF, accM, Ty.T, Ty.dflt, KT.T]); (try simp only [natCast_eq])))
    (refine (?_ : T1 _ ?_) ?_; rotate_left 1; (conv => lhs; cbv; (try cbv); (try cbv)); intro hT; clear hT; refine Sh.mk (by kernel_rfl) ?_)
    repeat' (first
      | with_reducible refine Ck.mk (C := tt) tt_intro ?_
      | with_reducible refine Ck.mk (show drawOk _ _ = true by kernel_rfl) ?_
      | with_reducible refine Ck.all_cons ?_
      | with_reducible refine Ck.all_nil ?_
      | with_reducible refine Ck.mk (by assumption) ?_
      | with_reducible refine Ck.mk (decide_eq_true (by assumption)) ?_
      | with_reducible refine Ck.mk (decide_eq_false (by assumption)) ?_
      | with_reducible refine Ck.mk ?_ ?_
      | (with_reducible refine Both.mk (fun h => ?_) (fun h => ?_) <;> (have hk := h) <;> (try simp only [decide_eq_true_eq, decide_eq_false_iff_not, Bool.not_eq_true', Bool.not_eq_false', Bool.not_eq_true, Bool.not_eq_false, Bool.not_true, Bool.not_false, ne_eq, Bool.false_eq_true, Bool.true_eq_false, reduceCtorEq, beq_iff_eq, beq_eq_false_iff_ne, not_true_eq_false, not_false_eq_true, pair_eta, map_idL] at h) <;> (try dsimp only [newMovSpec, mrcvSpec, mreadSpec, mstartSpec, mhandSpec, mfinSpec, mphaseSpec, maccSpec, partSpec, partF, accM, Ty.T, Ty.dflt, KT.T, getM, putM, delM] at h) <;> (try simp only [natCast_eq] at h) <;> (try (have kb := byt_at hks hlo h)) <;> (try (have lb := u16_at hl hlo h; have F := mpF hfit hd h60 lb.1; have R := mrF hfit hd h60 (l.getD i.toNat 0 % 20))) <;> (try (have G := mpR (p := ks.getD i.toNat 0 % 16 % 2) hfit hd h60 lb.1 (by omega))) <;> (try (have G0 := mpR (p := 0 % 2) hfit hd h60 lb.1 (.inl rfl))) <;> (try simp only [R.rz] at h) <;> (try (exfalso; exact h (F.se (by assumption)))) <;> (try (exfalso; exact h (tk_le d _))) <;> (try (exfalso; exact h (tk_eq d _))) <;> (try first | rw [if_pos h] at hr | rw [if_neg h] at hr | rw [ifF h] at hr | rw [ifN h] at hr) <;> (try (have hb : (_ : Bool) = _ := h; clear h; subst hb; (try first | rw [if_pos rfl] at hr | rw [if_neg Bool.false_ne_true] at hr))) <;> first | (exfalso; omega) | exact absurd (h.symm.trans (by assumption) : true = false) Bool.noConfusion | exact absurd (h.symm.trans (by assumption) : false = true) Bool.noConfusion | (refine (?_ : T1 _ ?_) ?_; rotate_left 1; (conv => lhs; cbv; (try cbv); (try cbv)); intro hT; clear hT; refine Sh.mk (by kernel_rfl) ?_))
      | (with_reducible refine Alt.mk (fun h => ?_) (fun h => ?_) <;> (have hk := h) <;> (try simp only [decide_eq_true_eq, decide_eq_false_iff_not, Bool.not_eq_true', Bool.not_eq_false', Bool.not_eq_true, Bool.not_eq_false, Bool.not_true, Bool.not_false, ne_eq, Bool.false_eq_true, Bool.true_eq_false, reduceCtorEq, beq_iff_eq, beq_eq_false_iff_ne, not_true_eq_false, not_false_eq_true, pair_eta, map_idL] at h) <;> (try dsimp only [newMovSpec, mrcvSpec, mreadSpec, mstartSpec, mhandSpec, mfinSpec, mphaseSpec, maccSpec, partSpec, partF, accM, Ty.T, Ty.dflt, KT.T, getM, putM, delM] at h) <;> (try simp only [natCast_eq] at h) <;> (try (have kb := byt_at hks hlo h)) <;> (try (have lb := u16_at hl hlo h; have F := mpF hfit hd h60 lb.1; have R := mrF hfit hd h60 (l.getD i.toNat 0 % 20))) <;> (try (have G := mpR (p := ks.getD i.toNat 0 % 16 % 2) hfit hd h60 lb.1 (by omega))) <;> (try (have G0 := mpR (p := 0 % 2) hfit hd h60 lb.1 (.inl rfl))) <;> (try simp only [R.rz] at h) <;> (try (exfalso; exact h (F.se (by assumption)))) <;> (try (exfalso; exact h (tk_le d _))) <;> (try (exfalso; exact h (tk_eq d _))) <;> (try first | rw [if_pos h] at hr | rw [if_neg h] at hr | rw [ifF h] at hr | rw [ifN h] at hr) <;> (try (have hb : (_ : Bool) = _ := h; clear h; subst hb; (try first | rw [if_pos rfl] at hr | rw [if_neg Bool.false_ne_true] at hr))) <;> first | (exfalso; omega) | exact absurd (h.symm.trans (by assumption) : true = false) Bool.noConfusion | exact absurd (h.symm.trans (by assumption) : false = true) Bool.noConfusion | (refine (?_ : T1 _ ?_) ?_; rotate_left 1; (conv => lhs; cbv; (try cbv); (try cbv)); intro hT; clear hT; refine Sh.mk (by kernel_rfl) ?_))
      | (with_reducible refine Pick.mk (fun h => ?_) (fun l1 x l2 h => ?_) <;> (refine (?_ : T1 _ ?_) ?_; rotate_left 1; (conv => lhs; cbv; (try cbv); (try cbv)); intro hT; clear hT; refine Sh.mk (by kernel_rfl) ?_))
      | ((with_reducible refine End.mk ?_); skip)
      | with_reducible exact True.intro)
    all_goals first
      | (fail_if_success (with_reducible refine Exists.intro ?_ ?_)
         first
           | with_reducible rfl
           | with_reducible assumption
           | (dsimp only [newMovSpec, mrcvSpec, mreadSpec, mstartSpec, mhandSpec, mfinSpec, mphaseSpec, maccSpec, partSpec, partF, accM, Ty.T, Ty.dflt, KT.T, getM, putM, delM, inI64, maxRow]; done)
           | (symm; with_reducible assumption)
           | (dsimp only [newMovSpec, mrcvSpec, mreadSpec, mstartSpec, mhandSpec, mfinSpec, mphaseSpec, maccSpec, partSpec, partF, accM, Ty.T, Ty.dflt, KT.T, getM, putM, delM, inI64, maxRow]; first | with_reducible rfl | with_reducible assumption | (symm; with_reducible assumption) | (simp only [natCast_eq]; with_reducible rfl) | omega)
           | omega
           | (dsimp only [newMovSpec, mrcvSpec, mreadSpec, mstartSpec, mhandSpec, mfinSpec, mphaseSpec, maccSpec, partSpec, partF, accM, Ty.T, Ty.dflt, KT.T, getM, putM, delM, inI64, maxRow]; (try simp only [natCast_eq, List.nil_append]); first | with_reducible rfl | exact take_cg (by omega) | exact drop_cg (by omega) | exact take_drop_cg (by omega) (by omega) | exact take_all (by omega) | exact take_drop_all (by omega) (by omega) | exact drop_take_cg (by omega) (by omega) (by omega))
           | first | (rw [hx1]; rfl) | (show _ = x0.M; rw [hx1])
           | ((try dsimp only [newMovSpec, mrcvSpec, mreadSpec, mstartSpec, mhandSpec, mfinSpec, mphaseSpec, maccSpec, partSpec, partF, accM, Ty.T, Ty.dflt, KT.T, getM, putM, delM, inI64, maxRow]); simp only [decide_eq_true_eq, decide_eq_false_iff_not, Bool.not_eq_true', Bool.not_eq_false', Bool.not_eq_true, Bool.not_eq_false, Bool.not_true, Bool.not_false, ne_eq, Bool.false_eq_true, Bool.true_eq_false, reduceCtorEq, beq_iff_eq, beq_eq_false_iff_ne, not_true_eq_false, not_false_eq_true, pair_eta, map_idL, natCast_eq, inI64, maxRow]; first | done | with_reducible assumption | omega)
           | exact map_pair_id _
           | ((try dsimp only [newMovSpec, mrcvSpec, mreadSpec, mstartSpec, mhandSpec, mfinSpec, mphaseSpec, maccSpec, partSpec, partF, accM, Ty.T, Ty.dflt, KT.T, getM, putM, delM, inI64, maxRow]) <;> (try simp only [natCast_eq]) <;> omega)
           | ((try dsimp only [newMovSpec, mrcvSpec, mreadSpec, mstartSpec, mhandSpec, mfinSpec, mphaseSpec, maccSpec, partSpec, partF, accM, Ty.T, Ty.dflt, KT.T, getM, putM, delM, inI64, maxRow] at *) <;> (try simp only [natCast_eq] at *) <;> omega)
           | ((try dsimp only [newMovSpec, mrcvSpec, mreadSpec, mstartSpec, mhandSpec, mfinSpec, mphaseSpec, maccSpec, partSpec, partF, accM, Ty.T, Ty.dflt, KT.T, getM, putM, delM, inI64, maxRow] at *) <;> (try simp only [List.length_append, List.length_cons, List.length_nil, List.length_replicate, List.length_take, List.length_drop, natCast_eq] at *) <;> omega)
           | assumption
           | (symm; assumption)
           | (dsimp only; simp only [Bool.or_true, Bool.true_or, Bool.or_false, Bool.false_or, Bool.and_true, Bool.true_and, Bool.and_false, Bool.false_and, Bool.not_true, Bool.not_false, *]; done)
           | (simp; done)
           | (and_intros <;> first | trivial | with_reducible assumption | omega)
           | ((try dsimp only [newMovSpec, mrcvSpec, mreadSpec, mstartSpec, mhandSpec, mfinSpec, mphaseSpec, maccSpec, partSpec, partF, accM, Ty.T, Ty.dflt, KT.T, getM, putM, delM, inI64, maxRow] at *) <;> simp [*] <;> done))
      | skip
  obtain ⟨i, M, hlo, hhi, hfit⟩ := x
  have h60 : ¬ 60 < (d.length : Int) := by assumption
  have E9 := mrF hfit hd h60 1000
  (try (conv in (LoopInv.inv _ _) => dsimp only)); (try (conv in (SS.mk _ _) => cbv; (try dsimp only [newMovSpec, mrcvSpec, mreadSpec, mstartSpec, mhandSpec, mfinSpec, mphaseSpec, maccSpec, partSpec, partF, accM, Ty.T, Ty.dflt, KT.T]); (try simp only [natCast_eq])))
  (refine (?_ : T1 _ ?_) ?_; rotate_left 1; (conv => lhs; cbv; (try cbv); (try cbv)); intro hT; clear hT; refine Sh.mk (by kernel_rfl) ?_)
  repeat' (first
    | with_reducible refine Ck.mk (C := tt) tt_intro ?_
    | with_reducible refine Ck.mk (show drawOk _ _ = true by kernel_rfl) ?_
    | with_reducible refine Ck.all_cons ?_
    | with_reducible refine Ck.all_nil ?_
    | with_reducible refine Ck.mk (by assumption) ?_
    | with_reducible refine Ck.mk (decide_eq_true (by assumption)) ?_
    | with_reducible refine Ck.mk (decide_eq_false (by assumption)) ?_
    | with_reducible refine Ck.mk ?_ ?_
    | (with_reducible refine Both.mk (fun h => ?_) (fun h => ?_) <;> (have hk := h) <;> (try simp only [decide_eq_true_eq, decide_eq_false_iff_not, Bool.not_eq_true', Bool.not_eq_false', Bool.not_eq_true, Bool.not_eq_false, Bool.not_true, Bool.not_false, ne_eq, Bool.false_eq_true, Bool.true_eq_false, reduceCtorEq, beq_iff_eq, beq_eq_false_iff_ne, not_true_eq_false, not_false_eq_true, pair_eta, map_idL] at h) <;> (try dsimp only [newMovSpec, mrcvSpec, mreadSpec, mstartSpec, mhandSpec, mfinSpec, mphaseSpec, maccSpec, partSpec, partF, accM, Ty.T, Ty.dflt, KT.T, getM, putM, delM] at h) <;> (try simp only [natCast_eq] at h) <;> (try (have kb := byt_at hks hlo h)) <;> (try (have lb := u16_at hl hlo h; have F := mpF hfit hd h60 lb.1; have R := mrF hfit hd h60 (l.getD i.toNat 0 % 20))) <;> (try (have G := mpR (p := ks.getD i.toNat 0 % 16 % 2) hfit hd h60 lb.1 (by omega))) <;> (try (have G0 := mpR (p := 0 % 2) hfit hd h60 lb.1 (.inl rfl))) <;> (try simp only [R.rz] at h) <;> (try (exfalso; exact h (F.se (by assumption)))) <;> (try (exfalso; exact h (tk_le d _))) <;> (try (exfalso; exact h (tk_eq d _))) <;> (try first | rw [if_pos h] at hr | rw [if_neg h] at hr | rw [ifF h] at hr | rw [ifN h] at hr) <;> (try (have hb : (_ : Bool) = _ := h; clear h; subst hb; (try first | rw [if_pos rfl] at hr | rw [if_neg Bool.false_ne_true] at hr))) <;> first | (exfalso; omega) | exact absurd (h.symm.trans (by assumption) : true = false) Bool.noConfusion | exact absurd (h.symm.trans (by assumption) : false = true) Bool.noConfusion | (refine (?_ : T1 _ ?_) ?_; rotate_left 1; (conv => lhs; cbv; (try cbv); (try cbv)); intro hT; clear hT; refine Sh.mk (by kernel_rfl) ?_))
    | (with_reducible refine Alt.mk (fun h => ?_) (fun h => ?_) <;> (have hk := h) <;> (try simp only [decide_eq_true_eq, decide_eq_false_iff_not, Bool.not_eq_true', Bool.not_eq_false', Bool.not_eq_true, Bool.not_eq_false, Bool.not_true, Bool.not_false, ne_eq, Bool.false_eq_true, Bool.true_eq_false, reduceCtorEq, beq_iff_eq, beq_eq_false_iff_ne, not_true_eq_false, not_false_eq_true, pair_eta, map_idL] at h) <;> (try dsimp only [newMovSpec, mrcvSpec, mreadSpec, mstartSpec, mhandSpec, mfinSpec, mphaseSpec, maccSpec, partSpec, partF, accM, Ty.T, Ty.dflt, KT.T, getM, putM, delM] at h) <;> (try simp only [natCast_eq] at h) <;> (try (have kb := byt_at hks hlo h)) <;> (try (have lb := u16_at hl hlo h; have F := mpF hfit hd h60 lb.1; have R := mrF hfit hd h60 (l.getD i.toNat 0 % 20))) <;> (try (have G := mpR (p := ks.getD i.toNat 0 % 16 % 2) hfit hd h60 lb.1 (by omega))) <;> (try (have G0 := mpR (p := 0 % 2) hfit hd h60 lb.1 (.inl rfl))) <;> (try simp only [R.rz] at h) <;> (try (exfalso; exact h (F.se (by assumption)))) <;> (try (exfalso; exact h (tk_le d _))) <;> (try (exfalso; exact h (tk_eq d _))) <;> (try first | rw [if_pos h] at hr | rw [if_neg h] at hr | rw [ifF h] at hr | rw [ifN h] at hr) <;> (try (have hb : (_ : Bool) = _ := h; clear h; subst hb; (try first | rw [if_pos rfl] at hr | rw [if_neg Bool.false_ne_true] at hr))) <;> first | (exfalso; omega) | exact absurd (h.symm.trans (by assumption) : true = false) Bool.noConfusion | exact absurd (h.symm.trans (by assumption) : false = true) Bool.noConfusion | (refine (?_ : T1 _ ?_) ?_; rotate_left 1; (conv => lhs; cbv; (try cbv); (try cbv)); intro hT; clear hT; refine Sh.mk (by kernel_rfl) ?_))
    | (with_reducible refine Pick.mk (fun h => ?_) (fun l1 x l2 h => ?_) <;> (refine (?_ : T1 _ ?_) ?_; rotate_left 1; (conv => lhs; cbv; (try cbv); (try cbv)); intro hT; clear hT; refine Sh.mk (by kernel_rfl) ?_))
    | ((with_reducible refine End.mk ?_); skip)
    | with_reducible exact True.intro)
  all_goals first
    | (fail_if_success (with_reducible refine Exists.intro ?_ ?_)
       first
         | with_reducible rfl
         | with_reducible assumption
         | (dsimp only [newMovSpec, mrcvSpec, mreadSpec, mstartSpec, mhandSpec, mfinSpec, mphaseSpec, maccSpec, partSpec, partF, accM, Ty.T, Ty.dflt, KT.T, getM, putM, delM, inI64, maxRow]; done)
         | (symm; with_reducible assumption)
         | (dsimp only [newMovSpec, mrcvSpec, mreadSpec, mstartSpec, mhandSpec, mfinSpec, mphaseSpec, maccSpec, partSpec, partF, accM, Ty.T, Ty.dflt, KT.T, getM, putM, delM, inI64, maxRow]; first | with_reducible rfl | with_reducible assumption | (symm; with_reducible assumption) | (simp only [natCast_eq]; with_reducible rfl) | omega)
         | omega
         | (dsimp only [newMovSpec, mrcvSpec, mreadSpec, mstartSpec, mhandSpec, mfinSpec, mphaseSpec, maccSpec, partSpec, partF, accM, Ty.T, Ty.dflt, KT.T, getM, putM, delM, inI64, maxRow]; (try simp only [natCast_eq, List.nil_append]); first | with_reducible rfl | exact take_cg (by omega) | exact drop_cg (by omega) | exact take_drop_cg (by omega) (by omega) | exact take_all (by omega) | exact take_drop_all (by omega) (by omega) | exact drop_take_cg (by omega) (by omega) (by omega))
         | first | exact congrArg Prod.fst hr | exact absurd (tk_eq d _) h | exact absurd R.re h | exact absurd (F.se (by assumption)) h | exact absurd (tk_le d _) h | exact R.rs | exact st_i kb | exact st_i lb | exact st_m kb (by decide) | exact st_m lb (by decide) | exact F.pS | exact F.pH | exact hfit.ok | exact R.rl | exact tk_byt hd _ _ | exact ⟨(tk_byt hd _ 0).1, R.rb⟩ | exact ⟨hfit.ok, F.pl⟩ | exact ⟨by omega, lb⟩ | exact absurd (mpE G.2) h | exact absurd (mpS G.2 (by assumption)) h | exact absurd (mpE G0.2) h | exact absurd (mpS G0.2 (by assumption)) h | exact E9.rl | exact E9.rs | exact ⟨(tk_byt hd _ 0).1, E9.rb⟩ | exact (decide_eq_true E9.re).trans (congrArg Prod.fst hr) | exact absurd E9.rs.2.2 h
         | ((try dsimp only [newMovSpec, mrcvSpec, mreadSpec, mstartSpec, mhandSpec, mfinSpec, mphaseSpec, maccSpec, partSpec, partF, accM, Ty.T, Ty.dflt, KT.T, getM, putM, delM, inI64, maxRow]); simp only [decide_eq_true_eq, decide_eq_false_iff_not, Bool.not_eq_true', Bool.not_eq_false', Bool.not_eq_true, Bool.not_eq_false, Bool.not_true, Bool.not_false, ne_eq, Bool.false_eq_true, Bool.true_eq_false, reduceCtorEq, beq_iff_eq, beq_eq_false_iff_ne, not_true_eq_false, not_false_eq_true, pair_eta, map_idL, natCast_eq, inI64, maxRow]; first | done | with_reducible assumption | omega)
         | exact map_pair_id _
         | ((try dsimp only [newMovSpec, mrcvSpec, mreadSpec, mstartSpec, mhandSpec, mfinSpec, mphaseSpec, maccSpec, partSpec, partF, accM, Ty.T, Ty.dflt, KT.T, getM, putM, delM, inI64, maxRow]) <;> (try simp only [natCast_eq]) <;> omega)
         | ((try dsimp only [newMovSpec, mrcvSpec, mreadSpec, mstartSpec, mhandSpec, mfinSpec, mphaseSpec, maccSpec, partSpec, partF, accM, Ty.T, Ty.dflt, KT.T, getM, putM, delM, inI64, maxRow] at *) <;> (try simp only [natCast_eq] at *) <;> omega)
         | ((try dsimp only [newMovSpec, mrcvSpec, mreadSpec, mstartSpec, mhandSpec, mfinSpec, mphaseSpec, maccSpec, partSpec, partF, accM, Ty.T, Ty.dflt, KT.T, getM, putM, delM, inI64, maxRow] at *) <;> (try simp only [List.length_append, List.length_cons, List.length_nil, List.length_replicate, List.length_take, List.length_drop, natCast_eq] at *) <;> omega)
         | assumption
         | (symm; assumption)
         | (dsimp only; simp only [Bool.or_true, Bool.true_or, Bool.or_false, Bool.false_or, Bool.and_true, Bool.true_and, Bool.and_false, Bool.false_and, Bool.not_true, Bool.not_false, *]; done)
         | (simp; done)
         | (and_intros <;> first | trivial | with_reducible assumption | omega)
         | ((try dsimp only [newMovSpec, mrcvSpec, mreadSpec, mstartSpec, mhandSpec, mfinSpec, mphaseSpec, maccSpec, partSpec, partF, accM, Ty.T, Ty.dflt, KT.T, getM, putM, delM, inI64, maxRow] at *) <;> simp [*] <;> done))
    | skip
  all_goals
    first
    | (obtain ⟨y, hy0, hy1⟩ := next_LMp (n := l.length) hlo (by assumption) F.s.f
       refine ⟨y, by dsimp only; (try simp only [natCast_eq]); omega, ?_⟩
       (try (conv in (LoopInv.inv _ _) => dsimp only)); (try (conv in (SS.mk _ _) => cbv; (try dsimp only [newMovSpec, mrcvSpec, mreadSpec, mstartSpec, mhandSpec, mfinSpec, mphaseSpec, maccSpec, partSpec, partF, accM, Ty.T, Ty.dflt, KT.T]); (try simp only [natCast_eq])))
       (refine (?_ : T1 _ ?_) ?_; rotate_left 1; (conv => lhs; cbv; (try cbv); (try cbv)); intro hT; clear hT; refine Sh.mk (by kernel_rfl) ?_)
       repeat' (first
         | with_reducible refine Ck.mk (C := tt) tt_intro ?_
         | with_reducible refine Ck.mk (show drawOk _ _ = true by kernel_rfl) ?_
         | with_reducible refine Ck.all_cons ?_
         | with_reducible refine Ck.all_nil ?_
         | with_reducible refine Ck.mk (by assumption) ?_
         | with_reducible refine Ck.mk (decide_eq_true (by assumption)) ?_
         | with_reducible refine Ck.mk (decide_eq_false (by assumption)) ?_
         | with_reducible refine Ck.mk ?_ ?_
         | (with_reducible refine Both.mk (fun h => ?_) (fun h => ?_) <;> (have hk := h) <;> (try simp only [decide_eq_true_eq, decide_eq_false_iff_not, Bool.not_eq_true', Bool.not_eq_false', Bool.not_eq_true, Bool.not_eq_false, Bool.not_true, Bool.not_false, ne_eq, Bool.false_eq_true, Bool.true_eq_false, reduceCtorEq, beq_iff_eq, beq_eq_false_iff_ne, not_true_eq_false, not_false_eq_true, pair_eta, map_idL] at h) <;> (try dsimp only [newMovSpec, mrcvSpec, mreadSpec, mstartSpec, mhandSpec, mfinSpec, mphaseSpec, maccSpec, partSpec, partF, accM, Ty.T, Ty.dflt, KT.T, getM, putM, delM] at h) <;> (try simp only [natCast_eq] at h) <;> (try (have kb := byt_at hks hlo h)) <;> (try (have lb := u16_at hl hlo h; have F := mpF hfit hd h60 lb.1; have R := mrF hfit hd h60 (l.getD i.toNat 0 % 20))) <;> (try (have G := mpR (p := ks.getD i.toNat 0 % 16 % 2) hfit hd h60 lb.1 (by omega))) <;> (try (have G0 := mpR (p := 0 % 2) hfit hd h60 lb.1 (.inl rfl))) <;> (try simp only [R.rz] at h) <;> (try (exfalso; exact h (F.se (by assumption)))) <;> (try (exfalso; exact h (tk_le d _))) <;> (try (exfalso; exact h (tk_eq d _))) <;> (try first | rw [if_pos h] at hr | rw [if_neg h] at hr | rw [ifF h] at hr | rw [ifN h] at hr) <;> (try (have hb : (_ : Bool) = _ := h; clear h; subst hb; (try first | rw [if_pos rfl] at hr | rw [if_neg Bool.false_ne_true] at hr))) <;> first | (exfalso; omega) | exact absurd (h.symm.trans (by assumption) : true = false) Bool.noConfusion | exact absurd (h.symm.trans (by assumption) : false = true) Bool.noConfusion | (refine (?_ : T1 _ ?_) ?_; rotate_left 1; (conv => lhs; cbv; (try cbv); (try cbv)); intro hT; clear hT; refine Sh.mk (by kernel_rfl) ?_))
         | (with_reducible refine Alt.mk (fun h => ?_) (fun h => ?_) <;> (have hk := h) <;> (try simp only [decide_eq_true_eq, decide_eq_false_iff_not, Bool.not_eq_true', Bool.not_eq_false', Bool.not_eq_true, Bool.not_eq_false, Bool.not_true, Bool.not_false, ne_eq, Bool.false_eq_true, Bool.true_eq_false, reduceCtorEq, beq_iff_eq, beq_eq_false_iff_ne, not_true_eq_false, not_false_eq_true, pair_eta, map_idL] at h) <;> (try dsimp only [newMovSpec, mrcvSpec, mreadSpec, mstartSpec, mhandSpec, mfinSpec, mphaseSpec, maccSpec, partSpec, partF, accM, Ty.T, Ty.dflt, KT.T, getM, putM, delM] at h) <;> (try simp only [natCast_eq] at h) <;> (try (have kb := byt_at hks hlo h)) <;> (try (have lb := u16_at hl hlo h; have F := mpF hfit hd h60 lb.1; have R := mrF hfit hd h60 (l.getD i.toNat 0 % 20))) <;> (try (have G := mpR (p := ks.getD i.toNat 0 % 16 % 2) hfit hd h60 lb.1 (by omega))) <;> (try (have G0 := mpR (p := 0 % 2) hfit hd h60 lb.1 (.inl rfl))) <;> (try simp only [R.rz] at h) <;> (try (exfalso; exact h (F.se (by assumption)))) <;> (try (exfalso; exact h (tk_le d _))) <;> (try (exfalso; exact h (tk_eq d _))) <;> (try first | rw [if_pos h] at hr | rw [if_neg h] at hr | rw [ifF h] at hr | rw [ifN h] at hr) <;> (try (have hb : (_ : Bool) = _ := h; clear h; subst hb; (try first | rw [if_pos rfl] at hr | rw [if_neg Bool.false_ne_true] at hr))) <;> first | (exfalso; omega) | exact absurd (h.symm.trans (by assumption) : true = false) Bool.noConfusion | exact absurd (h.symm.trans (by assumption) : false = true) Bool.noConfusion | (refine (?_ : T1 _ ?_) ?_; rotate_left 1; (conv => lhs; cbv; (try cbv); (try cbv)); intro hT; clear hT; refine Sh.mk (by kernel_rfl) ?_))
         | (with_reducible refine Pick.mk (fun h => ?_) (fun l1 x l2 h => ?_) <;> (refine (?_ : T1 _ ?_) ?_; rotate_left 1; (conv => lhs; cbv; (try cbv); (try cbv)); intro hT; clear hT; refine Sh.mk (by kernel_rfl) ?_))
         | ((with_reducible refine End.mk ?_); skip)
         | with_reducible exact True.intro)
       all_goals first
         | (fail_if_success (with_reducible refine Exists.intro ?_ ?_)
            first
              | with_reducible rfl
              | with_reducible assumption
              | (dsimp only [newMovSpec, mrcvSpec, mreadSpec, mstartSpec, mhandSpec, mfinSpec, mphaseSpec, maccSpec, partSpec, partF, accM, Ty.T, Ty.dflt, KT.T, getM, putM, delM, inI64, maxRow]; done)
              | (symm; with_reducible assumption)
              | (dsimp only [newMovSpec, mrcvSpec, mreadSpec, mstartSpec, mhandSpec, mfinSpec, mphaseSpec, maccSpec, partSpec, partF, accM, Ty.T, Ty.dflt, KT.T, getM, putM, delM, inI64, maxRow]; first | with_reducible rfl | with_reducible assumption | (symm; with_reducible assumption) | (simp only [natCast_eq]; with_reducible rfl) | omega)
              | omega
              | (dsimp only [newMovSpec, mrcvSpec, mreadSpec, mstartSpec, mhandSpec, mfinSpec, mphaseSpec, maccSpec, partSpec, partF, accM, Ty.T, Ty.dflt, KT.T, getM, putM, delM, inI64, maxRow]; (try simp only [natCast_eq, List.nil_append]); first | with_reducible rfl | exact take_cg (by omega) | exact drop_cg (by omega) | exact take_drop_cg (by omega) (by omega) | exact take_all (by omega) | exact take_drop_all (by omega) (by omega) | exact drop_take_cg (by omega) (by omega) (by omega))
              | first | exact hy1.symm | (rw [hy1]; exact tk_o F.s)
              | ((try dsimp only [newMovSpec, mrcvSpec, mreadSpec, mstartSpec, mhandSpec, mfinSpec, mphaseSpec, maccSpec, partSpec, partF, accM, Ty.T, Ty.dflt, KT.T, getM, putM, delM, inI64, maxRow]); simp only [decide_eq_true_eq, decide_eq_false_iff_not, Bool.not_eq_true', Bool.not_eq_false', Bool.not_eq_true, Bool.not_eq_false, Bool.not_true, Bool.not_false, ne_eq, Bool.false_eq_true, Bool.true_eq_false, reduceCtorEq, beq_iff_eq, beq_eq_false_iff_ne, not_true_eq_false, not_false_eq_true, pair_eta, map_idL, natCast_eq, inI64, maxRow]; first | done | with_reducible assumption | omega)
              | exact map_pair_id _
              | ((try dsimp only [newMovSpec, mrcvSpec, mreadSpec, mstartSpec, mhandSpec, mfinSpec, mphaseSpec, maccSpec, partSpec, partF, accM, Ty.T, Ty.dflt, KT.T, getM, putM, delM, inI64, maxRow]) <;> (try simp only [natCast_eq]) <;> omega)
              | ((try dsimp only [newMovSpec, mrcvSpec, mreadSpec, mstartSpec, mhandSpec, mfinSpec, mphaseSpec, maccSpec, partSpec, partF, accM, Ty.T, Ty.dflt, KT.T, getM, putM, delM, inI64, maxRow] at *) <;> (try simp only [natCast_eq] at *) <;> omega)
              | ((try dsimp only [newMovSpec, mrcvSpec, mreadSpec, mstartSpec, mhandSpec, mfinSpec, mphaseSpec, maccSpec, partSpec, partF, accM, Ty.T, Ty.dflt, KT.T, getM, putM, delM, inI64, maxRow] at *) <;> (try simp only [List.length_append, List.length_cons, List.length_nil, List.length_replicate, List.length_take, List.length_drop, natCast_eq] at *) <;> omega)
              | assumption
              | (symm; assumption)
              | (dsimp only; simp only [Bool.or_true, Bool.true_or, Bool.or_false, Bool.false_or, Bool.and_true, Bool.true_and, Bool.and_false, Bool.false_and, Bool.not_true, Bool.not_false, *]; done)
              | (simp; done)
              | (and_intros <;> first | trivial | with_reducible assumption | omega)
              | ((try dsimp only [newMovSpec, mrcvSpec, mreadSpec, mstartSpec, mhandSpec, mfinSpec, mphaseSpec, maccSpec, partSpec, partF, accM, Ty.T, Ty.dflt, KT.T, getM, putM, delM, inI64, maxRow] at *) <;> simp [*] <;> done))
         | skip
       done)
    | (obtain ⟨y, hy0, hy1⟩ := next_LMp (n := l.length) hlo (by assumption) F.h.f
       refine ⟨y, by dsimp only; (try simp only [natCast_eq]); omega, ?_⟩
       (try (conv in (LoopInv.inv _ _) => dsimp only)); (try (conv in (SS.mk _ _) => cbv; (try dsimp only [newMovSpec, mrcvSpec, mreadSpec, mstartSpec, mhandSpec, mfinSpec, mphaseSpec, maccSpec, partSpec, partF, accM, Ty.T, Ty.dflt, KT.T]); (try simp only [natCast_eq])))
       (refine (?_ : T1 _ ?_) ?_; rotate_left 1; (conv => lhs; cbv; (try cbv); (try cbv)); intro hT; clear hT; refine Sh.mk (by kernel_rfl) ?_)
       repeat' (first
         | with_reducible refine Ck.mk (C := tt) tt_intro ?_
         | with_reducible refine Ck.mk (show drawOk _ _ = true by kernel_rfl) ?_
         | with_reducible refine Ck.all_cons ?_
         | with_reducible refine Ck.all_nil ?_
         | with_reducible refine Ck.mk (by assumption) ?_
         | with_reducible refine Ck.mk (decide_eq_true (by assumption)) ?_
         | with_reducible refine Ck.mk (decide_eq_false (by assumption)) ?_
         | with_reducible refine Ck.mk ?_ ?_
         | (with_reducible refine Both.mk (fun h => ?_) (fun h => ?_) <;> (have hk := h) <;> (try simp only [decide_eq_true_eq, decide_eq_false_iff_not, Bool.not_eq_true', Bool.not_eq_false', Bool.not_eq_true, Bool.not_eq_false, Bool.not_true, Bool.not_false, ne_eq, Bool.false_eq_true, Bool.true_eq_false, reduceCtorEq, beq_iff_eq, beq_eq_false_iff_ne, not_true_eq_false, not_false_eq_true, pair_eta, map_idL] at h) <;> (try dsimp only [newMovSpec, mrcvSpec, mreadSpec, mstartSpec, mhandSpec, mfinSpec, mphaseSpec, maccSpec, partSpec, partF, accM, Ty.T, Ty.dflt, KT.T, getM, putM, delM] at h) <;> (try simp only [natCast_eq] at h) <;> (try (have kb := byt_at hks hlo h)) <;> (try (have lb := u16_at hl hlo h; have F := mpF hfit hd h60 lb.1; have R := mrF hfit hd h60 (l.getD i.toNat 0 % 20))) <;> (try (have G := mpR (p := ks.getD i.toNat 0 % 16 % 2) hfit hd h60 lb.1 (by omega))) <;> (try (have G0 := mpR (p := 0 % 2) hfit hd h60 lb.1 (.inl rfl))) <;> (try simp only [R.rz] at h) <;> (try (exfalso; exact h (F.se (by assumption)))) <;> (try (exfalso; exact h (tk_le d _))) <;> (try (exfalso; exact h (tk_eq d _))) <;> (try first | rw [if_pos h] at hr | rw [if_neg h] at hr | rw [ifF h] at hr | rw [ifN h] at hr) <;> (try (have hb : (_ : Bool) = _ := h; clear h; subst hb; (try first | rw [if_pos rfl] at hr | rw [if_neg Bool.false_ne_true] at hr))) <;> first | (exfalso; omega) | exact absurd (h.symm.trans (by assumption) : true = false) Bool.noConfusion | exact absurd (h.symm.trans (by assumption) : false = true) Bool.noConfusion | (refine (?_ : T1 _ ?_) ?_; rotate_left 1; (conv => lhs; cbv; (try cbv); (try cbv)); intro hT; clear hT; refine Sh.mk (by kernel_rfl) ?_))
         | (with_reducible refine Alt.mk (fun h => ?_) (fun h => ?_) <;> (have hk := h) <;> (try simp only [decide_eq_true_eq, decide_eq_false_iff_not, Bool.not_eq_true', Bool.not_eq_false', Bool.not_eq_true, Bool.not_eq_false, Bool.not_true, Bool.not_false, ne_eq, Bool.false_eq_true, Bool.true_eq_false, reduceCtorEq, beq_iff_eq, beq_eq_false_iff_ne, not_true_eq_false, not_false_eq_true, pair_eta, map_idL] at h) <;> (try dsimp only [newMovSpec, mrcvSpec, mreadSpec, mstartSpec, mhandSpec, mfinSpec, mphaseSpec, maccSpec, partSpec, partF, accM, Ty.T, Ty.dflt, KT.T, getM, putM, delM] at h) <;> (try simp only [natCast_eq] at h) <;> (try (have kb := byt_at hks hlo h)) <;> (try (have lb := u16_at hl hlo h; have F := mpF hfit hd h60 lb.1; have R := mrF hfit hd h60 (l.getD i.toNat 0 % 20))) <;> (try (have G := mpR (p := ks.getD i.toNat 0 % 16 % 2) hfit hd h60 lb.1 (by omega))) <;> (try (have G0 := mpR (p := 0 % 2) hfit hd h60 lb.1 (.inl rfl))) <;> (try simp only [R.rz] at h) <;> (try (exfalso; exact h (F.se (by assumption)))) <;> (try (exfalso; exact h (tk_le d _))) <;> (try (exfalso; exact h (tk_eq d _))) <;> (try first | rw [if_pos h] at hr | rw [if_neg h] at hr | rw [ifF h] at hr | rw [ifN h] at hr) <;> (try (have hb : (_ : Bool) = _ := h; clear h; subst hb; (try first | rw [if_pos rfl] at hr | rw [if_neg Bool.false_ne_true] at hr))) <;> first | (exfalso; omega) | exact absurd (h.symm.trans (by assumption) : true = false) Bool.noConfusion | exact absurd (h.symm.trans (by assumption) : false = true) Bool.noConfusion | (refine (?_ : T1 _ ?_) ?_; rotate_left 1; (conv => lhs; cbv; (try cbv); (try cbv)); intro hT; clear hT; refine Sh.mk (by kernel_rfl) ?_))
         | (with_reducible refine Pick.mk (fun h => ?_) (fun l1 x l2 h => ?_) <;> (refine (?_ : T1 _ ?_) ?_; rotate_left 1; (conv => lhs; cbv; (try cbv); (try cbv)); intro hT; clear hT; refine Sh.mk (by kernel_rfl) ?_))
         | ((with_reducible refine End.mk ?_); skip)
         | with_reducible exact True.intro)
       all_goals first
         | (fail_if_success (with_reducible refine Exists.intro ?_ ?_)
            first
              | with_reducible rfl
              | with_reducible assumption
              | (dsimp only [newMovSpec, mrcvSpec, mreadSpec, mstartSpec, mhandSpec, mfinSpec, mphaseSpec, maccSpec, partSpec, partF, accM, Ty.T, Ty.dflt, KT.T, getM, putM, delM, inI64, maxRow]; done)
              | (symm; with_reducible assumption)
              | (dsimp only [newMovSpec, mrcvSpec, mreadSpec, mstartSpec, mhandSpec, mfinSpec, mphaseSpec, maccSpec, partSpec, partF, accM, Ty.T, Ty.dflt, KT.T, getM, putM, delM, inI64, maxRow]; first | with_reducible rfl | with_reducible assumption | (symm; with_reducible assumption) | (simp only [natCast_eq]; with_reducible rfl) | omega)
              | omega
              | (dsimp only [newMovSpec, mrcvSpec, mreadSpec, mstartSpec, mhandSpec, mfinSpec, mphaseSpec, maccSpec, partSpec, partF, accM, Ty.T, Ty.dflt, KT.T, getM, putM, delM, inI64, maxRow]; (try simp only [natCast_eq, List.nil_append]); first | with_reducible rfl | exact take_cg (by omega) | exact drop_cg (by omega) | exact take_drop_cg (by omega) (by omega) | exact take_all (by omega) | exact take_drop_all (by omega) (by omega) | exact drop_take_cg (by omega) (by omega) (by omega))
              | first | exact hy1.symm | (rw [hy1]; exact tk_o F.h)
              | ((try dsimp only [newMovSpec, mrcvSpec, mreadSpec, mstartSpec, mhandSpec, mfinSpec, mphaseSpec, maccSpec, partSpec, partF, accM, Ty.T, Ty.dflt, KT.T, getM, putM, delM, inI64, maxRow]); simp only [decide_eq_true_eq, decide_eq_false_iff_not, Bool.not_eq_true', Bool.not_eq_false', Bool.not_eq_true, Bool.not_eq_false, Bool.not_true, Bool.not_false, ne_eq, Bool.false_eq_true, Bool.true_eq_false, reduceCtorEq, beq_iff_eq, beq_eq_false_iff_ne, not_true_eq_false, not_false_eq_true, pair_eta, map_idL, natCast_eq, inI64, maxRow]; first | done | with_reducible assumption | omega)
              | exact map_pair_id _
              | ((try dsimp only [newMovSpec, mrcvSpec, mreadSpec, mstartSpec, mhandSpec, mfinSpec, mphaseSpec, maccSpec, partSpec, partF, accM, Ty.T, Ty.dflt, KT.T, getM, putM, delM, inI64, maxRow]) <;> (try simp only [natCast_eq]) <;> omega)
              | ((try dsimp only [newMovSpec, mrcvSpec, mreadSpec, mstartSpec, mhandSpec, mfinSpec, mphaseSpec, maccSpec, partSpec, partF, accM, Ty.T, Ty.dflt, KT.T, getM, putM, delM, inI64, maxRow] at *) <;> (try simp only [natCast_eq] at *) <;> omega)
              | ((try dsimp only [newMovSpec, mrcvSpec, mreadSpec, mstartSpec, mhandSpec, mfinSpec, mphaseSpec, maccSpec, partSpec, partF, accM, Ty.T, Ty.dflt, KT.T, getM, putM, delM, inI64, maxRow] at *) <;> (try simp only [List.length_append, List.length_cons, List.length_nil, List.length_replicate, List.length_take, List.length_drop, natCast_eq] at *) <;> omega)
              | assumption
              | (symm; assumption)
              | (dsimp only; simp only [Bool.or_true, Bool.true_or, Bool.or_false, Bool.false_or, Bool.and_true, Bool.true_and, Bool.and_false, Bool.false_and, Bool.not_true, Bool.not_false, *]; done)
              | (simp; done)
              | (and_intros <;> first | trivial | with_reducible assumption | omega)
              | ((try dsimp only [newMovSpec, mrcvSpec, mreadSpec, mstartSpec, mhandSpec, mfinSpec, mphaseSpec, maccSpec, partSpec, partF, accM, Ty.T, Ty.dflt, KT.T, getM, putM, delM, inI64, maxRow] at *) <;> simp [*] <;> done))
         | skip
       done)
    | (obtain ⟨y, hy0, hy1⟩ := next_LMp (n := l.length) hlo (by assumption) F.f.f
       refine ⟨y, by dsimp only; (try simp only [natCast_eq]); omega, ?_⟩
       (try (conv in (LoopInv.inv _ _) => dsimp only)); (try (conv in (SS.mk _ _) => cbv; (try dsimp only [newMovSpec, mrcvSpec, mreadSpec, mstartSpec, mhandSpec, mfinSpec, mphaseSpec, maccSpec, partSpec, partF, accM, Ty.T, Ty.dflt, KT.T]); (try simp only [natCast_eq])))
       (refine (?_ : T1 _ ?_) ?_; rotate_left 1; (conv => lhs; cbv; (try cbv); (try cbv)); intro hT; clear hT; refine Sh.mk (by kernel_rfl) ?_)
       repeat' (first
         | with_reducible refine Ck.mk (C := tt) tt_intro ?_
         | with_reducible refine Ck.mk (show drawOk _ _ = true by kernel_rfl) ?_
         | with_reducible refine Ck.all_cons ?_
         | with_reducible refine Ck.all_nil ?_
         | with_reducible refine Ck.mk (by assumption) ?_
         | with_reducible refine Ck.mk (decide_eq_true (by assumption)) ?_
         | with_reducible refine Ck.mk (decide_eq_false (by assumption)) ?_
         | with_reducible refine Ck.mk ?_ ?_
         | (with_reducible refine Both.mk (fun h => ?_) (fun h => ?_) <;> (have hk := h) <;> (try simp only [decide_eq_true_eq, decide_eq_false_iff_not, Bool.not_eq_true', Bool.not_eq_false', Bool.not_eq_true, Bool.not_eq_false, Bool.not_true, Bool.not_false, ne_eq, Bool.false_eq_true, Bool.true_eq_false, reduceCtorEq, beq_iff_eq, beq_eq_false_iff_ne, not_true_eq_false, not_false_eq_true, pair_eta, map_idL] at h) <;> (try dsimp only [newMovSpec, mrcvSpec, mreadSpec, mstartSpec, mhandSpec, mfinSpec, mphaseSpec, maccSpec, partSpec, partF, accM, Ty.T, Ty.dflt, KT.T, getM, putM, delM] at h) <;> (try simp only [natCast_eq] at h) <;> (try (have kb := byt_at hks hlo h)) <;> (try (have lb := u16_at hl hlo h; have F := mpF hfit hd h60 lb.1; have R := mrF hfit hd h60 (l.getD i.toNat 0 % 20))) <;> (try (have G := mpR (p := ks.getD i.toNat 0 % 16 % 2) hfit hd h60 lb.1 (by omega))) <;> (try (have G0 := mpR (p := 0 % 2) hfit hd h60 lb.1 (.inl rfl))) <;> (try simp only [R.rz] at h) <;> (try (exfalso; exact h (F.se (by assumption)))) <;> (try (exfalso; exact h (tk_le d _))) <;> (try (exfalso; exact h (tk_eq d _))) <;> (try first | rw [if_pos h] at hr | rw [if_neg h] at hr | rw [ifF h] at hr | rw [ifN h] at hr) <;> (try (have hb : (_ : Bool) = _ := h; clear h; subst hb; (try first | rw [if_pos rfl] at hr | rw [if_neg Bool.false_ne_true] at hr))) <;> first | (exfalso; omega) | exact absurd (h.symm.trans (by assumption) : true = false) Bool.noConfusion | exact absurd (h.symm.trans (by assumption) : false = true) Bool.noConfusion | (refine (?_ : T1 _ ?_) ?_; rotate_left 1; (conv => lhs; cbv; (try cbv); (try cbv)); intro hT; clear hT; refine Sh.mk (by kernel_rfl) ?_))
         | (with_reducible refine Alt.mk (fun h => ?_) (fun h => ?_) <;> (have hk := h) <;> (try simp only [decide_eq_true_eq, decide_eq_false_iff_not, Bool.not_eq_true', Bool.not_eq_false', Bool.not_eq_true, Bool.not_eq_false, Bool.not_true, Bool.not_false, ne_eq, Bool.false_eq_true, Bool.true_eq_false, reduceCtorEq, beq_iff_eq, beq_eq_false_iff_ne, not_true_eq_false, not_false_eq_true, pair_eta, map_idL] at h) <;> (try dsimp only [newMovSpec, mrcvSpec, mreadSpec, mstartSpec, mhandSpec, mfinSpec, mphaseSpec, maccSpec, partSpec, partF, accM, Ty.T, Ty.dflt, KT.T, getM, putM, delM] at h) <;> (try simp only [natCast_eq] at h) <;> (try (have kb := byt_at hks hlo h)) <;> (try (have lb := u16_at hl hlo h; have F := mpF hfit hd h60 lb.1; have R := mrF hfit hd h60 (l.getD i.toNat 0 % 20))) <;> (try (have G := mpR (p := ks.getD i.toNat 0 % 16 % 2) hfit hd h60 lb.1 (by omega))) <;> (try (have G0 := mpR (p := 0 % 2) hfit hd h60 lb.1 (.inl rfl))) <;> (try simp only [R.rz] at h) <;> (try (exfalso; exact h (F.se (by assumption)))) <;> (try (exfalso; exact h (tk_le d _))) <;> (try (exfalso; exact h (tk_eq d _))) <;> (try first | rw [if_pos h] at hr | rw [if_neg h] at hr | rw [ifF h] at hr | rw [ifN h] at hr) <;> (try (have hb : (_ : Bool) = _ := h; clear h; subst hb; (try first | rw [if_pos rfl] at hr | rw [if_neg Bool.false_ne_true] at hr))) <;> first | (exfalso; omega) | exact absurd (h.symm.trans (by assumption) : true = false) Bool.noConfusion | exact absurd (h.symm.trans (by assumption) : false = true) Bool.noConfusion | (refine (?_ : T1 _ ?_) ?_; rotate_left 1; (conv => lhs; cbv; (try cbv); (try cbv)); intro hT; clear hT; refine Sh.mk (by kernel_rfl) ?_))
         | (with_reducible refine Pick.mk (fun h => ?_) (fun l1 x l2 h => ?_) <;> (refine (?_ : T1 _ ?_) ?_; rotate_left 1; (conv => lhs; cbv; (try cbv); (try cbv)); intro hT; clear hT; refine Sh.mk (by kernel_rfl) ?_))
         | ((with_reducible refine End.mk ?_); skip)
         | with_reducible exact True.intro)
       all_goals first
         | (fail_if_success (with_reducible refine Exists.intro ?_ ?_)
            first
              | with_reducible rfl
              | with_reducible assumption
              | (dsimp only [newMovSpec, mrcvSpec, mreadSpec, mstartSpec, mhandSpec, mfinSpec, mphaseSpec, maccSpec, partSpec, partF, accM, Ty.T, Ty.dflt, KT.T, getM, putM, delM, inI64, maxRow]; done)
              | (symm; with_reducible assumption)
              | (dsimp only [newMovSpec, mrcvSpec, mreadSpec, mstartSpec, mhandSpec, mfinSpec, mphaseSpec, maccSpec, partSpec, partF, accM, Ty.T, Ty.dflt, KT.T, getM, putM, delM, inI64, maxRow]; first | with_reducible rfl | with_reducible assumption | (symm; with_reducible assumption) | (simp only [natCast_eq]; with_reducible rfl) | omega)
              | omega
              | (dsimp only [newMovSpec, mrcvSpec, mreadSpec, mstartSpec, mhandSpec, mfinSpec, mphaseSpec, maccSpec, partSpec, partF, accM, Ty.T, Ty.dflt, KT.T, getM, putM, delM, inI64, maxRow]; (try simp only [natCast_eq, List.nil_append]); first | with_reducible rfl | exact take_cg (by omega) | exact drop_cg (by omega) | exact take_drop_cg (by omega) (by omega) | exact take_all (by omega) | exact take_drop_all (by omega) (by omega) | exact drop_take_cg (by omega) (by omega) (by omega))
              | first | exact hy1.symm | (rw [hy1]; exact tk_o F.f)
              | ((try dsimp only [newMovSpec, mrcvSpec, mreadSpec, mstartSpec, mhandSpec, mfinSpec, mphaseSpec, maccSpec, partSpec, partF, accM, Ty.T, Ty.dflt, KT.T, getM, putM, delM, inI64, maxRow]); simp only [decide_eq_true_eq, decide_eq_false_iff_not, Bool.not_eq_true', Bool.not_eq_false', Bool.not_eq_true, Bool.not_eq_false, Bool.not_true, Bool.not_false, ne_eq, Bool.false_eq_true, Bool.true_eq_false, reduceCtorEq, beq_iff_eq, beq_eq_false_iff_ne, not_true_eq_false, not_false_eq_true, pair_eta, map_idL, natCast_eq, inI64, maxRow]; first | done | with_reducible assumption | omega)
              | exact map_pair_id _
              | ((try dsimp only [newMovSpec, mrcvSpec, mreadSpec, mstartSpec, mhandSpec, mfinSpec, mphaseSpec, maccSpec, partSpec, partF, accM, Ty.T, Ty.dflt, KT.T, getM, putM, delM, inI64, maxRow]) <;> (try simp only [natCast_eq]) <;> omega)
              | ((try dsimp only [newMovSpec, mrcvSpec, mreadSpec, mstartSpec, mhandSpec, mfinSpec, mphaseSpec, maccSpec, partSpec, partF, accM, Ty.T, Ty.dflt, KT.T, getM, putM, delM, inI64, maxRow] at *) <;> (try simp only [natCast_eq] at *) <;> omega)
              | ((try dsimp only [newMovSpec, mrcvSpec, mreadSpec, mstartSpec, mhandSpec, mfinSpec, mphaseSpec, maccSpec, partSpec, partF, accM, Ty.T, Ty.dflt, KT.T, getM, putM, delM, inI64, maxRow] at *) <;> (try simp only [List.length_append, List.length_cons, List.length_nil, List.length_replicate, List.length_take, List.length_drop, natCast_eq] at *) <;> omega)
              | assumption
              | (symm; assumption)
              | (dsimp only; simp only [Bool.or_true, Bool.true_or, Bool.or_false, Bool.false_or, Bool.and_true, Bool.true_and, Bool.and_false, Bool.false_and, Bool.not_true, Bool.not_false, *]; done)
              | (simp; done)
              | (and_intros <;> first | trivial | with_reducible assumption | omega)
              | ((try dsimp only [newMovSpec, mrcvSpec, mreadSpec, mstartSpec, mhandSpec, mfinSpec, mphaseSpec, maccSpec, partSpec, partF, accM, Ty.T, Ty.dflt, KT.T, getM, putM, delM, inI64, maxRow] at *) <;> simp [*] <;> done))
         | skip
       done)
    | (obtain ⟨y, hy0, hy1⟩ := next_LMp (n := l.length) hlo (by assumption) R.r
       refine ⟨y, by dsimp only; (try simp only [natCast_eq]); omega, ?_⟩
       (try (conv in (LoopInv.inv _ _) => dsimp only)); (try (conv in (SS.mk _ _) => cbv; (try dsimp only [newMovSpec, mrcvSpec, mreadSpec, mstartSpec, mhandSpec, mfinSpec, mphaseSpec, maccSpec, partSpec, partF, accM, Ty.T, Ty.dflt, KT.T]); (try simp only [natCast_eq])))
       (refine (?_ : T1 _ ?_) ?_; rotate_left 1; (conv => lhs; cbv; (try cbv); (try cbv)); intro hT; clear hT; refine Sh.mk (by kernel_rfl) ?_)
       repeat' (first
         | with_reducible refine Ck.mk (C := tt) tt_intro ?_
         | with_reducible refine Ck.mk (show drawOk _ _ = true by kernel_rfl) ?_
         | with_reducible refine Ck.all_cons ?_
         | with_reducible refine Ck.all_nil ?_
         | with_reducible refine Ck.mk (by assumption) ?_
         | with_reducible refine Ck.mk (decide_eq_true (by assumption)) ?_
         | with_reducible refine Ck.mk (decide_eq_false (by assumption)) ?_
         | with_reducible refine Ck.mk ?_ ?_
         | (with_reducible refine Both.mk (fun h => ?_) (fun h => ?_) <;> (have hk := h) <;> (try simp only [decide_eq_true_eq, decide_eq_false_iff_not, Bool.not_eq_true', Bool.not_eq_false', Bool.not_eq_true, Bool.not_eq_false, Bool.not_true, Bool.not_false, ne_eq, Bool.false_eq_true, Bool.true_eq_false, reduceCtorEq, beq_iff_eq, beq_eq_false_iff_ne, not_true_eq_false, not_false_eq_true, pair_eta, map_idL] at h) <;> (try dsimp only [newMovSpec, mrcvSpec, mreadSpec, mstartSpec, mhandSpec, mfinSpec, mphaseSpec, maccSpec, partSpec, partF, accM, Ty.T, Ty.dflt, KT.T, getM, putM, delM] at h) <;> (try simp only [natCast_eq] at h) <;> (try (have kb := byt_at hks hlo h)) <;> (try (have lb := u16_at hl hlo h; have F := mpF hfit hd h60 lb.1; have R := mrF hfit hd h60 (l.getD i.toNat 0 % 20))) <;> (try (have G := mpR (p := ks.getD i.toNat 0 % 16 % 2) hfit hd h60 lb.1 (by omega))) <;> (try (have G0 := mpR (p := 0 % 2) hfit hd h60 lb.1 (.inl rfl))) <;> (try simp only [R.rz] at h) <;> (try (exfalso; exact h (F.se (by assumption)))) <;> (try (exfalso; exact h (tk_le d _))) <;> (try (exfalso; exact h (tk_eq d _))) <;> (try first | rw [if_pos h] at hr | rw [if_neg h] at hr | rw [ifF h] at hr | rw [ifN h] at hr) <;> (try (have hb : (_ : Bool) = _ := h; clear h; subst hb; (try first | rw [if_pos rfl] at hr | rw [if_neg Bool.false_ne_true] at hr))) <;> first | (exfalso; omega) | exact absurd (h.symm.trans (by assumption) : true = false) Bool.noConfusion | exact absurd (h.symm.trans (by assumption) : false = true) Bool.noConfusion | (refine (?_ : T1 _ ?_) ?_; rotate_left 1; (conv => lhs; cbv; (try cbv); (try cbv)); intro hT; clear hT; refine Sh.mk (by kernel_rfl) ?_))
         | (with_reducible refine Alt.mk (fun h => ?_) (fun h => ?_) <;> (have hk := h) <;> (try simp only [decide_eq_true_eq, decide_eq_false_iff_not, Bool.not_eq_true', Bool.not_eq_false', Bool.not_eq_true, Bool.not_eq_false, Bool.not_true, Bool.not_false, ne_eq, Bool.false_eq_true, Bool.true_eq_false, reduceCtorEq, beq_iff_eq, beq_eq_false_iff_ne, not_true_eq_false, not_false_eq_true, pair_eta, map_idL] at h) <;> (try dsimp only [newMovSpec, mrcvSpec, mreadSpec, mstartSpec, mhandSpec, mfinSpec, mphaseSpec, maccSpec, partSpec, partF, accM, Ty.T, Ty.dflt, KT.T, getM, putM, delM] at h) <;> (try simp only [natCast_eq] at h) <;> (try (have kb := byt_at hks hlo h)) <;> (try (have lb := u16_at hl hlo h; have F := mpF hfit hd h60 lb.1; have R := mrF hfit hd h60 (l.getD i.toNat 0 % 20))) <;> (try (have G := mpR (p := ks.getD i.toNat 0 % 16 % 2) hfit hd h60 lb.1 (by omega))) <;> (try (have G0 := mpR (p := 0 % 2) hfit hd h60 lb.1 (.inl rfl))) <;> (try simp only [R.rz] at h) <;> (try (exfalso; exact h (F.se (by assumption)))) <;> (try (exfalso; exact h (tk_le d _))) <;> (try (exfalso; exact h (tk_eq d _))) <;> (try first | rw [if_pos h] at hr | rw [if_neg h] at hr | rw [ifF h] at hr | rw [ifN h] at hr) <;> (try (have hb : (_ : Bool) = _ := h; clear h; subst hb; (try first | rw [if_pos rfl] at hr | rw [if_neg Bool.false_ne_true] at hr))) <;> first | (exfalso; omega) | exact absurd (h.symm.trans (by assumption) : true = false) Bool.noConfusion | exact absurd (h.symm.trans (by assumption) : false = true) Bool.noConfusion | (refine (?_ : T1 _ ?_) ?_; rotate_left 1; (conv => lhs; cbv; (try cbv); (try cbv)); intro hT; clear hT; refine Sh.mk (by kernel_rfl) ?_))
         | (with_reducible refine Pick.mk (fun h => ?_) (fun l1 x l2 h => ?_) <;> (refine (?_ : T1 _ ?_) ?_; rotate_left 1; (conv => lhs; cbv; (try cbv); (try cbv)); intro hT; clear hT; refine Sh.mk (by kernel_rfl) ?_))
         | ((with_reducible refine End.mk ?_); skip)
         | with_reducible exact True.intro)
       all_goals first
         | (fail_if_success (with_reducible refine Exists.intro ?_ ?_)
            first
              | with_reducible rfl
              | with_reducible assumption
              | (dsimp only [newMovSpec, mrcvSpec, mreadSpec, mstartSpec, mhandSpec, mfinSpec, mphaseSpec, maccSpec, partSpec, partF, accM, Ty.T, Ty.dflt, KT.T, getM, putM, delM, inI64, maxRow]; done)
              | (symm; with_reducible assumption)
              | (dsimp only [newMovSpec, mrcvSpec, mreadSpec, mstartSpec, mhandSpec, mfinSpec, mphaseSpec, maccSpec, partSpec, partF, accM, Ty.T, Ty.dflt, KT.T, getM, putM, delM, inI64, maxRow]; first | with_reducible rfl | with_reducible assumption | (symm; with_reducible assumption) | (simp only [natCast_eq]; with_reducible rfl) | omega)
              | omega
              | (dsimp only [newMovSpec, mrcvSpec, mreadSpec, mstartSpec, mhandSpec, mfinSpec, mphaseSpec, maccSpec, partSpec, partF, accM, Ty.T, Ty.dflt, KT.T, getM, putM, delM, inI64, maxRow]; (try simp only [natCast_eq, List.nil_append]); first | with_reducible rfl | exact take_cg (by omega) | exact drop_cg (by omega) | exact take_drop_cg (by omega) (by omega) | exact take_all (by omega) | exact take_drop_all (by omega) (by omega) | exact drop_take_cg (by omega) (by omega) (by omega))
              | first | exact hy1.symm | (rw [hy1]; exact R.rz)
              | ((try dsimp only [newMovSpec, mrcvSpec, mreadSpec, mstartSpec, mhandSpec, mfinSpec, mphaseSpec, maccSpec, partSpec, partF, accM, Ty.T, Ty.dflt, KT.T, getM, putM, delM, inI64, maxRow]); simp only [decide_eq_true_eq, decide_eq_false_iff_not, Bool.not_eq_true', Bool.not_eq_false', Bool.not_eq_true, Bool.not_eq_false, Bool.not_true, Bool.not_false, ne_eq, Bool.false_eq_true, Bool.true_eq_false, reduceCtorEq, beq_iff_eq, beq_eq_false_iff_ne, not_true_eq_false, not_false_eq_true, pair_eta, map_idL, natCast_eq, inI64, maxRow]; first | done | with_reducible assumption | omega)
              | exact map_pair_id _
              | ((try dsimp only [newMovSpec, mrcvSpec, mreadSpec, mstartSpec, mhandSpec, mfinSpec, mphaseSpec, maccSpec, partSpec, partF, accM, Ty.T, Ty.dflt, KT.T, getM, putM, delM, inI64, maxRow]) <;> (try simp only [natCast_eq]) <;> omega)
              | ((try dsimp only [newMovSpec, mrcvSpec, mreadSpec, mstartSpec, mhandSpec, mfinSpec, mphaseSpec, maccSpec, partSpec, partF, accM, Ty.T, Ty.dflt, KT.T, getM, putM, delM, inI64, maxRow] at *) <;> (try simp only [natCast_eq] at *) <;> omega)
              | ((try dsimp only [newMovSpec, mrcvSpec, mreadSpec, mstartSpec, mhandSpec, mfinSpec, mphaseSpec, maccSpec, partSpec, partF, accM, Ty.T, Ty.dflt, KT.T, getM, putM, delM, inI64, maxRow] at *) <;> (try simp only [List.length_append, List.length_cons, List.length_nil, List.length_replicate, List.length_take, List.length_drop, natCast_eq] at *) <;> omega)
              | assumption
              | (symm; assumption)
              | (dsimp only; simp only [Bool.or_true, Bool.true_or, Bool.or_false, Bool.false_or, Bool.and_true, Bool.true_and, Bool.and_false, Bool.false_and, Bool.not_true, Bool.not_false, *]; done)
              | (simp; done)
              | (and_intros <;> first | trivial | with_reducible assumption | omega)
              | ((try dsimp only [newMovSpec, mrcvSpec, mreadSpec, mstartSpec, mhandSpec, mfinSpec, mphaseSpec, maccSpec, partSpec, partF, accM, Ty.T, Ty.dflt, KT.T, getM, putM, delM, inI64, maxRow] at *) <;> simp [*] <;> done))
         | skip
       done)
    | (obtain ⟨y, hy0, hy1⟩ := next_LMp (n := l.length) hlo (by assumption) G.1.f
       refine ⟨y, by dsimp only; (try simp only [natCast_eq]); omega, ?_⟩
       (try (conv in (LoopInv.inv _ _) => dsimp only)); (try (conv in (SS.mk _ _) => cbv; (try dsimp only [newMovSpec, mrcvSpec, mreadSpec, mstartSpec, mhandSpec, mfinSpec, mphaseSpec, maccSpec, partSpec, partF, accM, Ty.T, Ty.dflt, KT.T]); (try simp only [natCast_eq])))
       (refine (?_ : T1 _ ?_) ?_; rotate_left 1; (conv => lhs; cbv; (try cbv); (try cbv)); intro hT; clear hT; refine Sh.mk (by kernel_rfl) ?_)
       repeat' (first
         | with_reducible refine Ck.mk (C := tt) tt_intro ?_
         | with_reducible refine Ck.mk (show drawOk _ _ = true by kernel_rfl) ?_
         | with_reducible refine Ck.all_cons ?_
         | with_reducible refine Ck.all_nil ?_
         | with_reducible refine Ck.mk (by assumption) ?_
         | with_reducible refine Ck.mk (decide_eq_true (by assumption)) ?_
         | with_reducible refine Ck.mk (decide_eq_false (by assumption)) ?_
         | with_reducible refine Ck.mk ?_ ?_
         | (with_reducible refine Both.mk (fun h => ?_) (fun h => ?_) <;> (have hk := h) <;> (try simp only [decide_eq_true_eq, decide_eq_false_iff_not, Bool.not_eq_true', Bool.not_eq_false', Bool.not_eq_true, Bool.not_eq_false, Bool.not_true, Bool.not_false, ne_eq, Bool.false_eq_true, Bool.true_eq_false, reduceCtorEq, beq_iff_eq, beq_eq_false_iff_ne, not_true_eq_false, not_false_eq_true, pair_eta, map_idL] at h) <;> (try dsimp only [newMovSpec, mrcvSpec, mreadSpec, mstartSpec, mhandSpec, mfinSpec, mphaseSpec, maccSpec, partSpec, partF, accM, Ty.T, Ty.dflt, KT.T, getM, putM, delM] at h) <;> (try simp only [natCast_eq] at h) <;> (try (have kb := byt_at hks hlo h)) <;> (try (have lb := u16_at hl hlo h; have F := mpF hfit hd h60 lb.1; have R := mrF hfit hd h60 (l.getD i.toNat 0 % 20))) <;> (try (have G := mpR (p := ks.getD i.toNat 0 % 16 % 2) hfit hd h60 lb.1 (by omega))) <;> (try (have G0 := mpR (p := 0 % 2) hfit hd h60 lb.1 (.inl rfl))) <;> (try simp only [R.rz] at h) <;> (try (exfalso; exact h (F.se (by assumption)))) <;> (try (exfalso; exact h (tk_le d _))) <;> (try (exfalso; exact h (tk_eq d _))) <;> (try first | rw [if_pos h] at hr | rw [if_neg h] at hr | rw [ifF h] at hr | rw [ifN h] at hr) <;> (try (have hb : (_ : Bool) = _ := h; clear h; subst hb; (try first | rw [if_pos rfl] at hr | rw [if_neg Bool.false_ne_true] at hr))) <;> first | (exfalso; omega) | exact absurd (h.symm.trans (by assumption) : true = false) Bool.noConfusion | exact absurd (h.symm.trans (by assumption) : false = true) Bool.noConfusion | (refine (?_ : T1 _ ?_) ?_; rotate_left 1; (conv => lhs; cbv; (try cbv); (try cbv)); intro hT; clear hT; refine Sh.mk (by kernel_rfl) ?_))
         | (with_reducible refine Alt.mk (fun h => ?_) (fun h => ?_) <;> (have hk := h) <;> (try simp only [decide_eq_true_eq, decide_eq_false_iff_not, Bool.not_eq_true', Bool.not_eq_false', Bool.not_eq_true, Bool.not_eq_false, Bool.not_true, Bool.not_false, ne_eq, Bool.false_eq_true, Bool.true_eq_false, reduceCtorEq, beq_iff_eq, beq_eq_false_iff_ne, not_true_eq_false, not_false_eq_true, pair_eta, map_idL] at h) <;> (try dsimp only [newMovSpec, mrcvSpec, mreadSpec, mstartSpec, mhandSpec, mfinSpec, mphaseSpec, maccSpec, partSpec, partF, accM, Ty.T, Ty.dflt, KT.T, getM, putM, delM] at h) <;> (try simp only [natCast_eq] at h) <;> (try (have kb := byt_at hks hlo h)) <;> (try (have lb := u16_at hl hlo h; have F := mpF hfit hd h60 lb.1; have R := mrF hfit hd h60 (l.getD i.toNat 0 % 20))) <;> (try (have G := mpR (p := ks.getD i.toNat 0 % 16 % 2) hfit hd h60 lb.1 (by omega))) <;> (try (have G0 := mpR (p := 0 % 2) hfit hd h60 lb.1 (.inl rfl))) <;> (try simp only [R.rz] at h) <;> (try (exfalso; exact h (F.se (by assumption)))) <;> (try (exfalso; exact h (tk_le d _))) <;> (try (exfalso; exact h (tk_eq d _))) <;> (try first | rw [if_pos h] at hr | rw [if_neg h] at hr | rw [ifF h] at hr | rw [ifN h] at hr) <;> (try (have hb : (_ : Bool) = _ := h; clear h; subst hb; (try first | rw [if_pos rfl] at hr | rw [if_neg Bool.false_ne_true] at hr))) <;> first | (exfalso; omega) | exact absurd (h.symm.trans (by assumption) : true = false) Bool.noConfusion | exact absurd (h.symm.trans (by assumption) : false = true) Bool.noConfusion | (refine (?_ : T1 _ ?_) ?_; rotate_left 1; (conv => lhs; cbv; (try cbv); (try cbv)); intro hT; clear hT; refine Sh.mk (by kernel_rfl) ?_))
         | (with_reducible refine Pick.mk (fun h => ?_) (fun l1 x l2 h => ?_) <;> (refine (?_ : T1 _ ?_) ?_; rotate_left 1; (conv => lhs; cbv; (try cbv); (try cbv)); intro hT; clear hT; refine Sh.mk (by kernel_rfl) ?_))
         | ((with_reducible refine End.mk ?_); skip)
         | with_reducible exact True.intro)
       all_goals first
         | (fail_if_success (with_reducible refine Exists.intro ?_ ?_)
            first
              | with_reducible rfl
              | with_reducible assumption
              | (dsimp only [newMovSpec, mrcvSpec, mreadSpec, mstartSpec, mhandSpec, mfinSpec, mphaseSpec, maccSpec, partSpec, partF, accM, Ty.T, Ty.dflt, KT.T, getM, putM, delM, inI64, maxRow]; done)
              | (symm; with_reducible assumption)
              | (dsimp only [newMovSpec, mrcvSpec, mreadSpec, mstartSpec, mhandSpec, mfinSpec, mphaseSpec, maccSpec, partSpec, partF, accM, Ty.T, Ty.dflt, KT.T, getM, putM, delM, inI64, maxRow]; first | with_reducible rfl | with_reducible assumption | (symm; with_reducible assumption) | (simp only [natCast_eq]; with_reducible rfl) | omega)
              | omega
              | (dsimp only [newMovSpec, mrcvSpec, mreadSpec, mstartSpec, mhandSpec, mfinSpec, mphaseSpec, maccSpec, partSpec, partF, accM, Ty.T, Ty.dflt, KT.T, getM, putM, delM, inI64, maxRow]; (try simp only [natCast_eq, List.nil_append]); first | with_reducible rfl | exact take_cg (by omega) | exact drop_cg (by omega) | exact take_drop_cg (by omega) (by omega) | exact take_all (by omega) | exact take_drop_all (by omega) (by omega) | exact drop_take_cg (by omega) (by omega) (by omega))
              | first | exact hy1.symm | (rw [hy1]; exact tk_o G.1)
              | ((try dsimp only [newMovSpec, mrcvSpec, mreadSpec, mstartSpec, mhandSpec, mfinSpec, mphaseSpec, maccSpec, partSpec, partF, accM, Ty.T, Ty.dflt, KT.T, getM, putM, delM, inI64, maxRow]); simp only [decide_eq_true_eq, decide_eq_false_iff_not, Bool.not_eq_true', Bool.not_eq_false', Bool.not_eq_true, Bool.not_eq_false, Bool.not_true, Bool.not_false, ne_eq, Bool.false_eq_true, Bool.true_eq_false, reduceCtorEq, beq_iff_eq, beq_eq_false_iff_ne, not_true_eq_false, not_false_eq_true, pair_eta, map_idL, natCast_eq, inI64, maxRow]; first | done | with_reducible assumption | omega)
              | exact map_pair_id _
              | ((try dsimp only [newMovSpec, mrcvSpec, mreadSpec, mstartSpec, mhandSpec, mfinSpec, mphaseSpec, maccSpec, partSpec, partF, accM, Ty.T, Ty.dflt, KT.T, getM, putM, delM, inI64, maxRow]) <;> (try simp only [natCast_eq]) <;> omega)
              | ((try dsimp only [newMovSpec, mrcvSpec, mreadSpec, mstartSpec, mhandSpec, mfinSpec, mphaseSpec, maccSpec, partSpec, partF, accM, Ty.T, Ty.dflt, KT.T, getM, putM, delM, inI64, maxRow] at *) <;> (try simp only [natCast_eq] at *) <;> omega)
              | ((try dsimp only [newMovSpec, mrcvSpec, mreadSpec, mstartSpec, mhandSpec, mfinSpec, mphaseSpec, maccSpec, partSpec, partF, accM, Ty.T, Ty.dflt, KT.T, getM, putM, delM, inI64, maxRow] at *) <;> (try simp only [List.length_append, List.length_cons, List.length_nil, List.length_replicate, List.length_take, List.length_drop, natCast_eq] at *) <;> omega)
              | assumption
              | (symm; assumption)
              | (dsimp only; simp only [Bool.or_true, Bool.true_or, Bool.or_false, Bool.false_or, Bool.and_true, Bool.true_and, Bool.and_false, Bool.false_and, Bool.not_true, Bool.not_false, *]; done)
              | (simp; done)
              | (and_intros <;> first | trivial | with_reducible assumption | omega)
              | ((try dsimp only [newMovSpec, mrcvSpec, mreadSpec, mstartSpec, mhandSpec, mfinSpec, mphaseSpec, maccSpec, partSpec, partF, accM, Ty.T, Ty.dflt, KT.T, getM, putM, delM, inI64, maxRow] at *) <;> simp [*] <;> done))
         | skip
       done)
    | (obtain ⟨y, hy0, hy1⟩ := next_LMp (n := l.length) hlo (by assumption) G0.1.f
       refine ⟨y, by dsimp only; (try simp only [natCast_eq]); omega, ?_⟩
       (try (conv in (LoopInv.inv _ _) => dsimp only)); (try (conv in (SS.mk _ _) => cbv; (try dsimp only [newMovSpec, mrcvSpec, mreadSpec, mstartSpec, mhandSpec, mfinSpec, mphaseSpec, maccSpec, partSpec, partF, accM, Ty.T, Ty.dflt, KT.T]); (try simp only [natCast_eq])))
       (refine (?_ : T1 _ ?_) ?_; rotate_left 1; (conv => lhs; cbv; (try cbv); (try cbv)); intro hT; clear hT; refine Sh.mk (by kernel_rfl) ?_)
       repeat' (first
         | with_reducible refine Ck.mk (C := tt) tt_intro ?_
         | with_reducible refine Ck.mk (show drawOk _ _ = true by kernel_rfl) ?_
         | with_reducible refine Ck.all_cons ?_
         | with_reducible refine Ck.all_nil ?_
         | with_reducible refine Ck.mk (by assumption) ?_
         | with_reducible refine Ck.mk (decide_eq_true (by assumption)) ?_
         | with_reducible refine Ck.mk (decide_eq_false (by assumption)) ?_
         | with_reducible refine Ck.mk ?_ ?_
         | (with_reducible refine Both.mk (fun h => ?_) (fun h => ?_) <;> (have hk := h) <;> (try simp only [decide_eq_true_eq, decide_eq_false_iff_not, Bool.not_eq_true', Bool.not_eq_false', Bool.not_eq_true, Bool.not_eq_false, Bool.not_true, Bool.not_false, ne_eq, Bool.false_eq_true, Bool.true_eq_false, reduceCtorEq, beq_iff_eq, beq_eq_false_iff_ne, not_true_eq_false, not_false_eq_true, pair_eta, map_idL] at h) <;> (try dsimp only [newMovSpec, mrcvSpec, mreadSpec, mstartSpec, mhandSpec, mfinSpec, mphaseSpec, maccSpec, partSpec, partF, accM, Ty.T, Ty.dflt, KT.T, getM, putM, delM] at h) <;> (try simp only [natCast_eq] at h) <;> (try (have kb := byt_at hks hlo h)) <;> (try (have lb := u16_at hl hlo h; have F := mpF hfit hd h60 lb.1; have R := mrF hfit hd h60 (l.getD i.toNat 0 % 20))) <;> (try (have G := mpR (p := ks.getD i.toNat 0 % 16 % 2) hfit hd h60 lb.1 (by omega))) <;> (try (have G0 := mpR (p := 0 % 2) hfit hd h60 lb.1 (.inl rfl))) <;> (try simp only [R.rz] at h) <;> (try (exfalso; exact h (F.se (by assumption)))) <;> (try (exfalso; exact h (tk_le d _))) <;> (try (exfalso; exact h (tk_eq d _))) <;> (try first | rw [if_pos h] at hr | rw [if_neg h] at hr | rw [ifF h] at hr | rw [ifN h] at hr) <;> (try (have hb : (_ : Bool) = _ := h; clear h; subst hb; (try first | rw [if_pos rfl] at hr | rw [if_neg Bool.false_ne_true] at hr))) <;> first | (exfalso; omega) | exact absurd (h.symm.trans (by assumption) : true = false) Bool.noConfusion | exact absurd (h.symm.trans (by assumption) : false = true) Bool.noConfusion | (refine (?_ : T1 _ ?_) ?_; rotate_left 1; (conv => lhs; cbv; (try cbv); (try cbv)); intro hT; clear hT; refine Sh.mk (by kernel_rfl) ?_))
         | (with_reducible refine Alt.mk (fun h => ?_) (fun h => ?_) <;> (have hk := h) <;> (try simp only [decide_eq_true_eq, decide_eq_false_iff_not, Bool.not_eq_true', Bool.not_eq_false', Bool.not_eq_true, Bool.not_eq_false, Bool.not_true, Bool.not_false, ne_eq, Bool.false_eq_true, Bool.true_eq_false, reduceCtorEq, beq_iff_eq, beq_eq_false_iff_ne, not_true_eq_false, not_false_eq_true, pair_eta, map_idL] at h) <;> (try dsimp only [newMovSpec, mrcvSpec, mreadSpec, mstartSpec, mhandSpec, mfinSpec, mphaseSpec, maccSpec, partSpec, partF, accM, Ty.T, Ty.dflt, KT.T, getM, putM, delM] at h) <;> (try simp only [natCast_eq] at h) <;> (try (have kb := byt_at hks hlo h)) <;> (try (have lb := u16_at hl hlo h; have F := mpF hfit hd h60 lb.1; have R := mrF hfit hd h60 (l.getD i.toNat 0 % 20))) <;> (try (have G := mpR (p := ks.getD i.toNat 0 % 16 % 2) hfit hd h60 lb.1 (by omega))) <;> (try (have G0 := mpR (p := 0 % 2) hfit hd h60 lb.1 (.inl rfl))) <;> (try simp only [R.rz] at h) <;> (try (exfalso; exact h (F.se (by assumption)))) <;> (try (exfalso; exact h (tk_le d _))) <;> (try (exfalso; exact h (tk_eq d _))) <;> (try first | rw [if_pos h] at hr | rw [if_neg h] at hr | rw [ifF h] at hr | rw [ifN h] at hr) <;> (try (have hb : (_ : Bool) = _ := h; clear h; subst hb; (try first | rw [if_pos rfl] at hr | rw [if_neg Bool.false_ne_true] at hr))) <;> first | (exfalso; omega) | exact absurd (h.symm.trans (by assumption) : true = false) Bool.noConfusion | exact absurd (h.symm.trans (by assumption) : false = true) Bool.noConfusion | (refine (?_ : T1 _ ?_) ?_; rotate_left 1; (conv => lhs; cbv; (try cbv); (try cbv)); intro hT; clear hT; refine Sh.mk (by kernel_rfl) ?_))
         | (with_reducible refine Pick.mk (fun h => ?_) (fun l1 x l2 h => ?_) <;> (refine (?_ : T1 _ ?_) ?_; rotate_left 1; (conv => lhs; cbv; (try cbv); (try cbv)); intro hT; clear hT; refine Sh.mk (by kernel_rfl) ?_))
         | ((with_reducible refine End.mk ?_); skip)
         | with_reducible exact True.intro)
       all_goals first
         | (fail_if_success (with_reducible refine Exists.intro ?_ ?_)
            first
              | with_reducible rfl
              | with_reducible assumption
              | (dsimp only [newMovSpec, mrcvSpec, mreadSpec, mstartSpec, mhandSpec, mfinSpec, mphaseSpec, maccSpec, partSpec, partF, accM, Ty.T, Ty.dflt, KT.T, getM, putM, delM, inI64, maxRow]; done)
              | (symm; with_reducible assumption)
              | (dsimp only [newMovSpec, mrcvSpec, mreadSpec, mstartSpec, mhandSpec, mfinSpec, mphaseSpec, maccSpec, partSpec, partF, accM, Ty.T, Ty.dflt, KT.T, getM, putM, delM, inI64, maxRow]; first | with_reducible rfl | with_reducible assumption | (symm; with_reducible assumption) | (simp only [natCast_eq]; with_reducible rfl) | omega)
              | omega
              | (dsimp only [newMovSpec, mrcvSpec, mreadSpec, mstartSpec, mhandSpec, mfinSpec, mphaseSpec, maccSpec, partSpec, partF, accM, Ty.T, Ty.dflt, KT.T, getM, putM, delM, inI64, maxRow]; (try simp only [natCast_eq, List.nil_append]); first | with_reducible rfl | exact take_cg (by omega) | exact drop_cg (by omega) | exact take_drop_cg (by omega) (by omega) | exact take_all (by omega) | exact take_drop_all (by omega) (by omega) | exact drop_take_cg (by omega) (by omega) (by omega))
              | first | exact hy1.symm | (rw [hy1]; exact tk_o G0.1)
              | ((try dsimp only [newMovSpec, mrcvSpec, mreadSpec, mstartSpec, mhandSpec, mfinSpec, mphaseSpec, maccSpec, partSpec, partF, accM, Ty.T, Ty.dflt, KT.T, getM, putM, delM, inI64, maxRow]); simp only [decide_eq_true_eq, decide_eq_false_iff_not, Bool.not_eq_true', Bool.not_eq_false', Bool.not_eq_true, Bool.not_eq_false, Bool.not_true, Bool.not_false, ne_eq, Bool.false_eq_true, Bool.true_eq_false, reduceCtorEq, beq_iff_eq, beq_eq_false_iff_ne, not_true_eq_false, not_false_eq_true, pair_eta, map_idL, natCast_eq, inI64, maxRow]; first | done | with_reducible assumption | omega)
              | exact map_pair_id _
              | ((try dsimp only [newMovSpec, mrcvSpec, mreadSpec, mstartSpec, mhandSpec, mfinSpec, mphaseSpec, maccSpec, partSpec, partF, accM, Ty.T, Ty.dflt, KT.T, getM, putM, delM, inI64, maxRow]) <;> (try simp only [natCast_eq]) <;> omega)
              | ((try dsimp only [newMovSpec, mrcvSpec, mreadSpec, mstartSpec, mhandSpec, mfinSpec, mphaseSpec, maccSpec, partSpec, partF, accM, Ty.T, Ty.dflt, KT.T, getM, putM, delM, inI64, maxRow] at *) <;> (try simp only [natCast_eq] at *) <;> omega)
              | ((try dsimp only [newMovSpec, mrcvSpec, mreadSpec, mstartSpec, mhandSpec, mfinSpec, mphaseSpec, maccSpec, partSpec, partF, accM, Ty.T, Ty.dflt, KT.T, getM, putM, delM, inI64, maxRow] at *) <;> (try simp only [List.length_append, List.length_cons, List.length_nil, List.length_replicate, List.length_take, List.length_drop, natCast_eq] at *) <;> omega)
              | assumption
              | (symm; assumption)
              | (dsimp only; simp only [Bool.or_true, Bool.true_or, Bool.or_false, Bool.false_or, Bool.and_true, Bool.true_and, Bool.and_false, Bool.false_and, Bool.not_true, Bool.not_false, *]; done)
              | (simp; done)
              | (and_intros <;> first | trivial | with_reducible assumption | omega)
              | ((try dsimp only [newMovSpec, mrcvSpec, mreadSpec, mstartSpec, mhandSpec, mfinSpec, mphaseSpec, maccSpec, partSpec, partF, accM, Ty.T, Ty.dflt, KT.T, getM, putM, delM, inI64, maxRow] at *) <;> simp [*] <;> done))
         | skip
       done)
    | skip
theorem mpx_sound : ConSound Try.prog AI 6 mpxSpec.con := PureSpec.sound Try.call6 (fun x h => mpx_ok x.1 x.2.1 x.2.2.1 x.2.2.2.1 h)
end Go.Proofs.Ytgdiepbjdpmfbaa
