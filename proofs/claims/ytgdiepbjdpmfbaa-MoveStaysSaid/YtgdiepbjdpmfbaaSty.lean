/-
  Layer 48: MoveStays, the walk.
-/
import Derived.Test.YtgdiepbjdpmfbaaAwk
import Derived.Test.YtgdiepbjdpmfbaaFit
import Derived.Test.YtgdiepbjdpmfbaaEng3
namespace Go.Proofs.Ytgdiepbjdpmfbaa
set_option linter.all false
set_option linter.unusedVariables false
set_option linter.unusedSimpArgs false
set_option linter.unusedSectionVars false
open Go.RowKit Go.Sx
set_option maxRecDepth 100000
set_option maxHeartbeats 16000000
def cloneSpec : RowSpec := ⟨[.lst (.int .u8)], 5, .int .u8, fun (x : List Int × Unit) => x.1.length ≤ maxRow, fun (x : List Int × Unit) => x.1⟩
theorem clone_ok (l : List Int) (h : cloneSpec.pre (l, ())) : TmplOk Try.prog AI 23 (argS cloneSpec.ds (fun _ => (l, ()))) [] (Sx.one (.hd 0 0)) [.row cloneSpec.et cloneSpec.e 0 (fun _ => cloneSpec.f (l, ()))] := by
  dsimp only [cloneSpec, maxRow] at h ⊢
  refine tmpl_of_body e0Ok mixed (fn := Try.f23) (c := bodyOf Try.f23) (by kernel_rfl) (by kernel_rfl) (by kernel_rfl) (Nat.le_of_ble_eq_true (by kernel_rfl)) ?_
  (try (conv in (LoopInv.inv _ _) => dsimp only)); (try (conv in (SS.mk _ _) => cbv; (try dsimp only [Ty.T, Ty.dflt, KT.T]); (try simp only [natCast_eq])))
  (refine (?_ : T1 _ ?_) ?_; rotate_left 1; (conv => lhs; cbv; (try cbv); (try cbv)); intro hT; clear hT; refine Sh.mk (by kernel_rfl) ?_)
  repeat' (first
    | with_reducible refine Ck.mk (C := tt) tt_intro ?_
    | with_reducible refine Ck.mk (show drawOk _ _ = true by kernel_rfl) ?_
    | with_reducible refine Ck.all_cons ?_
    | with_reducible refine Ck.all_nil ?_
    | with_reducible refine Ck.mk (by assumption) ?_
    | with_reducible refine Ck.mk (decide_eq_true (by assumption)) ?_
    | with_reducible refine Ck.mk (decide_eq_false (by assumption)) ?_
    | with_reducible refine Ck.mk ?_ ?_
    | (with_reducible refine Both.mk (fun h => ?_) (fun h => ?_) <;> (have hk := h) <;> (try simp only [decide_eq_true_eq, decide_eq_false_iff_not, Bool.not_eq_true', Bool.not_eq_false', Bool.not_eq_true, Bool.not_eq_false, Bool.not_true, Bool.not_false, ne_eq, Bool.false_eq_true, Bool.true_eq_false, reduceCtorEq, beq_iff_eq, beq_eq_false_iff_ne, not_true_eq_false, not_false_eq_true, pair_eta, map_idL] at h) <;> (try dsimp only [Ty.T, Ty.dflt, KT.T, getM, putM, delM] at h) <;> (try simp only [natCast_eq] at h) <;> skip <;> (try first | rw [if_pos h] at hr | rw [if_neg h] at hr | rw [ifF h] at hr | rw [ifN h] at hr) <;> (try (have hb : (_ : Bool) = _ := h; clear h; subst hb; (try first | rw [if_pos rfl] at hr | rw [if_neg Bool.false_ne_true] at hr))) <;> first | (exfalso; omega) | exact absurd (h.symm.trans (by assumption) : true = false) Bool.noConfusion | exact absurd (h.symm.trans (by assumption) : false = true) Bool.noConfusion | (refine (?_ : T1 _ ?_) ?_; rotate_left 1; (conv => lhs; cbv; (try cbv); (try cbv)); intro hT; clear hT; refine Sh.mk (by kernel_rfl) ?_))
    | (with_reducible refine Alt.mk (fun h => ?_) (fun h => ?_) <;> (have hk := h) <;> (try simp only [decide_eq_true_eq, decide_eq_false_iff_not, Bool.not_eq_true', Bool.not_eq_false', Bool.not_eq_true, Bool.not_eq_false, Bool.not_true, Bool.not_false, ne_eq, Bool.false_eq_true, Bool.true_eq_false, reduceCtorEq, beq_iff_eq, beq_eq_false_iff_ne, not_true_eq_false, not_false_eq_true, pair_eta, map_idL] at h) <;> (try dsimp only [Ty.T, Ty.dflt, KT.T, getM, putM, delM] at h) <;> (try simp only [natCast_eq] at h) <;> skip <;> (try first | rw [if_pos h] at hr | rw [if_neg h] at hr | rw [ifF h] at hr | rw [ifN h] at hr) <;> (try (have hb : (_ : Bool) = _ := h; clear h; subst hb; (try first | rw [if_pos rfl] at hr | rw [if_neg Bool.false_ne_true] at hr))) <;> first | (exfalso; omega) | exact absurd (h.symm.trans (by assumption) : true = false) Bool.noConfusion | exact absurd (h.symm.trans (by assumption) : false = true) Bool.noConfusion | (refine (?_ : T1 _ ?_) ?_; rotate_left 1; (conv => lhs; cbv; (try cbv); (try cbv)); intro hT; clear hT; refine Sh.mk (by kernel_rfl) ?_))
    | (with_reducible refine Pick.mk (fun h => ?_) (fun l1 x l2 h => ?_) <;> (refine (?_ : T1 _ ?_) ?_; rotate_left 1; (conv => lhs; cbv; (try cbv); (try cbv)); intro hT; clear hT; refine Sh.mk (by kernel_rfl) ?_))
    | ((with_reducible refine End.mk ?_); skip)
    | with_reducible exact True.intro)
  all_goals (try dsimp only [cloneSpec, Ty.size] at *)
  all_goals first | (simp; done) | (simp only [List.length_nil, Nat.zero_add, maxRow]; omega) | (simp_all)
theorem clone_sound : ConSound Try.prog AI 23 cloneSpec.con := RowSpec.sound Try.call23 (fun x h => clone_ok x.1 h) rfl
theorem bytes_of {d : List Int} (h : ∀ x ∈ d, (Ty.int .u8).ok x) : inBytes d := fun x hx => by have := inRange_u8 (h x hx); omega
theorem beq_inl : ConSound Try.prog AI 18 (inl E0 Try.f18 0) := inl_sound e0Ok mixed (fn := Try.f18) (c := bodyOf Try.f18) Try.call18 (by kernel_rfl) (by kernel_rfl) (by kernel_rfl) 0
noncomputable abbrev Es : Env Ab := ⟨tis, [(21, mphaseSpec.con), (15, mreadSpec.con), (13, mrcvSpec.con), (12, newMovSpec.con), (11, awakeSpec.con), (23, cloneSpec.con), (18, inl E0 Try.f18 0)] ++ E0.con⟩
theorem esOk : EnvOk Try.prog AI Es := (((((((e0Ok.add beq_inl).add clone_sound).add awake_sound).add newMov_sound).add mrcv_sound).add mread_sound).add mphase_sound)
/-- What is kept is what lies between the offset and a. -/
structure Stay (S : Sto) (d : List Int) (a : Int) : Prop where
  f : Fits S d
  w : S.win = 60
  k : ∀ x, getI S.kept x ≠ none ↔ S.off ≤ x ∧ x < a
  a : S.off ≤ a ∧ a ≤ d.length
theorem Stay.next {S : Sto} {d : List Int} {a : Int} (h : Stay S d a) : S.next = a :=
  next_eq h.f.ok h.a.1 (fun x h1 h2 => (h.k x).2 ⟨h1, h2⟩) (by
    cases e : getI S.kept a with
    | none => rfl
    | some v => have := ((h.k a).1 (by rw [e]; exact fun h => by cases h)).2; omega)
theorem stay_new (d : List Int) : Stay (newS 60) d 0 :=
  ⟨fits_new (by decide) (by decide), rfl, fun x => ⟨fun h => absurd rfl h, fun h => by have h1 : (0 : Int) ≤ x := h.1; omega⟩, Int.le_refl _, by omega⟩
abbrev cut (d : List Int) (a b : Int) : List Int := (d.take b.toNat).drop a.toNat
theorem cut_part {d : List Int} {a b : Int} (h0 : 0 ≤ a) (h1 : a ≤ b) (h2 : b ≤ d.length) : IsPart d (a, cut d a b, false) ∧ ((cut d a b).length : Int) = b - a := by
  have hl : (cut d a b).length = (b - a).toNat := by rw [List.length_drop, List.length_take]; omega
  refine ⟨⟨h0, by show a + ((cut d a b).length : Int) ≤ _; omega, ?_, fun h => by cases h⟩, by omega⟩
  show cut d a b = (d.drop a.toNat).take (cut d a b).length
  rw [hl, cut, List.drop_take]
  congr 1; omega
theorem stay_put {S : Sto} {d : List Int} {a b : Int} (h : Stay S d a) (hd : d.length ≤ 60) (hb : inBytes d) (h1 : a ≤ b) (h2 : b ≤ d.length) :
    ∃ T : Sto, putF S a (cut d a b) false = (((putF S a (cut d a b) false).1.1, 0, ()), T) ∧ Stay T d b ∧ T.off = S.off := by
  have hoff := h.f.ok.off; have ha := h.a; have hw := h.w
  obtain ⟨hp, hl⟩ := cut_part (d := d) (a := a) (b := b) (by omega) h1 h2
  have hok := fits_ok h.f hp (by omega)
  have hf := fits_put h.f hp (by omega) hb
  have hput := put_ok_eq hok
  refine ⟨putS S a (cut d a b) false, by rw [hput], ⟨hf, hw, fun x => ?_, by show S.off ≤ b; omega, h2⟩, rfl⟩
  show getI (putK S a (cut d a b)) x ≠ none ↔ S.off ≤ x ∧ x < b
  rw [get_put]
  have e1 : pFr S a = a := by dsimp only [pFr]; omega
  have e2 : pTo S a (cut d a b) = b := by dsimp only [pTo]; rw [hl]; omega
  rw [e1, e2]
  split
  · rename_i hx
    exact ⟨fun _ => ⟨by omega, hx.2⟩, fun _ h => by cases h⟩
  · rename_i hx
    rw [h.k]
    omega
theorem stay_read {S : Sto} {d : List Int} {a : Int} (h : Stay S d a) (m : Int) :
    Stay (readF S m).2 d a ∧ d.take S.off.toNat ++ ((readF S m).1.1 : List Int) = d.take ((readF S m).2.off).toNat ∧ (readF S m).2.off = S.off + max 0 (min m (a - S.off)) := by
  obtain ⟨h1, h2, h3, h4, h5⟩ := fits_read h.f m
  have hn := h.next
  have hoff := h.f.ok.off
  have e : rdM S m = max 0 (min m (a - S.off)) := by dsimp only [rdM, rdN]; rw [hn]
  have ha := h.a
  refine ⟨⟨h2, h5.trans h.w, fun x => ?_, by rw [h3, e]; omega, ha.2⟩, take_read h.f m, by rw [h3, e]⟩
  rw [h3]
  by_cases hm : m < 1
  · have e2 : readF S m = (([], ()), S) := by unfold readF; rw [if_pos hm]
    rw [e2, h.k, e]
    show S.off ≤ x ∧ x < a ↔ _
    omega
  · have e2 : (readF S m).2.kept = rdK S.kept S.off (rdN S m).toNat := by unfold readF; rw [if_neg hm]
    have e3 : rdN S m = rdM S m := by dsimp only [rdM, rdN]; omega
    rw [e2, get_rdK h.f.ok.nd, e3]
    split
    · exact ⟨fun h => absurd rfl h, fun h => by omega⟩
    · rw [h.k]; omega
def mo (S : Sto) : Mov := ⟨60, .old, S, nilS⟩
theorem mo_ok {S : Sto} {d : List Int} {a : Int} (h : Stay S d a) : OkM (mo S) := ⟨⟨by show (1 : Int) ≤ 60; decide, by show (60 : Int) ≤ 1048576; decide⟩, fun _ => ⟨h.f.ok, h.w⟩, fun h => absurd rfl h⟩
theorem mo_rcv1 {S : Sto} {s : Seg} : rcvM (mo S) 1 s = ((6, ()), mo S) := rfl
theorem mo_rcv0 {S : Sto} {s : Seg} : rcvM (mo S) 0 s = (((putF S s.1 s.2.1 s.2.2).1.2.1, ()), mo (putF S s.1 s.2.1 s.2.2).2) := rfl
theorem mo_read {S : Sto} {m : Int} : readM (mo S) m = ((readF S m).1, mo (readF S m).2) := rfl
theorem mo_ph {S : Sto} : phaseM (mo S) = (0, ()) := rfl
structure LSt (d : List Int) (n : Nat) where
  i : Int
  a : Int
  S : Sto
  lo : 0 ≤ i
  hi : i ≤ n
  st : Stay S d a
theorem next_LSt {d : List Int} {n : Nat} {i a : Int} {S : Sto} (h0 : 0 ≤ i) (h : i < (n : Int)) (hs : Stay S d a) : ∃ y : LSt d n, y.i = i + 1 ∧ y.a = a ∧ y.S = S := ⟨⟨i + 1, a, S, by omega, by omega, hs⟩, rfl, rfl, rfl⟩
abbrev kAt (c : List Int) (i : Int) : Int := (c ++ [255]).getD i.toNat 0
abbrev toA (d c : List Int) (i a : Int) : Int := min (d.length : Int) (a + kAt c i % 61)
theorem kAt_byt {c : List Int} (hc : inBytes c) {i : Int} (h0 : 0 ≤ i) (h : i < (c.length : Int) + 1) : 0 ≤ kAt c i ∧ kAt c i ≤ 255 := by
  have hlt : i.toNat < (c ++ [255]).length := by rw [List.length_append]; simp; omega
  have hm : kAt c i ∈ c ++ [255] := by rw [kAt, List.getD_eq_getElem?_getD, List.getElem?_eq_getElem hlt]; exact List.getElem_mem hlt
  rcases List.mem_append.1 hm with h1 | h1
  · have := hc _ h1; omega
  · rw [List.mem_singleton.1 h1]; decide
theorem sty_fact {d c : List Int} {S : Sto} {i a : Int} (hst : Stay S d a) (hd : inBytes d) (hl : ¬ 60 < (d.length : Int)) (hc : inBytes c) (h0 : 0 ≤ i) (h : i < (c.length : Int) + 1) :
    (0 ≤ kAt c i ∧ kAt c i ≤ 255) ∧ (0 ≤ a ∧ a ≤ toA d c i a ∧ toA d c i a ≤ d.length) ∧ (cut d a (toA d c i a)).length ≤ 1048576 ∧ ∃ (T : Sto) (n : Int), putF S a (cut d a (toA d c i a)) false = ((n, 0, ()), T) ∧ Stay T d (toA d c i a) ∧ T.off = S.off := by
  have hk := kAt_byt hc h0 h
  have ha := hst.a; have ho := hst.f.ok.off
  have h1 : a ≤ toA d c i a := by dsimp only [toA]; omega
  have h2 : toA d c i a ≤ d.length := by dsimp only [toA]; omega
  obtain ⟨T, t1, t2, t3⟩ := stay_put hst (by omega) hd h1 h2
  have := (cut_part (d := d) (a := a) (b := toA d c i a) (by omega) h1 h2).2
  exact ⟨hk, ⟨by omega, h1, h2⟩, by omega, T, _, t1, t2, t3⟩
theorem sty_end {d : List Int} {S : Sto} {a : Int} (hst : Stay S d a) (hl : ¬ 60 < (d.length : Int)) : d.take S.off.toNat ++ ((readM (mo S) 100).1.1 : List Int) = d.take a.toNat := by
  obtain ⟨h1, h2, h3⟩ := stay_read hst 100
  have ha := hst.a; have ho := hst.f.ok.off
  show d.take S.off.toNat ++ ((readF S 100).1.1 : List Int) = d.take a.toNat
  rw [h2, h3, show S.off + max 0 (min 100 (a - S.off)) = a by omega]
theorem sty_row {d : List Int} {S : Sto} {m : Int} {n : Nat} (hl : ¬ 60 < (d.length : Int)) (hm : m ≤ 255) : (d.take n).length + ((readF S m).1.1 : List Int).length ≤ 1099511627776 := by
  have := readF_len S m
  rw [List.length_take]; omega
theorem st_i {k : Int} (h : 0 ≤ k ∧ k ≤ 255) : inI64 k := by unfold inI64; omega
theorem st_m61 {k : Int} (h : 0 ≤ k ∧ k ≤ 255) : 0 ≤ k ∧ (0 : Int) < 61 ∧ inI64 k := ⟨h.1, by decide, st_i h⟩
theorem st_m2 {k : Int} (h : 0 ≤ k ∧ k ≤ 255) : 0 ≤ k ∧ (0 : Int) < 2 ∧ k < 256 := by omega
theorem st_sl {d : List Int} {S : Sto} {a : Int} (hst : Stay S d a) : (0 : Int) ≤ 0 ∧ 0 ≤ a ∧ a ≤ (d.length : Int) := by
  have := hst.a; have := hst.f.ok.off; omega
theorem st_byt {d l : List Int} {a : Int} (hd : inBytes d) (hz : l = d.take a.toNat) : inBytes l ∧ inBytes ((d.take a.toNat).drop (0 : Int).toNat) := by
  have h1 : inBytes (d.take a.toNat) := fun x hx => hd x (List.mem_of_mem_take hx)
  exact ⟨hz ▸ h1, fun x hx => h1 x (List.mem_of_mem_drop hx)⟩
theorem sty_next {d : List Int} {n : Nat} {i a b : Int} {S T : Sto} (h0 : 0 ≤ i) (h : i < (n : Int)) (hs : Stay T d b) : ∃ y : LSt d n, y.i = i + 1 ∧ y.a = b ∧ y.S = T := next_LSt h0 h hs
def styF (_ _ : List Int) : Tup [DT.cell .bool] := (true, ())
def stySpec : PureSpec := ⟨[.lst (.int .u8), .lst (.int .u8)], fun (x : (List Int) × (List Int) × Unit) => (x.1.length ≤ maxLen ∧ inBytes x.1) ∧ (x.2.1.length ≤ maxLen ∧ inBytes x.2.1), [.cell .bool], fun (x : (List Int) × (List Int) × Unit) => styF x.1 x.2.1⟩
theorem sty_ok (d : List Int) (c : List Int) (h : stySpec.pre (d, c, ())) : TmplOk Try.prog AI 7 (argS stySpec.ds (fun _ => (d, c, ()))) [] (resOf (svs stySpec.rs (fun _ => stySpec.f (d, c, ())))) [] := by
  dsimp only [stySpec] at h ⊢
  generalize hr : styF d c = r
  obtain ⟨⟨hd0, hd⟩, hc0, hc⟩ := h
  dsimp only [styF] at hr
  refine tmpl_of_body esOk mixed (fn := Try.f7) (c := bodyOf Try.f7) (by kernel_rfl) (by kernel_rfl) (by kernel_rfl) (Nat.le_of_ble_eq_true (by kernel_rfl)) ?_
  (try (conv in (LoopInv.inv _ _) => dsimp only)); (try (conv in (SS.mk _ _) => cbv; (try dsimp only [newMovSpec, mrcvSpec, mreadSpec, mphaseSpec, cloneSpec, Ty.T, Ty.dflt, KT.T]); (try simp only [natCast_eq])))
  (refine (?_ : T1 _ ?_) ?_; rotate_left 1; (conv => lhs; cbv; (try cbv); (try cbv)); intro hT; clear hT; refine Sh.mk (by kernel_rfl) ?_)
  repeat' (first
    | with_reducible refine Ck.mk (C := tt) tt_intro ?_
    | with_reducible refine Ck.mk (show drawOk _ _ = true by kernel_rfl) ?_
    | with_reducible refine Ck.all_cons ?_
    | with_reducible refine Ck.all_nil ?_
    | with_reducible refine Ck.mk (by assumption) ?_
    | with_reducible refine Ck.mk (decide_eq_true (by assumption)) ?_
    | with_reducible refine Ck.mk (decide_eq_false (by assumption)) ?_
    | with_reducible refine Ck.mk ?_ ?_
    | (with_reducible refine Both.mk (fun h => ?_) (fun h => ?_) <;> (have hk := h) <;> (try simp only [decide_eq_true_eq, decide_eq_false_iff_not, Bool.not_eq_true', Bool.not_eq_false', Bool.not_eq_true, Bool.not_eq_false, Bool.not_true, Bool.not_false, ne_eq, Bool.false_eq_true, Bool.true_eq_false, reduceCtorEq, beq_iff_eq, beq_eq_false_iff_ne, not_true_eq_false, not_false_eq_true, pair_eta, map_idL] at h) <;> (try dsimp only [newMovSpec, mrcvSpec, mreadSpec, mphaseSpec, cloneSpec, Ty.T, Ty.dflt, KT.T, getM, putM, delM] at h) <;> (try simp only [natCast_eq] at h) <;> (try (have hq := sty_fact hst hd h60 hc hlo h; obtain ⟨k1, k2, k3, T, n9, t1, t2, t3⟩ := hq)) <;> (try (have hz := sty_end hst h60)) <;> (try simp only [mo_rcv1] at h) <;> (try simp only [mo_rcv0] at h) <;> (try simp only [t1] at h) <;> (try simp only [mo_read] at h) <;> (try simp only [mo_ph] at h) <;> (try (exfalso; exact absurd rfl h)) <;> (try (exfalso; exact absurd hz h)) <;> (try (exfalso; revert h; decide)) <;> (try first | rw [if_pos h] at hr | rw [if_neg h] at hr | rw [ifF h] at hr | rw [ifN h] at hr) <;> (try (have hb : (_ : Bool) = _ := h; clear h; subst hb; (try first | rw [if_pos rfl] at hr | rw [if_neg Bool.false_ne_true] at hr))) <;> first | (exfalso; omega) | exact absurd (h.symm.trans (by assumption) : true = false) Bool.noConfusion | exact absurd (h.symm.trans (by assumption) : false = true) Bool.noConfusion | (refine (?_ : T1 _ ?_) ?_; rotate_left 1; (conv => lhs; cbv; (try cbv); (try cbv)); intro hT; clear hT; refine Sh.mk (by kernel_rfl) ?_))
    | (with_reducible refine Alt.mk (fun h => ?_) (fun h => ?_) <;> (have hk := h) <;> (try simp only [decide_eq_true_eq, decide_eq_false_iff_not, Bool.not_eq_true', Bool.not_eq_false', Bool.not_eq_true, Bool.not_eq_false, Bool.not_true, Bool.not_false, ne_eq, Bool.false_eq_true, Bool.true_eq_false, reduceCtorEq, beq_iff_eq, beq_eq_false_iff_ne, not_true_eq_false, not_false_eq_true, pair_eta, map_idL] at h) <;> (try dsimp only [newMovSpec, mrcvSpec, mreadSpec, mphaseSpec, cloneSpec, Ty.T, Ty.dflt, KT.T, getM, putM, delM] at h) <;> (try simp only [natCast_eq] at h) <;> (try (have hq := sty_fact hst hd h60 hc hlo h; obtain ⟨k1, k2, k3, T, n9, t1, t2, t3⟩ := hq)) <;> (try (have hz := sty_end hst h60)) <;> (try simp only [mo_rcv1] at h) <;> (try simp only [mo_rcv0] at h) <;> (try simp only [t1] at h) <;> (try simp only [mo_read] at h) <;> (try simp only [mo_ph] at h) <;> (try (exfalso; exact absurd rfl h)) <;> (try (exfalso; exact absurd hz h)) <;> (try (exfalso; revert h; decide)) <;> (try first | rw [if_pos h] at hr | rw [if_neg h] at hr | rw [ifF h] at hr | rw [ifN h] at hr) <;> (try (have hb : (_ : Bool) = _ := h; clear h; subst hb; (try first | rw [if_pos rfl] at hr | rw [if_neg Bool.false_ne_true] at hr))) <;> first | (exfalso; omega) | exact absurd (h.symm.trans (by assumption) : true = false) Bool.noConfusion | exact absurd (h.symm.trans (by assumption) : false = true) Bool.noConfusion | (refine (?_ : T1 _ ?_) ?_; rotate_left 1; (conv => lhs; cbv; (try cbv); (try cbv)); intro hT; clear hT; refine Sh.mk (by kernel_rfl) ?_))
    | (with_reducible refine Pick.mk (fun h => ?_) (fun l1 x l2 h => ?_) <;> (refine (?_ : T1 _ ?_) ?_; rotate_left 1; (conv => lhs; cbv; (try cbv); (try cbv)); intro hT; clear hT; refine Sh.mk (by kernel_rfl) ?_))
    | ((with_reducible refine End.mk ?_); (try ((repeat (first | rw [if_pos (by first | assumption | omega)] at hr | rw [if_neg (by first | assumption | omega | (simp only [Bool.false_eq_true, Bool.true_eq_false, reduceCtorEq, not_false_eq_true]; done) | (simp only [Bool.not_eq_true]; assumption) | (simp only [Bool.not_eq_false]; assumption))] at hr | rw [if_pos rfl] at hr)); subst hr)))
    | with_reducible exact True.intro)
  all_goals first
    | (fail_if_success (with_reducible refine Exists.intro ?_ ?_)
       first
         | with_reducible rfl
         | with_reducible assumption
         | (dsimp only [newMovSpec, mrcvSpec, mreadSpec, mphaseSpec, cloneSpec, Ty.T, Ty.dflt, KT.T, getM, putM, delM, inI64, maxRow]; done)
         | (symm; with_reducible assumption)
         | (dsimp only [newMovSpec, mrcvSpec, mreadSpec, mphaseSpec, cloneSpec, Ty.T, Ty.dflt, KT.T, getM, putM, delM, inI64, maxRow]; first | with_reducible rfl | with_reducible assumption | (symm; with_reducible assumption) | (simp only [natCast_eq]; with_reducible rfl) | omega)
         | omega
         | (dsimp only [newMovSpec, mrcvSpec, mreadSpec, mphaseSpec, cloneSpec, Ty.T, Ty.dflt, KT.T, getM, putM, delM, inI64, maxRow]; (try simp only [natCast_eq, List.nil_append]); first | with_reducible rfl | exact take_cg (by omega) | exact drop_cg (by omega) | exact take_drop_cg (by omega) (by omega) | exact take_all (by omega) | exact take_drop_all (by omega) (by omega) | exact drop_take_cg (by omega) (by omega) (by omega))
         | ((try dsimp only [newMovSpec, mrcvSpec, mreadSpec, mphaseSpec, cloneSpec, Ty.T, Ty.dflt, KT.T, getM, putM, delM, inI64, maxRow]); simp only [decide_eq_true_eq, decide_eq_false_iff_not, Bool.not_eq_true', Bool.not_eq_false', Bool.not_eq_true, Bool.not_eq_false, Bool.not_true, Bool.not_false, ne_eq, Bool.false_eq_true, Bool.true_eq_false, reduceCtorEq, beq_iff_eq, beq_eq_false_iff_ne, not_true_eq_false, not_false_eq_true, pair_eta, map_idL, natCast_eq, inI64, maxRow]; first | done | with_reducible assumption | omega)
         | exact map_pair_id _
         | ((try dsimp only [newMovSpec, mrcvSpec, mreadSpec, mphaseSpec, cloneSpec, Ty.T, Ty.dflt, KT.T, getM, putM, delM, inI64, maxRow]) <;> (try simp only [natCast_eq]) <;> omega)
         | ((try dsimp only [newMovSpec, mrcvSpec, mreadSpec, mphaseSpec, cloneSpec, Ty.T, Ty.dflt, KT.T, getM, putM, delM, inI64, maxRow] at *) <;> (try simp only [natCast_eq] at *) <;> omega)
         | ((try dsimp only [newMovSpec, mrcvSpec, mreadSpec, mphaseSpec, cloneSpec, Ty.T, Ty.dflt, KT.T, getM, putM, delM, inI64, maxRow] at *) <;> (try simp only [List.length_append, List.length_cons, List.length_nil, List.length_replicate, List.length_take, List.length_drop, natCast_eq] at *) <;> omega)
         | assumption
         | (symm; assumption)
         | (dsimp only; simp only [Bool.or_true, Bool.true_or, Bool.or_false, Bool.false_or, Bool.and_true, Bool.true_and, Bool.and_false, Bool.false_and, Bool.not_true, Bool.not_false, *]; done)
         | (simp; done)
         | (and_intros <;> first | trivial | with_reducible assumption | omega)
         | ((try dsimp only [newMovSpec, mrcvSpec, mreadSpec, mphaseSpec, cloneSpec, Ty.T, Ty.dflt, KT.T, getM, putM, delM, inI64, maxRow] at *) <;> simp [*] <;> done))
    | skip
  refine ⟨⟨LSt d (c.length + 1), fun x => ⟨[(0, Sx.one (.ro (.int .u8) (fun _ => d))), (5, Sx.one (.ptr 0 0)), (7, Sx.one (.hd 3 0)), (8, Sx.one (.int .i64 (fun _ => x.a))), (36, Sx.one (.hd 1 0)), (37, Sx.one (.int .i64 (fun _ => c.length + 1))), (38, Sx.one (.int .i64 (fun _ => x.i)))],
    [.abs (.mov (fun _ => mo x.S)), .row 5 (.int .u8) 0 (fun _ => c ++ [255]), .gone, .row 5 (.int .u8) 0 (fun _ => d.take x.S.off.toNat)]⟩, fun x => (c.length + 1 - x.i).toNat, ⟨0, 0, newS 60, by omega, by omega, stay_new d⟩⟩, ?_, fun (x : LSt d (c.length + 1)) => ?_⟩
  · (try (conv in (LoopInv.inv _ _) => dsimp only)); (try (conv in (SS.mk _ _) => cbv; (try dsimp only [newMovSpec, mrcvSpec, mreadSpec, mphaseSpec, cloneSpec, Ty.T, Ty.dflt, KT.T]); (try simp only [natCast_eq])))
    (refine (?_ : T1 _ ?_) ?_; rotate_left 1; (conv => lhs; cbv; (try cbv); (try cbv)); intro hT; clear hT; refine Sh.mk (by kernel_rfl) ?_)
    repeat' (first
      | with_reducible refine Ck.mk (C := tt) tt_intro ?_
      | with_reducible refine Ck.mk (show drawOk _ _ = true by kernel_rfl) ?_
      | with_reducible refine Ck.all_cons ?_
      | with_reducible refine Ck.all_nil ?_
      | with_reducible refine Ck.mk (by assumption) ?_
      | with_reducible refine Ck.mk (decide_eq_true (by assumption)) ?_
      | with_reducible refine Ck.mk (decide_eq_false (by assumption)) ?_
      | with_reducible refine Ck.mk ?_ ?_
      | (with_reducible refine Both.mk (fun h => ?_) (fun h => ?_) <;> (have hk := h) <;> (try simp only [decide_eq_true_eq, decide_eq_false_iff_not, Bool.not_eq_true', Bool.not_eq_false', Bool.not_eq_true, Bool.not_eq_false, Bool.not_true, Bool.not_false, ne_eq, Bool.false_eq_true, Bool.true_eq_false, reduceCtorEq, beq_iff_eq, beq_eq_false_iff_ne, not_true_eq_false, not_false_eq_true, pair_eta, map_idL] at h) <;> (try dsimp only [newMovSpec, mrcvSpec, mreadSpec, mphaseSpec, cloneSpec, Ty.T, Ty.dflt, KT.T, getM, putM, delM] at h) <;> (try simp only [natCast_eq] at h) <;> (try (have hq := sty_fact hst hd h60 hc hlo h; obtain ⟨k1, k2, k3, T, n9, t1, t2, t3⟩ := hq)) <;> (try (have hz := sty_end hst h60)) <;> (try simp only [mo_rcv1] at h) <;> (try simp only [mo_rcv0] at h) <;> (try simp only [t1] at h) <;> (try simp only [mo_read] at h) <;> (try simp only [mo_ph] at h) <;> (try (exfalso; exact absurd rfl h)) <;> (try (exfalso; exact absurd hz h)) <;> (try (exfalso; revert h; decide)) <;> (try first | rw [if_pos h] at hr | rw [if_neg h] at hr | rw [ifF h] at hr | rw [ifN h] at hr) <;> (try (have hb : (_ : Bool) = _ := h; clear h; subst hb; (try first | rw [if_pos rfl] at hr | rw [if_neg Bool.false_ne_true] at hr))) <;> first | (exfalso; omega) | exact absurd (h.symm.trans (by assumption) : true = false) Bool.noConfusion | exact absurd (h.symm.trans (by assumption) : false = true) Bool.noConfusion | (refine (?_ : T1 _ ?_) ?_; rotate_left 1; (conv => lhs; cbv; (try cbv); (try cbv)); intro hT; clear hT; refine Sh.mk (by kernel_rfl) ?_))
      | (with_reducible refine Alt.mk (fun h => ?_) (fun h => ?_) <;> (have hk := h) <;> (try simp only [decide_eq_true_eq, decide_eq_false_iff_not, Bool.not_eq_true', Bool.not_eq_false', Bool.not_eq_true, Bool.not_eq_false, Bool.not_true, Bool.not_false, ne_eq, Bool.false_eq_true, Bool.true_eq_false, reduceCtorEq, beq_iff_eq, beq_eq_false_iff_ne, not_true_eq_false, not_false_eq_true, pair_eta, map_idL] at h) <;> (try dsimp only [newMovSpec, mrcvSpec, mreadSpec, mphaseSpec, cloneSpec, Ty.T, Ty.dflt, KT.T, getM, putM, delM] at h) <;> (try simp only [natCast_eq] at h) <;> (try (have hq := sty_fact hst hd h60 hc hlo h; obtain ⟨k1, k2, k3, T, n9, t1, t2, t3⟩ := hq)) <;> (try (have hz := sty_end hst h60)) <;> (try simp only [mo_rcv1] at h) <;> (try simp only [mo_rcv0] at h) <;> (try simp only [t1] at h) <;> (try simp only [mo_read] at h) <;> (try simp only [mo_ph] at h) <;> (try (exfalso; exact absurd rfl h)) <;> (try (exfalso; exact absurd hz h)) <;> (try (exfalso; revert h; decide)) <;> (try first | rw [if_pos h] at hr | rw [if_neg h] at hr | rw [ifF h] at hr | rw [ifN h] at hr) <;> (try (have hb : (_ : Bool) = _ := h; clear h; subst hb; (try first | rw [if_pos rfl] at hr | rw [if_neg Bool.false_ne_true] at hr))) <;> first | (exfalso; omega) | exact absurd (h.symm.trans (by assumption) : true = false) Bool.noConfusion | exact absurd (h.symm.trans (by assumption) : false = true) Bool.noConfusion | (refine (?_ : T1 _ ?_) ?_; rotate_left 1; (conv => lhs; cbv; (try cbv); (try cbv)); intro hT; clear hT; refine Sh.mk (by kernel_rfl) ?_))
      | (with_reducible refine Pick.mk (fun h => ?_) (fun l1 x l2 h => ?_) <;> (refine (?_ : T1 _ ?_) ?_; rotate_left 1; (conv => lhs; cbv; (try cbv); (try cbv)); intro hT; clear hT; refine Sh.mk (by kernel_rfl) ?_))
      | ((with_reducible refine End.mk ?_); skip)
      | with_reducible exact True.intro)
    all_goals first
      | (fail_if_success (with_reducible refine Exists.intro ?_ ?_)
         first
           | with_reducible rfl
           | with_reducible assumption
           | (dsimp only [newMovSpec, mrcvSpec, mreadSpec, mphaseSpec, cloneSpec, Ty.T, Ty.dflt, KT.T, getM, putM, delM, inI64, maxRow]; done)
           | (symm; with_reducible assumption)
           | (dsimp only [newMovSpec, mrcvSpec, mreadSpec, mphaseSpec, cloneSpec, Ty.T, Ty.dflt, KT.T, getM, putM, delM, inI64, maxRow]; first | with_reducible rfl | with_reducible assumption | (symm; with_reducible assumption) | (simp only [natCast_eq]; with_reducible rfl) | omega)
           | omega
           | (dsimp only [newMovSpec, mrcvSpec, mreadSpec, mphaseSpec, cloneSpec, Ty.T, Ty.dflt, KT.T, getM, putM, delM, inI64, maxRow]; (try simp only [natCast_eq, List.nil_append]); first | with_reducible rfl | exact take_cg (by omega) | exact drop_cg (by omega) | exact take_drop_cg (by omega) (by omega) | exact take_all (by omega) | exact take_drop_all (by omega) (by omega) | exact drop_take_cg (by omega) (by omega) (by omega))
           | ((try dsimp only [newMovSpec, mrcvSpec, mreadSpec, mphaseSpec, cloneSpec, Ty.T, Ty.dflt, KT.T, getM, putM, delM, inI64, maxRow]); simp only [decide_eq_true_eq, decide_eq_false_iff_not, Bool.not_eq_true', Bool.not_eq_false', Bool.not_eq_true, Bool.not_eq_false, Bool.not_true, Bool.not_false, ne_eq, Bool.false_eq_true, Bool.true_eq_false, reduceCtorEq, beq_iff_eq, beq_eq_false_iff_ne, not_true_eq_false, not_false_eq_true, pair_eta, map_idL, natCast_eq, inI64, maxRow]; first | done | with_reducible assumption | omega)
           | exact map_pair_id _
           | ((try dsimp only [newMovSpec, mrcvSpec, mreadSpec, mphaseSpec, cloneSpec, Ty.T, Ty.dflt, KT.T, getM, putM, delM, inI64, maxRow]) <;> (try simp only [natCast_eq]) <;> omega)
           | ((try dsimp only [newMovSpec, mrcvSpec, mreadSpec, mphaseSpec, cloneSpec, Ty.T, Ty.dflt, KT.T, getM, putM, delM, inI64, maxRow] at *) <;> (try simp only [natCast_eq] at *) <;> omega)
           | ((try dsimp only [newMovSpec, mrcvSpec, mreadSpec, mphaseSpec, cloneSpec, Ty.T, Ty.dflt, KT.T, getM, putM, delM, inI64, maxRow] at *) <;> (try simp only [List.length_append, List.length_cons, List.length_nil, List.length_replicate, List.length_take, List.length_drop, natCast_eq] at *) <;> omega)
           | assumption
           | (symm; assumption)
           | (dsimp only; simp only [Bool.or_true, Bool.true_or, Bool.or_false, Bool.false_or, Bool.and_true, Bool.true_and, Bool.and_false, Bool.false_and, Bool.not_true, Bool.not_false, *]; done)
           | (simp; done)
           | (and_intros <;> first | trivial | with_reducible assumption | omega)
           | ((try dsimp only [newMovSpec, mrcvSpec, mreadSpec, mphaseSpec, cloneSpec, Ty.T, Ty.dflt, KT.T, getM, putM, delM, inI64, maxRow] at *) <;> simp [*] <;> done))
      | skip
  obtain ⟨i, a, S, hlo, hhi, hst⟩ := x
  have h60 : ¬ 60 < (d.length : Int) := by assumption
  (try (conv in (LoopInv.inv _ _) => dsimp only)); (try (conv in (SS.mk _ _) => cbv; (try dsimp only [newMovSpec, mrcvSpec, mreadSpec, mphaseSpec, cloneSpec, Ty.T, Ty.dflt, KT.T]); (try simp only [natCast_eq])))
  (refine (?_ : T1 _ ?_) ?_; rotate_left 1; (conv => lhs; cbv; (try cbv); (try cbv)); intro hT; clear hT; refine Sh.mk (by kernel_rfl) ?_)
  repeat' (first
    | with_reducible refine Ck.mk (C := tt) tt_intro ?_
    | with_reducible refine Ck.mk (show drawOk _ _ = true by kernel_rfl) ?_
    | with_reducible refine Ck.all_cons ?_
    | with_reducible refine Ck.all_nil ?_
    | with_reducible refine Ck.mk (by assumption) ?_
    | with_reducible refine Ck.mk (decide_eq_true (by assumption)) ?_
    | with_reducible refine Ck.mk (decide_eq_false (by assumption)) ?_
    | with_reducible refine Ck.mk ?_ ?_
    | (with_reducible refine Both.mk (fun h => ?_) (fun h => ?_) <;> (have hk := h) <;> (try simp only [decide_eq_true_eq, decide_eq_false_iff_not, Bool.not_eq_true', Bool.not_eq_false', Bool.not_eq_true, Bool.not_eq_false, Bool.not_true, Bool.not_false, ne_eq, Bool.false_eq_true, Bool.true_eq_false, reduceCtorEq, beq_iff_eq, beq_eq_false_iff_ne, not_true_eq_false, not_false_eq_true, pair_eta, map_idL] at h) <;> (try dsimp only [newMovSpec, mrcvSpec, mreadSpec, mphaseSpec, cloneSpec, Ty.T, Ty.dflt, KT.T, getM, putM, delM] at h) <;> (try simp only [natCast_eq] at h) <;> (try (have hq := sty_fact hst hd h60 hc hlo h; obtain ⟨k1, k2, k3, T, n9, t1, t2, t3⟩ := hq)) <;> (try (have hz := sty_end hst h60)) <;> (try simp only [mo_rcv1] at h) <;> (try simp only [mo_rcv0] at h) <;> (try simp only [t1] at h) <;> (try simp only [mo_read] at h) <;> (try simp only [mo_ph] at h) <;> (try (exfalso; exact absurd rfl h)) <;> (try (exfalso; exact absurd hz h)) <;> (try (exfalso; revert h; decide)) <;> (try first | rw [if_pos h] at hr | rw [if_neg h] at hr | rw [ifF h] at hr | rw [ifN h] at hr) <;> (try (have hb : (_ : Bool) = _ := h; clear h; subst hb; (try first | rw [if_pos rfl] at hr | rw [if_neg Bool.false_ne_true] at hr))) <;> first | (exfalso; omega) | exact absurd (h.symm.trans (by assumption) : true = false) Bool.noConfusion | exact absurd (h.symm.trans (by assumption) : false = true) Bool.noConfusion | (refine (?_ : T1 _ ?_) ?_; rotate_left 1; (conv => lhs; cbv; (try cbv); (try cbv)); intro hT; clear hT; refine Sh.mk (by kernel_rfl) ?_))
    | (with_reducible refine Alt.mk (fun h => ?_) (fun h => ?_) <;> (have hk := h) <;> (try simp only [decide_eq_true_eq, decide_eq_false_iff_not, Bool.not_eq_true', Bool.not_eq_false', Bool.not_eq_true, Bool.not_eq_false, Bool.not_true, Bool.not_false, ne_eq, Bool.false_eq_true, Bool.true_eq_false, reduceCtorEq, beq_iff_eq, beq_eq_false_iff_ne, not_true_eq_false, not_false_eq_true, pair_eta, map_idL] at h) <;> (try dsimp only [newMovSpec, mrcvSpec, mreadSpec, mphaseSpec, cloneSpec, Ty.T, Ty.dflt, KT.T, getM, putM, delM] at h) <;> (try simp only [natCast_eq] at h) <;> (try (have hq := sty_fact hst hd h60 hc hlo h; obtain ⟨k1, k2, k3, T, n9, t1, t2, t3⟩ := hq)) <;> (try (have hz := sty_end hst h60)) <;> (try simp only [mo_rcv1] at h) <;> (try simp only [mo_rcv0] at h) <;> (try simp only [t1] at h) <;> (try simp only [mo_read] at h) <;> (try simp only [mo_ph] at h) <;> (try (exfalso; exact absurd rfl h)) <;> (try (exfalso; exact absurd hz h)) <;> (try (exfalso; revert h; decide)) <;> (try first | rw [if_pos h] at hr | rw [if_neg h] at hr | rw [ifF h] at hr | rw [ifN h] at hr) <;> (try (have hb : (_ : Bool) = _ := h; clear h; subst hb; (try first | rw [if_pos rfl] at hr | rw [if_neg Bool.false_ne_true] at hr))) <;> first | (exfalso; omega) | exact absurd (h.symm.trans (by assumption) : true = false) Bool.noConfusion | exact absurd (h.symm.trans (by assumption) : false = true) Bool.noConfusion | (refine (?_ : T1 _ ?_) ?_; rotate_left 1; (conv => lhs; cbv; (try cbv); (try cbv)); intro hT; clear hT; refine Sh.mk (by kernel_rfl) ?_))
    | (with_reducible refine Pick.mk (fun h => ?_) (fun l1 x l2 h => ?_) <;> (refine (?_ : T1 _ ?_) ?_; rotate_left 1; (conv => lhs; cbv; (try cbv); (try cbv)); intro hT; clear hT; refine Sh.mk (by kernel_rfl) ?_))
    | ((with_reducible refine End.mk ?_); skip)
    | with_reducible exact True.intro)
  all_goals first
    | (fail_if_success (with_reducible refine Exists.intro ?_ ?_)
       first
         | with_reducible rfl
         | with_reducible assumption
         | (dsimp only [newMovSpec, mrcvSpec, mreadSpec, mphaseSpec, cloneSpec, Ty.T, Ty.dflt, KT.T, getM, putM, delM, inI64, maxRow]; done)
         | (symm; with_reducible assumption)
         | (dsimp only [newMovSpec, mrcvSpec, mreadSpec, mphaseSpec, cloneSpec, Ty.T, Ty.dflt, KT.T, getM, putM, delM, inI64, maxRow]; first | with_reducible rfl | with_reducible assumption | (symm; with_reducible assumption) | (simp only [natCast_eq]; with_reducible rfl) | omega)
         | omega
         | (dsimp only [newMovSpec, mrcvSpec, mreadSpec, mphaseSpec, cloneSpec, Ty.T, Ty.dflt, KT.T, getM, putM, delM, inI64, maxRow]; (try simp only [natCast_eq, List.nil_append]); first | with_reducible rfl | exact take_cg (by omega) | exact drop_cg (by omega) | exact take_drop_cg (by omega) (by omega) | exact take_all (by omega) | exact take_drop_all (by omega) (by omega) | exact drop_take_cg (by omega) (by omega) (by omega))
         | first | exact congrArg Prod.fst hr | exact ⟨mo_ok hst, k3⟩ | exact mo_ok hst | (show OkM (mo (putF S a (cut d a (toA d c i a)) false).2); rw [t1]; exact mo_ok t2) | exact sty_row h60 k1.2 | exact sty_row h60 (by decide) | (show inI64 (a + kAt c i % 61); unfold inI64; omega) | (show 0 ≤ kAt c i ∧ _; unfold inI64; omega) | exact st_i k1 | exact st_m61 k1 | exact st_m2 k1 | exact st_sl hst | exact st_byt hd hz
         | ((try dsimp only [newMovSpec, mrcvSpec, mreadSpec, mphaseSpec, cloneSpec, Ty.T, Ty.dflt, KT.T, getM, putM, delM, inI64, maxRow]); simp only [decide_eq_true_eq, decide_eq_false_iff_not, Bool.not_eq_true', Bool.not_eq_false', Bool.not_eq_true, Bool.not_eq_false, Bool.not_true, Bool.not_false, ne_eq, Bool.false_eq_true, Bool.true_eq_false, reduceCtorEq, beq_iff_eq, beq_eq_false_iff_ne, not_true_eq_false, not_false_eq_true, pair_eta, map_idL, natCast_eq, inI64, maxRow]; first | done | with_reducible assumption | omega)
         | exact map_pair_id _
         | ((try dsimp only [newMovSpec, mrcvSpec, mreadSpec, mphaseSpec, cloneSpec, Ty.T, Ty.dflt, KT.T, getM, putM, delM, inI64, maxRow]) <;> (try simp only [natCast_eq]) <;> omega)
         | ((try dsimp only [newMovSpec, mrcvSpec, mreadSpec, mphaseSpec, cloneSpec, Ty.T, Ty.dflt, KT.T, getM, putM, delM, inI64, maxRow] at *) <;> (try simp only [natCast_eq] at *) <;> omega)
         | ((try dsimp only [newMovSpec, mrcvSpec, mreadSpec, mphaseSpec, cloneSpec, Ty.T, Ty.dflt, KT.T, getM, putM, delM, inI64, maxRow] at *) <;> (try simp only [List.length_append, List.length_cons, List.length_nil, List.length_replicate, List.length_take, List.length_drop, natCast_eq] at *) <;> omega)
         | assumption
         | (symm; assumption)
         | (dsimp only; simp only [Bool.or_true, Bool.true_or, Bool.or_false, Bool.false_or, Bool.and_true, Bool.true_and, Bool.and_false, Bool.false_and, Bool.not_true, Bool.not_false, *]; done)
         | (simp; done)
         | (and_intros <;> first | trivial | with_reducible assumption | omega)
         | ((try dsimp only [newMovSpec, mrcvSpec, mreadSpec, mphaseSpec, cloneSpec, Ty.T, Ty.dflt, KT.T, getM, putM, delM, inI64, maxRow] at *) <;> simp [*] <;> done))
    | skip
  all_goals
    first
    | (obtain ⟨y, hy0, hy1, hy2⟩ := next_LSt (n := c.length + 1) hlo (by omega) (stay_read t2 (kAt c i)).1
       refine ⟨y, by dsimp only; (try simp only [natCast_eq]); omega, ?_⟩
       (try (conv in (LoopInv.inv _ _) => dsimp only)); (try (conv in (SS.mk _ _) => cbv; (try dsimp only [newMovSpec, mrcvSpec, mreadSpec, mphaseSpec, cloneSpec, Ty.T, Ty.dflt, KT.T]); (try simp only [natCast_eq])))
       (refine (?_ : T1 _ ?_) ?_; rotate_left 1; (conv => lhs; cbv; (try cbv); (try cbv)); intro hT; clear hT; refine Sh.mk (by kernel_rfl) ?_)
       repeat' (first
         | with_reducible refine Ck.mk (C := tt) tt_intro ?_
         | with_reducible refine Ck.mk (show drawOk _ _ = true by kernel_rfl) ?_
         | with_reducible refine Ck.all_cons ?_
         | with_reducible refine Ck.all_nil ?_
         | with_reducible refine Ck.mk (by assumption) ?_
         | with_reducible refine Ck.mk (decide_eq_true (by assumption)) ?_
         | with_reducible refine Ck.mk (decide_eq_false (by assumption)) ?_
         | with_reducible refine Ck.mk ?_ ?_
         | (with_reducible refine Both.mk (fun h => ?_) (fun h => ?_) <;> (have hk := h) <;> (try simp only [decide_eq_true_eq, decide_eq_false_iff_not, Bool.not_eq_true', Bool.not_eq_false', Bool.not_eq_true, Bool.not_eq_false, Bool.not_true, Bool.not_false, ne_eq, Bool.false_eq_true, Bool.true_eq_false, reduceCtorEq, beq_iff_eq, beq_eq_false_iff_ne, not_true_eq_false, not_false_eq_true, pair_eta, map_idL] at h) <;> (try dsimp only [newMovSpec, mrcvSpec, mreadSpec, mphaseSpec, cloneSpec, Ty.T, Ty.dflt, KT.T, getM, putM, delM] at h) <;> (try simp only [natCast_eq] at h) <;> (try (have hq := sty_fact hst hd h60 hc hlo h; obtain ⟨k1, k2, k3, T, n9, t1, t2, t3⟩ := hq)) <;> (try (have hz := sty_end hst h60)) <;> (try simp only [mo_rcv1] at h) <;> (try simp only [mo_rcv0] at h) <;> (try simp only [t1] at h) <;> (try simp only [mo_read] at h) <;> (try simp only [mo_ph] at h) <;> (try (exfalso; exact absurd rfl h)) <;> (try (exfalso; exact absurd hz h)) <;> (try (exfalso; revert h; decide)) <;> (try first | rw [if_pos h] at hr | rw [if_neg h] at hr | rw [ifF h] at hr | rw [ifN h] at hr) <;> (try (have hb : (_ : Bool) = _ := h; clear h; subst hb; (try first | rw [if_pos rfl] at hr | rw [if_neg Bool.false_ne_true] at hr))) <;> first | (exfalso; omega) | exact absurd (h.symm.trans (by assumption) : true = false) Bool.noConfusion | exact absurd (h.symm.trans (by assumption) : false = true) Bool.noConfusion | (refine (?_ : T1 _ ?_) ?_; rotate_left 1; (conv => lhs; cbv; (try cbv); (try cbv)); intro hT; clear hT; refine Sh.mk (by kernel_rfl) ?_))
         | (with_reducible refine Alt.mk (fun h => ?_) (fun h => ?_) <;> (have hk := h) <;> (try simp only [decide_eq_true_eq, decide_eq_false_iff_not, Bool.not_eq_true', Bool.not_eq_false', Bool.not_eq_true, Bool.not_eq_false, Bool.not_true, Bool.not_false, ne_eq, Bool.false_eq_true, Bool.true_eq_false, reduceCtorEq, beq_iff_eq, beq_eq_false_iff_ne, not_true_eq_false, not_false_eq_true, pair_eta, map_idL] at h) <;> (try dsimp only [newMovSpec, mrcvSpec, mreadSpec, mphaseSpec, cloneSpec, Ty.T, Ty.dflt, KT.T, getM, putM, delM] at h) <;> (try simp only [natCast_eq] at h) <;> (try (have hq := sty_fact hst hd h60 hc hlo h; obtain ⟨k1, k2, k3, T, n9, t1, t2, t3⟩ := hq)) <;> (try (have hz := sty_end hst h60)) <;> (try simp only [mo_rcv1] at h) <;> (try simp only [mo_rcv0] at h) <;> (try simp only [t1] at h) <;> (try simp only [mo_read] at h) <;> (try simp only [mo_ph] at h) <;> (try (exfalso; exact absurd rfl h)) <;> (try (exfalso; exact absurd hz h)) <;> (try (exfalso; revert h; decide)) <;> (try first | rw [if_pos h] at hr | rw [if_neg h] at hr | rw [ifF h] at hr | rw [ifN h] at hr) <;> (try (have hb : (_ : Bool) = _ := h; clear h; subst hb; (try first | rw [if_pos rfl] at hr | rw [if_neg Bool.false_ne_true] at hr))) <;> first | (exfalso; omega) | exact absurd (h.symm.trans (by assumption) : true = false) Bool.noConfusion | exact absurd (h.symm.trans (by assumption) : false = true) Bool.noConfusion | (refine (?_ : T1 _ ?_) ?_; rotate_left 1; (conv => lhs; cbv; (try cbv); (try cbv)); intro hT; clear hT; refine Sh.mk (by kernel_rfl) ?_))
         | (with_reducible refine Pick.mk (fun h => ?_) (fun l1 x l2 h => ?_) <;> (refine (?_ : T1 _ ?_) ?_; rotate_left 1; (conv => lhs; cbv; (try cbv); (try cbv)); intro hT; clear hT; refine Sh.mk (by kernel_rfl) ?_))
         | ((with_reducible refine End.mk ?_); skip)
         | with_reducible exact True.intro)
       all_goals first
         | (fail_if_success (with_reducible refine Exists.intro ?_ ?_)
            first
              | with_reducible rfl
              | with_reducible assumption
              | (dsimp only [newMovSpec, mrcvSpec, mreadSpec, mphaseSpec, cloneSpec, Ty.T, Ty.dflt, KT.T, getM, putM, delM, inI64, maxRow]; done)
              | (symm; with_reducible assumption)
              | (dsimp only [newMovSpec, mrcvSpec, mreadSpec, mphaseSpec, cloneSpec, Ty.T, Ty.dflt, KT.T, getM, putM, delM, inI64, maxRow]; first | with_reducible rfl | with_reducible assumption | (symm; with_reducible assumption) | (simp only [natCast_eq]; with_reducible rfl) | omega)
              | omega
              | (dsimp only [newMovSpec, mrcvSpec, mreadSpec, mphaseSpec, cloneSpec, Ty.T, Ty.dflt, KT.T, getM, putM, delM, inI64, maxRow]; (try simp only [natCast_eq, List.nil_append]); first | with_reducible rfl | exact take_cg (by omega) | exact drop_cg (by omega) | exact take_drop_cg (by omega) (by omega) | exact take_all (by omega) | exact take_drop_all (by omega) (by omega) | exact drop_take_cg (by omega) (by omega) (by omega))
              | first | (show mo (readF (putF S a (cut d a (toA d c i a)) false).2 (kAt c i)).2 = mo y.S; rw [t1, hy2]) | exact hy1.symm | (show d.take S.off.toNat ++ ((readF (putF S a (cut d a (toA d c i a)) false).2 (kAt c i)).1.1 : List Int) = d.take y.S.off.toNat; rw [t1, hy2, ← t3]; exact (stay_read t2 (kAt c i)).2.1)
              | ((try dsimp only [newMovSpec, mrcvSpec, mreadSpec, mphaseSpec, cloneSpec, Ty.T, Ty.dflt, KT.T, getM, putM, delM, inI64, maxRow]); simp only [decide_eq_true_eq, decide_eq_false_iff_not, Bool.not_eq_true', Bool.not_eq_false', Bool.not_eq_true, Bool.not_eq_false, Bool.not_true, Bool.not_false, ne_eq, Bool.false_eq_true, Bool.true_eq_false, reduceCtorEq, beq_iff_eq, beq_eq_false_iff_ne, not_true_eq_false, not_false_eq_true, pair_eta, map_idL, natCast_eq, inI64, maxRow]; first | done | with_reducible assumption | omega)
              | exact map_pair_id _
              | ((try dsimp only [newMovSpec, mrcvSpec, mreadSpec, mphaseSpec, cloneSpec, Ty.T, Ty.dflt, KT.T, getM, putM, delM, inI64, maxRow]) <;> (try simp only [natCast_eq]) <;> omega)
              | ((try dsimp only [newMovSpec, mrcvSpec, mreadSpec, mphaseSpec, cloneSpec, Ty.T, Ty.dflt, KT.T, getM, putM, delM, inI64, maxRow] at *) <;> (try simp only [natCast_eq] at *) <;> omega)
              | ((try dsimp only [newMovSpec, mrcvSpec, mreadSpec, mphaseSpec, cloneSpec, Ty.T, Ty.dflt, KT.T, getM, putM, delM, inI64, maxRow] at *) <;> (try simp only [List.length_append, List.length_cons, List.length_nil, List.length_replicate, List.length_take, List.length_drop, natCast_eq] at *) <;> omega)
              | assumption
              | (symm; assumption)
              | (dsimp only; simp only [Bool.or_true, Bool.true_or, Bool.or_false, Bool.false_or, Bool.and_true, Bool.true_and, Bool.and_false, Bool.false_and, Bool.not_true, Bool.not_false, *]; done)
              | (simp; done)
              | (and_intros <;> first | trivial | with_reducible assumption | omega)
              | ((try dsimp only [newMovSpec, mrcvSpec, mreadSpec, mphaseSpec, cloneSpec, Ty.T, Ty.dflt, KT.T, getM, putM, delM, inI64, maxRow] at *) <;> simp [*] <;> done))
         | skip
       done)
    | (obtain ⟨y, hy0, hy1, hy2⟩ := next_LSt (n := c.length + 1) hlo (by omega) t2
       refine ⟨y, by dsimp only; (try simp only [natCast_eq]); omega, ?_⟩
       (try (conv in (LoopInv.inv _ _) => dsimp only)); (try (conv in (SS.mk _ _) => cbv; (try dsimp only [newMovSpec, mrcvSpec, mreadSpec, mphaseSpec, cloneSpec, Ty.T, Ty.dflt, KT.T]); (try simp only [natCast_eq])))
       (refine (?_ : T1 _ ?_) ?_; rotate_left 1; (conv => lhs; cbv; (try cbv); (try cbv)); intro hT; clear hT; refine Sh.mk (by kernel_rfl) ?_)
       repeat' (first
         | with_reducible refine Ck.mk (C := tt) tt_intro ?_
         | with_reducible refine Ck.mk (show drawOk _ _ = true by kernel_rfl) ?_
         | with_reducible refine Ck.all_cons ?_
         | with_reducible refine Ck.all_nil ?_
         | with_reducible refine Ck.mk (by assumption) ?_
         | with_reducible refine Ck.mk (decide_eq_true (by assumption)) ?_
         | with_reducible refine Ck.mk (decide_eq_false (by assumption)) ?_
         | with_reducible refine Ck.mk ?_ ?_
         | (with_reducible refine Both.mk (fun h => ?_) (fun h => ?_) <;> (have hk := h) <;> (try simp only [decide_eq_true_eq, decide_eq_false_iff_not, Bool.not_eq_true', Bool.not_eq_false', Bool.not_eq_true, Bool.not_eq_false, Bool.not_true, Bool.not_false, ne_eq, Bool.false_eq_true, Bool.true_eq_false, reduceCtorEq, beq_iff_eq, beq_eq_false_iff_ne, not_true_eq_false, not_false_eq_true, pair_eta, map_idL] at h) <;> (try dsimp only [newMovSpec, mrcvSpec, mreadSpec, mphaseSpec, cloneSpec, Ty.T, Ty.dflt, KT.T, getM, putM, delM] at h) <;> (try simp only [natCast_eq] at h) <;> (try (have hq := sty_fact hst hd h60 hc hlo h; obtain ⟨k1, k2, k3, T, n9, t1, t2, t3⟩ := hq)) <;> (try (have hz := sty_end hst h60)) <;> (try simp only [mo_rcv1] at h) <;> (try simp only [mo_rcv0] at h) <;> (try simp only [t1] at h) <;> (try simp only [mo_read] at h) <;> (try simp only [mo_ph] at h) <;> (try (exfalso; exact absurd rfl h)) <;> (try (exfalso; exact absurd hz h)) <;> (try (exfalso; revert h; decide)) <;> (try first | rw [if_pos h] at hr | rw [if_neg h] at hr | rw [ifF h] at hr | rw [ifN h] at hr) <;> (try (have hb : (_ : Bool) = _ := h; clear h; subst hb; (try first | rw [if_pos rfl] at hr | rw [if_neg Bool.false_ne_true] at hr))) <;> first | (exfalso; omega) | exact absurd (h.symm.trans (by assumption) : true = false) Bool.noConfusion | exact absurd (h.symm.trans (by assumption) : false = true) Bool.noConfusion | (refine (?_ : T1 _ ?_) ?_; rotate_left 1; (conv => lhs; cbv; (try cbv); (try cbv)); intro hT; clear hT; refine Sh.mk (by kernel_rfl) ?_))
         | (with_reducible refine Alt.mk (fun h => ?_) (fun h => ?_) <;> (have hk := h) <;> (try simp only [decide_eq_true_eq, decide_eq_false_iff_not, Bool.not_eq_true', Bool.not_eq_false', Bool.not_eq_true, Bool.not_eq_false, Bool.not_true, Bool.not_false, ne_eq, Bool.false_eq_true, Bool.true_eq_false, reduceCtorEq, beq_iff_eq, beq_eq_false_iff_ne, not_true_eq_false, not_false_eq_true, pair_eta, map_idL] at h) <;> (try dsimp only [newMovSpec, mrcvSpec, mreadSpec, mphaseSpec, cloneSpec, Ty.T, Ty.dflt, KT.T, getM, putM, delM] at h) <;> (try simp only [natCast_eq] at h) <;> (try (have hq := sty_fact hst hd h60 hc hlo h; obtain ⟨k1, k2, k3, T, n9, t1, t2, t3⟩ := hq)) <;> (try (have hz := sty_end hst h60)) <;> (try simp only [mo_rcv1] at h) <;> (try simp only [mo_rcv0] at h) <;> (try simp only [t1] at h) <;> (try simp only [mo_read] at h) <;> (try simp only [mo_ph] at h) <;> (try (exfalso; exact absurd rfl h)) <;> (try (exfalso; exact absurd hz h)) <;> (try (exfalso; revert h; decide)) <;> (try first | rw [if_pos h] at hr | rw [if_neg h] at hr | rw [ifF h] at hr | rw [ifN h] at hr) <;> (try (have hb : (_ : Bool) = _ := h; clear h; subst hb; (try first | rw [if_pos rfl] at hr | rw [if_neg Bool.false_ne_true] at hr))) <;> first | (exfalso; omega) | exact absurd (h.symm.trans (by assumption) : true = false) Bool.noConfusion | exact absurd (h.symm.trans (by assumption) : false = true) Bool.noConfusion | (refine (?_ : T1 _ ?_) ?_; rotate_left 1; (conv => lhs; cbv; (try cbv); (try cbv)); intro hT; clear hT; refine Sh.mk (by kernel_rfl) ?_))
         | (with_reducible refine Pick.mk (fun h => ?_) (fun l1 x l2 h => ?_) <;> (refine (?_ : T1 _ ?_) ?_; rotate_left 1; (conv => lhs; cbv; (try cbv); (try cbv)); intro hT; clear hT; refine Sh.mk (by kernel_rfl) ?_))
         | ((with_reducible refine End.mk ?_); skip)
         | with_reducible exact True.intro)
       all_goals first
         | (fail_if_success (with_reducible refine Exists.intro ?_ ?_)
            first
              | with_reducible rfl
              | with_reducible assumption
              | (dsimp only [newMovSpec, mrcvSpec, mreadSpec, mphaseSpec, cloneSpec, Ty.T, Ty.dflt, KT.T, getM, putM, delM, inI64, maxRow]; done)
              | (symm; with_reducible assumption)
              | (dsimp only [newMovSpec, mrcvSpec, mreadSpec, mphaseSpec, cloneSpec, Ty.T, Ty.dflt, KT.T, getM, putM, delM, inI64, maxRow]; first | with_reducible rfl | with_reducible assumption | (symm; with_reducible assumption) | (simp only [natCast_eq]; with_reducible rfl) | omega)
              | omega
              | (dsimp only [newMovSpec, mrcvSpec, mreadSpec, mphaseSpec, cloneSpec, Ty.T, Ty.dflt, KT.T, getM, putM, delM, inI64, maxRow]; (try simp only [natCast_eq, List.nil_append]); first | with_reducible rfl | exact take_cg (by omega) | exact drop_cg (by omega) | exact take_drop_cg (by omega) (by omega) | exact take_all (by omega) | exact take_drop_all (by omega) (by omega) | exact drop_take_cg (by omega) (by omega) (by omega))
              | first | (show mo (putF S a (cut d a (toA d c i a)) false).2 = mo y.S; rw [t1, hy2]) | exact hy1.symm | (show d.take S.off.toNat = d.take y.S.off.toNat; rw [hy2, t3])
              | ((try dsimp only [newMovSpec, mrcvSpec, mreadSpec, mphaseSpec, cloneSpec, Ty.T, Ty.dflt, KT.T, getM, putM, delM, inI64, maxRow]); simp only [decide_eq_true_eq, decide_eq_false_iff_not, Bool.not_eq_true', Bool.not_eq_false', Bool.not_eq_true, Bool.not_eq_false, Bool.not_true, Bool.not_false, ne_eq, Bool.false_eq_true, Bool.true_eq_false, reduceCtorEq, beq_iff_eq, beq_eq_false_iff_ne, not_true_eq_false, not_false_eq_true, pair_eta, map_idL, natCast_eq, inI64, maxRow]; first | done | with_reducible assumption | omega)
              | exact map_pair_id _
              | ((try dsimp only [newMovSpec, mrcvSpec, mreadSpec, mphaseSpec, cloneSpec, Ty.T, Ty.dflt, KT.T, getM, putM, delM, inI64, maxRow]) <;> (try simp only [natCast_eq]) <;> omega)
              | ((try dsimp only [newMovSpec, mrcvSpec, mreadSpec, mphaseSpec, cloneSpec, Ty.T, Ty.dflt, KT.T, getM, putM, delM, inI64, maxRow] at *) <;> (try simp only [natCast_eq] at *) <;> omega)
              | ((try dsimp only [newMovSpec, mrcvSpec, mreadSpec, mphaseSpec, cloneSpec, Ty.T, Ty.dflt, KT.T, getM, putM, delM, inI64, maxRow] at *) <;> (try simp only [List.length_append, List.length_cons, List.length_nil, List.length_replicate, List.length_take, List.length_drop, natCast_eq] at *) <;> omega)
              | assumption
              | (symm; assumption)
              | (dsimp only; simp only [Bool.or_true, Bool.true_or, Bool.or_false, Bool.false_or, Bool.and_true, Bool.true_and, Bool.and_false, Bool.false_and, Bool.not_true, Bool.not_false, *]; done)
              | (simp; done)
              | (and_intros <;> first | trivial | with_reducible assumption | omega)
              | ((try dsimp only [newMovSpec, mrcvSpec, mreadSpec, mphaseSpec, cloneSpec, Ty.T, Ty.dflt, KT.T, getM, putM, delM, inI64, maxRow] at *) <;> simp [*] <;> done))
         | skip
       done)
    | skip
theorem sty_sound : ConSound Try.prog AI 7 stySpec.con := PureSpec.sound Try.call7 (fun x h => sty_ok x.1 x.2.1 h)
end Go.Proofs.Ytgdiepbjdpmfbaa
