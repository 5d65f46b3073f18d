/-
  Layer 43: ReorderWindow, the walk.
-/
import Derived.Test.YtonegoinplddmaaAgn
namespace Go.Proofs.Ytonegoinplddmaa
set_option linter.all false
set_option linter.unusedVariables false
set_option linter.unusedSimpArgs false
set_option linter.unusedSectionVars false
open Go.RowKit Go.Sx
set_option maxRecDepth 100000
set_option maxHeartbeats 16000000

theorem beq_inl : ConSound Try.prog AI 21 (inl E0 Try.f21 0) := inl_sound e0Ok mixed (fn := Try.f21) (c := bodyOf Try.f21) Try.call21 (by kernel_rfl) (by kernel_rfl) (by kernel_rfl) 0
noncomputable abbrev Ew : Env Ab := ⟨tis, [(19, orCon heldSpec.con (inl E0 Try.f19 0)), (18, orCon ctgSpec.con (inl E0 Try.f18 0)), (17, orCon offSpec.con (inl E0 Try.f17 0)), (22, orCon endSpec.con (inl E0 Try.f22 0)), (16, orCon gapsSpec.con (inl E0 Try.f16 0)), (15, orCon readSpec.con (inl E0 Try.f15 0)), (14, orCon putSpec.con (inl E0 Try.f14 1)), (13, newStoSpec.con), (11, awakeSpec.con), (21, inl E0 Try.f21 0)] ++ E0.con⟩
theorem ewOk : EnvOk Try.prog AI Ew := ((((((((((e0Ok.add beq_inl).add awake_sound).add newSto_sound).add (orCon_sound put_sound (inl_sound e0Ok mixed (fn := Try.f14) (c := bodyOf Try.f14) Try.call14 (by kernel_rfl) (by kernel_rfl) (by kernel_rfl) 1))).add (orCon_sound read_sound (inl_sound e0Ok mixed (fn := Try.f15) (c := bodyOf Try.f15) Try.call15 (by kernel_rfl) (by kernel_rfl) (by kernel_rfl) 0))).add (orCon_sound gaps_sound (inl_sound e0Ok mixed (fn := Try.f16) (c := bodyOf Try.f16) Try.call16 (by kernel_rfl) (by kernel_rfl) (by kernel_rfl) 0))).add (orCon_sound end_sound (inl_sound e0Ok mixed (fn := Try.f22) (c := bodyOf Try.f22) Try.call22 (by kernel_rfl) (by kernel_rfl) (by kernel_rfl) 0))).add (orCon_sound off_sound (inl_sound e0Ok mixed (fn := Try.f17) (c := bodyOf Try.f17) Try.call17 (by kernel_rfl) (by kernel_rfl) (by kernel_rfl) 0))).add (orCon_sound ctg_sound (inl_sound e0Ok mixed (fn := Try.f18) (c := bodyOf Try.f18) Try.call18 (by kernel_rfl) (by kernel_rfl) (by kernel_rfl) 0))).add (orCon_sound held_sound (inl_sound e0Ok mixed (fn := Try.f19) (c := bodyOf Try.f19) Try.call19 (by kernel_rfl) (by kernel_rfl) (by kernel_rfl) 0)))
abbrev wS (w a f : Int) (k : Bool) : Sto := ⟨w, a, a, [], f, k⟩
theorem wS_ok {w a f : Int} {k : Bool} (h1 : 1 ≤ w) (h2 : w ≤ 20) (ha : 0 ≤ a) (hb : a ≤ 60) (hf : k = true → a ≤ f ∧ f ≤ 60) : StO (wS w a f k) := by
  refine ⟨⟨h1, by show w ≤ 1048576; omega⟩, ⟨ha, Int.le_refl _⟩, ⟨by show a ≤ a + w; omega, by show a ≤ topK; dsimp only [topK]; omega⟩, List.nodup_nil, fun p hp => (by cases hp), fun k k1 k2 => ?_, List.not_mem_nil, fun h => ?_, fun p hp => (by cases hp)⟩
  · have k1 : a ≤ k := k1
    have k2 : k < a := k2
    omega
  · have := hf h
    refine ⟨by show 0 ≤ f; omega, by show f ≤ topK; dsimp only [topK]; omega, this.1, fun p hp => (by cases hp)⟩
/-- A round: everything is put, what fits is kept, and then read. -/
theorem wnd_step {w a f : Int} {k : Bool} {d : List Int} (h1 : 1 ≤ w) (h2 : w ≤ 20) (ha : 0 ≤ a) (hl : a < d.length) (hd : d.length ≤ 60) (hb : inBytes d) (hf : k = true → f = d.length) :
    ∃ T : Sto, putF (wS w a f k) 0 d true = ((min w (d.length - a), 0, ()), T) ∧ (T.kept.length : Int) = min w (d.length - a) ∧ StO T ∧ readF T w = (((d.drop a.toNat).take (min w (d.length - a)).toNat, ()), wS w (a + min w (d.length - a)) d.length true) := by
  have hS : StO (wS w a f k) := wS_ok h1 h2 ha (by omega) (fun h => by have := hf h; omega)
  have hg : ∀ x, getI (wS w a f k).kept x = none := fun x => rfl
  have hok : PutOk (wS w a f k) 0 d true := by
    refine ⟨Int.le_refl _, by decide, ?_, ?_⟩
    · unfold mis
      cases k
      · simp [anyGe]; omega
      · have := hf rfl
        simp; omega
    · cases hc : confl (wS w a f k).kept d 0 (pFr (wS w a f k) 0) (pN (wS w a f k) 0 d) with
      | false => rfl
      | true =>
        obtain ⟨x, v, _, _, h3, _⟩ := (confl_iff _ _).1 hc
        rw [hg] at h3; cases h3
  have hput := put_ok_eq hok
  have hT := put_sto hS (o := 0) true hb (by omega : d.length ≤ 1048576)
  rw [hput] at hT
  have hgT : ∀ x, getI (putK (wS w a f k) 0 d) x = if a ≤ x ∧ x < a + min w (d.length - a) then some (d.getD x.toNat 0) else none := by
    intro x
    rw [get_put]
    have e1 : pFr (wS w a f k) 0 = a := by dsimp only [pFr, wS]; omega
    have e2 : pTo (wS w a f k) 0 d = a + min w (d.length - a) := by dsimp only [pTo, wS]; omega
    rw [e1, e2, Int.sub_zero]
    split
    · rfl
    · exact hg x
  have hnx : (putS (wS w a f k) 0 d true).next = a + min w (d.length - a) :=
    next_eq hT (by show a ≤ _; omega) (fun y y1 y2 => by
      have y1 : a ≤ y := y1
      show getI (putK (wS w a f k) 0 d) y ≠ none
      rw [hgT, if_pos ⟨y1, y2⟩]; exact fun h => by cases h) (by
      show getI (putK (wS w a f k) 0 d) _ = none
      rw [hgT, if_neg (by omega)])
  have hlenK : ((putK (wS w a f k) 0 d).length : Int) = min w (d.length - a) := by
    have hp : ((putK (wS w a f k) 0 d).map Prod.fst).Perm (List.map (fun i : Nat => a + (i : Int)) (List.range (min w ((d.length : Int) - a)).toNat)) := by
      refine (List.perm_ext_iff_of_nodup hT.nd ?_).2 fun x => ?_
      · exact List.Pairwise.map _ (fun x y h e => h (by omega)) List.nodup_range
      · rw [get_mem]
        constructor
        · rintro ⟨v, hv⟩
          have hv : getI (putK (wS w a f k) 0 d) x = some v := hv
          rw [hgT] at hv
          split at hv
          · rename_i hx
            exact List.mem_map.2 ⟨(x - a).toNat, List.mem_range.2 (by omega), by omega⟩
          · cases hv
        · intro hx
          obtain ⟨i, hi, rfl⟩ := List.mem_map.1 hx
          have hi := List.mem_range.1 hi
          exact ⟨_, (hgT _).trans (if_pos (by omega))⟩
    have := hp.length_eq
    rw [List.length_map, List.length_map, List.length_range] at this
    omega
  refine ⟨putS (wS w a f k) 0 d true, ?_, hlenK, hT, ?_⟩
  · rw [hput, hlenK]
    show (((min w (d.length - a) - ((0 : Nat) : Int), (0 : Int), ()) : II), _) = _
    rw [show min w ((d.length : Int) - a) - ((0 : Nat) : Int) = min w (d.length - a) by omega]
  · have hrn : rdN (putS (wS w a f k) 0 d true) w = min w (d.length - a) := by
      show min w ((putS (wS w a f k) 0 d true).next - a) = _
      rw [hnx]
      omega
    unfold readF
    rw [if_neg (by omega), hrn, hnx]
    have e1 : rdB (putK (wS w a f k) 0 d) a (min w ((d.length : Int) - a)).toNat = (d.drop a.toNat).take (min w (d.length - a)).toNat := by
      refine rdB_eq (by rw [List.length_take, List.length_drop]; omega) fun i hi => ?_
      rw [hgT, if_pos (by omega)]
      congr 1
      rw [List.getD_eq_getElem?_getD, List.getD_eq_getElem?_getD, List.getElem?_take_of_lt hi, List.getElem?_drop]
      congr 2; omega
    have e2 : rdK (putK (wS w a f k) 0 d) a (min w ((d.length : Int) - a)).toNat = [] := by
      refine nil_of_get fun x => ?_
      rw [get_rdK hT.nd, hgT]
      split
      · rfl
      · rw [if_neg (by omega)]
    show ((rdB (putK (wS w a f k) 0 d) a _, ()), (⟨w, a + _, a + _, rdK (putK (wS w a f k) 0 d) a _, 0 + (d.length : Int), true⟩ : Sto)) = _
    rw [e1, e2, Int.zero_add]
structure LWn (w : Int) (d : List Int) where
  i : Int
  f : Int
  k : Bool
  lo : 0 ≤ i
  hi : i ≤ d.length + 20
  fi : k = true → f = d.length
abbrev LWn.a {w : Int} {d : List Int} (x : LWn w d) : Int := min x.i d.length
theorem wnd_fact {w f : Int} {k : Bool} {d : List Int} {i : Int} (h1 : 1 ≤ w) (h2 : w ≤ 20) (h0 : 0 ≤ i) (hi : i < d.length) (hd : d.length ≤ 60) (hb : inBytes d) (hf : k = true → f = d.length) :
    ∃ T : Sto, putF (wS w (min i d.length) f k) 0 d true = ((min w (d.length - i), 0, ()), T) ∧ (T.kept.length : Int) = min w (d.length - i) ∧ StO T ∧ readF T w = (((d.drop i.toNat).take (min w (d.length - i)).toNat, ()), wS w (min (i + w) d.length) d.length true) ∧ ((d.drop i.toNat).take (min w (d.length - i)).toNat).length = (min w (d.length - i)).toNat ∧
      d.take (min i d.length).toNat ++ (d.drop i.toNat).take (min w (d.length - i)).toNat = d.take (min (i + w) d.length).toNat ∧ StO (wS w (min i d.length) f k) := by
  have e : min i (d.length : Int) = i := by omega
  have e2 : i + min w ((d.length : Int) - i) = min (i + w) d.length := by omega
  obtain ⟨T, t1, t2, t3, t4⟩ := wnd_step h1 h2 h0 hi hd hb hf
  refine ⟨T, by rw [e]; exact t1, t2, t3, by rw [← e2]; exact t4, by rw [List.length_take, List.length_drop]; omega, ?_, wS_ok h1 h2 (by omega) (by omega) (fun hk => by have := hf hk; omega)⟩
  rw [e, show (min (i + w) (d.length : Int)).toNat = i.toNat + (min w ((d.length : Int) - i)).toNat by omega, List.take_add]
theorem next_LWn {w : Int} {d : List Int} {i : Int} (h0 : 0 ≤ i) (hi : i < d.length) (h1 : 1 ≤ w) (h2 : w ≤ 20) : ∃ y : LWn w d, y.i = i + w ∧ y.f = d.length ∧ y.k = true := ⟨⟨i + w, d.length, true, by omega, by omega, fun _ => rfl⟩, rfl, rfl, rfl⟩
def wndF (_ : List Int) (_ : Int) : Tup [DT.cell .bool] := (true, ())
def wndSpec : PureSpec := ⟨[.lst (.int .u8), .cell (.int .u8)], fun (x : (List Int) × Int × Unit) => (x.1.length ≤ maxLen ∧ inBytes x.1) ∧ (0 ≤ x.2.1 ∧ x.2.1 ≤ 255), [.cell .bool], fun (x : (List Int) × Int × Unit) => wndF x.1 x.2.1⟩
theorem wnd_ok (d : List Int) (w : Int) (h : wndSpec.pre (d, w, ())) : TmplOk Try.prog AI 7 (argS wndSpec.ds (fun _ => (d, w, ()))) [] (resOf (svs wndSpec.rs (fun _ => wndSpec.f (d, w, ())))) [] := by
  dsimp only [wndSpec] at h ⊢
  generalize hr : wndF d w = r
  obtain ⟨⟨hd0, hd⟩, w1, w2⟩ := h
  dsimp only [wndF] at hr
  refine tmpl_of_body ewOk mixed (fn := Try.f7) (c := bodyOf Try.f7) (by kernel_rfl) (by kernel_rfl) (by kernel_rfl) (Nat.le_of_ble_eq_true (by kernel_rfl)) ?_
  (try (conv in (LoopInv.inv _ _) => dsimp only)); (try (conv in (SS.mk _ _) => cbv; (try dsimp only [putSpec, readSpec, gapsSpec, endSpec, endF, offSpec, offF, ctgSpec, ctgF, heldSpec, heldF, newStoSpec, Ty.T, Ty.dflt, KT.T]); (try simp only [natCast_eq])))
  (refine (?_ : T1 _ ?_) ?_; rotate_left 1; (conv => lhs; cbv; (try cbv); (try cbv)); intro hT; clear hT; refine Sh.mk (by kernel_rfl) ?_)
  repeat' (first
    | with_reducible refine Ck.mk (C := tt) tt_intro ?_
    | with_reducible refine Ck.mk (show drawOk _ _ = true by kernel_rfl) ?_
    | with_reducible refine Ck.all_cons ?_
    | with_reducible refine Ck.all_nil ?_
    | with_reducible refine Ck.mk (by assumption) ?_
    | with_reducible refine Ck.mk (decide_eq_true (by assumption)) ?_
    | with_reducible refine Ck.mk (decide_eq_false (by assumption)) ?_
    | with_reducible refine Ck.mk ?_ ?_
    | (with_reducible refine Both.mk (fun h => ?_) (fun h => ?_) <;> (have hk := h) <;> (try simp only [decide_eq_true_eq, decide_eq_false_iff_not, Bool.not_eq_true', Bool.not_eq_false', Bool.not_eq_true, Bool.not_eq_false, Bool.not_true, Bool.not_false, ne_eq, Bool.false_eq_true, Bool.true_eq_false, reduceCtorEq, beq_iff_eq, beq_eq_false_iff_ne, not_true_eq_false, not_false_eq_true, pair_eta, map_idL] at h) <;> (try dsimp only [putSpec, readSpec, gapsSpec, endSpec, endF, offSpec, offF, ctgSpec, ctgF, heldSpec, heldF, newStoSpec, Ty.T, Ty.dflt, KT.T, getM, putM, delM] at h) <;> (try simp only [natCast_eq] at h) <;> (try (have hq := wnd_fact (w := 1 + w % 20) (by omega) (by omega) hlo h (by omega) hd hf; obtain ⟨T, u1, u2, u3, u4, u5, u6, u7⟩ := hq)) <;> (try simp only [u1] at h) <;> (try simp only [u4] at h) <;> (try simp only [u5] at h) <;> (try (exfalso; exact absurd rfl h)) <;> (try (exfalso; exact absurd (List.take_of_length_le (by omega)) h)) <;> (try first | rw [if_pos h] at hr | rw [if_neg h] at hr | rw [ifF h] at hr | rw [ifN h] at hr) <;> (try (have hb : (_ : Bool) = _ := h; clear h; subst hb; (try first | rw [if_pos rfl] at hr | rw [if_neg Bool.false_ne_true] at hr))) <;> first | (exfalso; omega) | exact absurd (h.symm.trans (by assumption) : true = false) Bool.noConfusion | exact absurd (h.symm.trans (by assumption) : false = true) Bool.noConfusion | (refine (?_ : T1 _ ?_) ?_; rotate_left 1; (conv => lhs; cbv; (try cbv); (try cbv)); intro hT; clear hT; refine Sh.mk (by kernel_rfl) ?_))
    | (with_reducible refine Alt.mk (fun h => ?_) (fun h => ?_) <;> (have hk := h) <;> (try simp only [decide_eq_true_eq, decide_eq_false_iff_not, Bool.not_eq_true', Bool.not_eq_false', Bool.not_eq_true, Bool.not_eq_false, Bool.not_true, Bool.not_false, ne_eq, Bool.false_eq_true, Bool.true_eq_false, reduceCtorEq, beq_iff_eq, beq_eq_false_iff_ne, not_true_eq_false, not_false_eq_true, pair_eta, map_idL] at h) <;> (try dsimp only [putSpec, readSpec, gapsSpec, endSpec, endF, offSpec, offF, ctgSpec, ctgF, heldSpec, heldF, newStoSpec, Ty.T, Ty.dflt, KT.T, getM, putM, delM] at h) <;> (try simp only [natCast_eq] at h) <;> (try (have hq := wnd_fact (w := 1 + w % 20) (by omega) (by omega) hlo h (by omega) hd hf; obtain ⟨T, u1, u2, u3, u4, u5, u6, u7⟩ := hq)) <;> (try simp only [u1] at h) <;> (try simp only [u4] at h) <;> (try simp only [u5] at h) <;> (try (exfalso; exact absurd rfl h)) <;> (try (exfalso; exact absurd (List.take_of_length_le (by omega)) h)) <;> (try first | rw [if_pos h] at hr | rw [if_neg h] at hr | rw [ifF h] at hr | rw [ifN h] at hr) <;> (try (have hb : (_ : Bool) = _ := h; clear h; subst hb; (try first | rw [if_pos rfl] at hr | rw [if_neg Bool.false_ne_true] at hr))) <;> first | (exfalso; omega) | exact absurd (h.symm.trans (by assumption) : true = false) Bool.noConfusion | exact absurd (h.symm.trans (by assumption) : false = true) Bool.noConfusion | (refine (?_ : T1 _ ?_) ?_; rotate_left 1; (conv => lhs; cbv; (try cbv); (try cbv)); intro hT; clear hT; refine Sh.mk (by kernel_rfl) ?_))
    | (with_reducible refine Pick.mk (fun h => ?_) (fun l1 x l2 h => ?_) <;> (refine (?_ : T1 _ ?_) ?_; rotate_left 1; (conv => lhs; cbv; (try cbv); (try cbv)); intro hT; clear hT; refine Sh.mk (by kernel_rfl) ?_))
    | ((with_reducible refine End.mk ?_); (try ((repeat (first | rw [if_pos (by first | assumption | omega)] at hr | rw [if_neg (by first | assumption | omega | (simp only [Bool.false_eq_true, Bool.true_eq_false, reduceCtorEq, not_false_eq_true]; done) | (simp only [Bool.not_eq_true]; assumption) | (simp only [Bool.not_eq_false]; assumption))] at hr | rw [if_pos rfl] at hr)); subst hr)))
    | with_reducible exact True.intro)
  all_goals first
    | (fail_if_success (with_reducible refine Exists.intro ?_ ?_)
       first
         | with_reducible rfl
         | with_reducible assumption
         | (dsimp only [putSpec, readSpec, gapsSpec, endSpec, endF, offSpec, offF, ctgSpec, ctgF, heldSpec, heldF, newStoSpec, Ty.T, Ty.dflt, KT.T, getM, putM, delM, inI64, maxRow]; done)
         | (symm; with_reducible assumption)
         | (dsimp only [putSpec, readSpec, gapsSpec, endSpec, endF, offSpec, offF, ctgSpec, ctgF, heldSpec, heldF, newStoSpec, Ty.T, Ty.dflt, KT.T, getM, putM, delM, inI64, maxRow]; first | with_reducible rfl | with_reducible assumption | (symm; with_reducible assumption) | (simp only [natCast_eq]; with_reducible rfl) | omega)
         | omega
         | (dsimp only [putSpec, readSpec, gapsSpec, endSpec, endF, offSpec, offF, ctgSpec, ctgF, heldSpec, heldF, newStoSpec, Ty.T, Ty.dflt, KT.T, getM, putM, delM, inI64, maxRow]; (try simp only [natCast_eq, List.nil_append]); first | with_reducible rfl | exact take_cg (by omega) | exact drop_cg (by omega) | exact take_drop_cg (by omega) (by omega) | exact take_all (by omega) | exact take_drop_all (by omega) (by omega) | exact drop_take_cg (by omega) (by omega) (by omega))
         | ((try dsimp only [putSpec, readSpec, gapsSpec, endSpec, endF, offSpec, offF, ctgSpec, ctgF, heldSpec, heldF, newStoSpec, Ty.T, Ty.dflt, KT.T, getM, putM, delM, inI64, maxRow]); simp only [decide_eq_true_eq, decide_eq_false_iff_not, Bool.not_eq_true', Bool.not_eq_false', Bool.not_eq_true, Bool.not_eq_false, Bool.not_true, Bool.not_false, ne_eq, Bool.false_eq_true, Bool.true_eq_false, reduceCtorEq, beq_iff_eq, beq_eq_false_iff_ne, not_true_eq_false, not_false_eq_true, pair_eta, map_idL, natCast_eq, inI64, maxRow]; first | done | with_reducible assumption | omega)
         | exact map_pair_id _
         | ((try dsimp only [putSpec, readSpec, gapsSpec, endSpec, endF, offSpec, offF, ctgSpec, ctgF, heldSpec, heldF, newStoSpec, Ty.T, Ty.dflt, KT.T, getM, putM, delM, inI64, maxRow]) <;> (try simp only [natCast_eq]) <;> omega)
         | ((try dsimp only [putSpec, readSpec, gapsSpec, endSpec, endF, offSpec, offF, ctgSpec, ctgF, heldSpec, heldF, newStoSpec, Ty.T, Ty.dflt, KT.T, getM, putM, delM, inI64, maxRow] at *) <;> (try simp only [natCast_eq] at *) <;> omega)
         | ((try dsimp only [putSpec, readSpec, gapsSpec, endSpec, endF, offSpec, offF, ctgSpec, ctgF, heldSpec, heldF, newStoSpec, Ty.T, Ty.dflt, KT.T, getM, putM, delM, inI64, maxRow] at *) <;> (try simp only [List.length_append, List.length_cons, List.length_nil, List.length_replicate, List.length_take, List.length_drop, natCast_eq] at *) <;> omega)
         | assumption
         | (symm; assumption)
         | (dsimp only; simp only [Bool.or_true, Bool.true_or, Bool.or_false, Bool.false_or, Bool.and_true, Bool.true_and, Bool.and_false, Bool.false_and, Bool.not_true, Bool.not_false, *]; done)
         | (simp; done)
         | (and_intros <;> first | trivial | with_reducible assumption | omega)
         | ((try dsimp only [putSpec, readSpec, gapsSpec, endSpec, endF, offSpec, offF, ctgSpec, ctgF, heldSpec, heldF, newStoSpec, Ty.T, Ty.dflt, KT.T, getM, putM, delM, inI64, maxRow] at *) <;> simp [*] <;> done))
    | skip
  obtain ⟨x0, hx0, hx1, hx2⟩ : ∃ x : LWn (1 + w % 20) d, x.i = 0 ∧ x.f = 0 ∧ x.k = false := ⟨⟨0, 0, false, by omega, by omega, fun h => by cases h⟩, rfl, rfl, rfl⟩
  refine ⟨⟨LWn (1 + w % 20) d, fun x => ⟨[(0, Sx.one (.ro (.int .u8) (fun _ => d))), (5, Sx.one (.int .i64 (fun _ => 1 + w % 20))), (6, Sx.one (.ptr 0 0)), (8, Sx.one (.hd 1 0)), (9, Sx.one (.int .i64 (fun _ => x.i)))], [.abs (.sto (fun _ => wS (1 + w % 20) (min x.i d.length) x.f x.k)), .row 5 (.int .u8) 0 (fun _ => d.take (min x.i d.length).toNat)]⟩, fun x => (d.length + 20 - x.i).toNat, x0⟩, ?_, fun (x : LWn (1 + w % 20) d) => ?_⟩
  · (try (conv in (LoopInv.inv _ _) => dsimp only)); (try (conv in (SS.mk _ _) => cbv; (try dsimp only [putSpec, readSpec, gapsSpec, endSpec, endF, offSpec, offF, ctgSpec, ctgF, heldSpec, heldF, newStoSpec, Ty.T, Ty.dflt, KT.T]); (try simp only [natCast_eq])))
    (refine (?_ : T1 _ ?_) ?_; rotate_left 1; (conv => lhs; cbv; (try cbv); (try cbv)); intro hT; clear hT; refine Sh.mk (by kernel_rfl) ?_)
    repeat' (first
      | with_reducible refine Ck.mk (C := tt) tt_intro ?_
      | with_reducible refine Ck.mk (show drawOk _ _ = true by kernel_rfl) ?_
      | with_reducible refine Ck.all_cons ?_
      | with_reducible refine Ck.all_nil ?_
      | with_reducible refine Ck.mk (by assumption) ?_
      | with_reducible refine Ck.mk (decide_eq_true (by assumption)) ?_
      | with_reducible refine Ck.mk (decide_eq_false (by assumption)) ?_
      | with_reducible refine Ck.mk ?_ ?_
      | (with_reducible refine Both.mk (fun h => ?_) (fun h => ?_) <;> (have hk := h) <;> (try simp only [decide_eq_true_eq, decide_eq_false_iff_not, Bool.not_eq_true', Bool.not_eq_false', Bool.not_eq_true, Bool.not_eq_false, Bool.not_true, Bool.not_false, ne_eq, Bool.false_eq_true, Bool.true_eq_false, reduceCtorEq, beq_iff_eq, beq_eq_false_iff_ne, not_true_eq_false, not_false_eq_true, pair_eta, map_idL] at h) <;> (try dsimp only [putSpec, readSpec, gapsSpec, endSpec, endF, offSpec, offF, ctgSpec, ctgF, heldSpec, heldF, newStoSpec, Ty.T, Ty.dflt, KT.T, getM, putM, delM] at h) <;> (try simp only [natCast_eq] at h) <;> (try (have hq := wnd_fact (w := 1 + w % 20) (by omega) (by omega) hlo h (by omega) hd hf; obtain ⟨T, u1, u2, u3, u4, u5, u6, u7⟩ := hq)) <;> (try simp only [u1] at h) <;> (try simp only [u4] at h) <;> (try simp only [u5] at h) <;> (try (exfalso; exact absurd rfl h)) <;> (try (exfalso; exact absurd (List.take_of_length_le (by omega)) h)) <;> (try first | rw [if_pos h] at hr | rw [if_neg h] at hr | rw [ifF h] at hr | rw [ifN h] at hr) <;> (try (have hb : (_ : Bool) = _ := h; clear h; subst hb; (try first | rw [if_pos rfl] at hr | rw [if_neg Bool.false_ne_true] at hr))) <;> first | (exfalso; omega) | exact absurd (h.symm.trans (by assumption) : true = false) Bool.noConfusion | exact absurd (h.symm.trans (by assumption) : false = true) Bool.noConfusion | (refine (?_ : T1 _ ?_) ?_; rotate_left 1; (conv => lhs; cbv; (try cbv); (try cbv)); intro hT; clear hT; refine Sh.mk (by kernel_rfl) ?_))
      | (with_reducible refine Alt.mk (fun h => ?_) (fun h => ?_) <;> (have hk := h) <;> (try simp only [decide_eq_true_eq, decide_eq_false_iff_not, Bool.not_eq_true', Bool.not_eq_false', Bool.not_eq_true, Bool.not_eq_false, Bool.not_true, Bool.not_false, ne_eq, Bool.false_eq_true, Bool.true_eq_false, reduceCtorEq, beq_iff_eq, beq_eq_false_iff_ne, not_true_eq_false, not_false_eq_true, pair_eta, map_idL] at h) <;> (try dsimp only [putSpec, readSpec, gapsSpec, endSpec, endF, offSpec, offF, ctgSpec, ctgF, heldSpec, heldF, newStoSpec, Ty.T, Ty.dflt, KT.T, getM, putM, delM] at h) <;> (try simp only [natCast_eq] at h) <;> (try (have hq := wnd_fact (w := 1 + w % 20) (by omega) (by omega) hlo h (by omega) hd hf; obtain ⟨T, u1, u2, u3, u4, u5, u6, u7⟩ := hq)) <;> (try simp only [u1] at h) <;> (try simp only [u4] at h) <;> (try simp only [u5] at h) <;> (try (exfalso; exact absurd rfl h)) <;> (try (exfalso; exact absurd (List.take_of_length_le (by omega)) h)) <;> (try first | rw [if_pos h] at hr | rw [if_neg h] at hr | rw [ifF h] at hr | rw [ifN h] at hr) <;> (try (have hb : (_ : Bool) = _ := h; clear h; subst hb; (try first | rw [if_pos rfl] at hr | rw [if_neg Bool.false_ne_true] at hr))) <;> first | (exfalso; omega) | exact absurd (h.symm.trans (by assumption) : true = false) Bool.noConfusion | exact absurd (h.symm.trans (by assumption) : false = true) Bool.noConfusion | (refine (?_ : T1 _ ?_) ?_; rotate_left 1; (conv => lhs; cbv; (try cbv); (try cbv)); intro hT; clear hT; refine Sh.mk (by kernel_rfl) ?_))
      | (with_reducible refine Pick.mk (fun h => ?_) (fun l1 x l2 h => ?_) <;> (refine (?_ : T1 _ ?_) ?_; rotate_left 1; (conv => lhs; cbv; (try cbv); (try cbv)); intro hT; clear hT; refine Sh.mk (by kernel_rfl) ?_))
      | ((with_reducible refine End.mk ?_); skip)
      | with_reducible exact True.intro)
    all_goals first
      | (fail_if_success (with_reducible refine Exists.intro ?_ ?_)
         first
           | with_reducible rfl
           | with_reducible assumption
           | (dsimp only [putSpec, readSpec, gapsSpec, endSpec, endF, offSpec, offF, ctgSpec, ctgF, heldSpec, heldF, newStoSpec, Ty.T, Ty.dflt, KT.T, getM, putM, delM, inI64, maxRow]; done)
           | (symm; with_reducible assumption)
           | (dsimp only [putSpec, readSpec, gapsSpec, endSpec, endF, offSpec, offF, ctgSpec, ctgF, heldSpec, heldF, newStoSpec, Ty.T, Ty.dflt, KT.T, getM, putM, delM, inI64, maxRow]; first | with_reducible rfl | with_reducible assumption | (symm; with_reducible assumption) | (simp only [natCast_eq]; with_reducible rfl) | omega)
           | omega
           | (dsimp only [putSpec, readSpec, gapsSpec, endSpec, endF, offSpec, offF, ctgSpec, ctgF, heldSpec, heldF, newStoSpec, Ty.T, Ty.dflt, KT.T, getM, putM, delM, inI64, maxRow]; (try simp only [natCast_eq, List.nil_append]); first | with_reducible rfl | exact take_cg (by omega) | exact drop_cg (by omega) | exact take_drop_cg (by omega) (by omega) | exact take_all (by omega) | exact take_drop_all (by omega) (by omega) | exact drop_take_cg (by omega) (by omega) (by omega))
           | first | (rw [hx0, hx1, hx2]; show (⟨1 + w % 20, 0, 0, [], 0, false⟩ : Sto) = ⟨_, _, _, _, _, _⟩; congr 1 <;> omega) | (rw [hx0, show (min (0 : Int) d.length).toNat = 0 by omega]; rfl)
           | ((try dsimp only [putSpec, readSpec, gapsSpec, endSpec, endF, offSpec, offF, ctgSpec, ctgF, heldSpec, heldF, newStoSpec, Ty.T, Ty.dflt, KT.T, getM, putM, delM, inI64, maxRow]); simp only [decide_eq_true_eq, decide_eq_false_iff_not, Bool.not_eq_true', Bool.not_eq_false', Bool.not_eq_true, Bool.not_eq_false, Bool.not_true, Bool.not_false, ne_eq, Bool.false_eq_true, Bool.true_eq_false, reduceCtorEq, beq_iff_eq, beq_eq_false_iff_ne, not_true_eq_false, not_false_eq_true, pair_eta, map_idL, natCast_eq, inI64, maxRow]; first | done | with_reducible assumption | omega)
           | exact map_pair_id _
           | ((try dsimp only [putSpec, readSpec, gapsSpec, endSpec, endF, offSpec, offF, ctgSpec, ctgF, heldSpec, heldF, newStoSpec, Ty.T, Ty.dflt, KT.T, getM, putM, delM, inI64, maxRow]) <;> (try simp only [natCast_eq]) <;> omega)
           | ((try dsimp only [putSpec, readSpec, gapsSpec, endSpec, endF, offSpec, offF, ctgSpec, ctgF, heldSpec, heldF, newStoSpec, Ty.T, Ty.dflt, KT.T, getM, putM, delM, inI64, maxRow] at *) <;> (try simp only [natCast_eq] at *) <;> omega)
           | ((try dsimp only [putSpec, readSpec, gapsSpec, endSpec, endF, offSpec, offF, ctgSpec, ctgF, heldSpec, heldF, newStoSpec, Ty.T, Ty.dflt, KT.T, getM, putM, delM, inI64, maxRow] at *) <;> (try simp only [List.length_append, List.length_cons, List.length_nil, List.length_replicate, List.length_take, List.length_drop, natCast_eq] at *) <;> omega)
           | assumption
           | (symm; assumption)
           | (dsimp only; simp only [Bool.or_true, Bool.true_or, Bool.or_false, Bool.false_or, Bool.and_true, Bool.true_and, Bool.and_false, Bool.false_and, Bool.not_true, Bool.not_false, *]; done)
           | (simp; done)
           | (and_intros <;> first | trivial | with_reducible assumption | omega)
           | ((try dsimp only [putSpec, readSpec, gapsSpec, endSpec, endF, offSpec, offF, ctgSpec, ctgF, heldSpec, heldF, newStoSpec, Ty.T, Ty.dflt, KT.T, getM, putM, delM, inI64, maxRow] at *) <;> simp [*] <;> done))
      | skip
  obtain ⟨i, f, k, hlo, hhi, hf⟩ := x
  (try (conv in (LoopInv.inv _ _) => dsimp only)); (try (conv in (SS.mk _ _) => cbv; (try dsimp only [putSpec, readSpec, gapsSpec, endSpec, endF, offSpec, offF, ctgSpec, ctgF, heldSpec, heldF, newStoSpec, Ty.T, Ty.dflt, KT.T]); (try simp only [natCast_eq])))
  (refine (?_ : T1 _ ?_) ?_; rotate_left 1; (conv => lhs; cbv; (try cbv); (try cbv)); intro hT; clear hT; refine Sh.mk (by kernel_rfl) ?_)
  repeat' (first
    | with_reducible refine Ck.mk (C := tt) tt_intro ?_
    | with_reducible refine Ck.mk (show drawOk _ _ = true by kernel_rfl) ?_
    | with_reducible refine Ck.all_cons ?_
    | with_reducible refine Ck.all_nil ?_
    | with_reducible refine Ck.mk (by assumption) ?_
    | with_reducible refine Ck.mk (decide_eq_true (by assumption)) ?_
    | with_reducible refine Ck.mk (decide_eq_false (by assumption)) ?_
    | with_reducible refine Ck.mk ?_ ?_
    | (with_reducible refine Both.mk (fun h => ?_) (fun h => ?_) <;> (have hk := h) <;> (try simp only [decide_eq_true_eq, decide_eq_false_iff_not, Bool.not_eq_true', Bool.not_eq_false', Bool.not_eq_true, Bool.not_eq_false, Bool.not_true, Bool.not_false, ne_eq, Bool.false_eq_true, Bool.true_eq_false, reduceCtorEq, beq_iff_eq, beq_eq_false_iff_ne, not_true_eq_false, not_false_eq_true, pair_eta, map_idL] at h) <;> (try dsimp only [putSpec, readSpec, gapsSpec, endSpec, endF, offSpec, offF, ctgSpec, ctgF, heldSpec, heldF, newStoSpec, Ty.T, Ty.dflt, KT.T, getM, putM, delM] at h) <;> (try simp only [natCast_eq] at h) <;> (try (have hq := wnd_fact (w := 1 + w % 20) (by omega) (by omega) hlo h (by omega) hd hf; obtain ⟨T, u1, u2, u3, u4, u5, u6, u7⟩ := hq)) <;> (try simp only [u1] at h) <;> (try simp only [u4] at h) <;> (try simp only [u5] at h) <;> (try (exfalso; exact absurd rfl h)) <;> (try (exfalso; exact absurd (List.take_of_length_le (by omega)) h)) <;> (try first | rw [if_pos h] at hr | rw [if_neg h] at hr | rw [ifF h] at hr | rw [ifN h] at hr) <;> (try (have hb : (_ : Bool) = _ := h; clear h; subst hb; (try first | rw [if_pos rfl] at hr | rw [if_neg Bool.false_ne_true] at hr))) <;> first | (exfalso; omega) | exact absurd (h.symm.trans (by assumption) : true = false) Bool.noConfusion | exact absurd (h.symm.trans (by assumption) : false = true) Bool.noConfusion | (refine (?_ : T1 _ ?_) ?_; rotate_left 1; (conv => lhs; cbv; (try cbv); (try cbv)); intro hT; clear hT; refine Sh.mk (by kernel_rfl) ?_))
    | (with_reducible refine Alt.mk (fun h => ?_) (fun h => ?_) <;> (have hk := h) <;> (try simp only [decide_eq_true_eq, decide_eq_false_iff_not, Bool.not_eq_true', Bool.not_eq_false', Bool.not_eq_true, Bool.not_eq_false, Bool.not_true, Bool.not_false, ne_eq, Bool.false_eq_true, Bool.true_eq_false, reduceCtorEq, beq_iff_eq, beq_eq_false_iff_ne, not_true_eq_false, not_false_eq_true, pair_eta, map_idL] at h) <;> (try dsimp only [putSpec, readSpec, gapsSpec, endSpec, endF, offSpec, offF, ctgSpec, ctgF, heldSpec, heldF, newStoSpec, Ty.T, Ty.dflt, KT.T, getM, putM, delM] at h) <;> (try simp only [natCast_eq] at h) <;> (try (have hq := wnd_fact (w := 1 + w % 20) (by omega) (by omega) hlo h (by omega) hd hf; obtain ⟨T, u1, u2, u3, u4, u5, u6, u7⟩ := hq)) <;> (try simp only [u1] at h) <;> (try simp only [u4] at h) <;> (try simp only [u5] at h) <;> (try (exfalso; exact absurd rfl h)) <;> (try (exfalso; exact absurd (List.take_of_length_le (by omega)) h)) <;> (try first | rw [if_pos h] at hr | rw [if_neg h] at hr | rw [ifF h] at hr | rw [ifN h] at hr) <;> (try (have hb : (_ : Bool) = _ := h; clear h; subst hb; (try first | rw [if_pos rfl] at hr | rw [if_neg Bool.false_ne_true] at hr))) <;> first | (exfalso; omega) | exact absurd (h.symm.trans (by assumption) : true = false) Bool.noConfusion | exact absurd (h.symm.trans (by assumption) : false = true) Bool.noConfusion | (refine (?_ : T1 _ ?_) ?_; rotate_left 1; (conv => lhs; cbv; (try cbv); (try cbv)); intro hT; clear hT; refine Sh.mk (by kernel_rfl) ?_))
    | (with_reducible refine Pick.mk (fun h => ?_) (fun l1 x l2 h => ?_) <;> (refine (?_ : T1 _ ?_) ?_; rotate_left 1; (conv => lhs; cbv; (try cbv); (try cbv)); intro hT; clear hT; refine Sh.mk (by kernel_rfl) ?_))
    | ((with_reducible refine End.mk ?_); (try ((repeat (first | rw [if_pos (by first | assumption | omega)] at hr | rw [if_neg (by first | assumption | omega | (simp only [Bool.false_eq_true, Bool.true_eq_false, reduceCtorEq, not_false_eq_true]; done) | (simp only [Bool.not_eq_true]; assumption) | (simp only [Bool.not_eq_false]; assumption))] at hr | rw [if_pos rfl] at hr)); subst hr)))
    | with_reducible exact True.intro)
  all_goals first
    | (fail_if_success (with_reducible refine Exists.intro ?_ ?_)
       first
         | with_reducible rfl
         | with_reducible assumption
         | (dsimp only [putSpec, readSpec, gapsSpec, endSpec, endF, offSpec, offF, ctgSpec, ctgF, heldSpec, heldF, newStoSpec, Ty.T, Ty.dflt, KT.T, getM, putM, delM, inI64, maxRow]; done)
         | (symm; with_reducible assumption)
         | (dsimp only [putSpec, readSpec, gapsSpec, endSpec, endF, offSpec, offF, ctgSpec, ctgF, heldSpec, heldF, newStoSpec, Ty.T, Ty.dflt, KT.T, getM, putM, delM, inI64, maxRow]; first | with_reducible rfl | with_reducible assumption | (symm; with_reducible assumption) | (simp only [natCast_eq]; with_reducible rfl) | omega)
         | omega
         | (dsimp only [putSpec, readSpec, gapsSpec, endSpec, endF, offSpec, offF, ctgSpec, ctgF, heldSpec, heldF, newStoSpec, Ty.T, Ty.dflt, KT.T, getM, putM, delM, inI64, maxRow]; (try simp only [natCast_eq, List.nil_append]); first | with_reducible rfl | exact take_cg (by omega) | exact drop_cg (by omega) | exact take_drop_cg (by omega) (by omega) | exact take_all (by omega) | exact take_drop_all (by omega) (by omega) | exact drop_take_cg (by omega) (by omega) (by omega))
         | first | exact ⟨u7.pre, by show d.length ≤ 1048576; omega⟩ | exact ⟨fun z hz => hd z (List.mem_of_mem_take hz), hd⟩ | (show PreS (putF (wS (1 + w % 20) (min i d.length) f k) 0 d true).2; rw [u1]; exact u3.pre) | (show (d.take _).length + List.length (readF (putF (wS (1 + w % 20) (min i d.length) f k) 0 d true).2 (1 + w % 20)).1.1 ≤ 1099511627776; rw [u1, u4, u5, List.length_take]; omega)
         | ((try dsimp only [putSpec, readSpec, gapsSpec, endSpec, endF, offSpec, offF, ctgSpec, ctgF, heldSpec, heldF, newStoSpec, Ty.T, Ty.dflt, KT.T, getM, putM, delM, inI64, maxRow]); simp only [decide_eq_true_eq, decide_eq_false_iff_not, Bool.not_eq_true', Bool.not_eq_false', Bool.not_eq_true, Bool.not_eq_false, Bool.not_true, Bool.not_false, ne_eq, Bool.false_eq_true, Bool.true_eq_false, reduceCtorEq, beq_iff_eq, beq_eq_false_iff_ne, not_true_eq_false, not_false_eq_true, pair_eta, map_idL, natCast_eq, inI64, maxRow]; first | done | with_reducible assumption | omega)
         | exact map_pair_id _
         | ((try dsimp only [putSpec, readSpec, gapsSpec, endSpec, endF, offSpec, offF, ctgSpec, ctgF, heldSpec, heldF, newStoSpec, Ty.T, Ty.dflt, KT.T, getM, putM, delM, inI64, maxRow]) <;> (try simp only [natCast_eq]) <;> omega)
         | ((try dsimp only [putSpec, readSpec, gapsSpec, endSpec, endF, offSpec, offF, ctgSpec, ctgF, heldSpec, heldF, newStoSpec, Ty.T, Ty.dflt, KT.T, getM, putM, delM, inI64, maxRow] at *) <;> (try simp only [natCast_eq] at *) <;> omega)
         | ((try dsimp only [putSpec, readSpec, gapsSpec, endSpec, endF, offSpec, offF, ctgSpec, ctgF, heldSpec, heldF, newStoSpec, Ty.T, Ty.dflt, KT.T, getM, putM, delM, inI64, maxRow] at *) <;> (try simp only [List.length_append, List.length_cons, List.length_nil, List.length_replicate, List.length_take, List.length_drop, natCast_eq] at *) <;> omega)
         | assumption
         | (symm; assumption)
         | (dsimp only; simp only [Bool.or_true, Bool.true_or, Bool.or_false, Bool.false_or, Bool.and_true, Bool.true_and, Bool.and_false, Bool.false_and, Bool.not_true, Bool.not_false, *]; done)
         | (simp; done)
         | (and_intros <;> first | trivial | with_reducible assumption | omega)
         | ((try dsimp only [putSpec, readSpec, gapsSpec, endSpec, endF, offSpec, offF, ctgSpec, ctgF, heldSpec, heldF, newStoSpec, Ty.T, Ty.dflt, KT.T, getM, putM, delM, inI64, maxRow] at *) <;> simp [*] <;> done))
    | skip
  · obtain ⟨y, hy0, hy1, hy2⟩ := next_LWn (w := 1 + w % 20) (d := d) hlo (by assumption) (by omega) (by omega)
    refine ⟨y, by dsimp only; (try simp only [natCast_eq]); omega, ?_⟩
    (try (conv in (LoopInv.inv _ _) => dsimp only)); (try (conv in (SS.mk _ _) => cbv; (try dsimp only [putSpec, readSpec, gapsSpec, endSpec, endF, offSpec, offF, ctgSpec, ctgF, heldSpec, heldF, newStoSpec, Ty.T, Ty.dflt, KT.T]); (try simp only [natCast_eq])))
    (refine (?_ : T1 _ ?_) ?_; rotate_left 1; (conv => lhs; cbv; (try cbv); (try cbv)); intro hT; clear hT; refine Sh.mk (by kernel_rfl) ?_)
    repeat' (first
      | with_reducible refine Ck.mk (C := tt) tt_intro ?_
      | with_reducible refine Ck.mk (show drawOk _ _ = true by kernel_rfl) ?_
      | with_reducible refine Ck.all_cons ?_
      | with_reducible refine Ck.all_nil ?_
      | with_reducible refine Ck.mk (by assumption) ?_
      | with_reducible refine Ck.mk (decide_eq_true (by assumption)) ?_
      | with_reducible refine Ck.mk (decide_eq_false (by assumption)) ?_
      | with_reducible refine Ck.mk ?_ ?_
      | (with_reducible refine Both.mk (fun h => ?_) (fun h => ?_) <;> (have hk := h) <;> (try simp only [decide_eq_true_eq, decide_eq_false_iff_not, Bool.not_eq_true', Bool.not_eq_false', Bool.not_eq_true, Bool.not_eq_false, Bool.not_true, Bool.not_false, ne_eq, Bool.false_eq_true, Bool.true_eq_false, reduceCtorEq, beq_iff_eq, beq_eq_false_iff_ne, not_true_eq_false, not_false_eq_true, pair_eta, map_idL] at h) <;> (try dsimp only [putSpec, readSpec, gapsSpec, endSpec, endF, offSpec, offF, ctgSpec, ctgF, heldSpec, heldF, newStoSpec, Ty.T, Ty.dflt, KT.T, getM, putM, delM] at h) <;> (try simp only [natCast_eq] at h) <;> (try (have hq := wnd_fact (w := 1 + w % 20) (by omega) (by omega) hlo h (by omega) hd hf; obtain ⟨T, u1, u2, u3, u4, u5, u6, u7⟩ := hq)) <;> (try simp only [u1] at h) <;> (try simp only [u4] at h) <;> (try simp only [u5] at h) <;> (try (exfalso; exact absurd rfl h)) <;> (try (exfalso; exact absurd (List.take_of_length_le (by omega)) h)) <;> (try first | rw [if_pos h] at hr | rw [if_neg h] at hr | rw [ifF h] at hr | rw [ifN h] at hr) <;> (try (have hb : (_ : Bool) = _ := h; clear h; subst hb; (try first | rw [if_pos rfl] at hr | rw [if_neg Bool.false_ne_true] at hr))) <;> first | (exfalso; omega) | exact absurd (h.symm.trans (by assumption) : true = false) Bool.noConfusion | exact absurd (h.symm.trans (by assumption) : false = true) Bool.noConfusion | (refine (?_ : T1 _ ?_) ?_; rotate_left 1; (conv => lhs; cbv; (try cbv); (try cbv)); intro hT; clear hT; refine Sh.mk (by kernel_rfl) ?_))
      | (with_reducible refine Alt.mk (fun h => ?_) (fun h => ?_) <;> (have hk := h) <;> (try simp only [decide_eq_true_eq, decide_eq_false_iff_not, Bool.not_eq_true', Bool.not_eq_false', Bool.not_eq_true, Bool.not_eq_false, Bool.not_true, Bool.not_false, ne_eq, Bool.false_eq_true, Bool.true_eq_false, reduceCtorEq, beq_iff_eq, beq_eq_false_iff_ne, not_true_eq_false, not_false_eq_true, pair_eta, map_idL] at h) <;> (try dsimp only [putSpec, readSpec, gapsSpec, endSpec, endF, offSpec, offF, ctgSpec, ctgF, heldSpec, heldF, newStoSpec, Ty.T, Ty.dflt, KT.T, getM, putM, delM] at h) <;> (try simp only [natCast_eq] at h) <;> (try (have hq := wnd_fact (w := 1 + w % 20) (by omega) (by omega) hlo h (by omega) hd hf; obtain ⟨T, u1, u2, u3, u4, u5, u6, u7⟩ := hq)) <;> (try simp only [u1] at h) <;> (try simp only [u4] at h) <;> (try simp only [u5] at h) <;> (try (exfalso; exact absurd rfl h)) <;> (try (exfalso; exact absurd (List.take_of_length_le (by omega)) h)) <;> (try first | rw [if_pos h] at hr | rw [if_neg h] at hr | rw [ifF h] at hr | rw [ifN h] at hr) <;> (try (have hb : (_ : Bool) = _ := h; clear h; subst hb; (try first | rw [if_pos rfl] at hr | rw [if_neg Bool.false_ne_true] at hr))) <;> first | (exfalso; omega) | exact absurd (h.symm.trans (by assumption) : true = false) Bool.noConfusion | exact absurd (h.symm.trans (by assumption) : false = true) Bool.noConfusion | (refine (?_ : T1 _ ?_) ?_; rotate_left 1; (conv => lhs; cbv; (try cbv); (try cbv)); intro hT; clear hT; refine Sh.mk (by kernel_rfl) ?_))
      | (with_reducible refine Pick.mk (fun h => ?_) (fun l1 x l2 h => ?_) <;> (refine (?_ : T1 _ ?_) ?_; rotate_left 1; (conv => lhs; cbv; (try cbv); (try cbv)); intro hT; clear hT; refine Sh.mk (by kernel_rfl) ?_))
      | ((with_reducible refine End.mk ?_); skip)
      | with_reducible exact True.intro)
    all_goals first
      | (fail_if_success (with_reducible refine Exists.intro ?_ ?_)
         first
           | with_reducible rfl
           | with_reducible assumption
           | (dsimp only [putSpec, readSpec, gapsSpec, endSpec, endF, offSpec, offF, ctgSpec, ctgF, heldSpec, heldF, newStoSpec, Ty.T, Ty.dflt, KT.T, getM, putM, delM, inI64, maxRow]; done)
           | (symm; with_reducible assumption)
           | (dsimp only [putSpec, readSpec, gapsSpec, endSpec, endF, offSpec, offF, ctgSpec, ctgF, heldSpec, heldF, newStoSpec, Ty.T, Ty.dflt, KT.T, getM, putM, delM, inI64, maxRow]; first | with_reducible rfl | with_reducible assumption | (symm; with_reducible assumption) | (simp only [natCast_eq]; with_reducible rfl) | omega)
           | omega
           | (dsimp only [putSpec, readSpec, gapsSpec, endSpec, endF, offSpec, offF, ctgSpec, ctgF, heldSpec, heldF, newStoSpec, Ty.T, Ty.dflt, KT.T, getM, putM, delM, inI64, maxRow]; (try simp only [natCast_eq, List.nil_append]); first | with_reducible rfl | exact take_cg (by omega) | exact drop_cg (by omega) | exact take_drop_cg (by omega) (by omega) | exact take_all (by omega) | exact take_drop_all (by omega) (by omega) | exact drop_take_cg (by omega) (by omega) (by omega))
           | first | (rw [hy0]; done) | (show (readF (putF (wS (1 + w % 20) (min i d.length) f k) 0 d true).2 (1 + w % 20)).2 = _; rw [u1, u4, hy0, hy1, hy2]) | (show d.take _ ++ (readF (putF (wS (1 + w % 20) (min i d.length) f k) 0 d true).2 (1 + w % 20)).1.1 = _; rw [u1, u4, hy0]; exact u6)
           | ((try dsimp only [putSpec, readSpec, gapsSpec, endSpec, endF, offSpec, offF, ctgSpec, ctgF, heldSpec, heldF, newStoSpec, Ty.T, Ty.dflt, KT.T, getM, putM, delM, inI64, maxRow]); simp only [decide_eq_true_eq, decide_eq_false_iff_not, Bool.not_eq_true', Bool.not_eq_false', Bool.not_eq_true, Bool.not_eq_false, Bool.not_true, Bool.not_false, ne_eq, Bool.false_eq_true, Bool.true_eq_false, reduceCtorEq, beq_iff_eq, beq_eq_false_iff_ne, not_true_eq_false, not_false_eq_true, pair_eta, map_idL, natCast_eq, inI64, maxRow]; first | done | with_reducible assumption | omega)
           | exact map_pair_id _
           | ((try dsimp only [putSpec, readSpec, gapsSpec, endSpec, endF, offSpec, offF, ctgSpec, ctgF, heldSpec, heldF, newStoSpec, Ty.T, Ty.dflt, KT.T, getM, putM, delM, inI64, maxRow]) <;> (try simp only [natCast_eq]) <;> omega)
           | ((try dsimp only [putSpec, readSpec, gapsSpec, endSpec, endF, offSpec, offF, ctgSpec, ctgF, heldSpec, heldF, newStoSpec, Ty.T, Ty.dflt, KT.T, getM, putM, delM, inI64, maxRow] at *) <;> (try simp only [natCast_eq] at *) <;> omega)
           | ((try dsimp only [putSpec, readSpec, gapsSpec, endSpec, endF, offSpec, offF, ctgSpec, ctgF, heldSpec, heldF, newStoSpec, Ty.T, Ty.dflt, KT.T, getM, putM, delM, inI64, maxRow] at *) <;> (try simp only [List.length_append, List.length_cons, List.length_nil, List.length_replicate, List.length_take, List.length_drop, natCast_eq] at *) <;> omega)
           | assumption
           | (symm; assumption)
           | (dsimp only; simp only [Bool.or_true, Bool.true_or, Bool.or_false, Bool.false_or, Bool.and_true, Bool.true_and, Bool.and_false, Bool.false_and, Bool.not_true, Bool.not_false, *]; done)
           | (simp; done)
           | (and_intros <;> first | trivial | with_reducible assumption | omega)
           | ((try dsimp only [putSpec, readSpec, gapsSpec, endSpec, endF, offSpec, offF, ctgSpec, ctgF, heldSpec, heldF, newStoSpec, Ty.T, Ty.dflt, KT.T, getM, putM, delM, inI64, maxRow] at *) <;> simp [*] <;> done))
      | skip
theorem wnd_sound : ConSound Try.prog AI 7 wndSpec.con := PureSpec.sound Try.call7 (fun x h => wnd_ok x.1 x.2.1 h)
end Go.Proofs.Ytonegoinplddmaa
