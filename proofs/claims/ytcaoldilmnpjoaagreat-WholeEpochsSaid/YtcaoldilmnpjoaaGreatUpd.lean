/-
  The top: search, updown.Distances.
-/
import Derived.Test.YtcaoldilmnpjoaaGreatUpp
import Derived.Test.YtcaoldilmnpjoaaGreatEng3
namespace Go.Proofs.YtcaoldilmnpjoaaGreat
set_option linter.all false
open Go.RowKit Go.Sx
set_option maxRecDepth 100000
set_option maxHeartbeats 16000000
abbrev SrA := PlanT × OrdT × List Bool × Int × Unit
/-- A plan, levels, cables that are up, a node. -/
structure SrI (p : PlanT) (o : OrdT) (up : List Bool) (to : Int) : Prop where
  u : UpOk p up
  len : o.1.length = p.1.length
  to0 : 0 ≤ to
  to1 : to < (p.1.length : Int)
def schSpec : MapSpec := ⟨[.cell PlanE, .cell OrdE, .lst .bool, .cell Ii], .agg SKE, Ii, fun (x : SrA) => SrI x.1 x.2.1 x.2.2.1 x.2.2.2.1, fun (x : SrA) => srchL x.2.1.1 x.1.2 x.2.2.1 x.1.1.length x.2.2.2.1⟩
noncomputable abbrev Eu4 : Env Ab := ⟨tis, [(133, pasSpec.con)] ++ E0.con⟩
theorem eu4Ok : EnvOk Tryz.prog AI Eu4 := (e0Ok.add pas_sound)
theorem srch_neg {L : List Int} {C : List CabT} {up : List Bool} {n : Nat} {to : Int} (h : L.getD to.toNat 0 < 0) : srchL L C up n to = [] := by unfold srchL; rw [if_pos h]
theorem srch_pos {L : List Int} {C : List CabT} {up : List Bool} {n : Nat} {to : Int} (h : ¬ L.getD to.toNat 0 < 0) : srchL L C up n to = srN L C up ((2 * n - 2) * (2 * n) + 1) (mS0 to) := by unfold srchL; rw [if_neg h]
theorem put_00 (to : Int) : putM (KT.agg SKE) (putM (KT.agg SKE) [] (to, false) (0 : Int)) (to, true) (0 : Int) = mS0 to := by
  show (if ((to, false) : SK) = (to, true) then _ else _) = _
  rw [if_neg (by simp)]
  rfl
theorem sch_ok (p : PlanT) (o : OrdT) (up : List Bool) (to : Int) (h : schSpec.pre (p, o, up, to, ())) : TmplOk Tryz.prog AI 110 (argS schSpec.ds (fun _ => (p, o, up, to, ()))) [] (Sx.one (.mp 0)) [.map schSpec.ks schSpec.e (fun _ => schSpec.f (p, o, up, to, ()))] := by
  dsimp only [schSpec] at h ⊢
  obtain ⟨p1, p2⟩ := p
  obtain ⟨L, ou⟩ := o
  obtain ⟨⟨hn, hc, hE, hup⟩, hL, ht0, ht1⟩ := h
  dsimp only at hn hc hE hup hL ht0 ht1 ⊢
  have hto := ivx hL (o := to) ⟨ht0, ht1⟩
  have hk1 : SKE.keyIn (to, false) := key_ok hn ⟨ht0, ht1⟩
  have hk2 : SKE.keyIn (to, true) := key_ok hn ⟨ht0, ht1⟩
  refine tmpl_bodyR eu4Ok mixed (fn := Tryz.f110) (c := bodyOf Tryz.f110) (by kernel_rfl) (by kernel_rfl) (by kernel_rfl) (Nat.le_of_ble_eq_true (by kernel_rfl)) ?_
  refine Pr ?_
  (try (conv in (SS.mk _ _) => dsimp only [pasSpec]))
  refine Nx ?_
  repeat' (first
    | with_reducible (first | refine Ck.au ?_ | refine Ck.all_cons ?_ | refine Ck.all_nil ?_ | refine Ck.mk ?_ ?_)
    | (with_reducible (first | refine Both.mk (fun h => ?_) (fun h => ?_) | refine Alt.mk (fun h => ?_) (fun h => ?_) | refine Pick.mk (fun h => ?_) (fun l1 x l2 h => ?_)) <;> (have hk := h) <;> (try replace h := nh h) <;> (try dsimp only [pasSpec] at h) <;> (try simp only [natCast_eq] at h) <;> (try replace hr := hri hr) <;> (try (have hb : (_ : Bool) = _ := h; clear h; subst hb; (try replace hr := hri hr))) <;> first | exact Dd | refine Nx ?_)
    | with_reducible refine End.mk ?_
    | with_reducible exact True.intro)
  all_goals first
    | (fail_if_success (with_reducible refine Exists.intro ?_ ?_)
       first
       | exact Cl1
       | (dsimp only [pasSpec]; exact Cl1)
       | first | exact hto | exact hk1 | exact hk2
       | exact Cl2
       | (dsimp only [pasSpec]; exact Cl2)
       | (dsimp only [pasSpec] at *; exact Cl2))
    | skip
  · refine ⟨[3], by decide, ?_⟩
    cbv
    repeat' (first | refine Ck.mk trivial ?_ | refine Ck.mk (by assumption) ?_ | refine Ck.mk ?_ ?_ | refine End.mk ?_ | exact trivial)
    exact (srch_neg h).symm
  obtain ⟨x0, hx0⟩ := Sp.zero (L := L) (C := p2) (up := up) (n := p1.length) ⟨ht0, ht1⟩
  have hsr := srch_pos (L := L) (C := p2) (up := up) (n := p1.length) h
  refine ⟨⟨Sp L p2 up p1.length to, fun x => ⟨[(9, Sx.one (.ptr 4 0)), (11, .val (.fn 133 [.ptr 0 0, .ptr 2 0, .ptr 1 0, .ptr 5 0]))], srC (fun _ => ⟨p1, p2, L, up, x.M⟩)⟩, fun x => x.k, x0⟩, ?_, fun (x : Sp L p2 up p1.length to) => ?_⟩
  · refine Pr ?_
    (try (conv in (SS.mk _ _) => dsimp only [pasSpec]))
    refine Nx ?_
    repeat' (first
      | with_reducible (first | refine Ck.au ?_ | refine Ck.all_cons ?_ | refine Ck.all_nil ?_ | refine Ck.mk ?_ ?_)
      | (with_reducible (first | refine Both.mk (fun h => ?_) (fun h => ?_) | refine Alt.mk (fun h => ?_) (fun h => ?_) | refine Pick.mk (fun h => ?_) (fun l1 x l2 h => ?_)) <;> (have hk := h) <;> (try replace h := nh h) <;> (try dsimp only [pasSpec] at h) <;> (try simp only [natCast_eq] at h) <;> (try replace hr := hri hr) <;> (try (have hb : (_ : Bool) = _ := h; clear h; subst hb; (try replace hr := hri hr))) <;> first | exact Dd | refine Nx ?_)
      | with_reducible refine End.mk ?_
      | with_reducible exact True.intro)
    all_goals first
      | (fail_if_success (with_reducible refine Exists.intro ?_ ?_)
         first
         | exact Cl1
         | (dsimp only [pasSpec]; exact Cl1)
         | exact (map_sid _).trans ((put_00 to).trans hx0.symm)
         | exact Cl2
         | (dsimp only [pasSpec]; exact Cl2)
         | (dsimp only [pasSpec] at *; exact Cl2))
      | skip
  have hps : PsOk ⟨p1, p2, L, up, x.M⟩ := ⟨⟨hn, x.md⟩, hc, hE, hL, hup⟩
  refine Pr ?_
  (try (conv in (SS.mk _ _) => dsimp only [pasSpec]))
  refine Nx ?_
  repeat' (first
    | with_reducible (first | refine Ck.au ?_ | refine Ck.all_cons ?_ | refine Ck.all_nil ?_ | refine Ck.mk ?_ ?_)
    | (with_reducible (first | refine Both.mk (fun h => ?_) (fun h => ?_) | refine Alt.mk (fun h => ?_) (fun h => ?_) | refine Pick.mk (fun h => ?_) (fun l1 x l2 h => ?_)) <;> (have hk := h) <;> (try replace h := nh h) <;> (try dsimp only [pasSpec] at h) <;> (try simp only [natCast_eq] at h) <;> (try replace hr := hri hr) <;> (try (have hb : (_ : Bool) = _ := h; clear h; subst hb; (try replace hr := hri hr))) <;> first | exact Dd | refine Nx ?_)
    | with_reducible refine End.mk ?_
    | with_reducible exact True.intro)
  all_goals first
    | (fail_if_success (with_reducible refine Exists.intro ?_ ?_)
       first
       | exact Cl1
       | (dsimp only [pasSpec]; exact Cl1)
       | exact hps
       | exact Cl2
       | (dsimp only [pasSpec]; exact Cl2)
       | (dsimp only [pasSpec] at *; exact Cl2))
    | skip
  · obtain ⟨y, hy1, hy2⟩ := x.next hE h
    refine ⟨y, hy1, ?_⟩
    refine Pr ?_
    (try (conv in (SS.mk _ _) => dsimp only [pasSpec]))
    refine Nx ?_
    repeat' (first
      | with_reducible (first | refine Ck.au ?_ | refine Ck.all_cons ?_ | refine Ck.all_nil ?_ | refine Ck.mk ?_ ?_)
      | (with_reducible (first | refine Both.mk (fun h => ?_) (fun h => ?_) | refine Alt.mk (fun h => ?_) (fun h => ?_) | refine Pick.mk (fun h => ?_) (fun l1 x l2 h => ?_)) <;> (have hk := h) <;> (try replace h := nh h) <;> (try dsimp only [pasSpec] at h) <;> (try simp only [natCast_eq] at h) <;> (try replace hr := hri hr) <;> (try (have hb : (_ : Bool) = _ := h; clear h; subst hb; (try replace hr := hri hr))) <;> first | exact Dd | refine Nx ?_)
      | with_reducible refine End.mk ?_
      | with_reducible exact True.intro)
    all_goals first
      | (fail_if_success (with_reducible refine Exists.intro ?_ ?_)
         first
         | exact Cl1
         | (dsimp only [pasSpec]; exact Cl1)
         | first | exact (map_sid _).trans hy2.symm
         | exact Cl2
         | (dsimp only [pasSpec]; exact Cl2)
         | (dsimp only [pasSpec] at *; exact Cl2))
      | skip
  · refine ⟨[3], by decide, ?_⟩
    cbv
    repeat' (first | refine Ck.mk trivial ?_ | refine Ck.mk (by assumption) ?_ | refine Ck.mk ?_ ?_ | refine End.mk ?_ | exact trivial)
    exact (map_sid _).trans ((x.done h).trans hsr.symm)
theorem sch_sound : ConSound Tryz.prog AI 110 schSpec.con := MapSpec.sound Tryz.call110 (fun x h => sch_ok x.1 x.2.1 x.2.2.1 x.2.2.2.1 h) rfl
def rsL (M : StM) (f : Bool) (n : Nat) : List Int := (List.range n).map fun (k : Nat) => if (gS M ((k : Int), f)).isSome = true then (gS M ((k : Int), f)).getD 0 else -1
def upsF (p : PlanT) (o : OrdT) (up : List Bool) (to : Int) : Tup [DT.lst Ii, DT.lst Ii, DT.cell Ii] :=
  (rsL (srchL o.1 p.2 up p.1.length to) false p.1.length, rsL (srchL o.1 p.2 up p.1.length to) true p.1.length, 0, ())
theorem rs_succ (M : StM) (f : Bool) (k : Nat) : rsL M f (k + 1) = rsL M f k ++ [if (gS M ((k : Int), f)).isSome = true then (gS M ((k : Int), f)).getD 0 else -1] := by
  unfold rsL
  rw [List.range_succ, List.map_append]; rfl
theorem rs_some {M : StM} {f : Bool} {k : Nat} (h : (gS M ((k : Int), f)).isSome = true) : rsL M f k ++ [(gS M ((k : Int), f)).getD 0] = rsL M f (k + 1) := by rw [rs_succ, if_pos h]
theorem rs_none {M : StM} {f : Bool} {k : Nat} (h : (gS M ((k : Int), f)).isSome = false) : rsL M f k ++ [-1] = rsL M f (k + 1) := by rw [rs_succ, if_neg (by rw [h]; decide)]
theorem rs_row {M : StM} {f : Bool} {k : Nat} {v : Int} (h : k ≤ 16) : (rsL M f k).length + [v].length ≤ maxRow := by
  unfold rsL
  rw [List.length_map, List.length_range]
  show k + 1 ≤ 1099511627776
  omega
theorem isn_inl : ConSound Tryz.prog AI 109 (inl E0 Tryz.f109 1) := inl_sound e0Ok mixed (fn := Tryz.f109) (c := bodyOf Tryz.f109) Tryz.call109 (by kernel_rfl) (by kernel_rfl) (by kernel_rfl) 1
theorem ds1_inl : ConSound Tryz.prog AI 111 (inl E0 Tryz.f111 1) := inl_sound e0Ok mixed (fn := Tryz.f111) (c := bodyOf Tryz.f111) Tryz.call111 (by kernel_rfl) (by kernel_rfl) (by kernel_rfl) 1
noncomputable abbrev Eu5 : Env Ab := ⟨tis, [(110, schSpec.con), (111, inl E0 Tryz.f111 1), (109, inl E0 Tryz.f109 1), (36, orvSpec.con)] ++ E0.con⟩
theorem eu5Ok : EnvOk Tryz.prog AI Eu5 := ((((e0Ok.add orv_sound).add isn_inl).add ds1_inl).add sch_sound)
/-- A valid plan, its levels, cables that are up. -/
structure LvU (p : PlanT) (o : OrdT) (up : List Bool) : Prop where
  lv : LvP p o
  up : up.length = p.2.length
theorem LvU.sri {p : PlanT} {o : OrdT} {up : List Bool} (h : LvU p o up) {to : Int} (h0 : 0 ≤ to) (h1 : to < (p.1.length : Int)) : SrI p o up to := ⟨⟨h.lv.pl.n, h.lv.pl.c, valid_ends h.lv.ok, h.up⟩, h.lv.lv.len, h0, h1⟩
def upsSpec : PureSpec := ⟨[.cell PlanE, .cell OrdE, .lst .bool, .cell Ii], fun (x : PlanT × OrdT × (List Bool) × Int × Unit) => LvU x.1 x.2.1 x.2.2.1 ∧ 0 ≤ x.2.2.2.1 ∧ x.2.2.2.1 < ((x.1).1.length : Int), [.lst Ii, .lst Ii, .cell Ii], fun (x : PlanT × OrdT × (List Bool) × Int × Unit) => upsF x.1 x.2.1 x.2.2.1 x.2.2.2.1⟩
theorem ups_ok (p : PlanT) (o : OrdT) (up : List Bool) (to : Int) (h : upsSpec.pre (p, o, up, to, ())) : TmplOk Tryz.prog AI 68 (argS upsSpec.ds (fun _ => (p, o, up, to, ()))) [] (resOf (svs upsSpec.rs (fun _ => upsSpec.f (p, o, up, to, ())))) [] := by
  dsimp only [upsSpec] at h ⊢
  generalize hr : upsF p o up to = r
  obtain ⟨p1, p2⟩ := p; obtain ⟨L, ou⟩ := o; obtain ⟨hU, ht0, ht1⟩ := h; have hLv := hU.lv; have hup := hU.up; have hS := hU.sri ht0 ht1; dsimp only at hup ht0 ht1
  dsimp only [upsF] at hr
  refine tmpl_of_body eu5Ok mixed (fn := Tryz.f68) (c := bodyOf Tryz.f68) (by kernel_rfl) (by kernel_rfl) (by kernel_rfl) (Nat.le_of_ble_eq_true (by kernel_rfl)) ?_
  refine Pr ?_
  (try (conv in (SS.mk _ _) => dsimp only [orvSpec, orvF, schSpec]))
  refine Nx ?_
  repeat' (first
    | with_reducible (first | refine Ck.au ?_ | refine Ck.all_cons ?_ | refine Ck.all_nil ?_ | refine Ck.mk ?_ ?_)
    | (with_reducible (first | refine Both.mk (fun h => ?_) (fun h => ?_) | refine Alt.mk (fun h => ?_) (fun h => ?_) | refine Pick.mk (fun h => ?_) (fun l1 x l2 h => ?_)) <;> (have hk := h) <;> (try replace h := nh h) <;> (try dsimp only [orvSpec, orvF, schSpec] at h) <;> (try simp only [natCast_eq] at h) <;> (try replace hr := hri hr) <;> (try (have hb : (_ : Bool) = _ := h; clear h; subst hb; (try replace hr := hri hr))) <;> first | exact Dd | refine Nx ?_)
    | ((with_reducible refine End.mk ?_); (try ((repeat (first | rw [ifP] at hr | rw [ifM] at hr | rw [if_pos rfl] at hr)); subst hr)))
    | with_reducible exact True.intro)
  all_goals first
    | (fail_if_success (with_reducible refine Exists.intro ?_ ?_)
       first
       | exact Cl1
       | (dsimp only [orvSpec, orvF, schSpec]; exact Cl1)
       | first | (dsimp only [orvSpec]; simp only [pair_eta, map_idL]; exact hLv) | (dsimp only [schSpec]; simp only [pair_eta, map_idL]; exact hS)
       | exact Cl2
       | (dsimp only [orvSpec, orvF, schSpec]; exact Cl2)
       | (dsimp only [orvSpec, orvF, schSpec] at *; exact Cl2))
    | skip
  have hMd := srch_md (L := L) (up := up) (valid_ends hLv.ok) (n := p1.length) (to := to) ⟨ht0, ht1⟩
  have hn : p1.length ≤ 16 := hLv.pl.n
  refine ⟨⟨{k : Nat // k ≤ p1.length}, fun k => ⟨[(8, Sx.one (.hd 5 0)), (9, Sx.one (.hd 6 0)), (12, .val (.fn 111 [.ptr 4 0])), (38, Sx.one (.int .i64 (fun _ => p1.length))), (39, Sx.one (.int .i64 (fun _ => k.1)))],
    [.gone, .gone, .gone, .map (.agg SKE) Ii (fun _ => srchL L p2 up p1.length to), .cells 165 [.mp 3], .row 3 Ii 0 (fun _ => rsL (srchL L p2 up p1.length to) false k.1), .row 3 Ii 0 (fun _ => rsL (srchL L p2 up p1.length to) true k.1)]⟩, fun k => p1.length - k.1, ⟨0, Nat.zero_le _⟩⟩, ?_, fun (k : {k : Nat // k ≤ p1.length}) => ?_⟩
  · refine Pr ?_
    (try (conv in (SS.mk _ _) => dsimp only [orvSpec, orvF, schSpec]))
    refine Nx ?_
    repeat' (first
      | with_reducible (first | refine Ck.au ?_ | refine Ck.all_cons ?_ | refine Ck.all_nil ?_ | refine Ck.mk ?_ ?_)
      | (with_reducible (first | refine Both.mk (fun h => ?_) (fun h => ?_) | refine Alt.mk (fun h => ?_) (fun h => ?_) | refine Pick.mk (fun h => ?_) (fun l1 x l2 h => ?_)) <;> (have hk := h) <;> (try replace h := nh h) <;> (try dsimp only [orvSpec, orvF, schSpec] at h) <;> (try simp only [natCast_eq] at h) <;> (try replace hr := hri hr) <;> (try (have hb : (_ : Bool) = _ := h; clear h; subst hb; (try replace hr := hri hr))) <;> first | exact Dd | refine Nx ?_)
      | with_reducible refine End.mk ?_
      | with_reducible exact True.intro)
    all_goals first
      | (fail_if_success (with_reducible refine Exists.intro ?_ ?_)
         first
         | exact Cl1
         | (dsimp only [orvSpec, orvF, schSpec]; exact Cl1)
         | first | rfl | (refine (map_sid _).trans ?_; simp only [pair_eta, map_idL])
         | exact Cl2
         | (dsimp only [orvSpec, orvF, schSpec]; exact Cl2)
         | (dsimp only [orvSpec, orvF, schSpec] at *; exact Cl2))
      | skip
  obtain ⟨k, hk0⟩ := k
  dsimp only
  dsimp only at hMd
  generalize hM : srchL L p2 up p1.length to = M at *
  have hkk := fun (h : ((k : Nat) : Int) < (p1.length : Int)) (f : Bool) => key_ok (n := p1.length) hn (s := ((k : Int), f)) ⟨by omega, h⟩
  have hrw := fun (f : Bool) (v : Int) => rs_row (M := M) (f := f) (v := v) (show k ≤ 16 by omega)
  have hfin := fun (h : ¬ ((k : Nat) : Int) < (p1.length : Int)) => show k = p1.length by omega
  refine Pr ?_
  (try (conv in (SS.mk _ _) => dsimp only [orvSpec, orvF, schSpec]))
  refine Nx ?_
  repeat' (first
    | with_reducible (first | refine Ck.au ?_ | refine Ck.all_cons ?_ | refine Ck.all_nil ?_ | refine Ck.mk ?_ ?_)
    | (with_reducible (first | refine Both.mk (fun h => ?_) (fun h => ?_) | refine Alt.mk (fun h => ?_) (fun h => ?_) | refine Pick.mk (fun h => ?_) (fun l1 x l2 h => ?_)) <;> (have hk := h) <;> (try replace h := nh h) <;> (try dsimp only [orvSpec, orvF, schSpec] at h) <;> (try simp only [natCast_eq] at h) <;> (try replace hr := hri hr) <;> (try (have hb : (_ : Bool) = _ := h; clear h; subst hb; (try replace hr := hri hr))) <;> first | exact Dd | refine Nx ?_)
    | with_reducible refine End.mk ?_
    | with_reducible exact True.intro)
  all_goals first
    | (fail_if_success (with_reducible refine Exists.intro ?_ ?_)
       first
       | exact Cl1
       | (dsimp only [orvSpec, orvF, schSpec]; exact Cl1)
       | first | exact hkk (by assumption) false | exact hkk (by assumption) true | exact hrw _ _ | (subst hr; rfl) | (subst hr; rw [hfin (by assumption)]; done)
       | exact Cl2
       | (dsimp only [orvSpec, orvF, schSpec]; exact Cl2)
       | (dsimp only [orvSpec, orvF, schSpec] at *; exact Cl2))
    | skip
  all_goals
   (refine ⟨⟨k + 1, by omega⟩, (by dsimp only; omega), ?_⟩
    refine Pr ?_
    (try (conv in (SS.mk _ _) => dsimp only [orvSpec, orvF, schSpec]))
    refine Nx ?_
    repeat' (first
      | with_reducible (first | refine Ck.au ?_ | refine Ck.all_cons ?_ | refine Ck.all_nil ?_ | refine Ck.mk ?_ ?_)
      | (with_reducible (first | refine Both.mk (fun h => ?_) (fun h => ?_) | refine Alt.mk (fun h => ?_) (fun h => ?_) | refine Pick.mk (fun h => ?_) (fun l1 x l2 h => ?_)) <;> (have hk := h) <;> (try replace h := nh h) <;> (try dsimp only [orvSpec, orvF, schSpec] at h) <;> (try simp only [natCast_eq] at h) <;> (try replace hr := hri hr) <;> (try (have hb : (_ : Bool) = _ := h; clear h; subst hb; (try replace hr := hri hr))) <;> first | exact Dd | refine Nx ?_)
      | with_reducible refine End.mk ?_
      | with_reducible exact True.intro)
    all_goals first
      | (fail_if_success (with_reducible refine Exists.intro ?_ ?_)
         first
         | exact Cl1
         | (dsimp only [orvSpec, orvF, schSpec]; exact Cl1)
         | first | exact rs_some (by assumption) | exact rs_none (by assumption)
         | exact Cl2
         | (dsimp only [orvSpec, orvF, schSpec]; exact Cl2)
         | (dsimp only [orvSpec, orvF, schSpec] at *; exact Cl2))
      | skip)
theorem ups_sound : ConSound Tryz.prog AI 68 upsSpec.con := PureSpec.sound Tryz.call68 (fun x h => ups_ok x.1 x.2.1 x.2.2.1 x.2.2.2.1 h)
theorem rsL_len (M : StM) (f : Bool) (n : Nat) : (rsL M f n).length = n := by unfold rsL; rw [List.length_map, List.length_range]
theorem rsL_at {n : Nat} {M : StM} (h : Md n M) (f : Bool) {k : Nat} : -1 ≤ (rsL M f n).getD k 0 ∧ (rsL M f n).getD k 0 ≤ 2 * (n : Int) := by
  have hl := h.len
  rw [List.getD_eq_getElem?_getD]
  unfold rsL
  rw [List.getElem?_map]
  cases e : (List.range n)[k]? with
  | none => simp; omega
  | some j =>
    simp only [Option.map_some, Option.getD_some]
    split
    · rename_i h2
      have h3 := h.val _ (gS_mem (isS h2 0))
      dsimp only at h3
      omega
    · omega
end Go.Proofs.YtcaoldilmnpjoaaGreat
