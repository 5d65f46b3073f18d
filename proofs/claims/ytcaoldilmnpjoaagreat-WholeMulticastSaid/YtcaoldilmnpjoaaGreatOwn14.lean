/-
  Part Own14 of the proof.
-/
import Derived.Test.YtcaoldilmnpjoaaGreatOwn13
import Derived.Test.YtcaoldilmnpjoaaGreatEng3
namespace Go.Proofs.YtcaoldilmnpjoaaGreat
set_option linter.all false
open Go.RowKit Go.Sx
set_option maxRecDepth 100000
set_option maxHeartbeats 16000000
def itF (L : List Int) (c : aY) : Nat → Bool × StM → Bool × StM
 | 0, S => S
 | 1, S => kJ L c false S
 | _, S => kJ L c true (kJ L c false S)
section
variable {L : List Int} {c : aY} {b : Bool} {S : Bool × StM}
theorem cab1 (h : b = false) : mR L c b S = S := by unfold mR; rw [if_neg (by rw [h]; decide)]
theorem cab2 (h : b = true) (h2 : L.getD c.1.toNat 0 < 0) : mR L c b S = S := by unfold mR; rw [if_pos h, if_pos h2]
theorem cab3 (h : b = true) (h2 : ¬ L.getD c.1.toNat 0 < 0) (h3 : L.getD c.2.2.1.toNat 0 < 0) : mR L c b S = S := by unfold mR; rw [if_pos h, if_neg h2, if_pos h3]
theorem cab4 (h : b = true) (h2 : ¬ L.getD c.1.toNat 0 < 0) (h3 : ¬ L.getD c.2.2.1.toNat 0 < 0) : mR L c b S = itF L c 2 S := by unfold mR; rw [if_pos h, if_neg h2, if_neg h3]; rfl
end
theorem Pg.it {n : Nat} {M0 : StM} {S : Bool × StM} (h : Pg n M0 S) {L : List Int} {c : aY} (ha : 0 ≤ c.1 ∧ c.1 < (n : Int)) (hb : 0 ≤ c.2.2.1 ∧ c.2.2.1 < (n : Int)) : ∀ k, Pg n M0 (itF L c k S)
 | 0 => h
 | 1 => h.two ha hb
 | _ + 2 => (h.two ha hb).two ha hb
theorem dr (l : StM) : List.map (fun x => ((fun x => ((fun l => l) x.fst, (fun l => l) x.snd)) x.fst, (fun l => l) x.snd)) l = l := by simp
section
variable {L : List Int} {c : aY} {f : Bool} {S : Bool × StM}
theorem two_a (h1 : (dG L S.2 (c.1, f) c.2.2.1).1 = true) : (kJ L c f S).1 = true := by simp [kJ, h1]
theorem two_b (h2 : (dG L (dG L S.2 (c.1, f) c.2.2.1).2 (c.2.2.1, f) c.1).1 = true) : (kJ L c f S).1 = true := by simp [kJ, h2]
theorem two_c (h1 : (dG L S.2 (c.1, f) c.2.2.1).1 = false) (h2 : (dG L (dG L S.2 (c.1, f) c.2.2.1).2 (c.2.2.1, f) c.1).1 = false) : (kJ L c f S).1 = S.1 := by simp [kJ, h1, h2]
end
structure PsOk (S : SrS) : Prop where
 ok : SrOk S
 c : S.p2.length ≤ 32
 ends : bd S.p2 S.p1.length
 len : S.L.length = S.p1.length
 up : S.up.length = S.p2.length
def lM : bp Ab SrS := ⟨srP, [], [0, 2, 1, 5], fun S (x : Unit) => PsOk S, [.cell .bool], fun S (x : Unit) => ((ei S.L S.p2 S.up S.p2.length S.M).1, ()), fun S (x : Unit) => ⟨S.p1, S.p2, S.L, S.up, (ei S.L S.p2 S.up S.p2.length S.M).2⟩⟩
noncomputable abbrev Eu3 : Env Ab := ⟨tis, [(132, lj.con)] ++ E0.con⟩
theorem eu3Ok : aU Tryz.prog AI Eu3 := (ai.add zt)
theorem pas_ok (S : SrS) (h : lM.pre S ()) : ∃ args : List SV, args.length + [0, 2, 1, 5].length ≤ Tryz.f133.ntmps ∧ args.all (iX 6) = true ∧ (∀ (ρ : Ev) us, aL (Den ρ) (dM [] (fun _ => ())) us → aL (Den ρ) args us) ∧
 (svc Eu3 6 (aS Tryz.f133) ⟨cQ 0 (args ++ cg [0, 2, 1, 5]), srC (fun _ => S)⟩ (ek Eu3.ti 6 Tryz.f133.results.toList (ag (svs [.cell .bool] (fun _ => ((ei S.L S.p2 S.up S.p2.length S.M).1, ())))) (srC (fun _ => ⟨S.p1, S.p2, S.L, S.up, (ei S.L S.p2 S.up S.p2.length S.M).2⟩))) ∨
  svc Eu3 6 (aS Tryz.f133) ⟨cQ 0 (args ++ cg [0, 2, 1, 5]), srC (fun _ => S)⟩ (nQ Eu3.ti 6 Tryz.f133.results.toList (ag (svs [.cell .bool] (fun _ => ((ei S.L S.p2 S.up S.p2.length S.M).1, ())))) (srC (fun _ => ⟨S.p1, S.p2, S.L, S.up, (ei S.L S.p2 S.up S.p2.length S.M).2⟩)))) := by
 dsimp only [lM] at h ⊢
 obtain ⟨p1, p2, L, up, M⟩ := S
 obtain ⟨hS, hc, hE, hL, hup⟩ := h
 have hn := hS.n
 have hM := hS.md
 dsimp only at hc hE hL hup hn hM ⊢
 have hpg := fun (k : Nat) (hk : k ≤ p2.length) => Pg.pas (L := L) (up := up) hM hE k hk
 refine ⟨[], Nat.le_of_ble_eq_true (by kernel_rfl), rfl, (fun ρ us hd => hd), .inl ?_⟩
 refine Pq ?_
 with_reducible repeat' (first | exact True.intro | refine Ca ?_ | refine Cb ?_ | refine Cd ?_ | refine Ce ?_ | refine Cm ?_ ?_ | (first | refine Bo (fun hk h => ?_) fun hk h => ?_ | refine Al (fun hk h => ?_) fun hk h => ?_) <;> (try (have hb : (_ : Bool) = _ := h; clear h; subst hb)) <;> (try replace hr := hri hr) <;> first | exact Dd | refine Nx ?_)
 all_goals first | with_reducible refine Ez ?_ | exact Cl1 | exact Cl2 | skip
 refine ⟨⟨{j : Nat // j ≤ p2.length}, fun j => ⟨[(0, Sx.one (.ptr 0 0)), (1, Sx.one (.ptr 2 0)), (2, Sx.one (.ptr 1 0)), (3, Sx.one (.ptr 5 0)), (5, Sx.one (.sb (fun _ => (ei L p2 up j.1 M).1))), (11, Sx.one (.ro az (fun _ => p2))), (12, Sx.one (.int .i64 (fun _ => p2.length))), (13, Sx.one (.int .i64 (fun _ => j.1)))],
  srC (fun _ => ⟨p1, p2, L, up, (ei L p2 up j.1 M).2⟩)⟩, fun j => p2.length - j.1, ⟨0, Nat.zero_le _⟩⟩, ?_, fun (j : {j : Nat // j ≤ p2.length}) => ?_⟩
 · refine Pq ?_
   with_reducible repeat' first | exact True.intro | refine Ca ?_ | refine Cb ?_ | refine Cd ?_ | refine Ce ?_ | refine Cm ?_ ?_
   all_goals first | with_reducible refine Ez ?_ | exact Cl1 | rfl | exact Cl2 | skip
 obtain ⟨j, hj⟩ := j
 dsimp only
 have hP := hpg j hj
 have hcb := fun hjl : ((j : Nat) : Int) < (p2.length : Int) => hE _ (eU (show j < p2.length by omega))
 have hst : ei L p2 up (j + 1) M = mR L (p2.getD j z6) (up.getD j false) (ei L p2 up j M) := rfl
 have hfin : ¬ ((j : Nat) : Int) < (p2.length : Int) → ei L p2 up j M = ei L p2 up p2.length M := fun h => by rw [show j = p2.length from by omega]
 generalize hT : ei L p2 up j M = T at *
 have hA := fun h => ivx hL (hcb h).1
 have hB := fun h => ivx hL (hcb h).2.1
 refine Pq ?_
 with_reducible repeat' (first | exact True.intro | refine Ca ?_ | refine Cb ?_ | refine Cd ?_ | refine Ce ?_ | refine Cm ?_ ?_ | (first | refine Bo (fun hk h => ?_) fun hk h => ?_ | refine Al (fun hk h => ?_) fun hk h => ?_) <;> (try (have hb : (_ : Bool) = _ := h; clear h; subst hb)) <;> (try replace hr := hri hr) <;> first | exact Dd | refine Nx ?_)
 all_goals first | with_reducible refine Ez ?_ | exact Cl1 | exact hA (by assumption) | exact hB (by assumption) | exact (dr _).trans (congrArg Prod.snd (hfin (by assumption))) | exact congrArg Prod.fst (hfin (by assumption)) | exact Cl2 | skip
 rotate_right
 · have hcj := hcb (by assumption)
   have hki := fun k => hP.it (L := L) hcj.1 hcj.2.1 k
   have hst4 := hst.trans (cab4 (by assumption) (by assumption) (by assumption))
   refine ⟨⟨{k : Nat // k ≤ 2}, fun k => ⟨[(0, Sx.one (.ptr 0 0)), (1, Sx.one (.ptr 2 0)), (2, Sx.one (.ptr 1 0)), (3, Sx.one (.ptr 5 0)), (5, Sx.one (.sb (fun _ => (itF L (p2.getD j z6) k.1 T).1))), (7, Sx.one (.ptr 6 0)), (11, Sx.one (.ro az (fun _ => p2))), (12, Sx.one (.int .i64 (fun _ => p2.length))), (13, Sx.one (.int .i64 (fun _ => j))), (41, .val (.agg [.lb false, .lb true])), (42, Sx.one (.int .i64 (fun _ => k.1)))],
    srC (fun _ => ⟨p1, p2, L, up, (itF L (p2.getD j z6) k.1 T).2⟩) ++ [.cells 98 [.int .i64 (fun _ => (p2.getD j z6).1), .int .i64 (fun _ => (p2.getD j z6).2.1), .int .i64 (fun _ => (p2.getD j z6).2.2.1), .int .i64 (fun _ => (p2.getD j z6).2.2.2.1), .int .i64 (fun _ => (p2.getD j z6).2.2.2.2.1), .int .i64 (fun _ => (p2.getD j z6).2.2.2.2.2)]]⟩, fun k => 2 - k.1, ⟨0, Nat.zero_le _⟩⟩, ?_, fun (k : {k : Nat // k ≤ 2}) => ?_⟩
   · refine Pq ?_
     with_reducible repeat' first | exact True.intro | refine Ca ?_ | refine Cb ?_ | refine Cd ?_ | refine Ce ?_ | refine Cm ?_ ?_
     all_goals first | with_reducible refine Ez ?_ | exact Cl1 | rfl | exact Cl2 | skip
   obtain ⟨k, hk2⟩ := k
   dsimp only
   have hPk := hki k
   generalize hTk : itF L (p2.getD j z6) k T = Tk at *
   generalize p2.getD j z6 = c at *
   refine Pq ?_
   with_reducible repeat' (first | exact True.intro | refine Ca ?_ | refine Cb ?_ | refine Cd ?_ | refine Ce ?_ | refine Cm ?_ ?_ | (first | refine Bo (fun hk h => ?_) fun hk h => ?_ | refine Al (fun hk h => ?_) fun hk h => ?_) <;> (try (have hb : (_ : Bool) = _ := h; clear h; subst hb)) <;> (try replace hr := hri hr) <;> first | exact Dd | refine Nx ?_)
   all_goals first | with_reducible refine Ez ?_ | exact Cl1 | exact ⟨⟨hn, hPk.md⟩, hcj.1, hcj.2.1⟩ | exact ⟨⟨hn, (hPk.md.imp hcj.1).1⟩, hcj.2.1, hcj.1⟩ | exact congrArg Int.ofNat (vS (by assumption) (by assumption)) | exact Cl2 | skip
   rotate_right
   · have hk9 : k = 2 := by omega
     have hTk2 : ei L p2 up (j + 1) M = Tk := by rw [hst4, ← hk9, hTk]
     refine ⟨⟨j + 1, by omega⟩, (by dsimp only; omega), ?_⟩
     refine Pq ?_
     with_reducible repeat' first | exact True.intro | refine Ca ?_ | refine Cb ?_ | refine Cd ?_ | refine Ce ?_ | refine Cm ?_ ?_
     all_goals first | with_reducible refine Ez ?_ | exact Cl1 | exact (congrArg Prod.fst hTk2).symm | exact (dr _).trans (congrArg Prod.snd hTk2).symm | exact Cl2 | skip
   all_goals
    (by_cases hk0 : k = 0
     · first
       | (exfalso; exact absurd (congrArg Int.ofNat hk0) (by assumption))
       | (have hnx : itF L c (k + 1) T = kJ L c false Tk := by subst hk0; rw [← hTk]; rfl
          refine ⟨⟨k + 1, by omega⟩, (by dsimp only; omega), ?_⟩
          refine Pq ?_
          with_reducible repeat' first | exact True.intro | refine Ca ?_ | refine Cb ?_ | refine Cd ?_ | refine Ce ?_ | refine Cm ?_ ?_
          all_goals first | with_reducible refine Ez ?_ | exact Cl1 | exact ((congrArg Prod.fst hnx).trans (two_a (by assumption))).symm | exact ((congrArg Prod.fst hnx).trans (two_b (by assumption))).symm | exact ((congrArg Prod.fst hnx).trans (two_c (by assumption) (by assumption))).symm | exact (dr _).trans (congrArg Prod.snd hnx).symm | exact Cl2 | skip)
     · first
       | (exfalso; exact hk0 (tR (by assumption)))
       | (have hk1 : k = 1 := by omega
          have hnx : itF L c (k + 1) T = kJ L c true Tk := by subst hk1; rw [← hTk]; rfl
          refine ⟨⟨k + 1, by omega⟩, (by dsimp only; omega), ?_⟩
          refine Pq ?_
          with_reducible repeat' first | exact True.intro | refine Ca ?_ | refine Cb ?_ | refine Cd ?_ | refine Ce ?_ | refine Cm ?_ ?_
          all_goals first | with_reducible refine Ez ?_ | exact Cl1 | exact ((congrArg Prod.fst hnx).trans (two_a (by assumption))).symm | exact ((congrArg Prod.fst hnx).trans (two_b (by assumption))).symm | exact ((congrArg Prod.fst hnx).trans (two_c (by assumption) (by assumption))).symm | exact (dr _).trans (congrArg Prod.snd hnx).symm | exact Cl2 | skip)
    )
 all_goals
  (refine ⟨⟨j + 1, by omega⟩, (by dsimp only; omega), ?_⟩
   refine Pq ?_
   with_reducible repeat' first | exact True.intro | refine Ca ?_ | refine Cb ?_ | refine Cd ?_ | refine Ce ?_ | refine Cm ?_ ?_
   all_goals first | with_reducible refine Ez ?_ | exact Cl1 | exact (congrArg Prod.fst (hst.trans (cab1 (by assumption)))).symm | exact (congrArg Prod.fst (hst.trans (cab2 (by assumption) (by assumption)))).symm | exact (congrArg Prod.fst (hst.trans (cab3 (by assumption) (by assumption) (by assumption)))).symm | exact (dr _).trans (congrArg Prod.snd (hst.trans (cab1 (by assumption)))).symm | exact (dr _).trans (congrArg Prod.snd (hst.trans (cab2 (by assumption) (by assumption)))).symm | exact (dr _).trans (congrArg Prod.snd (hst.trans (cab3 (by assumption) (by assumption) (by assumption)))).symm | exact Cl2 | skip)
theorem zX : aE Tryz.prog AI 133 lM.con := bp.sound eu3Ok mixed (fn := Tryz.f133) (c := aS Tryz.f133) Tryz.call133 (by kernel_rfl) (by kernel_rfl) (by kernel_rfl) (q := lM) (by decide) fun S x h => pas_ok S h
abbrev SrA := a8 × ab × List Bool × Int × Unit
structure SrI (p : a8) (o : ab) (up : List Bool) (to : Int) : Prop where
 u : UpOk p up
 len : o.1.length = p.1.length
 to0 : 0 ≤ to
 to1 : to < (p.1.length : Int)
def ef : eQ := ⟨[.cell bT, .cell iq, .lst .bool, .cell Ii], .agg SKE, Ii, fun (x : SrA) => SrI x.1 x.2.1 x.2.2.1 x.2.2.2.1, fun (x : SrA) => dh x.2.1.1 x.1.2 x.2.2.1 x.1.1.length x.2.2.2.1⟩
noncomputable abbrev Eu4 : Env Ab := ⟨tis, [(133, lM.con)] ++ E0.con⟩
theorem eu4Ok : aU Tryz.prog AI Eu4 := (ai.add zX)
theorem Aq {L : List Int} {C : List aY} {up : List Bool} {n : Nat} {to : Int} (h : L.getD to.toNat 0 < 0) : dh L C up n to = [] := by unfold dh; rw [if_pos h]
theorem Ap {L : List Int} {C : List aY} {up : List Bool} {n : Nat} {to : Int} (h : ¬ L.getD to.toNat 0 < 0) : dh L C up n to = srN L C up ((2 * n - 2) * (2 * n) + 1) (mS0 to) := by unfold dh; rw [if_neg h]
theorem put_00 (to : Int) : eh (KT.agg SKE) (eh (KT.agg SKE) [] (to, false) (0 : Int)) (to, true) (0 : Int) = mS0 to := by
 show (if ((to, false) : SK) = (to, true) then _ else _) = _
 rw [if_neg (by simp)]
 rfl
theorem sch_ok (p : a8) (o : ab) (up : List Bool) (to : Int) (h : ef.pre (p, o, up, to, ())) : bQ Tryz.prog AI 110 (dM ef.ds (fun _ => (p, o, up, to, ()))) [] (Sx.one (.mp 0)) [.map ef.ks ef.e (fun _ => ef.f (p, o, up, to, ()))] := by
 dsimp only [ef] at h ⊢
 obtain ⟨p1, p2⟩ := p
 obtain ⟨L, ou⟩ := o
 obtain ⟨⟨hn, hc, hE, hup⟩, hL, ht0, ht1⟩ := h
 dsimp only at hn hc hE hup hL ht0 ht1 ⊢
 have hto := ivx hL (o := to) ⟨ht0, ht1⟩
 have hk1 : SKE.bW (to, false) := qB hn ⟨ht0, ht1⟩
 have hk2 : SKE.bW (to, true) := qB hn ⟨ht0, ht1⟩
 refine wG eu4Ok mixed (fn := Tryz.f110) (c := aS Tryz.f110) (by kernel_rfl) (by kernel_rfl) (by kernel_rfl) (Nat.le_of_ble_eq_true (by kernel_rfl)) ?_
 refine Pq ?_
 with_reducible repeat' (first | exact True.intro | refine Ca ?_ | refine Cb ?_ | refine Cd ?_ | refine Ce ?_ | refine Cm ?_ ?_ | (first | refine Bo (fun hk h => ?_) fun hk h => ?_ | refine Al (fun hk h => ?_) fun hk h => ?_) <;> (try (have hb : (_ : Bool) = _ := h; clear h; subst hb)) <;> (try replace hr := hri hr) <;> first | exact Dd | refine Nx ?_)
 all_goals first | with_reducible refine Ez ?_ | exact Cl1 | exact hto | exact hk1 | exact hk2 | exact Cl2 | skip
 · refine ⟨[3], by decide, ?_⟩
   cbv
   repeat' (first | refine Ck.mk trivial ?_ | refine Ck.mk (by assumption) ?_ | refine Ck.mk ?_ ?_ | refine End.mk ?_ | exact trivial)
   exact (Aq h).symm
 obtain ⟨x0, hx0⟩ := Sp.zero (L := L) (C := p2) (up := up) (n := p1.length) ⟨ht0, ht1⟩
 have hsr := Ap (L := L) (C := p2) (up := up) (n := p1.length) h
 refine ⟨⟨Sp L p2 up p1.length to, fun x => ⟨[(9, Sx.one (.ptr 4 0)), (11, .val (.fn 133 [.ptr 0 0, .ptr 2 0, .ptr 1 0, .ptr 5 0]))], srC (fun _ => ⟨p1, p2, L, up, x.M⟩)⟩, fun x => x.k, x0⟩, ?_, fun (x : Sp L p2 up p1.length to) => ?_⟩
 · refine Pq ?_
   with_reducible repeat' first | exact True.intro | refine Ca ?_ | refine Cb ?_ | refine Cd ?_ | refine Ce ?_ | refine Cm ?_ ?_
   all_goals first | with_reducible refine Ez ?_ | exact Cl1 | exact (dr _).trans ((put_00 to).trans hx0.symm) | exact Cl2 | skip
 have hps : PsOk ⟨p1, p2, L, up, x.M⟩ := ⟨⟨hn, x.md⟩, hc, hE, hL, hup⟩
 refine Pq ?_
 with_reducible repeat' (first | exact True.intro | refine Ca ?_ | refine Cb ?_ | refine Cd ?_ | refine Ce ?_ | refine Cm ?_ ?_ | (first | refine Bo (fun hk h => ?_) fun hk h => ?_ | refine Al (fun hk h => ?_) fun hk h => ?_) <;> (try (have hb : (_ : Bool) = _ := h; clear h; subst hb)) <;> (try replace hr := hri hr) <;> first | exact Dd | refine Nx ?_)
 all_goals first | with_reducible refine Ez ?_ | exact Cl1 | exact hps | exact Cl2 | skip
 · obtain ⟨y, hy1, hy2⟩ := x.next hE h
   refine ⟨y, hy1, ?_⟩
   refine Pq ?_
   with_reducible repeat' first | exact True.intro | refine Ca ?_ | refine Cb ?_ | refine Cd ?_ | refine Ce ?_ | refine Cm ?_ ?_
   all_goals first | with_reducible refine Ez ?_ | exact Cl1 | exact (dr _).trans hy2.symm | exact Cl2 | skip
 · refine ⟨[3], by decide, ?_⟩
   cbv
   repeat' (first | refine Ck.mk trivial ?_ | refine Ck.mk (by assumption) ?_ | refine Ck.mk ?_ ?_ | refine End.mk ?_ | exact trivial)
   exact (dr _).trans ((x.done h).trans hsr.symm)
theorem zA : aE Tryz.prog AI 110 ef.con := eQ.sound Tryz.call110 (fun x h => sch_ok x.1 x.2.1 x.2.2.1 x.2.2.2.1 h) rfl
def rsL (M : StM) (f : Bool) (n : Nat) : List Int := (List.range n).map fun (k : Nat) => if (gS M ((k : Int), f)).isSome = true then (gS M ((k : Int), f)).getD 0 else -1
def bG (p : a8) (o : ab) (up : List Bool) (to : Int) : Tup [DT.lst Ii, DT.lst Ii, DT.cell Ii] :=
 (rsL (dh o.1 p.2 up p.1.length to) false p.1.length, rsL (dh o.1 p.2 up p.1.length to) true p.1.length, 0, ())
theorem xp (M : StM) (f : Bool) (k : Nat) : rsL M f (k + 1) = rsL M f k ++ [if (gS M ((k : Int), f)).isSome = true then (gS M ((k : Int), f)).getD 0 else -1] := by
 unfold rsL
 rw [List.range_succ, List.map_append]; rfl
theorem rs_some {M : StM} {f : Bool} {k : Nat} (h : (gS M ((k : Int), f)).isSome = true) : rsL M f k ++ [(gS M ((k : Int), f)).getD 0] = rsL M f (k + 1) := by rw [xp, if_pos h]
theorem rs_none {M : StM} {f : Bool} {k : Nat} (h : (gS M ((k : Int), f)).isSome = false) : rsL M f k ++ [-1] = rsL M f (k + 1) := by rw [xp, if_neg (by rw [h]; decide)]
theorem rs_row {M : StM} {f : Bool} {k : Nat} {v : Int} (h : k ≤ 16) : (rsL M f k).length + [v].length ≤ bP := by
 unfold rsL
 rw [List.length_map, List.length_range]
 show k + 1 ≤ 1099511627776
 omega
theorem isn_inl : aE Tryz.prog AI 109 (inl E0 Tryz.f109 1) := cI ai mixed (fn := Tryz.f109) (c := aS Tryz.f109) Tryz.call109 (by kernel_rfl) (by kernel_rfl) (by kernel_rfl) 1
theorem ds1_inl : aE Tryz.prog AI 111 (inl E0 Tryz.f111 1) := cI ai mixed (fn := Tryz.f111) (c := aS Tryz.f111) Tryz.call111 (by kernel_rfl) (by kernel_rfl) (by kernel_rfl) 1
noncomputable abbrev Eu5 : Env Ab := ⟨tis, [(110, ef.con), (111, inl E0 Tryz.f111 1), (109, inl E0 Tryz.f109 1), (36, dE.con)] ++ E0.con⟩
theorem eu5Ok : aU Tryz.prog AI Eu5 := ((((ai.add eB).add isn_inl).add ds1_inl).add zA)
structure LvU (p : a8) (o : ab) (up : List Bool) : Prop where
 lv : LvP p o
 up : up.length = p.2.length
theorem LvU.sri {p : a8} {o : ab} {up : List Bool} (h : LvU p o up) {to : Int} (h0 : 0 ≤ to) (h1 : to < (p.1.length : Int)) : SrI p o up to := ⟨⟨h.lv.pl.n, h.lv.pl.c, bD h.lv.ok, h.up⟩, h.lv.lv.len, h0, h1⟩
def fq : aB := ⟨[.cell bT, .cell iq, .lst .bool, .cell Ii], fun (x : a8 × ab × (List Bool) × Int × Unit) => LvU x.1 x.2.1 x.2.2.1 ∧ 0 ≤ x.2.2.2.1 ∧ x.2.2.2.1 < ((x.1).1.length : Int), [.lst Ii, .lst Ii, .cell Ii], fun (x : a8 × ab × (List Bool) × Int × Unit) => bG x.1 x.2.1 x.2.2.1 x.2.2.2.1⟩
theorem ups_ok (p : a8) (o : ab) (up : List Bool) (to : Int) (h : fq.pre (p, o, up, to, ())) : PTk Tryz.prog AI 68 fq (p, o, up, to, ()) := by
 dsimp only [PTk, fq] at h ⊢
 generalize hr : bG p o up to = r
 obtain ⟨p1, p2⟩ := p; obtain ⟨L, ou⟩ := o; obtain ⟨hU, ht0, ht1⟩ := h; have hLv := hU.lv; have hup := hU.up; have hS := hU.sri ht0 ht1; dsimp only at hup ht0 ht1
 dsimp only [bG] at hr
 refine Tb eu5Ok mixed (fn := Tryz.f68) ?_
 refine Pr ?_
 (try (conv in (SS.mk _ _) => dsimp only [aF]))
 refine Nx ?_
 with_reducible repeat' (first | exact True.intro | refine Ca ?_ | refine Cb ?_ | refine Cd ?_ | (refine Ce ?_; (try ((repeat (first | rw [ifP] at hr | rw [ifM] at hr | rw [if_pos rfl] at hr)); subst hr))) | refine Cm ?_ ?_ | (first | refine Bo (fun hk h => ?_) fun hk h => ?_ | refine Al (fun hk h => ?_) fun hk h => ?_) <;> (try dsimp only [aF] at h) <;> (try simp only [natCast_eq] at h) <;> (try (have hb : (_ : Bool) = _ := h; clear h; subst hb)) <;> (try replace hr := hri hr) <;> first | exact Dd | refine Nx ?_)
 all_goals first | with_reducible refine Ez ?_ | exact Cl1 | (dsimp only [aF]; exact Cl1) | (dsimp only [dE]; simp only [aH, aJ]; exact hLv) | (dsimp only [ef]; simp only [aH, aJ]; exact hS) | exact Cl2 | (dsimp only [aF]; exact Cl2) | (dsimp only [aF] at *; exact Cl2) | skip
 have hMd := xk (L := L) (up := up) (bD hLv.ok) (n := p1.length) (to := to) ⟨ht0, ht1⟩
 have hn : p1.length ≤ 16 := hLv.pl.n
 refine ⟨⟨{k : Nat // k ≤ p1.length}, fun k => ⟨[(8, Sx.one (.hd 5 0)), (9, Sx.one (.hd 6 0)), (12, .val (.fn 111 [.ptr 4 0])), (38, Sx.one (.int .i64 (fun _ => p1.length))), (39, Sx.one (.int .i64 (fun _ => k.1)))],
  [.gone, .gone, .gone, .map (.agg SKE) Ii (fun _ => dh L p2 up p1.length to), .cells 165 [.mp 3], .row 3 Ii 0 (fun _ => rsL (dh L p2 up p1.length to) false k.1), .row 3 Ii 0 (fun _ => rsL (dh L p2 up p1.length to) true k.1)]⟩, fun k => p1.length - k.1, ⟨0, Nat.zero_le _⟩⟩, ?_, fun (k : {k : Nat // k ≤ p1.length}) => ?_⟩
 · refine Pr ?_
   (try (conv in (SS.mk _ _) => dsimp only [aF]))
   refine Nx ?_
   with_reducible repeat' first | exact True.intro | refine Ca ?_ | refine Cb ?_ | refine Cd ?_ | refine Ce ?_ | refine Cm ?_ ?_
   all_goals first | with_reducible refine Ez ?_ | exact Cl1 | (dsimp only [aF]; exact Cl1) | rfl | (refine (dr _).trans ?_; simp only [aH, aJ]) | exact Cl2 | (dsimp only [aF]; exact Cl2) | (dsimp only [aF] at *; exact Cl2) | skip
 obtain ⟨k, hk0⟩ := k
 dsimp only
 dsimp only at hMd
 generalize hM : dh L p2 up p1.length to = M at *
 have hkk := fun (h : ((k : Nat) : Int) < (p1.length : Int)) (f : Bool) => qB (n := p1.length) hn (s := ((k : Int), f)) ⟨by omega, h⟩
 have hrw := fun (f : Bool) (v : Int) => rs_row (M := M) (f := f) (v := v) (show k ≤ 16 by omega)
 have hfin := fun (h : ¬ ((k : Nat) : Int) < (p1.length : Int)) => show k = p1.length by omega
 refine Pr ?_
 (try (conv in (SS.mk _ _) => dsimp only [aF]))
 refine Nx ?_
 with_reducible repeat' (first | exact True.intro | refine Ca ?_ | refine Cb ?_ | refine Cd ?_ | refine Ce ?_ | refine Cm ?_ ?_ | (first | refine Bo (fun hk h => ?_) fun hk h => ?_ | refine Al (fun hk h => ?_) fun hk h => ?_) <;> (try dsimp only [aF] at h) <;> (try simp only [natCast_eq] at h) <;> (try (have hb : (_ : Bool) = _ := h; clear h; subst hb)) <;> (try replace hr := hri hr) <;> first | exact Dd | refine Nx ?_)
 all_goals first | with_reducible refine Ez ?_ | exact Cl1 | (dsimp only [aF]; exact Cl1) | exact hkk (by assumption) false | exact hkk (by assumption) true | exact hrw _ _ | (subst hr; rfl) | (subst hr; rw [hfin (by assumption)]; done) | exact Cl2 | (dsimp only [aF]; exact Cl2) | (dsimp only [aF] at *; exact Cl2) | skip
 all_goals
  (refine ⟨⟨k + 1, by omega⟩, (by dsimp only; omega), ?_⟩
   refine Pr ?_
   (try (conv in (SS.mk _ _) => dsimp only [aF]))
   refine Nx ?_
   with_reducible repeat' first | exact True.intro | refine Ca ?_ | refine Cb ?_ | refine Cd ?_ | refine Ce ?_ | refine Cm ?_ ?_
   all_goals first | with_reducible refine Ez ?_ | exact Cl1 | (dsimp only [aF]; exact Cl1) | exact rs_some (by assumption) | exact rs_none (by assumption) | exact Cl2 | (dsimp only [aF]; exact Cl2) | (dsimp only [aF] at *; exact Cl2) | skip)
theorem yb : aE Tryz.prog AI 68 fq.con := aB.sound Tryz.call68 (fun x h => ups_ok x.1 x.2.1 x.2.2.1 x.2.2.2.1 h)
theorem oW (M : StM) (f : Bool) (n : Nat) : (rsL M f n).length = n := by unfold rsL; rw [List.length_map, List.length_range]
theorem B1 {n : Nat} {M : StM} (h : Md n M) (f : Bool) {k : Nat} : -1 ≤ (rsL M f n).getD k 0 ∧ (rsL M f n).getD k 0 ≤ 2 * (n : Int) := by
 have hl := h.len
 rw [List.getD_eq_getElem?_getD]
 unfold rsL
 rw [List.getElem?_map]
 cases e : (List.range n)[k]? with
 | none => simp; omega
 | some j =>
   simp only [Option.map_some, Option.getD_some]
   split
   · rename_i h2
     have h3 := h.val _ (kf (isS h2 0))
     dsimp only at h3
     omega
   · omega
end Go.Proofs.YtcaoldilmnpjoaaGreat
