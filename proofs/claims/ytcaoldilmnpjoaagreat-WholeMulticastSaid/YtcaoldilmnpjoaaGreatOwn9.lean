/-
  Part Own9 of the proof.
-/
import Derived.Test.YtcaoldilmnpjoaaGreatOwn8
namespace Go.Proofs.YtcaoldilmnpjoaaGreat
set_option linter.all false
open Go.RowKit Go.Sx
set_option maxRecDepth 100000
set_option maxHeartbeats 16000000
def xI (a b : Int) : Int := if a < b then -1 else if b < a then 1 else 0
def xJ (a b : Int) : Tup [DT.cell Ii] := if a < b then (-1, ()) else if b < a then (1, ()) else (0, ())
theorem yL (a b : Int) : (xJ a b).1 = xI a b := by unfold xJ xI; split; rfl; split <;> rfl
def orL : List Int → Int
 | [] => 0
 | x :: l => if x = 0 then orL l else x
theorem nan_inl : aE Tryz.prog AI 97 (inl E0 Tryz.f97 0) := cI ai mixed (fn := Tryz.f97) (c := aS Tryz.f97) Tryz.call97 (by kernel_rfl) (by kernel_rfl) (by kernel_rfl) 0
noncomputable abbrev Ec1 : Env Ab := ⟨tis, [(97, inl E0 Tryz.f97 0)] ++ E0.con⟩
theorem ec1Ok : aU Tryz.prog AI Ec1 := (ai.add nan_inl)
def mK : aB := ⟨[.cell Ii, .cell Ii], fun (x : Int × Int × Unit) => True, [.cell Ii], fun (x : Int × Int × Unit) => xJ x.1 x.2.1⟩
theorem cmp_ok (a : Int) (b : Int) (h : mK.pre (a, b, ())) : PTk Tryz.prog AI 51 mK (a, b, ()) := by
 dsimp only [PTk, mK] at h ⊢
 generalize hr : xJ a b = r
 dsimp only [xJ] at hr
 refine Tb ec1Ok mixed (fn := Tryz.f51) ?_
 refine Pq ?_
 with_reducible repeat' (first | exact True.intro | refine Ca ?_ | refine Cb ?_ | refine Cd ?_ | (refine Ce ?_; (try ((repeat (first | rw [ifP] at hr | rw [ifM] at hr | rw [if_pos rfl] at hr)); subst hr))) | refine Cm ?_ ?_ | (first | refine Bo (fun hk h => ?_) fun hk h => ?_ | refine Al (fun hk h => ?_) fun hk h => ?_) <;> (try (have hb : (_ : Bool) = _ := h; clear h; subst hb)) <;> (try replace hr := hri hr) <;> first | exact Dd | refine Nx ?_)
 all_goals first | with_reducible refine Ez ?_ | exact Cl1 | exact Cl2 | skip
theorem AD : aE Tryz.prog AI 51 mK.con := aB.sound Tryz.call51 (fun x h => cmp_ok x.1 x.2.1 h)
structure Lo (L : List Int) where
 i : Int
 lo : 0 ≤ i
 hi : i ≤ (L.length : Int)
 ok : orL (L.drop i.toNat) = orL L
theorem Lo.zero (L : List Int) : ∃ x : Lo L, x.i = 0 := ⟨⟨0, Int.le_refl _, by omega, rfl⟩, rfl⟩
theorem Lo.at {L : List Int} (x : Lo L) (h : x.i < (L.length : Int)) : L.drop x.i.toNat = L.getD x.i.toNat 0 :: L.drop (x.i + 1).toNat := by
 have h0 := x.lo
 have hk : x.i.toNat < L.length := by omega
 rw [List.drop_eq_getElem_cons hk, List.getD_eq_getElem?_getD, List.getElem?_eq_getElem hk, show (x.i + 1).toNat = x.i.toNat + 1 from by omega]; rfl
theorem Lo.step {L : List Int} (x : Lo L) (h : x.i < (L.length : Int)) (h2 : L.getD x.i.toNat 0 = 0) : ∃ y : Lo L, y.i = x.i + 1 := by
 have h0 := x.lo
 refine ⟨⟨x.i + 1, by omega, by omega, ?_⟩, rfl⟩
 rw [← x.ok, x.at h]
 show _ = if L.getD x.i.toNat 0 = 0 then _ else _
 rw [if_pos h2]
theorem Lo.hit {L : List Int} (x : Lo L) (h : x.i < (L.length : Int)) (h2 : ¬ L.getD x.i.toNat 0 = 0) : orL L = L.getD x.i.toNat 0 := by
 rw [← x.ok, x.at h]
 show (if L.getD x.i.toNat 0 = 0 then _ else _) = _
 rw [if_neg h2]
theorem Lo.done {L : List Int} (x : Lo L) (h : ¬ x.i < (L.length : Int)) : orL L = 0 := by
 rw [← x.ok, List.drop_eq_nil_of_le (by omega)]; rfl
def orF (L : List Int) : Tup [DT.cell Ii] := (orL L, ())
def pR : aB := ⟨[.lst Ii], fun (x : (List Int) × Unit) => (x.1).length ≤ 100, [.cell Ii], fun (x : (List Int) × Unit) => orF x.1⟩
theorem or_ok (L : List Int) (h : pR.pre (L, ())) : PTk Tryz.prog AI 50 pR (L, ()) := by
 dsimp only [PTk, pR] at h ⊢
 generalize hr : orF L = r
 dsimp only [orF] at hr
 refine Tb ai mixed (fn := Tryz.f50) ?_
 refine Pq ?_
 with_reducible repeat' (first | exact True.intro | refine Ca ?_ | refine Cb ?_ | refine Cd ?_ | (refine Ce ?_; (try ((repeat (first | rw [ifP] at hr | rw [ifM] at hr | rw [if_pos rfl] at hr)); subst hr))) | refine Cm ?_ ?_ | (first | refine Bo (fun hk h => ?_) fun hk h => ?_ | refine Al (fun hk h => ?_) fun hk h => ?_) <;> (try (have hb : (_ : Bool) = _ := h; clear h; subst hb)) <;> (try replace hr := hri hr) <;> first | exact Dd | refine Nx ?_)
 all_goals first | with_reducible refine Ez ?_ | exact Cl1 | exact Cl2 | skip
 have hL : L.length ≤ 100 := h
 obtain ⟨x0, hx0⟩ := Lo.zero L
 refine ⟨⟨Lo L, fun x => ⟨[(6, Sx.one (.ro Ii (fun _ => L))), (3, Sx.one (.li .i64 0)), (7, Sx.one (.int .i64 (fun _ => L.length))), (8, Sx.one (.int .i64 (fun _ => x.i)))], []⟩, fun x => (L.length - x.i).toNat, x0⟩, ?_, fun (x : Lo L) => ?_⟩
 · refine Pq ?_
   with_reducible repeat' first | exact True.intro | refine Ca ?_ | refine Cb ?_ | refine Cd ?_ | refine Ce ?_ | refine Cm ?_ ?_
   all_goals first | with_reducible refine Ez ?_ | exact Cl1 | exact hx0.symm | exact Cl2 | skip
 have hlo := x.lo
 have hhi := x.hi
 refine Pq ?_
 with_reducible repeat' (first | exact True.intro | refine Ca ?_ | refine Cb ?_ | refine Cd ?_ | refine Ce ?_ | refine Cm ?_ ?_ | (first | refine Bo (fun hk h => ?_) fun hk h => ?_ | refine Al (fun hk h => ?_) fun hk h => ?_) <;> (try (have hb : (_ : Bool) = _ := h; clear h; subst hb)) <;> (try replace hr := hri hr) <;> first | exact Dd | refine Nx ?_)
 all_goals first | with_reducible refine Ez ?_ | exact Cl1 | (subst hr; exact (x.hit (by assumption) (by assumption)).symm) | (subst hr; exact (x.done (by assumption)).symm) | exact Cl2 | skip
 obtain ⟨y, hy⟩ := x.step (by assumption) (by assumption)
 refine ⟨y, dF (by assumption) hy, ?_⟩
 refine Pq ?_
 with_reducible repeat' first | exact True.intro | refine Ca ?_ | refine Cb ?_ | refine Cd ?_ | refine Ce ?_ | refine Cm ?_ ?_
 all_goals first | with_reducible refine Ez ?_ | exact Cl1 | exact hy.symm | exact Cl2 | skip
theorem BK : aE Tryz.prog AI 50 pR.con := aB.sound Tryz.call50 (fun x h => or_ok x.1 h)
def abv (L : List Int) (a b : Int) : Bool := decide ((orF [(xJ (lat L a) (lat L b)).1, (xJ a b).1]).1 < 0)
theorem yS {L : List Int} {a b : Int} : abv L a b = true ↔ lat L a < lat L b ∨ (lat L a = lat L b ∧ a < b) := by
 unfold abv
 rw [decide_eq_true_eq, yL, yL]
 show (if xI (lat L a) (lat L b) = 0 then (if xI a b = 0 then 0 else xI a b) else xI (lat L a) (lat L b)) < 0 ↔ _
 generalize lat L a = p
 generalize lat L b = q
 unfold xI
 (repeat' split) <;> omega
def ae (o : ab) (a b : Int) : Tup [DT.cell .bool] :=
 if 0 ≤ a then (if a < (o.1.length : Int) then (if 0 ≤ lat o.1 a then
  (if 0 ≤ b then (if b < (o.1.length : Int) then (if 0 ≤ lat o.1 b then (abv o.1 a b, ()) else (false, ())) else (false, ())) else (false, ()))
  else (false, ())) else (false, ())) else (false, ())
theorem has_inl : aE Tryz.prog AI 85 (inl E0 Tryz.f85 0) := cI ai mixed (fn := Tryz.f85) (c := aS Tryz.f85) Tryz.call85 (by kernel_rfl) (by kernel_rfl) (by kernel_rfl) 0
noncomputable abbrev Ea1 : Env Ab := ⟨tis, [(50, pR.con), (51, mK.con), (85, inl E0 Tryz.f85 0)] ++ E0.con⟩
theorem ea1Ok : aU Tryz.prog AI Ea1 := (((ai.add has_inl).add AD).add BK)
def df : aB := ⟨[.cell iq, .cell Ii, .cell Ii], fun (x : ab × Int × Int × Unit) => True, [.cell .bool], fun (x : ab × Int × Int × Unit) => ae x.1 x.2.1 x.2.2.1⟩
theorem CL (o : ab) (a : Int) (b : Int) (h : df.pre (o, a, b, ())) : PTk Tryz.prog AI 39 df (o, a, b, ()) := by
 dsimp only [PTk, df] at h ⊢
 generalize hr : ae o a b = r
 obtain ⟨L, ou⟩ := o
 dsimp only [ae] at hr
 refine Tb ea1Ok mixed (fn := Tryz.f39) ?_
 refine Pq ?_
 with_reducible repeat' (first | exact True.intro | refine Ca ?_ | refine Cb ?_ | refine Cd ?_ | (refine Ce ?_; (try ((repeat (first | rw [ifP] at hr | rw [ifM] at hr | rw [if_pos rfl] at hr)); subst hr))) | refine Cm ?_ ?_ | (first | refine Bo (fun hk h => ?_) fun hk h => ?_ | refine Al (fun hk h => ?_) fun hk h => ?_) <;> (try (have hb : (_ : Bool) = _ := h; clear h; subst hb)) <;> (try replace hr := hri hr) <;> first | exact Dd | refine Nx ?_)
 all_goals first | with_reducible refine Ez ?_ | exact Cl1 | rfl | (show (2 : Nat) ≤ 100; decide) | exact Cl2 | skip
theorem gC : aE Tryz.prog AI 39 df.con := aB.sound Tryz.call39 (fun x h => CL x.1 x.2.1 x.2.2.1 h)
def gi (c d : Int) : Tup [DT.cell Ii] := (2 * c + d, ())
def jG : aB := ⟨[.cell Ii, .cell Ii], fun (x : Int × Int × Unit) => 0 ≤ x.1 ∧ x.1 < 32 ∧ 0 ≤ x.2.1 ∧ x.2.1 ≤ 1, [.cell Ii], fun (x : Int × Int × Unit) => gi x.1 x.2.1⟩
theorem chan_ok (c : Int) (d : Int) (h : jG.pre (c, d, ())) : PTk Tryz.prog AI 94 jG (c, d, ()) := by
 dsimp only [PTk, jG] at h ⊢
 generalize hr : gi c d = r
 dsimp only [gi] at hr
 refine Tb ai mixed (fn := Tryz.f94) ?_
 refine Pq ?_
 with_reducible repeat' (first | exact True.intro | refine Ca ?_ | refine Cb ?_ | refine Cd ?_ | (refine Ce ?_; (try ((repeat (first | rw [ifP] at hr | rw [ifM] at hr | rw [if_pos rfl] at hr)); subst hr))) | refine Cm ?_ ?_ | (first | refine Bo (fun hk h => ?_) fun hk h => ?_ | refine Al (fun hk h => ?_) fun hk h => ?_) <;> (try (have hb : (_ : Bool) = _ := h; clear h; subst hb)) <;> (try replace hr := hri hr) <;> first | exact Dd | refine Nx ?_)
 all_goals first | with_reducible refine Ez ?_ | exact Cl1 | exact Cl2 | skip
theorem xL : aE Tryz.prog AI 94 jG.con := aB.sound Tryz.call94 (fun x h => chan_ok x.1 x.2.1 h)
def aM (p : a8) (c : Int) : Tup [DT.cell Ii, DT.cell Ii] :=
 if c % 2 = 0 then ((p.2.getD (c / 2).toNat z6).1, (p.2.getD (c / 2).toNat z6).2.2.1, ()) else ((p.2.getD (c / 2).toNat z6).2.2.1, (p.2.getD (c / 2).toNat z6).1, ())
def jD : aB := ⟨[.cell bT, .cell Ii], fun (x : a8 × Int × Unit) => (x.1).2.length ≤ 32 ∧ 0 ≤ x.2.1 ∧ x.2.1 < 2 * ((x.1).2.length : Int), [.cell Ii, .cell Ii], fun (x : a8 × Int × Unit) => aM x.1 x.2.1⟩
theorem ends_ok (p : a8) (c : Int) (h : jD.pre (p, c, ())) : PTk Tryz.prog AI 72 jD (p, c, ()) := by
 dsimp only [PTk, jD] at h ⊢
 generalize hr : aM p c = r
 obtain ⟨p1, p2⟩ := p; obtain ⟨hc, h0, h1⟩ := h; dsimp only at hc h1
 dsimp only [aM] at hr
 refine Tb ai mixed (fn := Tryz.f72) ?_
 refine Pq ?_
 with_reducible repeat' (first | exact True.intro | refine Ca ?_ | refine Cb ?_ | refine Cd ?_ | (refine Ce ?_; (try ((repeat (first | rw [ifP] at hr | rw [ifM] at hr | rw [if_pos rfl] at hr)); subst hr))) | refine Cm ?_ ?_ | (first | refine Bo (fun hk h => ?_) fun hk h => ?_ | refine Al (fun hk h => ?_) fun hk h => ?_) <;> (try (have hb : (_ : Bool) = _ := h; clear h; subst hb)) <;> (try replace hr := hri hr) <;> first | exact Dd | refine Nx ?_)
 all_goals first | with_reducible refine Ez ?_ | exact Cl1 | exact Cl2 | skip
theorem x7 : aE Tryz.prog AI 72 jD.con := aB.sound Tryz.call72 (fun x h => ends_ok x.1 x.2.1 h)
def cG (p : a8) (c n : Int) : Tup [DT.cell Ii] := if (p.2.getD c.toNat z6).1 = n then (2 * c + 0, ()) else (2 * c + 1, ())
noncomputable abbrev El1 : Env Ab := ⟨tis, [(94, jG.con)] ++ E0.con⟩
theorem el1Ok : aU Tryz.prog AI El1 := (ai.add xL)
def j7 : aB := ⟨[.cell bT, .cell Ii, .cell Ii], fun (x : a8 × Int × Int × Unit) => (x.1).2.length ≤ 32 ∧ 0 ≤ x.2.1 ∧ x.2.1 < ((x.1).2.length : Int), [.cell Ii], fun (x : a8 × Int × Int × Unit) => cG x.1 x.2.1 x.2.2.1⟩
theorem leav_ok (p : a8) (c : Int) (n : Int) (h : j7.pre (p, c, n, ())) : PTk Tryz.prog AI 73 j7 (p, c, n, ()) := by
 dsimp only [PTk, j7] at h ⊢
 generalize hr : cG p c n = r
 obtain ⟨p1, p2⟩ := p; obtain ⟨hc, h0, h1⟩ := h; dsimp only at hc h1
 dsimp only [cG] at hr
 refine Tb el1Ok mixed (fn := Tryz.f73) ?_
 refine Pr ?_
 (try (conv in (SS.mk _ _) => dsimp only [gi]))
 refine Nx ?_
 with_reducible repeat' (first | exact True.intro | refine Ca ?_ | refine Cb ?_ | refine Cd ?_ | (refine Ce ?_; (try ((repeat (first | rw [ifP] at hr | rw [ifM] at hr | rw [if_pos rfl] at hr)); subst hr))) | refine Cm ?_ ?_ | (first | refine Bo (fun hk h => ?_) fun hk h => ?_ | refine Al (fun hk h => ?_) fun hk h => ?_) <;> (try dsimp only [gi] at h) <;> (try simp only [natCast_eq] at h) <;> (try (have hb : (_ : Bool) = _ := h; clear h; subst hb)) <;> (try replace hr := hri hr) <;> first | exact Dd | refine Nx ?_)
 all_goals first | with_reducible refine Ez ?_ | exact Cl1 | (dsimp only [gi]; exact Cl1) | exact Cl2 | (dsimp only [gi]; exact Cl2) | (dsimp only [gi] at *; exact Cl2) | skip
theorem wo : aE Tryz.prog AI 73 j7.con := aB.sound Tryz.call73 (fun x h => leav_ok x.1 x.2.1 x.2.2.1 h)
end Go.Proofs.YtcaoldilmnpjoaaGreat
