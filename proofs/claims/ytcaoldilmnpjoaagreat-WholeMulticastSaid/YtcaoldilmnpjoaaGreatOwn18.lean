/-
  Part Own18 of the proof.
-/
import Derived.Test.YtcaoldilmnpjoaaGreatOwn17
namespace Go.Proofs.YtcaoldilmnpjoaaGreat
set_option linter.all false
open Go.RowKit Go.Sx
set_option maxRecDepth 100000
set_option maxHeartbeats 16000000
abbrev RwE : Ty := .pair (.lst Ii) (.lst Ii)
structure RtP (p : a8) (T : dw) : Prop where
 pl : wA p
 ok : bh p = 0
 tb : ∃ L, TbOk p L T
def aX (p : a8) (T : dw) : Tup [DT.cell .bool] := (true, ())
theorem y8 : ¬ ((1 : Nat) : Int) = Int.ofNat 0 := by decide
noncomputable abbrev Evr1 : Env Ab := ⟨tis, [(70, nc.con)] ++ E0.con⟩
theorem evr1Ok : aU Tryz.prog AI Evr1 := (ai.add w9)
theorem prm_inl : aE Tryz.prog AI 112 (inl Evr1 Tryz.f112 1) := cI evr1Ok mixed (fn := Tryz.f112) (c := aS Tryz.f112) Tryz.call112 (by kernel_rfl) (by kernel_rfl) (by kernel_rfl) 1
noncomputable abbrev Evr2 : Env Ab := ⟨tis, [(112, inl Evr1 Tryz.f112 1), (20, bE.con)] ++ E0.con⟩
theorem evr2Ok : aU Tryz.prog AI Evr2 := ((ai.add cR).add prm_inl)
theorem rq {p : a8} {L : List Int} {k t ph : Nat} {e : Int} (h : okE p L k t ph e) : (((k : Nat) : Int) = ((t : Nat) : Int) → e = -2) ∧ (e = -2 → ((k : Nat) : Int) = ((t : Nat) : Int)) ∧ (¬ e = -2 → ¬ e = -1 → 0 ≤ e ∧ e < (p.2.length : Int) ∧ (acF (p.2.getD e.toNat z6) (k : Int)).2.1 = true) := by
 rcases h with ⟨h1, h2⟩ | ⟨h1, h2 | ⟨i, h2, h3, h4, _⟩⟩
 · exact ⟨fun _ => h2, fun _ => by rw [h1], fun h => absurd h2 h⟩
 · exact ⟨fun h => absurd (Int.ofNat.inj h) h1, fun h => by omega, fun _ h => absurd h2 h⟩
 · refine ⟨fun h => absurd (Int.ofNat.inj h) h1, fun h => by omega, fun _ _ => ?_⟩
   subst h3
   exact ⟨by omega, by omega, h4⟩
def lH : aB := ⟨[.cell bT, .cell TabE], fun (x : a8 × dw × Unit) => RtP x.1 x.2.1, [.cell .bool], fun (x : a8 × dw × Unit) => aX x.1 x.2.1⟩
theorem rvl_ok (p : a8) (T : dw) (h : lH.pre (p, T, ())) : PTk Tryz.prog AI 71 lH (p, T, ()) := by
 dsimp only [PTk, lH] at h ⊢
 generalize hr : aX p T = r
 obtain ⟨p1, p2⟩ := p; obtain ⟨T, tu⟩ := T; obtain ⟨hP, hok, L, hT⟩ := h; have hn : p1.length ≤ 16 := hP.n; have hl : T.length = p1.length := hT.len
 dsimp only [aX] at hr
 refine Tb evr2Ok mixed (fn := Tryz.f71) ?_
 refine Pr ?_
 (try (conv in (SS.mk _ _) => dsimp only [aA]))
 refine Nx ?_
 with_reducible repeat' (first | exact True.intro | refine Ca ?_ | refine Cb ?_ | refine Cd ?_ | (refine Ce ?_; (try ((repeat (first | rw [ifP] at hr | rw [ifM] at hr | rw [if_pos rfl] at hr)); subst hr))) | refine Cm ?_ ?_ | (first | refine Bo (fun hk h => ?_) fun hk h => ?_ | refine Al (fun hk h => ?_) fun hk h => ?_) <;> (try dsimp only [aA] at h) <;> (try simp only [natCast_eq] at h) <;> (try (have hb : (_ : Bool) = _ := h; clear h; subst hb)) <;> (try replace hr := hri hr) <;> first | exact Dd | refine Nx ?_)
 all_goals first | with_reducible refine Ez ?_ | exact Cl1 | (dsimp only [aA]; exact Cl1) | (dsimp only [bE]; simp only [aH, aJ]; exact hP) | (exfalso; exact h hok) | exact Cl2 | (dsimp only [aA]; exact Cl2) | (dsimp only [aA] at *; exact Cl2) | skip
 refine ⟨⟨{k : Nat // k ≤ p1.length}, fun k => ⟨[(2, Sx.one (.ptr 0 0)), (5, .val (.fn 112 [.ptr 0 0])), (26, Sx.one (.ro RwE (fun _ => T))), (27, Sx.one (.int .i64 (fun _ => p1.length))), (28, Sx.one (.int .i64 (fun _ => k.1)))],
  [.cells 25 [.ro ah (fun _ => p1), .ro az (fun _ => p2)]]⟩, fun k => p1.length - k.1, ⟨0, Nat.zero_le _⟩⟩, ?_, fun (k : {k : Nat // k ≤ p1.length}) => ?_⟩
 · refine Pr ?_
   (try (conv in (SS.mk _ _) => dsimp only [aA]))
   refine Nx ?_
   with_reducible repeat' first | exact True.intro | refine Ca ?_ | refine Cb ?_ | refine Cd ?_ | refine Ce ?_ | refine Cm ?_ ?_
   all_goals first | with_reducible refine Ez ?_ | exact Cl1 | (dsimp only [aA]; exact Cl1) | (rw [hl]; done) | exact Cl2 | (dsimp only [aA]; exact Cl2) | (dsimp only [aA] at *; exact Cl2) | skip
 obtain ⟨k, hk⟩ := k
 dsimp only
 have hkx := fun (h : ((k : Nat) : Int) < (p1.length : Int)) => ivx hl (o := (k : Int)) ⟨by omega, h⟩
 refine Pr ?_
 (try (conv in (SS.mk _ _) => dsimp only [aA]))
 refine Nx ?_
 with_reducible repeat' (first | exact True.intro | refine Ca ?_ | refine Cb ?_ | refine Cd ?_ | refine Ce ?_ | refine Cm ?_ ?_ | (first | refine Bo (fun hk h => ?_) fun hk h => ?_ | refine Al (fun hk h => ?_) fun hk h => ?_) <;> (try dsimp only [aA] at h) <;> (try simp only [natCast_eq] at h) <;> (try (have hb : (_ : Bool) = _ := h; clear h; subst hb)) <;> (try replace hr := hri hr) <;> first | exact Dd | refine Nx ?_)
 all_goals first | with_reducible refine Ez ?_ | exact Cl1 | (dsimp only [aA]; exact Cl1) | exact hkx (by assumption) | (subst hr; rfl) | exact Cl2 | (dsimp only [aA]; exact Cl2) | (dsimp only [aA] at *; exact Cl2) | skip
 have hkn : k < p1.length := by omega
 have hr0 := hT.r0 k hkn
 have hr1 := hT.r1 k hkn
 have he0 := fun t ht => hT.e0 k t hkn ht
 have he1 := fun t ht => hT.e1 k t hkn ht
 dsimp only at hr0 hr1 he0 he1
 refine ⟨⟨{f : Nat // f ≤ 2}, fun f => ⟨[(2, Sx.one (.ptr 0 0)), (5, .val (.fn 112 [.ptr 0 0])), (26, Sx.one (.ro RwE (fun _ => T))), (27, Sx.one (.int .i64 (fun _ => p1.length))), (28, Sx.one (.int .i64 (fun _ => k))), (6, Sx.one (.int .i64 (fun _ => k))), (33, .val (.agg [.ro Ii (fun _ => (T.getD k ([], [])).1), .ro Ii (fun _ => (T.getD k ([], [])).2)])), (34, Sx.one (.int .i64 (fun _ => f.1)))],
  [.cells 25 [.ro ah (fun _ => p1), .ro az (fun _ => p2)]]⟩, fun f => 2 - f.1, ⟨0, Nat.zero_le _⟩⟩, ?_, fun (f : {f : Nat // f ≤ 2}) => ?_⟩
 · refine Pr ?_
   (try (conv in (SS.mk _ _) => dsimp only [aA]))
   refine Nx ?_
   with_reducible repeat' first | exact True.intro | refine Ca ?_ | refine Cb ?_ | refine Cd ?_ | refine Ce ?_ | refine Cm ?_ ?_
   all_goals first | with_reducible refine Ez ?_ | exact Cl1 | (dsimp only [aA]; exact Cl1) | rfl | exact Cl2 | (dsimp only [aA]; exact Cl2) | (dsimp only [aA] at *; exact Cl2) | skip
 generalize hR0 : (T.getD k ([], [])).1 = r0 at *
 generalize hR1 : (T.getD k ([], [])).2 = r1 at *
 obtain ⟨f, hf⟩ := f
 dsimp only
 by_cases hf2 : f = 2
 · subst hf2
   refine Pr ?_
   (try (conv in (SS.mk _ _) => dsimp only [aA]))
   refine Nx ?_
   with_reducible repeat' (first | exact True.intro | refine Ca ?_ | refine Cb ?_ | refine Cd ?_ | refine Ce ?_ | refine Cm ?_ ?_ | (first | refine Bo (fun hk h => ?_) fun hk h => ?_ | refine Al (fun hk h => ?_) fun hk h => ?_) <;> (try dsimp only [aA] at h) <;> (try simp only [natCast_eq] at h) <;> (try (have hb : (_ : Bool) = _ := h; clear h; subst hb)) <;> (try replace hr := hri hr) <;> first | exact Dd | refine Nx ?_)
   all_goals first | with_reducible refine Ez ?_ | exact Cl1 | (dsimp only [aA]; exact Cl1) | exact Cl2 | (dsimp only [aA]; exact Cl2) | (dsimp only [aA] at *; exact Cl2) | skip
   refine ⟨⟨k + 1, hkn⟩, (by dsimp only; omega), ?_⟩
   refine Pr ?_
   (try (conv in (SS.mk _ _) => dsimp only [aA]))
   refine Nx ?_
   with_reducible repeat' first | exact True.intro | refine Ca ?_ | refine Cb ?_ | refine Cd ?_ | refine Ce ?_ | refine Cm ?_ ?_
   all_goals first | with_reducible refine Ez ?_ | exact Cl1 | (dsimp only [aA]; exact Cl1) | rfl | exact Cl2 | (dsimp only [aA]; exact Cl2) | (dsimp only [aA] at *; exact Cl2) | skip
 have hf01 : f = 0 ∨ f = 1 := by omega
 rcases hf01 with rfl | rfl
 · refine Pr ?_
   (try (conv in (SS.mk _ _) => dsimp only [aA]))
   refine Nx ?_
   with_reducible repeat' (first | exact True.intro | refine Ca ?_ | refine Cb ?_ | refine Cd ?_ | refine Ce ?_ | refine Cm ?_ ?_ | (first | refine Bo (fun hk h => ?_) fun hk h => ?_ | refine Al (fun hk h => ?_) fun hk h => ?_) <;> (try dsimp only [aA] at h) <;> (try simp only [natCast_eq] at h) <;> (try (have hb : (_ : Bool) = _ := h; clear h; subst hb)) <;> (try replace hr := hri hr) <;> first | exact Dd | refine Nx ?_)
   all_goals first | with_reducible refine Ez ?_ | exact Cl1 | (dsimp only [aA]; exact Cl1) | (rw [hr0]; done) | (exfalso; exact h (by rw [hr0])) | exact Cl2 | (dsimp only [aA]; exact Cl2) | (dsimp only [aA] at *; exact Cl2) | skip
   all_goals
    first
    | (exfalso; exact (by assumption : ¬ ((0 : Nat) : Int) = Int.ofNat 0) rfl)
    | (exfalso; exact y8 (by assumption))
    | skip
   refine ⟨⟨{t : Nat // t ≤ p1.length}, fun t => ⟨[(2, Sx.one (.ptr 0 0)), (5, .val (.fn 112 [.ptr 0 0])), (26, Sx.one (.ro RwE (fun _ => T))), (27, Sx.one (.int .i64 (fun _ => p1.length))), (28, Sx.one (.int .i64 (fun _ => k))), (6, Sx.one (.int .i64 (fun _ => k))), (33, .val (.agg [.ro Ii (fun _ => r0), .ro Ii (fun _ => r1)])), (34, Sx.one (.int .i64 (fun _ => ((0 : Nat) : Int)))),
    (43, Sx.one (.ro Ii (fun _ => r0))), (44, Sx.one (.int .i64 (fun _ => p1.length))), (45, Sx.one (.int .i64 (fun _ => t.1)))],
    [.cells 25 [.ro ah (fun _ => p1), .ro az (fun _ => p2)]]⟩, fun t => p1.length - t.1, ⟨0, Nat.zero_le _⟩⟩, ?_, fun (t : {t : Nat // t ≤ p1.length}) => ?_⟩
   · refine Pr ?_
     (try (conv in (SS.mk _ _) => dsimp only [aA]))
     refine Nx ?_
     with_reducible repeat' first | exact True.intro | refine Ca ?_ | refine Cb ?_ | refine Cd ?_ | refine Ce ?_ | refine Cm ?_ ?_
     all_goals first | with_reducible refine Ez ?_ | exact Cl1 | (dsimp only [aA]; exact Cl1) | rfl | (rw [hr0]; done) | exact Cl2 | (dsimp only [aA]; exact Cl2) | (dsimp only [aA] at *; exact Cl2) | skip
   obtain ⟨t, ht⟩ := t
   dsimp only
   have htx := fun (h : ((t : Nat) : Int) < (p1.length : Int)) => ivx hr0 (o := (t : Int)) ⟨by omega, h⟩
   have hoe : ((t : Nat) : Int) < (p1.length : Int) → _ := fun h => rq (he0 t (by omega))
   refine Pr ?_
   (try (conv in (SS.mk _ _) => dsimp only [aA]))
   refine Nx ?_
   with_reducible repeat' (first | exact True.intro | refine Ca ?_ | refine Cb ?_ | refine Cd ?_ | refine Ce ?_ | refine Cm ?_ ?_ | (first | refine Bo (fun hk h => ?_) fun hk h => ?_ | refine Al (fun hk h => ?_) fun hk h => ?_) <;> (try dsimp only [aA] at h) <;> (try simp only [natCast_eq] at h) <;> (try (have hb : (_ : Bool) = _ := h; clear h; subst hb)) <;> (try replace hr := hri hr) <;> first | exact Dd | refine Nx ?_)
   all_goals first | with_reducible refine Ez ?_ | exact Cl1 | (dsimp only [aA]; exact Cl1) | exact htx (by assumption) | (exfalso; have h9 := (hoe (by assumption)).1 (by assumption); contradiction) | (exfalso; have h9 := (hoe (by assumption)).2.1 (by assumption); contradiction) | (exfalso; have h9 := (hoe (by assumption)).2.2 (by assumption) (by assumption); first | exact Int.not_lt.2 h9.1 h | exact Int.not_lt.2 h h9.2.1) | (have h9 := (hoe (by assumption)).2.2 (by assumption) (by assumption); exact ⟨h9.1, h9.2.1⟩) | (exfalso; have h9 := ((hoe (by assumption)).2.2 (by assumption) (by assumption)).2.2; exact absurd (h9.symm.trans h) (by decide)) | exact Cl2 | (dsimp only [aA]; exact Cl2) | (dsimp only [aA] at *; exact Cl2) | skip
   rotate_right
   · refine ⟨⟨1, by omega⟩, (by dsimp only; omega), ?_⟩
     refine Pr ?_
     (try (conv in (SS.mk _ _) => dsimp only [aA]))
     refine Nx ?_
     with_reducible repeat' first | exact True.intro | refine Ca ?_ | refine Cb ?_ | refine Cd ?_ | refine Ce ?_ | refine Cm ?_ ?_
     all_goals first | with_reducible refine Ez ?_ | exact Cl1 | (dsimp only [aA]; exact Cl1) | rfl | exact Cl2 | (dsimp only [aA]; exact Cl2) | (dsimp only [aA] at *; exact Cl2) | skip
   all_goals
    (refine ⟨⟨t + 1, by omega⟩, (by dsimp only; omega), ?_⟩
     refine Pr ?_
     (try (conv in (SS.mk _ _) => dsimp only [aA]))
     refine Nx ?_
     with_reducible repeat' first | exact True.intro | refine Ca ?_ | refine Cb ?_ | refine Cd ?_ | refine Ce ?_ | refine Cm ?_ ?_
     all_goals first | with_reducible refine Ez ?_ | exact Cl1 | (dsimp only [aA]; exact Cl1) | rfl | exact Cl2 | (dsimp only [aA]; exact Cl2) | (dsimp only [aA] at *; exact Cl2) | skip)
 · refine Pr ?_
   (try (conv in (SS.mk _ _) => dsimp only [aA]))
   refine Nx ?_
   with_reducible repeat' (first | exact True.intro | refine Ca ?_ | refine Cb ?_ | refine Cd ?_ | refine Ce ?_ | refine Cm ?_ ?_ | (first | refine Bo (fun hk h => ?_) fun hk h => ?_ | refine Al (fun hk h => ?_) fun hk h => ?_) <;> (try dsimp only [aA] at h) <;> (try simp only [natCast_eq] at h) <;> (try (have hb : (_ : Bool) = _ := h; clear h; subst hb)) <;> (try replace hr := hri hr) <;> first | exact Dd | refine Nx ?_)
   all_goals first | with_reducible refine Ez ?_ | exact Cl1 | (dsimp only [aA]; exact Cl1) | (rw [hr1]; done) | (exfalso; exact h (by rw [hr1])) | exact Cl2 | (dsimp only [aA]; exact Cl2) | (dsimp only [aA] at *; exact Cl2) | skip
   all_goals
    first
    | (exfalso; exact (by assumption : ¬ ((0 : Nat) : Int) = Int.ofNat 0) rfl)
    | (exfalso; exact y8 (by assumption))
    | skip
   refine ⟨⟨{t : Nat // t ≤ p1.length}, fun t => ⟨[(2, Sx.one (.ptr 0 0)), (5, .val (.fn 112 [.ptr 0 0])), (26, Sx.one (.ro RwE (fun _ => T))), (27, Sx.one (.int .i64 (fun _ => p1.length))), (28, Sx.one (.int .i64 (fun _ => k))), (6, Sx.one (.int .i64 (fun _ => k))), (33, .val (.agg [.ro Ii (fun _ => r0), .ro Ii (fun _ => r1)])), (34, Sx.one (.int .i64 (fun _ => ((1 : Nat) : Int)))),
    (43, Sx.one (.ro Ii (fun _ => r1))), (44, Sx.one (.int .i64 (fun _ => p1.length))), (45, Sx.one (.int .i64 (fun _ => t.1)))],
    [.cells 25 [.ro ah (fun _ => p1), .ro az (fun _ => p2)]]⟩, fun t => p1.length - t.1, ⟨0, Nat.zero_le _⟩⟩, ?_, fun (t : {t : Nat // t ≤ p1.length}) => ?_⟩
   · refine Pr ?_
     (try (conv in (SS.mk _ _) => dsimp only [aA]))
     refine Nx ?_
     with_reducible repeat' first | exact True.intro | refine Ca ?_ | refine Cb ?_ | refine Cd ?_ | refine Ce ?_ | refine Cm ?_ ?_
     all_goals first | with_reducible refine Ez ?_ | exact Cl1 | (dsimp only [aA]; exact Cl1) | rfl | (rw [hr1]; done) | exact Cl2 | (dsimp only [aA]; exact Cl2) | (dsimp only [aA] at *; exact Cl2) | skip
   obtain ⟨t, ht⟩ := t
   dsimp only
   have htx := fun (h : ((t : Nat) : Int) < (p1.length : Int)) => ivx hr1 (o := (t : Int)) ⟨by omega, h⟩
   have hoe : ((t : Nat) : Int) < (p1.length : Int) → _ := fun h => rq (he1 t (by omega))
   refine Pr ?_
   (try (conv in (SS.mk _ _) => dsimp only [aA]))
   refine Nx ?_
   with_reducible repeat' (first | exact True.intro | refine Ca ?_ | refine Cb ?_ | refine Cd ?_ | refine Ce ?_ | refine Cm ?_ ?_ | (first | refine Bo (fun hk h => ?_) fun hk h => ?_ | refine Al (fun hk h => ?_) fun hk h => ?_) <;> (try dsimp only [aA] at h) <;> (try simp only [natCast_eq] at h) <;> (try (have hb : (_ : Bool) = _ := h; clear h; subst hb)) <;> (try replace hr := hri hr) <;> first | exact Dd | refine Nx ?_)
   all_goals first | with_reducible refine Ez ?_ | exact Cl1 | (dsimp only [aA]; exact Cl1) | exact htx (by assumption) | (exfalso; have h9 := (hoe (by assumption)).1 (by assumption); contradiction) | (exfalso; have h9 := (hoe (by assumption)).2.1 (by assumption); contradiction) | (exfalso; have h9 := (hoe (by assumption)).2.2 (by assumption) (by assumption); first | exact Int.not_lt.2 h9.1 h | exact Int.not_lt.2 h h9.2.1) | (have h9 := (hoe (by assumption)).2.2 (by assumption) (by assumption); exact ⟨h9.1, h9.2.1⟩) | (exfalso; have h9 := ((hoe (by assumption)).2.2 (by assumption) (by assumption)).2.2; exact absurd (h9.symm.trans h) (by decide)) | exact Cl2 | (dsimp only [aA]; exact Cl2) | (dsimp only [aA] at *; exact Cl2) | skip
   rotate_right
   · refine ⟨⟨2, by omega⟩, (by dsimp only; omega), ?_⟩
     refine Pr ?_
     (try (conv in (SS.mk _ _) => dsimp only [aA]))
     refine Nx ?_
     with_reducible repeat' first | exact True.intro | refine Ca ?_ | refine Cb ?_ | refine Cd ?_ | refine Ce ?_ | refine Cm ?_ ?_
     all_goals first | with_reducible refine Ez ?_ | exact Cl1 | (dsimp only [aA]; exact Cl1) | rfl | exact Cl2 | (dsimp only [aA]; exact Cl2) | (dsimp only [aA] at *; exact Cl2) | skip
   all_goals
    (refine ⟨⟨t + 1, by omega⟩, (by dsimp only; omega), ?_⟩
     refine Pr ?_
     (try (conv in (SS.mk _ _) => dsimp only [aA]))
     refine Nx ?_
     with_reducible repeat' first | exact True.intro | refine Ca ?_ | refine Cb ?_ | refine Cd ?_ | refine Ce ?_ | refine Cm ?_ ?_
     all_goals first | with_reducible refine Ez ?_ | exact Cl1 | (dsimp only [aA]; exact Cl1) | rfl | exact Cl2 | (dsimp only [aA]; exact Cl2) | (dsimp only [aA] at *; exact Cl2) | skip)
theorem zC : aE Tryz.prog AI 71 lH.con := aB.sound Tryz.call71 (fun x h => rvl_ok x.1 x.2.1 h)
end Go.Proofs.YtcaoldilmnpjoaaGreat
