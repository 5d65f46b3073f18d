/-
  Part Own32 of the proof.
-/
import Derived.Test.YtcaoldilmnpjoaaGreatOwn31
namespace Go.Proofs.YtcaoldilmnpjoaaGreat
set_option linter.all false
open Go.RowKit Go.Sx
set_option maxRecDepth 100000
set_option maxHeartbeats 16000000
def o7 (p : a8) (o : ab) (T : dw) : Tup [DT.lst br, DT.cell Ii] := (qX p o T, 0, ())
theorem mkz_inl : aE Tryz.prog AI 25 (inl E0 Tryz.f25 4) := cI ai mixed (fn := Tryz.f25) (c := aS Tryz.f25) Tryz.call25 (by kernel_rfl) (by kernel_rfl) (by kernel_rfl) 4
noncomputable abbrev Eq1 : Env Ab := ⟨tis, [(24, pF 3), (25, inl E0 Tryz.f25 4), (39, df.con), (73, j7.con), (72, jD.con), (71, lH.con), (36, dE.con)] ++ E0.con⟩
theorem eq1Ok : aU Tryz.prog AI Eq1 := (((((((ai.add eB).add zC).add x7).add wo).add gC).add mkz_inl).add (lE 3))
def mF : aB := ⟨[.cell bT, .cell iq, .cell TabE], fun (x : a8 × ab × dw × Unit) => DpP x.1 x.2.1 x.2.2.1, [.lst br, .cell Ii], fun (x : a8 × ab × dw × Unit) => o7 x.1 x.2.1 x.2.2.1⟩
theorem dps_ok (p : a8) (o : ab) (T : dw) (h : mF.pre (p, o, T, ())) : PTk Tryz.prog AI 23 mF (p, o, T, ()) := by
 dsimp only [PTk, mF] at h ⊢
 generalize hr : o7 p o T = r
 have hD := h; obtain ⟨p1, p2⟩ := p; obtain ⟨L, ou⟩ := o; obtain ⟨T, tu⟩ := T; obtain ⟨hlv, htb⟩ := h; have hrt := hD.rt; have hn : p1.length ≤ 16 := hlv.pl.n; have hc : p2.length ≤ 32 := hlv.pl.c; have hE : bd p2 p1.length := bD hlv.ok; have hL : L.length = p1.length := hlv.lv.len; have hT : T.length = p1.length := htb.len
 dsimp only [o7] at hr
 refine Tb eq1Ok mixed (fn := Tryz.f23) ?_
 refine Pr ?_
 (try (conv in (SS.mk _ _) => dsimp only [aF, aX]))
 refine Nx ?_
 with_reducible repeat' (first | exact True.intro | refine Ca ?_ | refine Cb ?_ | refine Cd ?_ | (refine Ce ?_; (try ((repeat (first | rw [ifP] at hr | rw [ifM] at hr | rw [if_pos rfl] at hr)); subst hr))) | refine Cm ?_ ?_ | (first | refine Bo (fun hk h => ?_) fun hk h => ?_ | refine Al (fun hk h => ?_) fun hk h => ?_) <;> (try dsimp only [aF, aX] at h) <;> (try simp only [natCast_eq] at h) <;> (try (have hb : (_ : Bool) = _ := h; clear h; subst hb)) <;> (try replace hr := hri hr) <;> first | exact Dd | refine Nx ?_)
 all_goals first | with_reducible refine Ez ?_ | exact Cl1 | (dsimp only [aF, aX]; exact Cl1) | exact hlv | exact hrt | exact Cl2 | (dsimp only [aF, aX]; exact Cl2) | (dsimp only [aF, aX] at *; exact Cl2) | skip
 refine ⟨⟨{k : Nat // k ≤ 2 * p2.length}, fun k => ⟨[(3, Sx.one (.ptr 0 0)), (4, Sx.one (.ptr 1 0)), (5, Sx.one (.ptr 2 0)), (8, Sx.one (.mp 3)), (32, Sx.one (.int .i64 (fun _ => 2 * (p2.length : Int)))), (33, Sx.one (.int .i64 (fun _ => k.1)))],
  [.cells 25 [.ro ah (fun _ => p1), .ro az (fun _ => p2)], .cells 32 [.ro Ii (fun _ => L)], .cells 70 [.ro RwE (fun _ => T)], .map (.agg br) .bool (fun _ => al [] (cC (p1, p2) (L, ()) (T, ()) k.1))]⟩, fun k => 2 * p2.length - k.1, ⟨0, Nat.zero_le _⟩⟩, ?_, fun (k : {k : Nat // k ≤ 2 * p2.length}) => ?_⟩
 · refine Pr ?_
   (try (conv in (SS.mk _ _) => dsimp only [aF, aX]))
   refine Nx ?_
   with_reducible repeat' first | exact True.intro | refine Ca ?_ | refine Cb ?_ | refine Cd ?_ | refine Ce ?_ | refine Cm ?_ ?_
   all_goals first | with_reducible refine Ez ?_ | exact Cl1 | (dsimp only [aF, aX]; exact Cl1) | rfl | exact Cl2 | (dsimp only [aF, aX]; exact Cl2) | (dsimp only [aF, aX] at *; exact Cl2) | skip
 obtain ⟨k, hk⟩ := k
 dsimp only
 have hnd : (bS (al [] (cC (p1, p2) (L, ()) (T, ()) k))).Nodup := gB _ List.nodup_nil
 have hle : (al [] (cC (p1, p2) (L, ()) (T, ()) k)).length ≤ 4194304 := by
  have h1 := eH (cC (p1, p2) (L, ()) (T, ()) k) []
  have h2 := xN (p1, p2) (L, ()) (T, ()) k
  have h3 : k * (2 * p1.length) ≤ 64 * 32 := Nat.mul_le_mul (by omega) (by omega)
  simp only [List.length_nil] at h1 h2
  omega
 have hin := fun (h : ((k : Nat) : Int) < 2 * (p2.length : Int)) => jm (p := (p1, p2)) hE (c := (k : Int)) (by omega) h
 refine Pr ?_
 (try (conv in (SS.mk _ _) => dsimp only [aF, aX]))
 refine Nx ?_
 with_reducible repeat' (first | exact True.intro | refine Ca ?_ | refine Cb ?_ | refine Cd ?_ | refine Ce ?_ | refine Cm ?_ ?_ | (first | refine Bo (fun hk h => ?_) fun hk h => ?_ | refine Al (fun hk h => ?_) fun hk h => ?_) <;> (try dsimp only [aF, aX] at h) <;> (try simp only [natCast_eq] at h) <;> (try (have hb : (_ : Bool) = _ := h; clear h; subst hb)) <;> (try replace hr := hri hr) <;> first | exact Dd | refine Nx ?_)
 all_goals first | with_reducible refine Ez ?_ | exact Cl1 | (dsimp only [aF, aX]; exact Cl1) | (subst hr; rfl) | (subst hr; have hk9 : k = 2 * p2.length := (by omega); rw [hk9]; exact List.map_id _) | exact Cl2 | (dsimp only [aF, aX]; exact Cl2) | (dsimp only [aF, aX] at *; exact Cl2) | skip
 · have e9 := oi (p1, p2) (L, ()) (T, ()) k
   rw [cP_neg1 h, List.append_nil] at e9
   refine ⟨⟨k + 1, by omega⟩, (by dsimp only; omega), ?_⟩
   refine Pr ?_
   (try (conv in (SS.mk _ _) => dsimp only [aF, aX]))
   refine Nx ?_
   with_reducible repeat' first | exact True.intro | refine Ca ?_ | refine Cb ?_ | refine Cd ?_ | refine Ce ?_ | refine Cm ?_ ?_
   all_goals first | with_reducible refine Ez ?_ | exact Cl1 | (dsimp only [aF, aX]; exact Cl1) | exact (congrArg (al []) e9).symm | exact (List.map_id _).trans (congrArg (al []) e9).symm | exact Cl2 | (dsimp only [aF, aX]; exact Cl2) | (dsimp only [aF, aX] at *; exact Cl2) | skip
 · have e9 := oi (p1, p2) (L, ()) (T, ()) k
   rw [cP_neg2 h, List.append_nil] at e9
   refine ⟨⟨k + 1, by omega⟩, (by dsimp only; omega), ?_⟩
   refine Pr ?_
   (try (conv in (SS.mk _ _) => dsimp only [aF, aX]))
   refine Nx ?_
   with_reducible repeat' first | exact True.intro | refine Ca ?_ | refine Cb ?_ | refine Cd ?_ | refine Ce ?_ | refine Cm ?_ ?_
   all_goals first | with_reducible refine Ez ?_ | exact Cl1 | (dsimp only [aF, aX]; exact Cl1) | exact (congrArg (al []) e9).symm | exact (List.map_id _).trans (congrArg (al []) e9).symm | exact Cl2 | (dsimp only [aF, aX]; exact Cl2) | (dsimp only [aF, aX] at *; exact Cl2) | skip
 have hkl : (k : Int) < 2 * (p2.length : Int) := by assumption
 have hun : ¬ lat L (aM (p1, p2) (k : Int)).1 < 0 := by assumption
 have hvn : ¬ lat L (aM (p1, p2) (k : Int)).2.1 < 0 := by assumption
 obtain ⟨⟨hu0, hu1⟩, ⟨hv0, hv1⟩, hne⟩ := hin hkl
 dsimp only at hu1 hv1
 have hut : (aM (p1, p2) (k : Int)).1.toNat < p1.length := (Int.toNat_lt hu0).2 hu1
 have hvt : (aM (p1, p2) (k : Int)).2.1.toNat < p1.length := (Int.toNat_lt hv0).2 hv1
 have hk64 : 0 ≤ (k : Int) ∧ (k : Int) < 64 := ⟨by omega, by omega⟩
 have hv16 : (aM (p1, p2) (k : Int)).2.1 < 64 := Int.lt_of_lt_of_le hv1 (by omega)
 have hul1 : (T.getD (aM (p1, p2) (k : Int)).1.toNat ([], [])).1.length = p1.length := htb.r0 _ hut
 have hul2 : (T.getD (aM (p1, p2) (k : Int)).1.toNat ([], [])).2.length = p1.length := htb.r1 _ hut
 have hvl1 : (T.getD (aM (p1, p2) (k : Int)).2.1.toNat ([], [])).1.length = p1.length := htb.r0 _ hvt
 have hvl2 : (T.getD (aM (p1, p2) (k : Int)).2.1.toNat ([], [])).2.length = p1.length := htb.r1 _ hvt
 have huT := ivx hT (o := (aM (p1, p2) (k : Int)).1) ⟨hu0, hu1⟩
 have hvT := ivx hT (o := (aM (p1, p2) (k : Int)).2.1) ⟨hv0, hv1⟩
 refine ⟨⟨{f : Nat // f ≤ 2}, fun f => ⟨[(3, Sx.one (.ptr 0 0)), (4, Sx.one (.ptr 1 0)), (5, Sx.one (.ptr 2 0)), (8, Sx.one (.mp 3)), (9, Sx.one (.int .i64 (fun _ => k))), (10, Sx.one (.int .i64 (fun _ => (aM (p1, p2) (k : Int)).1))), (11, Sx.one (.int .i64 (fun _ => (aM (p1, p2) (k : Int)).2.1))), (32, Sx.one (.int .i64 (fun _ => 2 * (p2.length : Int)))), (33, Sx.one (.int .i64 (fun _ => k))),
  (60, .val (.agg [.ro Ii (fun _ => (T.getD (aM (p1, p2) (k : Int)).1.toNat ([], [])).1), .ro Ii (fun _ => (T.getD (aM (p1, p2) (k : Int)).1.toNat ([], [])).2)])), (61, Sx.one (.int .i64 (fun _ => f.1)))],
  [.cells 25 [.ro ah (fun _ => p1), .ro az (fun _ => p2)], .cells 32 [.ro Ii (fun _ => L)], .cells 70 [.ro RwE (fun _ => T)], .map (.agg br) .bool (fun _ => al [] (cC (p1, p2) (L, ()) (T, ()) k ++ cPf (p1, p2) (L, ()) (T, ()) (k : Int) f.1))]⟩, fun f => 2 - f.1, ⟨0, Nat.zero_le _⟩⟩, ?_, fun (f : {f : Nat // f ≤ 2}) => ?_⟩
 · refine Pr ?_
   (try (conv in (SS.mk _ _) => dsimp only [aF, aX]))
   refine Nx ?_
   with_reducible repeat' first | exact True.intro | refine Ca ?_ | refine Cb ?_ | refine Cd ?_ | refine Ce ?_ | refine Cm ?_ ?_
   all_goals first | with_reducible refine Ez ?_ | exact Cl1 | (dsimp only [aF, aX]; exact Cl1) | rfl | (simp [cPf]; done) | exact Cl2 | (dsimp only [aF, aX]; exact Cl2) | (dsimp only [aF, aX] at *; exact Cl2) | skip
 obtain ⟨f, hf⟩ := f
 dsimp only
 by_cases hf2 : f = 2
 · subst hf2
   have e9 := oi (p1, p2) (L, ()) (T, ()) k
   rw [cP_all hun hvn] at e9
   refine Pr ?_
   (try (conv in (SS.mk _ _) => dsimp only [aF, aX]))
   refine Nx ?_
   with_reducible repeat' (first | exact True.intro | refine Ca ?_ | refine Cb ?_ | refine Cd ?_ | refine Ce ?_ | refine Cm ?_ ?_ | (first | refine Bo (fun hk h => ?_) fun hk h => ?_ | refine Al (fun hk h => ?_) fun hk h => ?_) <;> (try dsimp only [aF, aX] at h) <;> (try simp only [natCast_eq] at h) <;> (try (have hb : (_ : Bool) = _ := h; clear h; subst hb)) <;> (try replace hr := hri hr) <;> first | exact Dd | refine Nx ?_)
   all_goals first | with_reducible refine Ez ?_ | exact Cl1 | (dsimp only [aF, aX]; exact Cl1) | exact Cl2 | (dsimp only [aF, aX]; exact Cl2) | (dsimp only [aF, aX] at *; exact Cl2) | skip
   refine ⟨⟨k + 1, by omega⟩, (by dsimp only; omega), ?_⟩
   refine Pr ?_
   (try (conv in (SS.mk _ _) => dsimp only [aF, aX]))
   refine Nx ?_
   with_reducible repeat' first | exact True.intro | refine Ca ?_ | refine Cb ?_ | refine Cd ?_ | refine Ce ?_ | refine Cm ?_ ?_
   all_goals first | with_reducible refine Ez ?_ | exact Cl1 | (dsimp only [aF, aX]; exact Cl1) | exact (congrArg (al []) e9).symm | exact (List.map_id _).trans (congrArg (al []) e9).symm | exact Cl2 | (dsimp only [aF, aX]; exact Cl2) | (dsimp only [aF, aX] at *; exact Cl2) | skip
 have hf01 : f = 0 ∨ f = 1 := by omega
 rcases hf01 with rfl | rfl
 · refine Pr ?_
   (try (conv in (SS.mk _ _) => dsimp only [aF, aX]))
   refine Nx ?_
   with_reducible repeat' (first | exact True.intro | refine Ca ?_ | refine Cb ?_ | refine Cd ?_ | refine Ce ?_ | refine Cm ?_ ?_ | (first | refine Bo (fun hk h => ?_) fun hk h => ?_ | refine Al (fun hk h => ?_) fun hk h => ?_) <;> (try dsimp only [aF, aX] at h) <;> (try simp only [natCast_eq] at h) <;> (try (have hb : (_ : Bool) = _ := h; clear h; subst hb)) <;> (try replace hr := hri hr) <;> first | exact Dd | refine Nx ?_)
   all_goals first | with_reducible refine Ez ?_ | exact Cl1 | (dsimp only [aF, aX]; exact Cl1) | exact Cl2 | (dsimp only [aF, aX]; exact Cl2) | (dsimp only [aF, aX] at *; exact Cl2) | skip
   all_goals
    first
    | (exfalso; exact (by assumption : ¬ ((0 : Nat) : Int) = Int.ofNat 0) rfl)
    | (exfalso; exact y8 (by assumption))
    | skip
   · refine ⟨⟨{t : Nat // t ≤ p1.length}, fun t => ⟨[(3, Sx.one (.ptr 0 0)), (4, Sx.one (.ptr 1 0)), (5, Sx.one (.ptr 2 0)), (8, Sx.one (.mp 3)), (9, Sx.one (.int .i64 (fun _ => k))), (10, Sx.one (.int .i64 (fun _ => (aM (p1, p2) (k : Int)).1))), (11, Sx.one (.int .i64 (fun _ => (aM (p1, p2) (k : Int)).2.1))), (14, Sx.one (.li .i64 0)), (32, Sx.one (.int .i64 (fun _ => 2 * (p2.length : Int)))), (33, Sx.one (.int .i64 (fun _ => k))),
      (60, .val (.agg [.ro Ii (fun _ => (T.getD (aM (p1, p2) (k : Int)).1.toNat ([], [])).1), .ro Ii (fun _ => (T.getD (aM (p1, p2) (k : Int)).1.toNat ([], [])).2)])), (61, Sx.one (.int .i64 (fun _ => ((0 : Nat) : Int)))), (73, Sx.one (.ro Ii (fun _ => (T.getD (aM (p1, p2) (k : Int)).1.toNat ([], [])).1))), (74, Sx.one (.int .i64 (fun _ => p1.length))), (75, Sx.one (.int .i64 (fun _ => t.1)))],
      [.cells 25 [.ro ah (fun _ => p1), .ro az (fun _ => p2)], .cells 32 [.ro Ii (fun _ => L)], .cells 70 [.ro RwE (fun _ => T)], .map (.agg br) .bool (fun _ => al [] (cC (p1, p2) (L, ()) (T, ()) k ++ (cPf (p1, p2) (L, ()) (T, ()) (k : Int) 0 ++ cT (p1, p2) (L, ()) (T, ()) (k : Int) 0 t.1)))]⟩, fun t => p1.length - t.1, ⟨0, Nat.zero_le _⟩⟩, ?_, fun (t : {t : Nat // t ≤ p1.length}) => ?_⟩
     · refine Pr ?_
       (try (conv in (SS.mk _ _) => dsimp only [aF, aX]))
       refine Nx ?_
       with_reducible repeat' first | exact True.intro | refine Ca ?_ | refine Cb ?_ | refine Cd ?_ | refine Ce ?_ | refine Cm ?_ ?_
       all_goals first | with_reducible refine Ez ?_ | exact Cl1 | (dsimp only [aF, aX]; exact Cl1) | (rw [hul1]; done) | rfl | (simp [cT]; done) | exact Cl2 | (dsimp only [aF, aX]; exact Cl2) | (dsimp only [aF, aX] at *; exact Cl2) | skip
     obtain ⟨t, ht⟩ := t
     dsimp only
     have haft := aft_up (p := (p1, p2)) (o := (L, ())) (c := (k : Int)) (by assumption)
     have n1 := fun h => xG (p := (p1, p2)) (o := (L, ())) (T := (T, ())) (c := (k : Int)) (ph := 0) (t := t) h
     have n2 := fun h => xF (p := (p1, p2)) (o := (L, ())) (T := (T, ())) (c := (k : Int)) (ph := 0) (t := t) haft h
     have y1 := fun h h2 => xE (p := (p1, p2)) (o := (L, ())) (T := (T, ())) (c := (k : Int)) (ph := 0) (t := t) haft h h2
     have tx := fun (h : ((t : Nat) : Int) < (p1.length : Int)) => ivx hul1 (o := (t : Int)) ⟨by omega, h⟩
     have tv := fun (h : ((t : Nat) : Int) < (p1.length : Int)) => ivx hvl1 (o := (t : Int)) ⟨by omega, h⟩
     have okn := fun (h : ((t : Nat) : Int) < (p1.length : Int)) (h2 : 0 ≤ (T.getD (aM (p1, p2) (k : Int)).2.1.toNat ([], [])).1.getD t 0) => (pT (htb.e0 (aM (p1, p2) (k : Int)).2.1.toNat t hvt (by show _ < p1.length; omega)) h2).1
     dsimp only [j1] at n1 n2 y1
     refine Pr ?_
     (try (conv in (SS.mk _ _) => dsimp only [aF, aX]))
     refine Nx ?_
     with_reducible repeat' (first | exact True.intro | refine Ca ?_ | refine Cb ?_ | refine Cd ?_ | refine Ce ?_ | refine Cm ?_ ?_ | (first | refine Bo (fun hk h => ?_) fun hk h => ?_ | refine Al (fun hk h => ?_) fun hk h => ?_) <;> (try dsimp only [aF, aX] at h) <;> (try simp only [natCast_eq] at h) <;> (try (have hb : (_ : Bool) = _ := h; clear h; subst hb)) <;> (try replace hr := hri hr) <;> first | exact Dd | refine Nx ?_)
     all_goals first | with_reducible refine Ez ?_ | exact Cl1 | (dsimp only [aF, aX]; exact Cl1) | (dsimp only; simp only [aH, aJ]; exact ⟨hc, (by assumption), okn (by assumption) (by assumption)⟩) | (dsimp only; simp only [aH, aJ]; exact key3 hk64 (tO (p := (p1, p2)) hc (by assumption) (okn (by assumption) (by assumption))) ⟨hv0, hv16⟩) | exact Cl2 | (dsimp only [aF, aX]; exact Cl2) | (dsimp only [aF, aX] at *; exact Cl2) | skip
     · have e9 := congrArg (fun m => al [] (cC (p1, p2) (L, ()) (T, ()) k ++ (cPf (p1, p2) (L, ()) (T, ()) (k : Int) 0 ++ m))) (y1 (by assumption) (by assumption))
       (try dsimp only at e9)
       refine ⟨⟨t + 1, by omega⟩, (by dsimp only; omega), ?_⟩
       refine Pr ?_
       (try (conv in (SS.mk _ _) => dsimp only [aF, aX]))
       refine Nx ?_
       with_reducible repeat' first | exact True.intro | refine Ca ?_ | refine Cb ?_ | refine Cd ?_ | refine Ce ?_ | refine Cm ?_ ?_
       all_goals first | with_reducible refine Ez ?_ | exact Cl1 | (dsimp only [aF, aX]; exact Cl1) | exact (List.map_id _).trans (e9.trans (de _ _ _ _ _)).symm | (simp only [aH, aJ]; exact (e9.trans (de _ _ _ _ _)).symm) | exact Cl2 | (dsimp only [aF, aX]; exact Cl2) | (dsimp only [aF, aX] at *; exact Cl2) | skip
     · have e9 := congrArg (fun m => al [] (cC (p1, p2) (L, ()) (T, ()) k ++ (cPf (p1, p2) (L, ()) (T, ()) (k : Int) 0 ++ m))) (n2 (by assumption))
       (try dsimp only at e9)
       refine ⟨⟨t + 1, by omega⟩, (by dsimp only; omega), ?_⟩
       refine Pr ?_
       (try (conv in (SS.mk _ _) => dsimp only [aF, aX]))
       refine Nx ?_
       with_reducible repeat' first | exact True.intro | refine Ca ?_ | refine Cb ?_ | refine Cd ?_ | refine Ce ?_ | refine Cm ?_ ?_
       all_goals first | with_reducible refine Ez ?_ | exact Cl1 | (dsimp only [aF, aX]; exact Cl1) | exact (List.map_id _).trans e9.symm | exact Cl2 | (dsimp only [aF, aX]; exact Cl2) | (dsimp only [aF, aX] at *; exact Cl2) | skip
     · have e9 := congrArg (fun m => al [] (cC (p1, p2) (L, ()) (T, ()) k ++ (cPf (p1, p2) (L, ()) (T, ()) (k : Int) 0 ++ m))) (n1 (by assumption))
       (try dsimp only at e9)
       refine ⟨⟨t + 1, by omega⟩, (by dsimp only; omega), ?_⟩
       refine Pr ?_
       (try (conv in (SS.mk _ _) => dsimp only [aF, aX]))
       refine Nx ?_
       with_reducible repeat' first | exact True.intro | refine Ca ?_ | refine Cb ?_ | refine Cd ?_ | refine Ce ?_ | refine Cm ?_ ?_
       all_goals first | with_reducible refine Ez ?_ | exact Cl1 | (dsimp only [aF, aX]; exact Cl1) | exact (List.map_id _).trans e9.symm | exact Cl2 | (dsimp only [aF, aX]; exact Cl2) | (dsimp only [aF, aX] at *; exact Cl2) | skip
     have ht9 : t = p1.length := by omega
     rw [ht9]
     refine ⟨⟨1, by omega⟩, (by dsimp only; omega), ?_⟩
     refine Pr ?_
     (try (conv in (SS.mk _ _) => dsimp only [aF, aX]))
     refine Nx ?_
     with_reducible repeat' first | exact True.intro | refine Ca ?_ | refine Cb ?_ | refine Cd ?_ | refine Ce ?_ | refine Cm ?_ ?_
     all_goals first | with_reducible refine Ez ?_ | exact Cl1 | (dsimp only [aF, aX]; exact Cl1) | exact List.map_id _ | exact Cl2 | (dsimp only [aF, aX]; exact Cl2) | (dsimp only [aF, aX] at *; exact Cl2) | skip
   · refine ⟨⟨{t : Nat // t ≤ p1.length}, fun t => ⟨[(3, Sx.one (.ptr 0 0)), (4, Sx.one (.ptr 1 0)), (5, Sx.one (.ptr 2 0)), (8, Sx.one (.mp 3)), (9, Sx.one (.int .i64 (fun _ => k))), (10, Sx.one (.int .i64 (fun _ => (aM (p1, p2) (k : Int)).1))), (11, Sx.one (.int .i64 (fun _ => (aM (p1, p2) (k : Int)).2.1))), (14, Sx.one (.li .i64 1)), (32, Sx.one (.int .i64 (fun _ => 2 * (p2.length : Int)))), (33, Sx.one (.int .i64 (fun _ => k))),
      (60, .val (.agg [.ro Ii (fun _ => (T.getD (aM (p1, p2) (k : Int)).1.toNat ([], [])).1), .ro Ii (fun _ => (T.getD (aM (p1, p2) (k : Int)).1.toNat ([], [])).2)])), (61, Sx.one (.int .i64 (fun _ => ((0 : Nat) : Int)))), (73, Sx.one (.ro Ii (fun _ => (T.getD (aM (p1, p2) (k : Int)).1.toNat ([], [])).1))), (74, Sx.one (.int .i64 (fun _ => p1.length))), (75, Sx.one (.int .i64 (fun _ => t.1)))],
      [.cells 25 [.ro ah (fun _ => p1), .ro az (fun _ => p2)], .cells 32 [.ro Ii (fun _ => L)], .cells 70 [.ro RwE (fun _ => T)], .map (.agg br) .bool (fun _ => al [] (cC (p1, p2) (L, ()) (T, ()) k ++ (cPf (p1, p2) (L, ()) (T, ()) (k : Int) 0 ++ cT (p1, p2) (L, ()) (T, ()) (k : Int) 0 t.1)))]⟩, fun t => p1.length - t.1, ⟨0, Nat.zero_le _⟩⟩, ?_, fun (t : {t : Nat // t ≤ p1.length}) => ?_⟩
     · refine Pr ?_
       (try (conv in (SS.mk _ _) => dsimp only [aF, aX]))
       refine Nx ?_
       with_reducible repeat' first | exact True.intro | refine Ca ?_ | refine Cb ?_ | refine Cd ?_ | refine Ce ?_ | refine Cm ?_ ?_
       all_goals first | with_reducible refine Ez ?_ | exact Cl1 | (dsimp only [aF, aX]; exact Cl1) | (rw [hul1]; done) | rfl | (simp [cT]; done) | exact Cl2 | (dsimp only [aF, aX]; exact Cl2) | (dsimp only [aF, aX] at *; exact Cl2) | skip
     obtain ⟨t, ht⟩ := t
     dsimp only
     have haft := aft_dn (p := (p1, p2)) (o := (L, ())) (c := (k : Int)) (by assumption)
     have n1 := fun h => xG (p := (p1, p2)) (o := (L, ())) (T := (T, ())) (c := (k : Int)) (ph := 0) (t := t) h
     have n2 := fun h => xF (p := (p1, p2)) (o := (L, ())) (T := (T, ())) (c := (k : Int)) (ph := 0) (t := t) haft h
     have y1 := fun h h2 => xE (p := (p1, p2)) (o := (L, ())) (T := (T, ())) (c := (k : Int)) (ph := 0) (t := t) haft h h2
     have tx := fun (h : ((t : Nat) : Int) < (p1.length : Int)) => ivx hul1 (o := (t : Int)) ⟨by omega, h⟩
     have tv := fun (h : ((t : Nat) : Int) < (p1.length : Int)) => ivx hvl2 (o := (t : Int)) ⟨by omega, h⟩
     have okn := fun (h : ((t : Nat) : Int) < (p1.length : Int)) (h2 : 0 ≤ (T.getD (aM (p1, p2) (k : Int)).2.1.toNat ([], [])).2.getD t 0) => (pT (htb.e1 (aM (p1, p2) (k : Int)).2.1.toNat t hvt (by show _ < p1.length; omega)) h2).1
     dsimp only [j1] at n1 n2 y1
     refine Pr ?_
     (try (conv in (SS.mk _ _) => dsimp only [aF, aX]))
     refine Nx ?_
     with_reducible repeat' (first | exact True.intro | refine Ca ?_ | refine Cb ?_ | refine Cd ?_ | refine Ce ?_ | refine Cm ?_ ?_ | (first | refine Bo (fun hk h => ?_) fun hk h => ?_ | refine Al (fun hk h => ?_) fun hk h => ?_) <;> (try dsimp only [aF, aX] at h) <;> (try simp only [natCast_eq] at h) <;> (try (have hb : (_ : Bool) = _ := h; clear h; subst hb)) <;> (try replace hr := hri hr) <;> first | exact Dd | refine Nx ?_)
     all_goals first | with_reducible refine Ez ?_ | exact Cl1 | (dsimp only [aF, aX]; exact Cl1) | (dsimp only; simp only [aH, aJ]; exact ⟨hc, (by assumption), okn (by assumption) (by assumption)⟩) | (dsimp only; simp only [aH, aJ]; exact key3 hk64 (tO (p := (p1, p2)) hc (by assumption) (okn (by assumption) (by assumption))) ⟨hv0, hv16⟩) | exact Cl2 | (dsimp only [aF, aX]; exact Cl2) | (dsimp only [aF, aX] at *; exact Cl2) | skip
     · have e9 := congrArg (fun m => al [] (cC (p1, p2) (L, ()) (T, ()) k ++ (cPf (p1, p2) (L, ()) (T, ()) (k : Int) 0 ++ m))) (y1 (by assumption) (by assumption))
       (try dsimp only at e9)
       refine ⟨⟨t + 1, by omega⟩, (by dsimp only; omega), ?_⟩
       refine Pr ?_
       (try (conv in (SS.mk _ _) => dsimp only [aF, aX]))
       refine Nx ?_
       with_reducible repeat' first | exact True.intro | refine Ca ?_ | refine Cb ?_ | refine Cd ?_ | refine Ce ?_ | refine Cm ?_ ?_
       all_goals first | with_reducible refine Ez ?_ | exact Cl1 | (dsimp only [aF, aX]; exact Cl1) | exact (List.map_id _).trans (e9.trans (de _ _ _ _ _)).symm | (simp only [aH, aJ]; exact (e9.trans (de _ _ _ _ _)).symm) | exact Cl2 | (dsimp only [aF, aX]; exact Cl2) | (dsimp only [aF, aX] at *; exact Cl2) | skip
     · have e9 := congrArg (fun m => al [] (cC (p1, p2) (L, ()) (T, ()) k ++ (cPf (p1, p2) (L, ()) (T, ()) (k : Int) 0 ++ m))) (n2 (by assumption))
       (try dsimp only at e9)
       refine ⟨⟨t + 1, by omega⟩, (by dsimp only; omega), ?_⟩
       refine Pr ?_
       (try (conv in (SS.mk _ _) => dsimp only [aF, aX]))
       refine Nx ?_
       with_reducible repeat' first | exact True.intro | refine Ca ?_ | refine Cb ?_ | refine Cd ?_ | refine Ce ?_ | refine Cm ?_ ?_
       all_goals first | with_reducible refine Ez ?_ | exact Cl1 | (dsimp only [aF, aX]; exact Cl1) | exact (List.map_id _).trans e9.symm | exact Cl2 | (dsimp only [aF, aX]; exact Cl2) | (dsimp only [aF, aX] at *; exact Cl2) | skip
     · have e9 := congrArg (fun m => al [] (cC (p1, p2) (L, ()) (T, ()) k ++ (cPf (p1, p2) (L, ()) (T, ()) (k : Int) 0 ++ m))) (n1 (by assumption))
       (try dsimp only at e9)
       refine ⟨⟨t + 1, by omega⟩, (by dsimp only; omega), ?_⟩
       refine Pr ?_
       (try (conv in (SS.mk _ _) => dsimp only [aF, aX]))
       refine Nx ?_
       with_reducible repeat' first | exact True.intro | refine Ca ?_ | refine Cb ?_ | refine Cd ?_ | refine Ce ?_ | refine Cm ?_ ?_
       all_goals first | with_reducible refine Ez ?_ | exact Cl1 | (dsimp only [aF, aX]; exact Cl1) | exact (List.map_id _).trans e9.symm | exact Cl2 | (dsimp only [aF, aX]; exact Cl2) | (dsimp only [aF, aX] at *; exact Cl2) | skip
     have ht9 : t = p1.length := by omega
     rw [ht9]
     refine ⟨⟨1, by omega⟩, (by dsimp only; omega), ?_⟩
     refine Pr ?_
     (try (conv in (SS.mk _ _) => dsimp only [aF, aX]))
     refine Nx ?_
     with_reducible repeat' first | exact True.intro | refine Ca ?_ | refine Cb ?_ | refine Cd ?_ | refine Ce ?_ | refine Cm ?_ ?_
     all_goals first | with_reducible refine Ez ?_ | exact Cl1 | (dsimp only [aF, aX]; exact Cl1) | exact List.map_id _ | exact Cl2 | (dsimp only [aF, aX]; exact Cl2) | (dsimp only [aF, aX] at *; exact Cl2) | skip
 · refine Pr ?_
   (try (conv in (SS.mk _ _) => dsimp only [aF, aX]))
   refine Nx ?_
   with_reducible repeat' (first | exact True.intro | refine Ca ?_ | refine Cb ?_ | refine Cd ?_ | refine Ce ?_ | refine Cm ?_ ?_ | (first | refine Bo (fun hk h => ?_) fun hk h => ?_ | refine Al (fun hk h => ?_) fun hk h => ?_) <;> (try dsimp only [aF, aX] at h) <;> (try simp only [natCast_eq] at h) <;> (try (have hb : (_ : Bool) = _ := h; clear h; subst hb)) <;> (try replace hr := hri hr) <;> first | exact Dd | refine Nx ?_)
   all_goals first | with_reducible refine Ez ?_ | exact Cl1 | (dsimp only [aF, aX]; exact Cl1) | exact Cl2 | (dsimp only [aF, aX]; exact Cl2) | (dsimp only [aF, aX] at *; exact Cl2) | skip
   all_goals
    first
    | (exfalso; exact (by assumption : ¬ ((1 : Nat) : Int) = Int.ofNat 1) rfl)
    | (exfalso; exact y8 (by assumption))
    | skip
   · refine ⟨⟨{t : Nat // t ≤ p1.length}, fun t => ⟨[(3, Sx.one (.ptr 0 0)), (4, Sx.one (.ptr 1 0)), (5, Sx.one (.ptr 2 0)), (8, Sx.one (.mp 3)), (9, Sx.one (.int .i64 (fun _ => k))), (10, Sx.one (.int .i64 (fun _ => (aM (p1, p2) (k : Int)).1))), (11, Sx.one (.int .i64 (fun _ => (aM (p1, p2) (k : Int)).2.1))), (14, Sx.one (.li .i64 1)), (32, Sx.one (.int .i64 (fun _ => 2 * (p2.length : Int)))), (33, Sx.one (.int .i64 (fun _ => k))),
      (60, .val (.agg [.ro Ii (fun _ => (T.getD (aM (p1, p2) (k : Int)).1.toNat ([], [])).1), .ro Ii (fun _ => (T.getD (aM (p1, p2) (k : Int)).1.toNat ([], [])).2)])), (61, Sx.one (.int .i64 (fun _ => ((1 : Nat) : Int)))), (73, Sx.one (.ro Ii (fun _ => (T.getD (aM (p1, p2) (k : Int)).1.toNat ([], [])).2))), (74, Sx.one (.int .i64 (fun _ => p1.length))), (75, Sx.one (.int .i64 (fun _ => t.1)))],
      [.cells 25 [.ro ah (fun _ => p1), .ro az (fun _ => p2)], .cells 32 [.ro Ii (fun _ => L)], .cells 70 [.ro RwE (fun _ => T)], .map (.agg br) .bool (fun _ => al [] (cC (p1, p2) (L, ()) (T, ()) k ++ (cPf (p1, p2) (L, ()) (T, ()) (k : Int) 1 ++ cT (p1, p2) (L, ()) (T, ()) (k : Int) 1 t.1)))]⟩, fun t => p1.length - t.1, ⟨0, Nat.zero_le _⟩⟩, ?_, fun (t : {t : Nat // t ≤ p1.length}) => ?_⟩
     · refine Pr ?_
       (try (conv in (SS.mk _ _) => dsimp only [aF, aX]))
       refine Nx ?_
       with_reducible repeat' first | exact True.intro | refine Ca ?_ | refine Cb ?_ | refine Cd ?_ | refine Ce ?_ | refine Cm ?_ ?_
       all_goals first | with_reducible refine Ez ?_ | exact Cl1 | (dsimp only [aF, aX]; exact Cl1) | (rw [hul2]; done) | rfl | (simp [cT]; done) | exact Cl2 | (dsimp only [aF, aX]; exact Cl2) | (dsimp only [aF, aX] at *; exact Cl2) | skip
     obtain ⟨t, ht⟩ := t
     dsimp only
     have haft := aft_1 (p := (p1, p2)) (o := (L, ())) (c := (k : Int))
     have n1 := fun h => xG (p := (p1, p2)) (o := (L, ())) (T := (T, ())) (c := (k : Int)) (ph := 1) (t := t) h
     have n2 := fun h => xF (p := (p1, p2)) (o := (L, ())) (T := (T, ())) (c := (k : Int)) (ph := 1) (t := t) haft h
     have y1 := fun h h2 => xE (p := (p1, p2)) (o := (L, ())) (T := (T, ())) (c := (k : Int)) (ph := 1) (t := t) haft h h2
     have tx := fun (h : ((t : Nat) : Int) < (p1.length : Int)) => ivx hul2 (o := (t : Int)) ⟨by omega, h⟩
     have tv := fun (h : ((t : Nat) : Int) < (p1.length : Int)) => ivx hvl2 (o := (t : Int)) ⟨by omega, h⟩
     have okn := fun (h : ((t : Nat) : Int) < (p1.length : Int)) (h2 : 0 ≤ (T.getD (aM (p1, p2) (k : Int)).2.1.toNat ([], [])).2.getD t 0) => (pT (htb.e1 (aM (p1, p2) (k : Int)).2.1.toNat t hvt (by show _ < p1.length; omega)) h2).1
     dsimp only [j1] at n1 n2 y1
     refine Pr ?_
     (try (conv in (SS.mk _ _) => dsimp only [aF, aX]))
     refine Nx ?_
     with_reducible repeat' (first | exact True.intro | refine Ca ?_ | refine Cb ?_ | refine Cd ?_ | refine Ce ?_ | refine Cm ?_ ?_ | (first | refine Bo (fun hk h => ?_) fun hk h => ?_ | refine Al (fun hk h => ?_) fun hk h => ?_) <;> (try dsimp only [aF, aX] at h) <;> (try simp only [natCast_eq] at h) <;> (try (have hb : (_ : Bool) = _ := h; clear h; subst hb)) <;> (try replace hr := hri hr) <;> first | exact Dd | refine Nx ?_)
     all_goals first | with_reducible refine Ez ?_ | exact Cl1 | (dsimp only [aF, aX]; exact Cl1) | (dsimp only; simp only [aH, aJ]; exact ⟨hc, (by assumption), okn (by assumption) (by assumption)⟩) | (dsimp only; simp only [aH, aJ]; exact key3 hk64 (tO (p := (p1, p2)) hc (by assumption) (okn (by assumption) (by assumption))) ⟨hv0, hv16⟩) | exact Cl2 | (dsimp only [aF, aX]; exact Cl2) | (dsimp only [aF, aX] at *; exact Cl2) | skip
     · have e9 := congrArg (fun m => al [] (cC (p1, p2) (L, ()) (T, ()) k ++ (cPf (p1, p2) (L, ()) (T, ()) (k : Int) 1 ++ m))) (y1 (by assumption) (by assumption))
       (try dsimp only at e9)
       refine ⟨⟨t + 1, by omega⟩, (by dsimp only; omega), ?_⟩
       refine Pr ?_
       (try (conv in (SS.mk _ _) => dsimp only [aF, aX]))
       refine Nx ?_
       with_reducible repeat' first | exact True.intro | refine Ca ?_ | refine Cb ?_ | refine Cd ?_ | refine Ce ?_ | refine Cm ?_ ?_
       all_goals first | with_reducible refine Ez ?_ | exact Cl1 | (dsimp only [aF, aX]; exact Cl1) | exact (List.map_id _).trans (e9.trans (de _ _ _ _ _)).symm | (simp only [aH, aJ]; exact (e9.trans (de _ _ _ _ _)).symm) | exact Cl2 | (dsimp only [aF, aX]; exact Cl2) | (dsimp only [aF, aX] at *; exact Cl2) | skip
     · have e9 := congrArg (fun m => al [] (cC (p1, p2) (L, ()) (T, ()) k ++ (cPf (p1, p2) (L, ()) (T, ()) (k : Int) 1 ++ m))) (n2 (by assumption))
       (try dsimp only at e9)
       refine ⟨⟨t + 1, by omega⟩, (by dsimp only; omega), ?_⟩
       refine Pr ?_
       (try (conv in (SS.mk _ _) => dsimp only [aF, aX]))
       refine Nx ?_
       with_reducible repeat' first | exact True.intro | refine Ca ?_ | refine Cb ?_ | refine Cd ?_ | refine Ce ?_ | refine Cm ?_ ?_
       all_goals first | with_reducible refine Ez ?_ | exact Cl1 | (dsimp only [aF, aX]; exact Cl1) | exact (List.map_id _).trans e9.symm | exact Cl2 | (dsimp only [aF, aX]; exact Cl2) | (dsimp only [aF, aX] at *; exact Cl2) | skip
     · have e9 := congrArg (fun m => al [] (cC (p1, p2) (L, ()) (T, ()) k ++ (cPf (p1, p2) (L, ()) (T, ()) (k : Int) 1 ++ m))) (n1 (by assumption))
       (try dsimp only at e9)
       refine ⟨⟨t + 1, by omega⟩, (by dsimp only; omega), ?_⟩
       refine Pr ?_
       (try (conv in (SS.mk _ _) => dsimp only [aF, aX]))
       refine Nx ?_
       with_reducible repeat' first | exact True.intro | refine Ca ?_ | refine Cb ?_ | refine Cd ?_ | refine Ce ?_ | refine Cm ?_ ?_
       all_goals first | with_reducible refine Ez ?_ | exact Cl1 | (dsimp only [aF, aX]; exact Cl1) | exact (List.map_id _).trans e9.symm | exact Cl2 | (dsimp only [aF, aX]; exact Cl2) | (dsimp only [aF, aX] at *; exact Cl2) | skip
     have ht9 : t = p1.length := by omega
     rw [ht9]
     refine ⟨⟨2, by omega⟩, (by dsimp only; omega), ?_⟩
     refine Pr ?_
     (try (conv in (SS.mk _ _) => dsimp only [aF, aX]))
     refine Nx ?_
     with_reducible repeat' first | exact True.intro | refine Ca ?_ | refine Cb ?_ | refine Cd ?_ | refine Ce ?_ | refine Cm ?_ ?_
     all_goals first | with_reducible refine Ez ?_ | exact Cl1 | (dsimp only [aF, aX]; exact Cl1) | exact List.map_id _ | exact Cl2 | (dsimp only [aF, aX]; exact Cl2) | (dsimp only [aF, aX] at *; exact Cl2) | skip
theorem A4 : aE Tryz.prog AI 23 mF.con := aB.sound Tryz.call23 (fun x h => dps_ok x.1 x.2.1 x.2.2.1 h)
end Go.Proofs.YtcaoldilmnpjoaaGreat
