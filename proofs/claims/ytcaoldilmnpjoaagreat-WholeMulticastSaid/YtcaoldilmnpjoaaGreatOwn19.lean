/-
  Part Own19 of the proof.
-/
import Derived.Test.YtcaoldilmnpjoaaGreatOwn17
import Derived.Test.YtcaoldilmnpjoaaGreatEng3
namespace Go.Proofs.YtcaoldilmnpjoaaGreat
set_option linter.all false
open Go.RowKit Go.Sx
set_option maxRecDepth 100000
set_option maxHeartbeats 16000000
def vM (p : a8) (o : ab) (up : List Bool) : Tup [DT.cell TabE, DT.cell Ii] := ((fg (dP p o up) p.1.length, ()), 0, ())
theorem map_pid (l : List (List Int × List Int)) : List.map (fun x => (List.map (fun l => l) x.fst, List.map (fun l => l) x.snd)) l = l := by simp
theorem ch_ok {p : a8} {o : ab} {up : List Bool} (h : LvU p o up) {t k : Nat} (ht : (t : Int) < (p.1.length : Int)) (hk : (k : Int) < (p.1.length : Int)) : ChOk (chS p o up t) (k : Int) (lat (chS p o up t).R (k : Int)) ∧ ChOk (chS p o up t) (k : Int) (lat (chS p o up t).F (k : Int)) := by
 have hE := bD h.lv.ok
 have hm := xk (L := o.1) (up := up) hE (to := (t : Int)) ⟨by omega, ht⟩
 have hn := h.lv.pl.n
 have h1 := B1 hm false (k := k)
 have h2 := B1 hm true (k := k)
 exact ⟨⟨hn, h.lv.pl.c, hE, h.up, h.lv.lv.len, oW _ _ _, oW _ _ _, ⟨h1.1, by show List.getD _ _ _ ≤ _; have := h1.2; simp only [chS]; exact Int.le_trans this (by omega)⟩⟩,
  ⟨hn, h.lv.pl.c, hE, h.up, h.lv.lv.len, oW _ _ _, oW _ _ _, ⟨h2.1, by show List.getD _ _ _ ≤ _; have := h2.2; simp only [chS]; exact Int.le_trans this (by omega)⟩⟩⟩
theorem ent_eq {p : a8} {o : ab} {up : List Bool} {k t : Nat} : (k = t → dP p o up (2 * k) t = -2 ∧ dP p o up (2 * k + 1) t = -2) ∧
 (k ≠ t → dP p o up (2 * k) t = chI (chS p o up t) (k : Int) (lat (chS p o up t).R (k : Int)) true ∧ dP p o up (2 * k + 1) t = chI (chS p o up t) (k : Int) (lat (chS p o up t).F (k : Int)) false) := by
 have e1 : 2 * k / 2 = k := by omega
 have e2 : (2 * k + 1) / 2 = k := by omega
 have e3 : 2 * k % 2 = 0 := by omega
 have e4 : ¬ (2 * k + 1) % 2 = 0 := by omega
 refine ⟨fun h => ⟨?_, ?_⟩, fun h => ⟨?_, ?_⟩⟩ <;> unfold dP
 · rw [e1, if_pos h]
 · rw [e2, if_pos h]
 · rw [e1, if_neg h, if_pos e3]
 · rw [e2, if_neg h, if_neg e4]
theorem no10 : ¬ ((1 : Nat) : Int) = Int.ofNat 0 := by decide
theorem tab_fin {e : Nat → Nat → Int} {n t : Nat} (h : t ≤ n) (h2 : ¬ (t : Int) < (n : Int)) : pairUp (eS e n t 0) = fg e n := by
 obtain rfl : t = n := by omega
 exact B5 e t
theorem row_fin {e : Nat → Nat → Int} {n t k : Nat} (h : k ≤ n) (h2 : ¬ (k : Int) < (n : Int)) : eS e n t (2 * k) = eS e n (t + 1) 0 := by
 obtain rfl : k = n := by omega
 exact zJ e k t
theorem in2 {n k l : Nat} (h : (k : Int) < (n : Int)) (hl : l = 2 * n) : 0 ≤ (k : Int) ∧ (k : Int) * Int.ofNat 2 + Int.ofNat 2 ≤ (l : Int) := by
 have e : Int.ofNat 2 = 2 := rfl
 rw [e, hl]
 omega
theorem Ay (k f : Nat) : ((k : Int) * Int.ofNat 2 + Int.ofNat f).toNat = 2 * k + f := by
 have e : Int.ofNat 2 = 2 := rfl
 have e2 : Int.ofNat f = (f : Int) := rfl
 rw [e, e2]
 omega
theorem B4 {e : Nat → Nat → Int} {n t k f : Nat} {v : Int} (h : (k : Int) < (n : Int)) (hf : f < 2) (ht : t ≤ 16) : ((eS e n t (2 * k + f)).getD ((k : Int) * Int.ofNat 2 + Int.ofNat f).toNat []).length + [v].length ≤ bP := by
 rw [Ay, uh e (by omega), List.length_map, List.length_range]
 show t + 1 ≤ 1099511627776
 omega
theorem B3 {e : Nat → Nat → Int} {n t k f : Nat} (h : (k : Int) < (n : Int)) (hf : f < 2) : (eS e n t (2 * k + f)).set ((k : Int) * Int.ofNat 2 + Int.ofNat f).toNat ((eS e n t (2 * k + f)).getD ((k : Int) * Int.ofNat 2 + Int.ofNat f).toNat [] ++ [e (2 * k + f) t]) = eS e n t (2 * k + (f + 1)) := by
 rw [Ay]
 exact B6 e (by omega)
noncomputable abbrev Em1 : Env Ab := ⟨tis, [(69, iB [0, 2, 1, 6, 7, 3, 4, 5] [0, 2, 1, 5, 6, 7, 3, 4] iV.Bw), (68, fq.con), (36, dE.con)] ++ E0.con⟩
theorem em1Ok : aU Tryz.prog AI Em1 := (((ai.add eB).add yb).add (eK _ _ xK))
noncomputable abbrev Em2 : Env Ab := ⟨(68, ⟨.slice 136 (some (.pair (.lst (.int .i64)) (.lst (.int .i64)))), 1, 3, [.nilS]⟩) :: (3, ⟨.int .i64, 1, 0, [.li .i64 0]⟩) :: Em1.ti, Em1.con⟩
theorem em2Ok : aU Tryz.prog AI Em2 := fV em1Ok (t := 68) (i := ⟨.slice 136 (some (.pair (.lst (.int .i64)) (.lst (.int .i64)))), 1, 0, [.nilS]⟩) (tb := 3) (j := ⟨.int .i64, 1, 0, [.li .i64 0]⟩) rfl rfl
def lY : aB := ⟨[.cell bT, .cell iq, .lst .bool], fun (x : a8 × ab × (List Bool) × Unit) => LvU x.1 x.2.1 x.2.2.1, [.cell TabE, .cell Ii], fun (x : a8 × ab × (List Bool) × Unit) => vM x.1 x.2.1 x.2.2.1⟩
theorem mak_ok (p : a8) (o : ab) (up : List Bool) (h : lY.pre (p, o, up, ())) : PTk Tryz.prog AI 22 lY (p, o, up, ()) := by
 dsimp only [PTk, lY] at h ⊢
 generalize hr : vM p o up = r
 have h0 := h; obtain ⟨p1, p2⟩ := p; obtain ⟨L, ou⟩ := o; have hLv := h.lv; have hup := h.up; have hn : p1.length ≤ 16 := hLv.pl.n; dsimp only at hup
 dsimp only [vM] at hr
 refine Tb em2Ok mixed (fn := Tryz.f22) ?_
 refine Pr ?_
 (try (conv in (SS.mk _ _) => dsimp only [aF, bG]))
 refine Nx ?_
 with_reducible repeat' (first | exact True.intro | refine Ca ?_ | refine Cb ?_ | refine Cd ?_ | (refine Ce ?_; (try ((repeat (first | rw [ifP] at hr | rw [ifM] at hr | rw [if_pos rfl] at hr)); subst hr))) | refine Cm ?_ ?_ | (first | refine Bo (fun hk h => ?_) fun hk h => ?_ | refine Al (fun hk h => ?_) fun hk h => ?_) <;> (try dsimp only [aF, bG] at h) <;> (try simp only [natCast_eq] at h) <;> (try (have hb : (_ : Bool) = _ := h; clear h; subst hb)) <;> (try replace hr := hri hr) <;> first | exact Dd | refine Nx ?_)
 all_goals first | with_reducible refine Ez ?_ | exact Cl1 | (dsimp only [aF, bG]; exact Cl1) | (dsimp only [dE]; simp only [aH, aJ]; exact hLv) | exact Cl2 | (dsimp only [aF, bG]; exact Cl2) | (dsimp only [aF, bG] at *; exact Cl2) | skip
 generalize he : dP (p1, p2) (L, ou) up = e at *
 refine ⟨⟨{t : Nat // t ≤ p1.length}, fun t => ⟨[(3, Sx.one (.ptr 0 0)), (4, Sx.one (.ptr 1 0)), (5, Sx.one (.ptr 2 0)), (6, Sx.one (.ptr 3 0)), (8, Sx.one (.ptr 5 0)), (38, Sx.one (.int .i64 (fun _ => p1.length))), (39, Sx.one (.int .i64 (fun _ => t.1)))],
  [.cells 25 [.ro ah (fun _ => p1), .ro az (fun _ => p2)], .cells 32 [.ro Ii (fun _ => L)], .cells 26 [.ro .bool (fun _ => up)], .cells 70 [.nilS], .nest 136 3 2 0 (fun _ => eS e p1.length t.1 0) none, .cells 70 [.hd 4 0]]⟩, fun t => p1.length - t.1, ⟨0, Nat.zero_le _⟩⟩, ?_, fun (t : {t : Nat // t ≤ p1.length}) => ?_⟩
 · refine Pr ?_
   (try (conv in (SS.mk _ _) => dsimp only [aF, bG]))
   refine Nx ?_
   with_reducible repeat' first | exact True.intro | refine Ca ?_ | refine Cb ?_ | refine Cd ?_ | refine Ce ?_ | refine Cm ?_ ?_
   all_goals first | with_reducible refine Ez ?_ | exact Cl1 | (dsimp only [aF, bG]; exact Cl1) | exact (zI e p1.length).symm | exact Cl2 | (dsimp only [aF, bG]; exact Cl2) | (dsimp only [aF, bG] at *; exact Cl2) | skip
 obtain ⟨t, ht⟩ := t
 dsimp only
 have hU : ((t : Nat) : Int) < (p1.length : Int) → LvU (p1, p2) (L, ou) up ∧ (0 : Int) ≤ (t : Int) ∧ ((t : Nat) : Int) < (p1.length : Int) := fun h1 => ⟨h0, by omega, h1⟩
 have hfin : ¬ ((t : Nat) : Int) < (p1.length : Int) → pairUp (eS e p1.length t 0) = fg e p1.length := fun h => tab_fin ht h
 refine Pr ?_
 (try (conv in (SS.mk _ _) => dsimp only [aF, bG]))
 refine Nx ?_
 with_reducible repeat' (first | exact True.intro | refine Ca ?_ | refine Cb ?_ | refine Cd ?_ | refine Ce ?_ | refine Cm ?_ ?_ | (first | refine Bo (fun hk h => ?_) fun hk h => ?_ | refine Al (fun hk h => ?_) fun hk h => ?_) <;> (try dsimp only [aF, bG] at h) <;> (try simp only [natCast_eq] at h) <;> (try (have hb : (_ : Bool) = _ := h; clear h; subst hb)) <;> (try replace hr := hri hr) <;> first | exact Dd | refine Nx ?_)
 all_goals first | with_reducible refine Ez ?_ | exact Cl1 | (dsimp only [aF, bG]; exact Cl1) | (dsimp only [fq]; simp only [aH, aJ]; exact hU (by assumption)) | (subst hr; rfl) | (subst hr; exact (map_pid _).trans (hfin (by assumption))) | exact Cl2 | (dsimp only [aF, bG]; exact Cl2) | (dsimp only [aF, bG] at *; exact Cl2) | skip
 have htn : ((t : Nat) : Int) < (p1.length : Int) := by assumption
 have hch := fun (k : Nat) (hk : ((k : Nat) : Int) < (p1.length : Int)) => ch_ok h0 (t := t) (k := k) htn hk
 have heq := fun k => ent_eq (p := (p1, p2)) (o := (L, ou)) (up := up) (k := k) (t := t)
 rw [he] at heq
 dsimp only [chS] at hch heq
 generalize hR : rsL (dh L p2 up p1.length (t : Int)) false p1.length = R at *
 generalize hF : rsL (dh L p2 up p1.length (t : Int)) true p1.length = F at *
 refine ⟨⟨{k : Nat // k ≤ p1.length}, fun k => ⟨[(3, Sx.one (.ptr 0 0)), (4, Sx.one (.ptr 1 0)), (5, Sx.one (.ptr 2 0)), (6, Sx.one (.ptr 3 0)), (8, Sx.one (.ptr 5 0)), (38, Sx.one (.int .i64 (fun _ => p1.length))), (9, Sx.one (.int .i64 (fun _ => t))), (39, Sx.one (.int .i64 (fun _ => t))), (10, Sx.one (.ptr 6 0)), (11, Sx.one (.ptr 7 0)), (13, .val (.fn 69 [.ptr 0 0, .ptr 2 0, .ptr 1 0, .ptr 6 0, .ptr 7 0])), (58, Sx.one (.int .i64 (fun _ => p1.length))), (59, Sx.one (.int .i64 (fun _ => k.1)))],
  [.cells 25 [.ro ah (fun _ => p1), .ro az (fun _ => p2)], .cells 32 [.ro Ii (fun _ => L)], .cells 26 [.ro .bool (fun _ => up)], .cells 70 [.nilS], .nest 136 3 2 0 (fun _ => eS e p1.length t (2 * k.1)) none, .cells 70 [.hd 4 0], .cells 30 [.ro Ii (fun _ => R)], .cells 30 [.ro Ii (fun _ => F)]]⟩, fun k => p1.length - k.1, ⟨0, Nat.zero_le _⟩⟩, ?_, fun (k : {k : Nat // k ≤ p1.length}) => ?_⟩
 · refine Pr ?_
   (try (conv in (SS.mk _ _) => dsimp only [aF, bG]))
   refine Nx ?_
   with_reducible repeat' first | exact True.intro | refine Ca ?_ | refine Cb ?_ | refine Cd ?_ | refine Ce ?_ | refine Cm ?_ ?_
   all_goals first | with_reducible refine Ez ?_ | exact Cl1 | (dsimp only [aF, bG]; exact Cl1) | rfl | (dsimp only [fq]; simp only [aH, aJ]; exact hR) | (dsimp only [fq]; simp only [aH, aJ]; exact hF) | exact Cl2 | (dsimp only [aF, bG]; exact Cl2) | (dsimp only [aF, bG] at *; exact Cl2) | skip
 obtain ⟨k, hk0⟩ := k
 dsimp only
 have hkx := fun (h : ((k : Nat) : Int) < (p1.length : Int)) => ivx (hch k h).1.R (o := (k : Int)) ⟨by omega, h⟩
 have hkf := fun (h : ((k : Nat) : Int) < (p1.length : Int)) => ivx (hch k h).1.F (o := (k : Int)) ⟨by omega, h⟩
 have hpR := fun (h : ((k : Nat) : Int) < (p1.length : Int)) => (hch k h).1
 have hpF := fun (h : ((k : Nat) : Int) < (p1.length : Int)) => (hch k h).2
 have hq1 := (heq k).1
 have hq2 := (heq k).2
 have hne : ¬ ((k : Nat) : Int) = ((t : Nat) : Int) → k ≠ t := fun h e => h (by rw [e])
 have hee : ((k : Nat) : Int) = ((t : Nat) : Int) → k = t := fun h => Int.ofNat.inj h
 have hfin2 : ¬ ((k : Nat) : Int) < (p1.length : Int) → eS e p1.length t (2 * k) = eS e p1.length (t + 1) 0 := fun h => row_fin hk0 h
 refine Pr ?_
 (try (conv in (SS.mk _ _) => dsimp only [aF, bG]))
 refine Nx ?_
 with_reducible repeat' (first | exact True.intro | refine Ca ?_ | refine Cb ?_ | refine Cd ?_ | refine Ce ?_ | refine Cm ?_ ?_ | (first | refine Bo (fun hk h => ?_) fun hk h => ?_ | refine Al (fun hk h => ?_) fun hk h => ?_) <;> (try dsimp only [aF, bG] at h) <;> (try simp only [natCast_eq] at h) <;> (try (have hb : (_ : Bool) = _ := h; clear h; subst hb)) <;> (try replace hr := hri hr) <;> first | exact Dd | refine Nx ?_)
 all_goals first | with_reducible refine Ez ?_ | exact Cl1 | (dsimp only [aF, bG]; exact Cl1) | exact hkx (by assumption) | exact hkf (by assumption) | exact hpR (by assumption) | exact hpF (by assumption) | exact Cl2 | (dsimp only [aF, bG]; exact Cl2) | (dsimp only [aF, bG] at *; exact Cl2) | skip
 rotate_right
 · refine ⟨⟨t + 1, by omega⟩, (by dsimp only; omega), ?_⟩
   refine Pr ?_
   (try (conv in (SS.mk _ _) => dsimp only [aF, bG]))
   refine Nx ?_
   with_reducible repeat' first | exact True.intro | refine Ca ?_ | refine Cb ?_ | refine Cd ?_ | refine Ce ?_ | refine Cm ?_ ?_
   all_goals first | with_reducible refine Ez ?_ | exact Cl1 | (dsimp only [aF, bG]; exact Cl1) | exact hfin2 (by assumption) | exact Cl2 | (dsimp only [aF, bG]; exact Cl2) | (dsimp only [aF, bG] at *; exact Cl2) | skip
 all_goals
  (refine ⟨⟨{f : Nat // f ≤ 2}, fun f => ⟨[(3, Sx.one (.ptr 0 0)), (4, Sx.one (.ptr 1 0)), (5, Sx.one (.ptr 2 0)), (6, Sx.one (.ptr 3 0)), (8, Sx.one (.ptr 5 0)), (38, Sx.one (.int .i64 (fun _ => p1.length))), (9, Sx.one (.int .i64 (fun _ => t))), (39, Sx.one (.int .i64 (fun _ => t))), (10, Sx.one (.ptr 6 0)), (11, Sx.one (.ptr 7 0)), (13, .val (.fn 69 [.ptr 0 0, .ptr 2 0, .ptr 1 0, .ptr 6 0, .ptr 7 0])), (58, Sx.one (.int .i64 (fun _ => p1.length))), (59, Sx.one (.int .i64 (fun _ => k))), (14, Sx.one (.int .i64 (fun _ => k))), (81, .val (.agg [.int .i64 (fun _ => e (2 * k) t), .int .i64 (fun _ => e (2 * k + 1) t)])), (82, Sx.one (.int .i64 (fun _ => f.1)))],
    [.cells 25 [.ro ah (fun _ => p1), .ro az (fun _ => p2)], .cells 32 [.ro Ii (fun _ => L)], .cells 26 [.ro .bool (fun _ => up)], .cells 70 [.nilS], .nest 136 3 2 0 (fun _ => eS e p1.length t (2 * k + f.1)) none, .cells 70 [.hd 4 0], .cells 30 [.ro Ii (fun _ => R)], .cells 30 [.ro Ii (fun _ => F)], .gone]⟩, fun f => 2 - f.1, ⟨0, Nat.zero_le _⟩⟩, ?_, fun (f : {f : Nat // f ≤ 2}) => ?_⟩
   · refine Pr ?_
     (try (conv in (SS.mk _ _) => dsimp only [aF, bG]))
     refine Nx ?_
     with_reducible repeat' first | exact True.intro | refine Ca ?_ | refine Cb ?_ | refine Cd ?_ | refine Ce ?_ | refine Cm ?_ ?_
     all_goals first | with_reducible refine Ez ?_ | exact Cl1 | (dsimp only [aF, bG]; exact Cl1) | rfl | exact (hq1 (hee (by assumption))).1.symm | exact (hq1 (hee (by assumption))).2.symm | exact (hq2 (hne (by assumption))).1.symm | exact (hq2 (hne (by assumption))).2.symm | exact Cl2 | (dsimp only [aF, bG]; exact Cl2) | (dsimp only [aF, bG] at *; exact Cl2) | skip
   obtain ⟨f, hf⟩ := f
   dsimp only
   have hkn : ((k : Nat) : Int) < (p1.length : Int) := by assumption
   have hin := in2 hkn (fH e p1.length t (2 * k + f))
   have ht16 : t ≤ 16 := by omega
   by_cases hf2 : f = 2
   · subst hf2
     have hk1 : k + 1 ≤ p1.length := by omega
     refine Pr ?_
     (try (conv in (SS.mk _ _) => dsimp only [aF, bG]))
     refine Nx ?_
     with_reducible repeat' (first | exact True.intro | refine Ca ?_ | refine Cb ?_ | refine Cd ?_ | refine Ce ?_ | refine Cm ?_ ?_ | (first | refine Bo (fun hk h => ?_) fun hk h => ?_ | refine Al (fun hk h => ?_) fun hk h => ?_) <;> (try dsimp only [aF, bG] at h) <;> (try simp only [natCast_eq] at h) <;> (try (have hb : (_ : Bool) = _ := h; clear h; subst hb)) <;> (try replace hr := hri hr) <;> first | exact Dd | refine Nx ?_)
     all_goals first | with_reducible refine Ez ?_ | exact Cl1 | (dsimp only [aF, bG]; exact Cl1) | exact Cl2 | (dsimp only [aF, bG]; exact Cl2) | (dsimp only [aF, bG] at *; exact Cl2) | skip
     refine ⟨⟨k + 1, hk1⟩, (by dsimp only; omega), ?_⟩
     refine Pr ?_
     (try (conv in (SS.mk _ _) => dsimp only [aF, bG]))
     refine Nx ?_
     with_reducible repeat' first | exact True.intro | refine Ca ?_ | refine Cb ?_ | refine Cd ?_ | refine Ce ?_ | refine Cm ?_ ?_
     all_goals first | with_reducible refine Ez ?_ | exact Cl1 | (dsimp only [aF, bG]; exact Cl1) | rfl | exact Cl2 | (dsimp only [aF, bG]; exact Cl2) | (dsimp only [aF, bG] at *; exact Cl2) | skip
   have hf01 : f = 0 ∨ f = 1 := by omega
   rcases hf01 with rfl | rfl
   · refine Pr ?_
     (try (conv in (SS.mk _ _) => dsimp only [aF, bG]))
     refine Nx ?_
     with_reducible repeat' (first | exact True.intro | refine Ca ?_ | refine Cb ?_ | refine Cd ?_ | refine Ce ?_ | refine Cm ?_ ?_ | (first | refine Bo (fun hk h => ?_) fun hk h => ?_ | refine Al (fun hk h => ?_) fun hk h => ?_) <;> (try dsimp only [aF, bG] at h) <;> (try simp only [natCast_eq] at h) <;> (try (have hb : (_ : Bool) = _ := h; clear h; subst hb)) <;> (try replace hr := hri hr) <;> first | exact Dd | refine Nx ?_)
     all_goals first | with_reducible refine Ez ?_ | exact Cl1 | (dsimp only [aF, bG]; exact Cl1) | exact hin | exact ⟨hin, rfl⟩ | exact B4 hkn (by decide) ht16 | exact Cl2 | (dsimp only [aF, bG]; exact Cl2) | (dsimp only [aF, bG] at *; exact Cl2) | skip
     all_goals
      first
      | (exfalso; exact (by assumption : ¬ ((0 : Nat) : Int) = Int.ofNat 0) rfl)
      | (exfalso; exact no10 (by assumption))
      | (refine ⟨⟨1, by omega⟩, (by dsimp only; omega), ?_⟩
         refine Pr ?_
         (try (conv in (SS.mk _ _) => dsimp only [aF, bG]))
         refine Nx ?_
         with_reducible repeat' first | exact True.intro | refine Ca ?_ | refine Cb ?_ | refine Cd ?_ | refine Ce ?_ | refine Cm ?_ ?_
         all_goals first | with_reducible refine Ez ?_ | exact Cl1 | (dsimp only [aF, bG]; exact Cl1) | exact B3 hkn (by decide) | rfl | exact Cl2 | (dsimp only [aF, bG]; exact Cl2) | (dsimp only [aF, bG] at *; exact Cl2) | skip)
   · refine Pr ?_
     (try (conv in (SS.mk _ _) => dsimp only [aF, bG]))
     refine Nx ?_
     with_reducible repeat' (first | exact True.intro | refine Ca ?_ | refine Cb ?_ | refine Cd ?_ | refine Ce ?_ | refine Cm ?_ ?_ | (first | refine Bo (fun hk h => ?_) fun hk h => ?_ | refine Al (fun hk h => ?_) fun hk h => ?_) <;> (try dsimp only [aF, bG] at h) <;> (try simp only [natCast_eq] at h) <;> (try (have hb : (_ : Bool) = _ := h; clear h; subst hb)) <;> (try replace hr := hri hr) <;> first | exact Dd | refine Nx ?_)
     all_goals first | with_reducible refine Ez ?_ | exact Cl1 | (dsimp only [aF, bG]; exact Cl1) | exact hin | exact ⟨hin, rfl⟩ | exact B4 hkn (by decide) ht16 | exact Cl2 | (dsimp only [aF, bG]; exact Cl2) | (dsimp only [aF, bG] at *; exact Cl2) | skip
     all_goals
      first
      | (exfalso; exact (by assumption : ¬ ((0 : Nat) : Int) = Int.ofNat 0) rfl)
      | (exfalso; exact no10 (by assumption))
      | (refine ⟨⟨2, by omega⟩, (by dsimp only; omega), ?_⟩
         refine Pr ?_
         (try (conv in (SS.mk _ _) => dsimp only [aF, bG]))
         refine Nx ?_
         with_reducible repeat' first | exact True.intro | refine Ca ?_ | refine Cb ?_ | refine Cd ?_ | refine Ce ?_ | refine Cm ?_ ?_
         all_goals first | with_reducible refine Ez ?_ | exact Cl1 | (dsimp only [aF, bG]; exact Cl1) | exact B3 hkn (by decide) | rfl | exact Cl2 | (dsimp only [aF, bG]; exact Cl2) | (dsimp only [aF, bG] at *; exact Cl2) | skip)
  )
theorem zl : aE Tryz.prog AI 22 lY.con := aB.sound Tryz.call22 (fun x h => mak_ok x.1 x.2.1 x.2.2.1 h)
end Go.Proofs.YtcaoldilmnpjoaaGreat
