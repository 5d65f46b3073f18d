/-
  Part Own43 of the proof.
-/
import Derived.Test.YtcaoldilmnpjoaaGreatOwn40
import Derived.Test.YtcaoldilmnpjoaaGreatOwn42
namespace Go.Proofs.YtcaoldilmnpjoaaGreat
set_option linter.all false
open Go.RowKit Go.Sx
set_option maxRecDepth 100000
set_option maxHeartbeats 16000000
def flL (n i : Nat) : List Int := (List.range n).map fun k : Nat => if k < i then -2 else 0
theorem ta (n i : Nat) : (flL n i).length = n := by simp [flL]
theorem Bi (n : Nat) : flL n 0 = List.replicate n 0 := by
 refine List.eq_replicate_iff.2 ⟨ta n 0, fun x hx => ?_⟩
 obtain ⟨k, _, rfl⟩ := List.mem_map.1 hx
 rw [if_neg (by omega)]
theorem Bj (n i : Nat) : flL n (i + 1) = (flL n i).set i (-2) := by
 refine List.ext_getElem (by simp [flL]) fun k h1 h2 => ?_
 rw [List.getElem_set]
 simp only [flL, List.getElem_map, List.getElem_range]
 by_cases e : i = k
 · subst e; rw [if_pos (by omega), if_pos rfl]
 · rw [if_neg e]
   by_cases e2 : k < i
   · rw [if_pos e2, if_pos (by omega)]
   · rw [if_neg e2, if_neg (by omega)]
theorem flL_end (n : Nat) : flL n n = List.replicate n (-2) := by
 refine List.eq_replicate_iff.2 ⟨ta n n, fun x hx => ?_⟩
 obtain ⟨k, hk, rfl⟩ := List.mem_map.1 hx
 rw [if_pos (List.mem_range.1 hk)]
def rcN : Nat := 40
def aV (p : a8) (X : fb) : Tup [DT.lst Ii, DT.cell .bool] := (ovL p X.1 X.2.1, true, ())
noncomputable abbrev Erh1 : Env Ab := ⟨tis, [(117, iB [3, 1, 4, 0, 2] [3, 1, 4, 0, 2] (eA rcN).con)] ++ E0.con⟩
theorem erh1Ok : aU Tryz.prog AI Erh1 := (ai.add (eK _ _ (uo rcN)))
def jd : aB := ⟨[.cell bT, .cell xV], fun (x : a8 × fb × Unit) => WyP x.1 (x.2.1).1 (x.2.1).2.1 (x.2.1).2.2, [.lst Ii, .cell .bool], fun (x : a8 × fb × Unit) => aV x.1 x.2.1⟩
theorem rea_ok (p : a8) (X : fb) (h : jd.pre (p, X, ())) : PTk Tryz.prog AI 93 jd (p, X, ()) := by
 dsimp only [PTk, jd] at h ⊢
 generalize hr : aV p X = r
 obtain ⟨p1, p2⟩ := p; obtain ⟨s, O, D⟩ := X; have hW := h; dsimp only at hW; have hn := hW.pl.n; have hrc := hW.rc; dsimp only at hn
 dsimp only [aV] at hr
 refine Tb erh1Ok mixed (fn := Tryz.f93) ?_
 refine Pq ?_
 with_reducible repeat' (first | exact True.intro | refine Ca ?_ | refine Cb ?_ | refine Cd ?_ | (refine Ce ?_; (try ((repeat (first | rw [ifP] at hr | rw [ifM] at hr | rw [if_pos rfl] at hr)); subst hr))) | refine Cm ?_ ?_ | (first | refine Bo (fun hk h => ?_) fun hk h => ?_ | refine Al (fun hk h => ?_) fun hk h => ?_) <;> (try (have hb : (_ : Bool) = _ := h; clear h; subst hb)) <;> (try replace hr := hri hr) <;> first | exact Dd | refine Nx ?_)
 all_goals first | with_reducible refine Ez ?_ | exact Cl1 | exact Cl2 | skip
 refine ⟨⟨{i : Nat // i ≤ p1.length}, fun i => ⟨[(2, Sx.one (.ptr 0 0)), (3, Sx.one (.ptr 1 0)), (6, Sx.one (.ptr 3 0)), (15, Sx.one (.int .i64 (fun _ => p1.length))), (16, Sx.one (.int .i64 (fun _ => i.1)))],
  [.cells 25 [.ro ah (fun _ => p1), .ro az (fun _ => p2)], .cells 52 [.int .i64 (fun _ => s), .ro (.lst Ii) (fun _ => O), .ro Ii (fun _ => D)], .row 3 Ii 0 (fun _ => flL p1.length i.1), .cells 30 [.hd 2 0]]⟩, fun i => p1.length - i.1, ⟨0, Nat.zero_le _⟩⟩, ?_, fun (i : {i : Nat // i ≤ p1.length}) => ?_⟩
 · refine Pq ?_
   with_reducible repeat' first | exact True.intro | refine Ca ?_ | refine Cb ?_ | refine Cd ?_ | refine Ce ?_ | refine Cm ?_ ?_
   all_goals first | with_reducible refine Ez ?_ | exact Cl1 | exact (congrArg (fun n => List.replicate n (0 : Int)) (Int.toNat_natCast p1.length)).trans (Bi p1.length).symm | (rw [List.length_replicate]; omega) | (simp; done) | exact Cl2 | skip
 obtain ⟨i, hi⟩ := i
 dsimp only
 have hl := ta p1.length i
 have hx := fun (h : (i : Int) < (p1.length : Int)) => (⟨by omega, by omega⟩ : (0 : Int) ≤ (i : Int) ∧ (i : Int) < ((flL p1.length i).length : Int))
 have hk9 : ¬ (i : Int) < (p1.length : Int) → flL p1.length i = List.replicate p1.length (-2) := fun h => by rw [show i = p1.length by omega]; exact flL_end _
 have hpre : ¬ (i : Int) < (p1.length : Int) → oU 40 ⟨p1, p2, s, O, D, flL p1.length i⟩ s (-1) := fun h => by rw [hk9 h]; exact hrc
 have hend : ¬ (i : Int) < (p1.length : Int) → cu (flL p1.length i) (rlT (p1, p2) O 40 s (-1)) = ovL (p1, p2) s O := fun h => by rw [hk9 h]; unfold ovL; rfl
 refine Pq ?_
 with_reducible repeat' (first | exact True.intro | refine Ca ?_ | refine Cb ?_ | refine Cd ?_ | refine Ce ?_ | refine Cm ?_ ?_ | (first | refine Bo (fun hk h => ?_) fun hk h => ?_ | refine Al (fun hk h => ?_) fun hk h => ?_) <;> (try (have hb : (_ : Bool) = _ := h; clear h; subst hb)) <;> (try replace hr := hri hr) <;> first | exact Dd | refine Nx ?_)
 all_goals first | with_reducible refine Ez ?_ | exact Cl1 | exact hx (by assumption) | exact hpre (by assumption) | (subst hr; first | exact hend (by assumption) | rfl) | exact Cl2 | skip
 refine ⟨⟨i + 1, by omega⟩, (by dsimp only; omega), ?_⟩
 refine Pq ?_
 with_reducible repeat' first | exact True.intro | refine Ca ?_ | refine Cb ?_ | refine Cd ?_ | refine Ce ?_ | refine Cm ?_ ?_
 all_goals first | with_reducible refine Ez ?_ | exact Cl1 | exact (Bj p1.length i).symm | exact Cl2 | skip
theorem zP : aE Tryz.prog AI 93 jd.con := aB.sound Tryz.call93 (fun x h => rea_ok x.1 x.2.1 h)
def kH : aj Ab := ⟨3, Int × a8 × Int, fun args cs => match args, cs with
 | [.val (.one (.int .i64 c)), .val (.one (.ptr 0 0)), .val (.one (.ptr 2 0))], [.cells 25 [.ro (.pair .str (.pair .bool (.int .i64))) p1, .ro (.pair (.int .i64) (.pair (.int .i64) (.pair (.int .i64) (.pair (.int .i64) (.pair (.int .i64) (.int .i64)))))) p2], .cells 52 [.int .i64 s, .ro (.lst (.int .i64)) O, .ro (.int .i64) D], .cells 3 [.int .i64 u]] =>
   some (fun _ => (c (), (p1 (), p2 ()), u ()))
 | _, _ => none, fun x => x.2.1.2.length ≤ 32, fun x => Sx.one (.sb (fun _ => !(lh (x ()).2.1 (x ()).1 (x ()).2.2).1))⟩
noncomputable abbrev Ewa1 : Env Ab := ⟨tis, [(44, iM.con)] ++ E0.con⟩
theorem ewa1Ok : aU Tryz.prog AI Ewa1 := (ai.add s8)
theorem wa_ok (args : List SV) (cs : List (Chunk Ab)) (x : U kH.X) (hx : kH.un args cs = some x) (h : kH.pre (x ())) : args.length ≤ Tryz.f90.ntmps ∧ svc Ewa1 3 (aS Tryz.f90) ⟨cQ 0 args, cs⟩ (ek tis 3 Tryz.f90.results.toList (kH.res x) cs) := by
 dsimp only [kH] at x hx h ⊢
 split at hx <;> (try cases hx)
 rename_i c p1 p2 s O D u
 refine ⟨Nat.le_of_ble_eq_true (by kernel_rfl), ?_⟩
 dsimp only at h
 refine Pq ?_
 with_reducible repeat' (first | exact True.intro | refine Ca ?_ | refine Cb ?_ | refine Cd ?_ | refine Ce ?_ | refine Cm ?_ ?_ | (first | refine Bo (fun hk h => ?_) fun hk h => ?_ | refine Al (fun hk h => ?_) fun hk h => ?_) <;> (try (have hb : (_ : Bool) = _ := h; clear h; subst hb)) <;> (try replace hr := hri hr) <;> first | exact Dd | refine Nx ?_)
 all_goals first | with_reducible refine Ez ?_ | exact Cl1 | exact Cl2 | skip
theorem AW : aE Tryz.prog AI 90 kH.con := aj.sound ewa1Ok mixed (fn := Tryz.f90) (c := aS Tryz.f90) Tryz.call90 (by kernel_rfl) (by kernel_rfl) (by kernel_rfl) fun args cs x hx h _ => wa_ok args cs x hx h
def gD : aj Ab := ⟨3, List Int × a8 × Int, fun args cs => match args, cs with
 | [.val (.one (.ro (.int .i64) C)), .val (.fn 90 [.ptr 0 0, .ptr 2 0])], [.cells 25 [.ro (.pair .str (.pair .bool (.int .i64))) p1, .ro (.pair (.int .i64) (.pair (.int .i64) (.pair (.int .i64) (.pair (.int .i64) (.pair (.int .i64) (.int .i64)))))) p2], .cells 52 [.int .i64 s, .ro (.lst (.int .i64)) O, .ro (.int .i64) D], .cells 3 [.int .i64 u]] =>
   some (fun _ => (C (), (p1 (), p2 ()), u ()))
 | _, _ => none, fun x => x.2.1.2.length ≤ 32 ∧ x.1.length ≤ 1000 ∧ ∀ c ∈ x.1, isE x.2.1 c x.2.2, fun x => Sx.one (.int .i64 (fun _ => -1))⟩
noncomputable abbrev Ewx : Env Ab := ⟨tis, [(90, kH.con)] ++ E0.con⟩
theorem ewxOk : aU Tryz.prog AI Ewx := ai.add AW
theorem wx_ok (args : List SV) (cs : List (Chunk Ab)) (x : U gD.X) (hx : gD.un args cs = some x) (h : gD.pre (x ())) : args.length ≤ Tryz.f77.ntmps ∧ svc Ewx 3 (aS Tryz.f77) ⟨cQ 0 args, cs⟩ (ek tis 3 Tryz.f77.results.toList (gD.res x) cs) := by
 dsimp only [gD] at x hx h ⊢
 split at hx <;> (try cases hx)
 rename_i C p1 p2 s O D u
 refine ⟨Nat.le_of_ble_eq_true (by kernel_rfl), ?_⟩
 obtain ⟨hc, hC, hE⟩ := h
 dsimp only at hc hC hE
 dsimp only [U] at C u p1 p2 s O D
 refine Pq ?_
 with_reducible repeat' (first | exact True.intro | refine Ca ?_ | refine Cb ?_ | refine Cd ?_ | refine Ce ?_ | refine Cm ?_ ?_ | (first | refine Bo (fun hk h => ?_) fun hk h => ?_ | refine Al (fun hk h => ?_) fun hk h => ?_) <;> (try (have hb : (_ : Bool) = _ := h; clear h; subst hb)) <;> (try replace hr := hri hr) <;> first | exact Dd | refine Nx ?_)
 all_goals first | with_reducible refine Ez ?_ | exact Cl1 | exact Cl2 | skip
 refine ⟨⟨{i : Nat // i ≤ (C ()).length}, fun i => ⟨[(0, Sx.one (.ro Ii C)), (1, .val (.fn 90 [.ptr 0 0, .ptr 2 0])), (7, Sx.one (.int .i64 (fun _ => (C ()).length))), (8, Sx.one (.int .i64 (fun _ => i.1)))],
  [.cells 25 [.ro ah p1, .ro az p2], .cells 52 [.int .i64 s, .ro (.lst Ii) O, .ro Ii D], .cells 3 [.int .i64 u]]⟩, fun i => (C ()).length - i.1, ⟨0, Nat.zero_le _⟩⟩, ?_, fun (i : {i : Nat // i ≤ (C ()).length}) => ?_⟩
 · refine Pq ?_
   with_reducible repeat' first | exact True.intro | refine Ca ?_ | refine Cb ?_ | refine Cd ?_ | refine Ce ?_ | refine Cm ?_ ?_
   all_goals first | with_reducible refine Ez ?_ | exact Cl1 | rfl | exact Cl2 | skip
 obtain ⟨i, hi⟩ := i
 dsimp only
 have hx := fun (h : (i : Int) < ((C ()).length : Int)) => (⟨by omega, h⟩ : (0 : Int) ≤ (i : Int) ∧ (i : Int) < ((C ()).length : Int))
 have hin : ∀ (h : (i : Int) < ((C ()).length : Int)), (lh (p1 (), p2 ()) ((C ()).getD (i : Int).toNat 0) (u ())).1 = true := fun h => hE _ (ll (by omega))
 refine Pq ?_
 with_reducible repeat' (first | exact True.intro | refine Ca ?_ | refine Cb ?_ | refine Cd ?_ | refine Ce ?_ | refine Cm ?_ ?_ | (first | refine Bo (fun hk h => ?_) fun hk h => ?_ | refine Al (fun hk h => ?_) fun hk h => ?_) <;> (try (have hb : (_ : Bool) = _ := h; clear h; subst hb)) <;> (try replace hr := hri hr) <;> first | exact Dd | refine Nx ?_)
 all_goals first | with_reducible refine Ez ?_ | exact Cl1 | exact hx (by assumption) | exact hc | exact absurd ((hin (by assumption)).symm.trans h) (fun e => Bool.noConfusion e) | exact Cl2 | skip
 refine ⟨⟨i + 1, by omega⟩, (by dsimp only; omega), ?_⟩
 refine Pq ?_
 with_reducible repeat' first | exact True.intro | refine Ca ?_ | refine Cb ?_ | refine Cd ?_ | refine Ce ?_ | refine Cm ?_ ?_
 all_goals first | with_reducible refine Ez ?_ | exact Cl1 | rfl | exact Cl2 | skip
theorem AT : aE Tryz.prog AI 77 gD.con := aj.sound ewxOk mixed (fn := Tryz.f77) (c := aS Tryz.f77) Tryz.call77 (by kernel_rfl) (by kernel_rfl) (by kernel_rfl) fun args cs x hx h _ => wx_ok args cs x hx h
def kG : aj Ab := ⟨3, List Int × a8 × Int, gD.un, gD.pre, fun x => Sx.one (.sb (fun _ => false))⟩
noncomputable abbrev Ewc : Env Ab := ⟨tis, [(77, gD.con)] ++ E0.con⟩
theorem ewcOk : aU Tryz.prog AI Ewc := ai.add AT
theorem wc_ok (args : List SV) (cs : List (Chunk Ab)) (x : U kG.X) (hx : kG.un args cs = some x) (h : kG.pre (x ())) : args.length ≤ Tryz.f92.ntmps ∧ svc Ewc 3 (aS Tryz.f92) ⟨cQ 0 args, cs⟩ (ek tis 3 Tryz.f92.results.toList (kG.res x) cs) := by
 dsimp only [kG, gD] at x hx h ⊢
 split at hx <;> (try cases hx)
 rename_i C p1 p2 s O D u
 refine ⟨Nat.le_of_ble_eq_true (by kernel_rfl), ?_⟩
 dsimp only at h
 refine Pq ?_
 with_reducible repeat' (first | exact True.intro | refine Ca ?_ | refine Cb ?_ | refine Cd ?_ | refine Ce ?_ | refine Cm ?_ ?_ | (first | refine Bo (fun hk h => ?_) fun hk h => ?_ | refine Al (fun hk h => ?_) fun hk h => ?_) <;> (try (have hb : (_ : Bool) = _ := h; clear h; subst hb)) <;> (try replace hr := hri hr) <;> first | exact Dd | refine Nx ?_)
 all_goals first | with_reducible refine Ez ?_ | exact Cl1 | exact h | exact Cl2 | skip
theorem AU : aE Tryz.prog AI 92 kG.con := aj.sound ewcOk mixed (fn := Tryz.f92) (c := aS Tryz.f92) Tryz.call92 (by kernel_rfl) (by kernel_rfl) (by kernel_rfl) fun args cs x hx h _ => wc_ok args cs x hx h
end Go.Proofs.YtcaoldilmnpjoaaGreat
