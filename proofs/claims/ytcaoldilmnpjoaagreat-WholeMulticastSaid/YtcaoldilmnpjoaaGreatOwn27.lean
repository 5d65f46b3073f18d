/-
  Part Own27 of the proof.
-/
import Derived.Test.YtcaoldilmnpjoaaGreatOwn26
import Derived.Test.YtcaoldilmnpjoaaGreatOwn10
import Derived.Test.YtcaoldilmnpjoaaGreatEng3
namespace Go.Proofs.YtcaoldilmnpjoaaGreat
set_option linter.all false
open Go.RowKit Go.Sx
set_option maxRecDepth 100000
set_option maxHeartbeats 16000000
def vsC (x : U VsS) : List (Chunk Ab) := [.map (.int .i64) (.lst Ii) (fun _ => (x ()).L), .cells 85 [.mp 0], .map (.int .i64) Ii (fun _ => (x ()).st), .cells 86 [.mp 2], .cells 30 [.hd 7 0], .cells 30 [.nilS], .cells 82 [.fnc 31 [3, 4, 5, 1, 6]], .row 3 Ii 0 (fun _ => (x ()).path)]
def unVs : List (Chunk Ab) → Option (U VsS)
 | [.map (.int .i64) (.lst (.int .i64)) L, .cells t1 [.mp a], .map (.int .i64) (.int .i64) st, .cells t2 [.mp b], .cells t3 [.hd c v], .cells t4 [.nilS], .cells t5 [.fnc f [d1, d2, d3, d4, d5]], .row t6 (.int .i64) u P] => (match aG t1 85 && aG a 0 && aG t2 86 && aG b 2 && aG t3 30 && aG c 7 && aG v 0 && aG t4 30 && aG t5 82 && aG f 31 && aG d1 3 && aG d2 4 && aG d3 5 && aG d4 1 && aG d5 6 && aG t6 3 && aG u 0 with
     | true => some (fun _ => ⟨L (), st (), P ()⟩)
     | false => none)
 | _ => none
theorem unVs_eq (cs : List (Chunk Ab)) (W : U VsS) (h : unVs cs = some W) : cs = vsC (fun _ => W ()) := by
 unfold unVs at h
 split at h <;> (try (cases h; done))
 split at h <;> cases h
 rename_i hb
 simp only [Bool.and_eq_true, ad] at hb
 obtain ⟨⟨⟨⟨⟨⟨⟨⟨⟨⟨⟨⟨⟨⟨⟨⟨rfl, rfl⟩, rfl⟩, rfl⟩, rfl⟩, rfl⟩, rfl⟩, rfl⟩, rfl⟩, rfl⟩, rfl⟩, rfl⟩, rfl⟩, rfl⟩, rfl⟩, rfl⟩, rfl⟩ := hb
 rfl
def vsP : AS Ab VsS := ⟨7, 8, unVs, vsC, by decide, unVs_eq⟩
def gp (n : Nat) : bp Ab VsS := ⟨vsP, [.cell Ii], [3, 4, 5, 1, 6], fun S (x : Int × Unit) => (∃ r B, VsP r B n S.L S.st x.1) ∧ S.path.length + n ≤ 100000 ∧ (∀ a, (nxs S.L a).length ≤ 2000000), [.cell .bool], fun S (x : Int × Unit) => (false, ()), fun S (x : Int × Unit) => ⟨S.L, l5 S.L n S.st x.1, S.path⟩⟩
noncomputable abbrev Ec0 : Env Ab := ⟨(30, ⟨.slice 3 (some (.int .i64)), 1, 3, [.nilS]⟩) :: (3, ⟨.int .i64, 1, 0, [.li .i64 0]⟩) :: E0.ti, E0.con⟩
theorem ec0Ok : aU Tryz.prog AI Ec0 := fV ai (t := 30) (i := ⟨.slice 3 (some (.int .i64)), 1, 0, [.nilS]⟩) (tb := 3) (j := ⟨.int .i64, 1, 0, [.li .i64 0]⟩) rfl rfl
noncomputable abbrev Evs (n : Nat) : Env Ab := ⟨Ec0.ti, [(31, (gp n).con)] ++ Ec0.con⟩
theorem pop1 {l : List Int} (h : 0 < l.length) : 0 ≤ eZ none () ∧ eZ none () ≤ fm (some fun _ => (l.length : Int) - 1) (fun _ => (l.length : Int)) () ∧ fm (some fun _ => (l.length : Int) - 1) (fun _ => (l.length : Int)) () ≤ (l.length : Int) :=
 ⟨show (0 : Int) ≤ 0 by decide, show (0 : Int) ≤ (l.length : Int) - 1 by omega, show (l.length : Int) - 1 ≤ (l.length : Int) by omega⟩
theorem pop2 (l : List Int) (c : Int) : List.drop (eZ none ()).toNat (List.take (fm (some fun _ => ((l ++ [c]).length : Int) - 1) (fun _ => ((l ++ [c]).length : Int)) ()).toNat (l ++ [c])) = l := by
 show List.drop 0 (List.take (((l ++ [c]).length : Int) - 1).toNat (l ++ [c])) = l
 have e : (((l ++ [c]).length : Int) - 1).toNat = l.length := by simp
 rw [e, List.drop_zero, List.take_left]
theorem AX (n : Nat) (S : VsS) (c : Int) (h : (gp (n + 1)).pre S (c, ())) : ∃ args : List SV, args.length + [3, 4, 5, 1, 6].length ≤ Tryz.f31.ntmps ∧ args.all (iX 7) = true ∧ (∀ (ρ : Ev) us, aL (Den ρ) (dM [.cell Ii] (fun _ => (c, ()))) us → aL (Den ρ) args us) ∧
 (svc (Evs n) 7 (aS Tryz.f31) ⟨cQ 0 (args ++ cg [3, 4, 5, 1, 6]), vsC (fun _ => S)⟩ (ek (Evs n).ti 7 Tryz.f31.results.toList (ag (svs [.cell .bool] (fun _ => (false, ())))) (vsC (fun _ => ⟨S.L, l5 S.L (n + 1) S.st c, S.path⟩))) ∨
  svc (Evs n) 7 (aS Tryz.f31) ⟨cQ 0 (args ++ cg [3, 4, 5, 1, 6]), vsC (fun _ => S)⟩ (nQ (Evs n).ti 7 Tryz.f31.results.toList (ag (svs [.cell .bool] (fun _ => (false, ())))) (vsC (fun _ => ⟨S.L, l5 S.L (n + 1) S.st c, S.path⟩)))) := by
 dsimp only [gp] at h ⊢
 obtain ⟨L, st, path⟩ := S
 obtain ⟨⟨r, B, hV⟩, hpl, hnl⟩ := h
 dsimp only at hV hpl hnl ⊢
 have hne : ¬ (bB (K := Int) st c).getD 0 = 1 := hV.ne1
 have hJ := AY hV
 have hE := fun (h : ¬ (bB (K := Int) st c).getD 0 = 2) => AZ L n st c h
 have h2 : (bB (K := Int) st c).getD 0 = 2 → l5 L (n + 1) st c = st := fun h => if_pos h
 refine ⟨dM [.cell Ii] (fun _ => (c, ())), Nat.le_of_ble_eq_true (by kernel_rfl), rfl, (fun ρ us hd => hd), .inl ?_⟩
 refine Pq ?_
 with_reducible repeat' (first | exact True.intro | refine Ca ?_ | refine Cb ?_ | refine Cd ?_ | refine Ce ?_ | refine Cm ?_ ?_ | (first | refine Bo (fun hk h => ?_) fun hk h => ?_ | refine Al (fun hk h => ?_) fun hk h => ?_) <;> (try exact absurd h hne) <;> (try exact absurd h Bool.false_ne_true) <;> (try (have hb : (_ : Bool) = _ := h; clear h; subst hb)) <;> (try replace hr := hri hr) <;> first | exact Dd | refine Nx ?_)
 all_goals first | with_reducible refine Ez ?_ | exact Cl1 | exact Cl2 | skip
 have hnc := hnl c
 refine ⟨⟨{j : Nat // j ≤ (nxs L c).length}, fun j => ⟨[(0, Sx.one (.int .i64 (fun _ => c))), (1, Sx.one (.ptr 3 0)), (2, Sx.one (.ptr 4 0)), (3, Sx.one (.ptr 5 0)), (4, Sx.one (.ptr 1 0)), (5, Sx.one (.ptr 6 0)), (31, Sx.one (.ro Ii (fun _ => nxs L c))), (32, Sx.one (.int .i64 (fun _ => (nxs L c).length))), (33, Sx.one (.int .i64 (fun _ => j.1)))],
  vsC (fun _ => ⟨L, l6 L n st c j.1, path ++ [c]⟩)⟩, fun j => (nxs L c).length - j.1, ⟨0, Nat.zero_le _⟩⟩, ?_, fun (j : {j : Nat // j ≤ (nxs L c).length}) => ?_⟩
 · refine Pq ?_
   with_reducible repeat' first | exact True.intro | refine Ca ?_ | refine Cb ?_ | refine Cd ?_ | refine Ce ?_ | refine Cm ?_ ?_
   all_goals first | with_reducible refine Ez ?_ | exact Cl1 | rfl | exact Cl2 | skip
 obtain ⟨j, hj⟩ := j
 dsimp only
 obtain ⟨_, hJ2⟩ := hJ j hj
 have hjx := fun (h : ((j : Nat) : Int) < ((nxs L c).length : Int)) => (⟨by omega, h⟩ : (0 : Int) ≤ (j : Int) ∧ (j : Int) < ((nxs L c).length : Int))
 have hpre := fun (h : ((j : Nat) : Int) < ((nxs L c).length : Int)) => (⟨⟨r, B, hJ2 (by omega)⟩, (by simp only [List.length_append, List.length_cons, List.length_nil]; omega), hnl⟩ : (∃ r B, VsP r B n L (l6 L n st c j) ((nxs L c).getD j 0)) ∧ (path ++ [c]).length + n ≤ 100000 ∧ ∀ a, (nxs L a).length ≤ 2000000)
 have hsc := fun (h : ((j : Nat) : Int) < ((nxs L c).length : Int)) => rP L n st c (j := j) (by omega)
 refine Pq ?_
 with_reducible repeat' (first | exact True.intro | refine Ca ?_ | refine Cb ?_ | refine Cd ?_ | refine Ce ?_ | refine Cm ?_ ?_ | (first | refine Bo (fun hk h => ?_) fun hk h => ?_ | refine Al (fun hk h => ?_) fun hk h => ?_) <;> (try exact absurd h hne) <;> (try exact absurd h Bool.false_ne_true) <;> (try (have hb : (_ : Bool) = _ := h; clear h; subst hb)) <;> (try replace hr := hri hr) <;> first | exact Dd | refine Nx ?_)
 all_goals first | with_reducible refine Ez ?_ | exact Cl1 | exact hjx (by assumption) | exact hpre (by assumption) | exact pop1 (by simp) | exact pop2 path c | (have hj9 : j = (nxs L c).length := (by omega); rw [hE (by assumption), ← hj9]; exact List.map_id _) | exact Cl2 | skip
 refine ⟨⟨j + 1, by omega⟩, (by dsimp only; omega), ?_⟩
 refine Pq ?_
 with_reducible repeat' first | exact True.intro | refine Ca ?_ | refine Cb ?_ | refine Cd ?_ | refine Ce ?_ | refine Cm ?_ ?_
 all_goals first | with_reducible refine Ez ?_ | exact Cl1 | exact (hsc (by assumption)).symm | exact (List.map_id _).trans (hsc (by assumption)).symm | rfl | exact Cl2 | skip
theorem rO : ∀ n : Nat, aE Tryz.prog AI 31 (gp n).con
 | 0 => bp.sound ai mixed (fn := Tryz.f31) (c := aS Tryz.f31) Tryz.call31 (by kernel_rfl) (by kernel_rfl) (by kernel_rfl) (q := gp 0) rfl fun S x h => by
   obtain ⟨⟨r, B, hV⟩, _⟩ := h
   exact hV.no.elim
 | n + 1 =>
   have hE : aU Tryz.prog AI (Evs n) := ec0Ok.add (rO n)
   bp.sound hE mixed (fn := Tryz.f31) (c := aS Tryz.f31) Tryz.call31 (by kernel_rfl) (by kernel_rfl) (by kernel_rfl) (q := gp (n + 1)) rfl fun S x h => AX n S x.1 h
end Go.Proofs.YtcaoldilmnpjoaaGreat
