/-
  Part Own45 of the proof.
-/
import Derived.Test.YtcaoldilmnpjoaaGreatOwn44
import Derived.Test.YtcaoldilmnpjoaaGreatOwn16
import Derived.Test.YtcaoldilmnpjoaaGreatOwn17
import Derived.Test.YtcaoldilmnpjoaaGreatEng3
namespace Go.Proofs.YtcaoldilmnpjoaaGreat
set_option linter.all false
open Go.RowKit Go.Sx
set_option maxRecDepth 100000
set_option maxHeartbeats 16000000
structure PwOk (p : a8) (o : ab) (V : List Int) (s x : Int) (w : List Int) : Prop where
 lg : LgP p o s w
 len : w.length ≤ 100
 nod : b6 p s w w.length = x
 ov0 : V.getD s.toNat 0 = -1
 ov : ∀ i, i < w.length → V.getD (b6 p s w (i + 1)).toNat 0 = w.getD i 0 ∧ (0 ≤ w.getD i 0 ∧ w.getD i 0 < (p.2.length : Int)) ∧ (otF p (w.getD i 0) (b6 p s w (i + 1))).1 = b6 p s w i
structure LgaP (p : a8) (o : ab) (X : fb) : Prop where
 wy : WyP p X.1 X.2.1 X.2.2
 lv : LvP p o
 pw : ∀ k : Nat, k < p.1.length → ¬ (ovL p X.1 X.2.1).getD k 0 = -2 → ∃ w, PwOk p o (ovL p X.1 X.2.1) X.1 (k : Int) w
def kT (w : List Int) (i : Nat) : List Int := (w.drop (w.length - i)).reverse
theorem BB (w : List Int) : kT w 0 = [] := by unfold kT; simp
theorem pth_end (w : List Int) : kT w w.length = w.reverse := by unfold kT; simp
theorem pth_len {w : List Int} {i : Nat} (h : i ≤ w.length) : (kT w i).length = i := by unfold kT; rw [List.length_reverse, List.length_drop]; omega
theorem BC {w : List Int} {i : Nat} (h : i < w.length) : kT w (i + 1) = kT w i ++ [w.getD (w.length - (i + 1)) 0] := by
 unfold kT
 rw [List.drop_eq_getElem_cons (show w.length - (i + 1) < w.length by omega), List.reverse_cons, show w.length - (i + 1) + 1 = w.length - i by omega, List.getD_eq_getElem?_getD, List.getElem?_eq_getElem (show w.length - (i + 1) < w.length by omega)]; rfl
structure PtS (p : a8) (V : List Int) (w : List Int) (i : Nat) (a b : Int) : Prop where
 rng : 0 ≤ a ∧ a < (p.1.length : Int)
 ge : 0 ≤ V.getD a.toNat 0 → i < w.length
 lt : ¬ 0 ≤ V.getD a.toNat 0 → i = w.length
 cab : i < w.length → (0 ≤ V.getD a.toNat 0 ∧ V.getD a.toNat 0 < (p.2.length : Int)) ∧ (otF p (V.getD a.toNat 0) a).1 = b
 row : i < w.length → kT w (i + 1) = kT w i ++ [V.getD a.toNat 0]
theorem PwOk.pts {p : a8} {o : ab} {V : List Int} {s x : Int} {w : List Int} (h : PwOk p o V s x w) {i : Nat} (hi : i ≤ w.length) : PtS p V w i (b6 p s w (w.length - i)) (b6 p s w (w.length - (i + 1))) := by
 have h1 : i < w.length → V.getD (b6 p s w (w.length - i)).toNat 0 = w.getD (w.length - (i + 1)) 0 ∧ (0 ≤ w.getD (w.length - (i + 1)) 0 ∧ w.getD (w.length - (i + 1)) 0 < (p.2.length : Int)) ∧ (otF p (w.getD (w.length - (i + 1)) 0) (b6 p s w (w.length - i))).1 = b6 p s w (w.length - (i + 1)) := fun hl => by
  have := h.ov (w.length - (i + 1)) (by omega)
  rw [show w.length - (i + 1) + 1 = w.length - i by omega] at this
  exact this
 have h2 : i = w.length → V.getD (b6 p s w (w.length - i)).toNat 0 = -1 := fun e => by rw [e, Nat.sub_self]; exact h.ov0
 refine ⟨(h.lg.lvl _ (Nat.sub_le _ _)).1, fun hg => ?_, fun hg => ?_, fun hl => ?_, fun hl => ?_⟩
 · by_cases e : i = w.length
   · rw [h2 e] at hg; exact absurd hg (by decide)
   · omega
 · by_cases e : i = w.length
   · exact e
   · exfalso; apply hg
     rw [(h1 (by omega)).1]; exact (h1 (by omega)).2.1.1
 · rw [(h1 hl).1]; exact (h1 hl).2
 · rw [BC hl, (h1 hl).1]
def c9 (p : a8) (o : ab) (X : fb) : Tup [DT.cell .bool] := (true, ())
noncomputable abbrev Elga : Env Ab := ⟨tis, [(53, lz (.int .i64) ga.con), (52, sg.Bx), (45, cx.con), (36, dE.con), (46, ed.con)] ++ E0.con⟩
theorem elgaOk : aU Tryz.prog AI Elga := (((((ai.add mZ).add eB).add lO).add zB).add (kE wm))
def lZ : aB := ⟨[.cell bT, .cell iq, .cell xV], fun (x : a8 × ab × fb × Unit) => LgaP x.1 x.2.1 x.2.2.1, [.cell .bool], fun (x : a8 × ab × fb × Unit) => c9 x.1 x.2.1 x.2.2.1⟩
theorem lga_ok (p : a8) (o : ab) (X : fb) (h : lZ.pre (p, o, X, ())) : PTk Tryz.prog AI 17 lZ (p, o, X, ()) := by
 dsimp only [PTk, lZ] at h ⊢
 generalize hr : c9 p o X = r
 obtain ⟨p1, p2⟩ := p; obtain ⟨L, ou⟩ := o; obtain ⟨s, O, D⟩ := X; obtain ⟨hW, hLv, hpw⟩ := h; dsimp only at hW hpw; have hT := hW.tr; have hn := hW.pl.n; dsimp only at hn
 dsimp only [c9] at hr
 refine Tb elgaOk mixed (fn := Tryz.f17) ?_
 refine Pr ?_
 (try (conv in (SS.mk _ _) => dsimp only [aV, aF, bM]))
 refine Nx ?_
 with_reducible repeat' (first | exact True.intro | refine Ca ?_ | refine Cb ?_ | refine Cd ?_ | (refine Ce ?_; (try ((repeat (first | rw [ifP] at hr | rw [ifM] at hr | rw [if_pos rfl] at hr)); subst hr))) | refine Cm ?_ ?_ | (first | refine Bo (fun hk h => ?_) fun hk h => ?_ | refine Al (fun hk h => ?_) fun hk h => ?_) <;> (try dsimp only [aV, aF, bM] at h) <;> (try simp only [natCast_eq] at h) <;> (try (have hb : (_ : Bool) = _ := h; clear h; subst hb)) <;> (try replace hr := hri hr) <;> first | exact Dd | refine Nx ?_)
 all_goals first | with_reducible refine Ez ?_ | exact Cl1 | (dsimp only [aV, aF, bM]; exact Cl1) | exact hLv | (dsimp only; simp only [aH, aJ]; first | exact hW | exact hLv) | exact Cl2 | (dsimp only [aV, aF, bM]; exact Cl2) | (dsimp only [aV, aF, bM] at *; exact Cl2) | skip
 obtain ⟨V, hV⟩ : ∃ V, ovL (p1, p2) s O = V := ⟨_, rfl⟩
 have hVl : V.length = p1.length := by rw [← hV]; exact tB _ _ _
 rw [hV] at hpw
 refine ⟨⟨{k : Nat // k ≤ V.length}, fun k => ⟨[(3, Sx.one (.ptr 0 0)), (4, Sx.one (.ptr 1 0)), (5, Sx.one (.ptr 2 0)), (7, Sx.one (.ro Ii (fun _ => V))), (27, Sx.one (.ro Ii (fun _ => V))), (28, Sx.one (.int .i64 (fun _ => V.length))), (29, Sx.one (.int .i64 (fun _ => k.1)))],
  [.cells 25 [.ro ah (fun _ => p1), .ro az (fun _ => p2)], .cells 32 [.ro Ii (fun _ => L)], .cells 52 [.int .i64 (fun _ => s), .ro (.lst Ii) (fun _ => O), .ro Ii (fun _ => D)]]⟩, fun k => V.length - k.1, ⟨0, Nat.zero_le _⟩⟩, ?_, fun (k : {k : Nat // k ≤ V.length}) => ?_⟩
 · refine Pr ?_
   (try (conv in (SS.mk _ _) => dsimp only [aV, aF, bM]))
   refine Nx ?_
   with_reducible repeat' first | exact True.intro | refine Ca ?_ | refine Cb ?_ | refine Cd ?_ | refine Ce ?_ | refine Cm ?_ ?_
   all_goals first | with_reducible refine Ez ?_ | exact Cl1 | (dsimp only [aV, aF, bM]; exact Cl1) | with_reducible rfl | (dsimp only [ed, aV]; (try simp only [aH, aJ]); first | exact hV | exact congrArg (fun l : List Int => (l.length : Int)) hV) | exact Cl2 | (dsimp only [aV, aF, bM]; exact Cl2) | (dsimp only [aV, aF, bM] at *; exact Cl2) | skip
 obtain ⟨k, hk⟩ := k
 dsimp only
 have hx := fun (h : (k : Int) < (V.length : Int)) => (⟨by omega, h⟩ : (0 : Int) ≤ (k : Int) ∧ (k : Int) < (V.length : Int))
 refine Pr ?_
 (try (conv in (SS.mk _ _) => dsimp only [aV, aF, bM]))
 refine Nx ?_
 with_reducible repeat' (first | exact True.intro | refine Ca ?_ | refine Cb ?_ | refine Cd ?_ | refine Ce ?_ | refine Cm ?_ ?_ | (first | refine Bo (fun hk h => ?_) fun hk h => ?_ | refine Al (fun hk h => ?_) fun hk h => ?_) <;> (try dsimp only [aV, aF, bM] at h) <;> (try simp only [natCast_eq] at h) <;> (try (have hb : (_ : Bool) = _ := h; clear h; subst hb)) <;> (try replace hr := hri hr) <;> first | exact Dd | refine Nx ?_)
 all_goals first | with_reducible refine Ez ?_ | exact Cl1 | (dsimp only [aV, aF, bM]; exact Cl1) | exact hx (by assumption) | (subst hr; rfl) | exact Cl2 | (dsimp only [aV, aF, bM]; exact Cl2) | (dsimp only [aV, aF, bM] at *; exact Cl2) | skip
 · refine ⟨⟨k + 1, by omega⟩, (by dsimp only; omega), ?_⟩
   refine Pr ?_
   (try (conv in (SS.mk _ _) => dsimp only [aV, aF, bM]))
   refine Nx ?_
   with_reducible repeat' first | exact True.intro | refine Ca ?_ | refine Cb ?_ | refine Cd ?_ | refine Ce ?_ | refine Cm ?_ ?_
   all_goals first | with_reducible refine Ez ?_ | exact Cl1 | (dsimp only [aV, aF, bM]; exact Cl1) | rfl | exact Cl2 | (dsimp only [aV, aF, bM]; exact Cl2) | (dsimp only [aV, aF, bM] at *; exact Cl2) | skip
 obtain ⟨w, hw⟩ := hpw k (by omega) (by assumption)
 have hwl := hw.len
 have hkV : (k : Int) < (V.length : Int) := by assumption
 refine ⟨⟨{i : Nat // i ≤ w.length}, fun i => ⟨[(3, Sx.one (.ptr 0 0)), (4, Sx.one (.ptr 1 0)), (5, Sx.one (.ptr 2 0)), (7, Sx.one (.ro Ii (fun _ => V))), (27, Sx.one (.ro Ii (fun _ => V))), (28, Sx.one (.int .i64 (fun _ => V.length))), (29, Sx.one (.int .i64 (fun _ => k))), (11, Sx.one (.hd 3 0)), (12, Sx.one (.int .i64 (fun _ => b6 (p1, p2) s w (w.length - i.1))))],
  [.cells 25 [.ro ah (fun _ => p1), .ro az (fun _ => p2)], .cells 32 [.ro Ii (fun _ => L)], .cells 52 [.int .i64 (fun _ => s), .ro (.lst Ii) (fun _ => O), .ro Ii (fun _ => D)], .row 3 Ii 0 (fun _ => kT w i.1)]⟩, fun i => w.length - i.1, ⟨0, Nat.zero_le _⟩⟩, ?_, fun (i : {i : Nat // i ≤ w.length}) => ?_⟩
 · refine Pr ?_
   (try (conv in (SS.mk _ _) => dsimp only [aV, aF, bM]))
   refine Nx ?_
   with_reducible repeat' first | exact True.intro | refine Ca ?_ | refine Cb ?_ | refine Cd ?_ | refine Ce ?_ | refine Cm ?_ ?_
   all_goals first | with_reducible refine Ez ?_ | exact Cl1 | (dsimp only [aV, aF, bM]; exact Cl1) | exact (BB w).symm | exact hw.nod.symm | exact Cl2 | (dsimp only [aV, aF, bM]; exact Cl2) | (dsimp only [aV, aF, bM] at *; exact Cl2) | skip
 obtain ⟨i, hi⟩ := i
 dsimp only
 have hP := hw.pts hi
 obtain ⟨a, ha⟩ : ∃ a, b6 (p1, p2) s w (w.length - i) = a := ⟨_, rfl⟩
 obtain ⟨b, hb⟩ : ∃ b, b6 (p1, p2) s w (w.length - (i + 1)) = b := ⟨_, rfl⟩
 rw [ha, hb] at hP
 rw [ha]
 have hxv : 0 ≤ a ∧ a < (V.length : Int) := by rw [hVl]; exact hP.rng
 have hot := fun (h : 0 ≤ V.getD a.toNat 0) => (⟨hT, (hP.cab (hP.ge h)).1, hP.rng⟩ : TrP (p1, p2) ∧ (0 ≤ V.getD a.toNat 0 ∧ V.getD a.toNat 0 < (p2.length : Int)) ∧ 0 ≤ a ∧ a < (p1.length : Int))
 have hpl := pth_len hi
 have hrow : ∀ v : Int, (kT w i).length + [v].length ≤ bP := fun v => by
  rw [hpl]; show i + 1 ≤ 1099511627776; omega
 have hml : (kT w i).length ≤ 1000000 := by rw [hpl]; omega
 have hend : ¬ 0 ≤ V.getD a.toNat 0 → LgP (p1, p2) (L, ou) s (kT w i).reverse := fun h => by
  rw [hP.lt h, pth_end, List.reverse_reverse]; exact hw.lg
 have hnx := fun (h : 0 ≤ V.getD a.toNat 0) => (hP.cab (hP.ge h)).2
 have hpr := fun (h : 0 ≤ V.getD a.toNat 0) => hP.row (hP.ge h)
 have hge := fun (h : 0 ≤ V.getD a.toNat 0) => hP.ge h
 refine Pr ?_
 (try (conv in (SS.mk _ _) => dsimp only [aV, aF, bM]))
 refine Nx ?_
 with_reducible repeat' (first | exact True.intro | refine Ca ?_ | refine Cb ?_ | refine Cd ?_ | refine Ce ?_ | refine Cm ?_ ?_ | (first | refine Bo (fun hk h => ?_) fun hk h => ?_ | refine Al (fun hk h => ?_) fun hk h => ?_) <;> (try dsimp only [aV, aF, bM] at h) <;> (try simp only [natCast_eq] at h) <;> (try (have hb : (_ : Bool) = _ := h; clear h; subst hb)) <;> (try replace hr := hri hr) <;> first | exact Dd | refine Nx ?_)
 all_goals first | with_reducible refine Ez ?_ | exact Cl1 | (dsimp only [aV, aF, bM]; exact Cl1) | exact hxv | (dsimp only [cx]; (try simp only [aH, aJ]); exact hot (by assumption)) | exact hrow _ | exact hml | (dsimp only [sg, ga]; (try simp only [aH, aJ]); first | exact hml | exact hend (by assumption)) | exact Cl2 | (dsimp only [aV, aF, bM]; exact Cl2) | (dsimp only [aV, aF, bM] at *; exact Cl2) | skip
 · refine ⟨⟨i + 1, hge (by assumption)⟩, (by have := hge (by assumption); dsimp only; omega), ?_⟩
   refine Pr ?_
   (try (conv in (SS.mk _ _) => dsimp only [aV, aF, bM]))
   refine Nx ?_
   with_reducible repeat' first | exact True.intro | refine Ca ?_ | refine Cb ?_ | refine Cd ?_ | refine Ce ?_ | refine Cm ?_ ?_
   all_goals first | with_reducible refine Ez ?_ | exact Cl1 | (dsimp only [aV, aF, bM]; exact Cl1) | exact (hpr (by assumption)).symm | (dsimp only [cx]; (try simp only [aH, aJ]); first | exact (hnx (by assumption)).trans hb.symm | exact (hpr (by assumption)).symm) | exact Cl2 | (dsimp only [aV, aF, bM]; exact Cl2) | (dsimp only [aV, aF, bM] at *; exact Cl2) | skip
 · refine ⟨⟨k + 1, by omega⟩, (by dsimp only; omega), ?_⟩
   refine Pr ?_
   (try (conv in (SS.mk _ _) => dsimp only [aV, aF, bM]))
   refine Nx ?_
   with_reducible repeat' first | exact True.intro | refine Ca ?_ | refine Cb ?_ | refine Cd ?_ | refine Ce ?_ | refine Cm ?_ ?_
   all_goals first | with_reducible refine Ez ?_ | exact Cl1 | (dsimp only [aV, aF, bM]; exact Cl1) | rfl | exact Cl2 | (dsimp only [aV, aF, bM]; exact Cl2) | (dsimp only [aV, aF, bM] at *; exact Cl2) | skip
theorem zo : aE Tryz.prog AI 17 lZ.con := aB.sound Tryz.call17 (fun x h => lga_ok x.1 x.2.1 x.2.2.1 h)
end Go.Proofs.YtcaoldilmnpjoaaGreat
