/-
  Part Own30 of the proof.
-/
import Derived.Test.YtcaoldilmnpjoaaGreatOwn29
import Derived.Test.YtcaoldilmnpjoaaGreatOwn10
import Derived.Test.YtcaoldilmnpjoaaGreatOwn9
namespace Go.Proofs.YtcaoldilmnpjoaaGreat
set_option linter.all false
open Go.RowKit Go.Sx
set_option maxRecDepth 100000
set_option maxHeartbeats 16000000
def rkV (L PL : List Int) (n u v : Int) : Int := if L.getD u.toNat 0 < 0 then -1 else if L.getD v.toNat 0 < 0 then -1 else if (ae (L, ()) v u).1 = true then n - 1 - PL.getD u.toNat 0 else n + PL.getD v.toNat 0
structure RkP (L PL : List Int) (n : Int) : Prop where
 len : PL.length = L.length
 n : 0 ≤ n ∧ n ≤ 1000
 rng : ∀ k : Nat, -1 ≤ PL.getD k 0 ∧ PL.getD k 0 ≤ 1000
def kP : aj Ab := ⟨6, Int × Int × List Int × List Int × Int, fun args cs => match args, cs with
 | [.val (.one (.int .i64 u)), .val (.one (.int .i64 v)), .val (.one (.ptr 1 0)), .val (.one (.ptr 2 0)), .val (.one (.ptr 3 0))], [.cells 25 [.ro (.pair .str (.pair .bool (.int .i64))) p1, .ro (.pair (.int .i64) (.pair (.int .i64) (.pair (.int .i64) (.pair (.int .i64) (.pair (.int .i64) (.int .i64)))))) p2], .cells 32 [.ro (.int .i64) L], .cells 3 [.int .i64 n], .cells 30 [.ro (.int .i64) PL], .row 3 (.int .i64) 0 R, .cells 98 [.int .i64 a1, .int .i64 a2, .int .i64 a3, .int .i64 a4, .int .i64 a5, .int .i64 a6]] =>
   some (fun _ => (u (), v (), L (), PL (), n ()))
 | _, _ => none, fun x => RkP x.2.2.1 x.2.2.2.1 x.2.2.2.2 ∧ (0 ≤ x.1 ∧ x.1 < (x.2.2.1.length : Int)) ∧ 0 ≤ x.2.1 ∧ x.2.1 < (x.2.2.1.length : Int), fun x => Sx.one (.int .i64 (fun _ => rkV (x ()).2.2.1 (x ()).2.2.2.1 (x ()).2.2.2.2 (x ()).1 (x ()).2.1))⟩
noncomputable abbrev Erk1 : Env Ab := ⟨tis, [(39, df.con)] ++ E0.con⟩
theorem erk1Ok : aU Tryz.prog AI Erk1 := (ai.add gC)
theorem rk_ok (args : List SV) (cs : List (Chunk Ab)) (x : U kP.X) (hx : kP.un args cs = some x) (h : kP.pre (x ())) : args.length ≤ Tryz.f38.ntmps ∧ svc Erk1 6 (aS Tryz.f38) ⟨cQ 0 args, cs⟩ (ek tis 6 Tryz.f38.results.toList (kP.res x) cs) := by
 dsimp only [kP] at x hx h ⊢
 split at hx <;> (try cases hx)
 rename_i u v p1 p2 L n PL R a1 a2 a3 a4 a5 a6
 refine ⟨Nat.le_of_ble_eq_true (by kernel_rfl), ?_⟩
 obtain ⟨⟨hl, ⟨hn0, hn1⟩, hR⟩, ⟨hu0, hu1⟩, hv0, hv1⟩ := h
 dsimp only at hl hn0 hn1 hR hu0 hu1 hv0 hv1
 dsimp only [U] at u v n L PL
 have hu2 : 0 ≤ u () ∧ u () < ((PL ()).length : Int) := by rw [hl]; exact ⟨hu0, hu1⟩
 have hv2 : 0 ≤ v () ∧ v () < ((PL ()).length : Int) := by rw [hl]; exact ⟨hv0, hv1⟩
 have hRu := hR (u ()).toNat
 have hRv := hR (v ()).toNat
 have i1 : b5 (n () - 1) := by unfold b5; omega
 have i2 : b5 (n () - 1 - (PL ()).getD (u ()).toNat 0) := by unfold b5; omega
 have i3 : b5 (n () + (PL ()).getD (v ()).toNat 0) := by unfold b5; omega
 generalize hr : rkV _ _ _ _ _ = r
 dsimp only [rkV] at hr
 refine Pq ?_
 with_reducible repeat' (first | exact True.intro | refine Ca ?_ | refine Cb ?_ | refine Cd ?_ | (refine Ce ?_; (try ((repeat (first | rw [ifP] at hr | rw [ifM] at hr | rw [if_pos rfl] at hr)); subst hr))) | refine Cm ?_ ?_ | (first | refine Bo (fun hk h => ?_) fun hk h => ?_ | refine Al (fun hk h => ?_) fun hk h => ?_) <;> (try (have hb : (_ : Bool) = _ := h; clear h; subst hb)) <;> (try replace hr := hri hr) <;> first | exact Dd | refine Nx ?_)
 all_goals first | with_reducible refine Ez ?_ | exact Cl1 | exact hu2 | exact hv2 | exact i1 | exact i2 | exact i3 | exact trivial | exact Cl2 | skip
theorem B8 : aE Tryz.prog AI 38 kP.con := aj.sound erk1Ok mixed (fn := Tryz.f38) (c := aS Tryz.f38) Tryz.call38 (by kernel_rfl) (by kernel_rfl) (by kernel_rfl) fun args cs x hx h _ => rk_ok args cs x hx h
def eT (p : a8) (L : List Int) (i : Nat) : List Int := (List.range i).flatMap fun k : Nat => [rkV L (plL L) (p.1.length : Int) (cab p (k : Int)).1 (cab p (k : Int)).2.2.1, rkV L (plL L) (p.1.length : Int) (cab p (k : Int)).2.2.1 (cab p (k : Int)).1]
theorem rj (p : a8) (L : List Int) : eT p L 0 = [] := rfl
theorem mj (p : a8) (L : List Int) (i : Nat) : eT p L (i + 1) = eT p L i ++ [rkV L (plL L) (p.1.length : Int) (cab p (i : Int)).1 (cab p (i : Int)).2.2.1, rkV L (plL L) (p.1.length : Int) (cab p (i : Int)).2.2.1 (cab p (i : Int)).1] := by
 unfold eT
 rw [List.range_succ, List.flatMap_append]; simp
theorem j2 (p : a8) (L : List Int) : ∀ i, (eT p L i).length = 2 * i
 | 0 => rfl
 | i + 1 => by rw [mj, List.length_append, j2 p L i]; simp only [List.length_cons, List.length_nil]; omega
def cD (p : a8) (o : ab) : Tup [DT.lst Ii, DT.cell Ii] := (eT p o.1 p.2.length, 0, ())
theorem y5 (n : Nat) (S : List Int) : ∀ (j k : Nat), -1 ≤ (plJ n S j).getD k 0 ∧ (plJ n S j).getD k 0 ≤ (j : Int)
 | 0, k => by
   have h : (plJ n S 0).getD k 0 = -1 ∨ (plJ n S 0).getD k 0 = 0 := by
    show (List.replicate n (-1 : Int)).getD k 0 = -1 ∨ (List.replicate n (-1 : Int)).getD k 0 = 0
    rw [List.getD_eq_getElem?_getD, List.getElem?_replicate]
    split
    · exact .inl rfl
    · exact .inr rfl
   omega
 | j + 1, k => by
   have h := y5 n S j k
   have h2 : (plJ n S (j + 1)).getD k 0 = (j : Int) ∨ (plJ n S (j + 1)).getD k 0 = 0 ∨ (plJ n S (j + 1)).getD k 0 = (plJ n S j).getD k 0 := by
    show ((plJ n S j).set _ _).getD k 0 = _ ∨ ((plJ n S j).set _ _).getD k 0 = _ ∨ ((plJ n S j).set _ _).getD k 0 = _
    rw [List.getD_eq_getElem?_getD, List.getElem?_set]
    split
    · split
      · exact .inl rfl
      · exact .inr (.inl rfl)
    · exact .inr (.inr (List.getD_eq_getElem?_getD ..).symm)
   omega
theorem y4 (L : List Int) : (plL L).length = L.length := by unfold plL; exact oX _ _ _
theorem xz {L : List Int} (h : L.length ≤ 1000) (k : Nat) : -1 ≤ (plL L).getD k 0 ∧ (plL L).getD k 0 ≤ 1000 := by
 have h1 := y5 L.length (srL L) (srL L).length k
 have h2 := sW L
 unfold plL
 omega
noncomputable abbrev Ecf : Env Ab := ⟨tis, [(38, kP.con), (37, jg.con), (36, dE.con)] ++ E0.con⟩
theorem ecfOk : aU Tryz.prog AI Ecf := (((ai.add eB).add zV).add B8)
def mJ : aB := ⟨[.cell bT, .cell iq], fun (x : a8 × ab × Unit) => LvP x.1 x.2.1, [.lst Ii, .cell Ii], fun (x : a8 × ab × Unit) => cD x.1 x.2.1⟩
theorem cof_ok (p : a8) (o : ab) (h : mJ.pre (p, o, ())) : PTk Tryz.prog AI 13 mJ (p, o, ()) := by
 dsimp only [PTk, mJ] at h ⊢
 generalize hr : cD p o = r
 have hV := h; obtain ⟨p1, p2⟩ := p; obtain ⟨L, ou⟩ := o; have hn := h.pl.n; have hc := h.pl.c; have hLl := h.lv.len; have hT : TrP (p1, p2) := ⟨h.pl.n, h.pl.c, bD h.ok⟩; dsimp only at hn hc hLl
 dsimp only [cD] at hr
 refine Tb ecfOk mixed (fn := Tryz.f13) ?_
 refine Pr ?_
 (try (conv in (SS.mk _ _) => dsimp only [aF, fh]))
 refine Nx ?_
 with_reducible repeat' (first | exact True.intro | refine Ca ?_ | refine Cb ?_ | refine Cd ?_ | (refine Ce ?_; (try ((repeat (first | rw [ifP] at hr | rw [ifM] at hr | rw [if_pos rfl] at hr)); subst hr))) | refine Cm ?_ ?_ | (first | refine Bo (fun hk h => ?_) fun hk h => ?_ | refine Al (fun hk h => ?_) fun hk h => ?_) <;> (try dsimp only [aF, fh] at h) <;> (try simp only [natCast_eq] at h) <;> (try (have hb : (_ : Bool) = _ := h; clear h; subst hb)) <;> (try replace hr := hri hr) <;> first | exact Dd | refine Nx ?_)
 all_goals first | with_reducible refine Ez ?_ | exact Cl1 | (dsimp only [aF, fh]; exact Cl1) | exact hV | (dsimp only; simp only [aH, aJ]; first | exact hV | (show L.length ≤ 1000; omega)) | (show L.length ≤ 1000; omega) | exact Cl2 | (dsimp only [aF, fh]; exact Cl2) | (dsimp only [aF, fh] at *; exact Cl2) | skip
 have hRk : RkP L (plL L) (p1.length : Int) := ⟨y4 L, ⟨by omega, by omega⟩, fun k => xz (by omega) k⟩
 refine ⟨⟨{i : Nat // i ≤ p2.length}, fun i => ⟨[(8, .val (.fn 38 [.ptr 1 0, .ptr 2 0, .ptr 3 0])), (9, Sx.one (.hd 4 0)), (23, Sx.one (.ro az (fun _ => p2))), (24, Sx.one (.int .i64 (fun _ => p2.length))), (25, Sx.one (.int .i64 (fun _ => i.1)))],
  [.cells 25 [.ro ah (fun _ => p1), .ro az (fun _ => p2)], .cells 32 [.ro Ii (fun _ => L)], .cells 3 [.int .i64 (fun _ => p1.length)], .cells 30 [.ro Ii (fun _ => plL L)], .row 3 Ii 0 (fun _ => eT (p1, p2) L i.1)]⟩, fun i => p2.length - i.1, ⟨0, Nat.zero_le _⟩⟩, ?_, fun (i : {i : Nat // i ≤ p2.length}) => ?_⟩
 · refine Pr ?_
   (try (conv in (SS.mk _ _) => dsimp only [aF, fh]))
   refine Nx ?_
   with_reducible repeat' first | exact True.intro | refine Ca ?_ | refine Cb ?_ | refine Cd ?_ | refine Ce ?_ | refine Cm ?_ ?_
   all_goals first | with_reducible refine Ez ?_ | exact Cl1 | (dsimp only [aF, fh]; exact Cl1) | exact rj _ _ | exact (rj (p1, p2) L).symm | (dsimp only [jg, fh]; (try simp only [aH, aJ]); first | with_reducible rfl | rfl) | exact Cl2 | (dsimp only [aF, fh]; exact Cl2) | (dsimp only [aF, fh] at *; exact Cl2) | skip
 obtain ⟨i, hi⟩ := i
 dsimp only
 have hx := fun (h : (i : Int) < (p2.length : Int)) => (⟨by omega, h⟩ : (0 : Int) ≤ (i : Int) ∧ (i : Int) < (p2.length : Int))
 have hrl := j2 (p1, p2) L i
 have hmx : ∀ l : List Int, l.length = 2 → (eT (p1, p2) L i).length + l.length ≤ bP := fun l hl => by
  rw [hrl, hl]
  show _ ≤ 1099511627776
  omega
 have hmx2 : ∀ a b : Int, (eT (p1, p2) L i).length + [a, b].length ≤ bP := fun a b => hmx _ rfl
 have he := fun (h : (i : Int) < (p2.length : Int)) => hT.at (c := (i : Int)) (by omega) h
 have hp1 := fun (h : (i : Int) < (p2.length : Int)) => (⟨hRk, ⟨(he h).1.1, by rw [hLl]; exact (he h).1.2⟩, (he h).2.1.1, by rw [hLl]; exact (he h).2.1.2⟩ : RkP L (plL L) (p1.length : Int) ∧ (0 ≤ (p2.getD (i : Int).toNat z6).1 ∧ (p2.getD (i : Int).toNat z6).1 < (L.length : Int)) ∧ 0 ≤ (p2.getD (i : Int).toNat z6).2.2.1 ∧ (p2.getD (i : Int).toNat z6).2.2.1 < (L.length : Int))
 have hp2 := fun (h : (i : Int) < (p2.length : Int)) => (⟨hRk, (hp1 h).2.2, (hp1 h).2.1⟩ : RkP L (plL L) (p1.length : Int) ∧ (0 ≤ (p2.getD (i : Int).toNat z6).2.2.1 ∧ (p2.getD (i : Int).toNat z6).2.2.1 < (L.length : Int)) ∧ 0 ≤ (p2.getD (i : Int).toNat z6).1 ∧ (p2.getD (i : Int).toNat z6).1 < (L.length : Int))
 have hend : ¬ (i : Int) < (p2.length : Int) → eT (p1, p2) L i = eT (p1, p2) L p2.length := fun h => by rw [show i = p2.length by omega]
 have hnx := mj (p1, p2) L i
 refine Pr ?_
 (try (conv in (SS.mk _ _) => dsimp only [aF, fh]))
 refine Nx ?_
 with_reducible repeat' (first | exact True.intro | refine Ca ?_ | refine Cb ?_ | refine Cd ?_ | refine Ce ?_ | refine Cm ?_ ?_ | (first | refine Bo (fun hk h => ?_) fun hk h => ?_ | refine Al (fun hk h => ?_) fun hk h => ?_) <;> (try dsimp only [aF, fh] at h) <;> (try simp only [natCast_eq] at h) <;> (try (have hb : (_ : Bool) = _ := h; clear h; subst hb)) <;> (try replace hr := hri hr) <;> first | exact Dd | refine Nx ?_)
 all_goals first | with_reducible refine Ez ?_ | exact Cl1 | (dsimp only [aF, fh]; exact Cl1) | exact hx (by assumption) | exact hp1 (by assumption) | exact hp2 (by assumption) | exact hmx2 _ _ | (subst hr; first | with_reducible rfl | exact hend (by assumption)) | exact Cl2 | (dsimp only [aF, fh]; exact Cl2) | (dsimp only [aF, fh] at *; exact Cl2) | skip
 refine ⟨⟨i + 1, by omega⟩, (by dsimp only; omega), ?_⟩
 refine Pr ?_
 (try (conv in (SS.mk _ _) => dsimp only [aF, fh]))
 refine Nx ?_
 with_reducible repeat' first | exact True.intro | refine Ca ?_ | refine Cb ?_ | refine Cd ?_ | refine Ce ?_ | refine Cm ?_ ?_
 all_goals first | with_reducible refine Ez ?_ | exact Cl1 | (dsimp only [aF, fh]; exact Cl1) | exact hnx.symm | exact Cl2 | (dsimp only [aF, fh]; exact Cl2) | (dsimp only [aF, fh] at *; exact Cl2) | skip
theorem AB : aE Tryz.prog AI 13 mJ.con := aB.sound Tryz.call13 (fun x h => cof_ok x.1 x.2.1 h)
structure CckP (l : List aT) (R : List Int) : Prop where
 len : l.length ≤ 1000000
 rl : R.length ≤ 1000000
 ok : ∀ d ∈ l, (0 ≤ d.1 ∧ d.1 < (R.length : Int)) ∧ (0 ≤ d.2.1 ∧ d.2.1 < (R.length : Int)) ∧ R.getD d.1.toNat 0 < R.getD d.2.1.toNat 0
def iU : aj Ab := ⟨2, Int × List Int, fun args cs => match args, cs with
 | [.val (.one (.int .i64 c)), .val (.one (.ptr 0 0))], [.cells 40 [.ro (.int .i64) R], .cells 76 [.int .i64 a, .int .i64 b, .int .i64 d]] => some (fun _ => (c (), R ()))
 | _, _ => none, fun x => (0 ≤ x.1 ∧ x.1 < (x.2.length : Int)) ∧ x.2.length ≤ 1000000, fun x => Sx.one (.sb (fun _ => true))⟩
theorem ckh_ok (args : List SV) (cs : List (Chunk Ab)) (x : U iU.X) (hx : iU.un args cs = some x) (h : iU.pre (x ())) : args.length ≤ Tryz.f54.ntmps ∧ svc E0 2 (aS Tryz.f54) ⟨cQ 0 args, cs⟩ (ek tis 2 Tryz.f54.results.toList (iU.res x) cs) := by
 dsimp only [iU] at x hx h ⊢
 split at hx <;> (try cases hx)
 rename_i c R a b d
 refine ⟨Nat.le_of_ble_eq_true (by kernel_rfl), ?_⟩
 obtain ⟨⟨h0, h1⟩, h2⟩ := h
 dsimp only at h0 h1 h2
 dsimp only [U] at c R
 refine Pq ?_
 with_reducible repeat' (first | exact True.intro | refine Ca ?_ | refine Cb ?_ | refine Cd ?_ | refine Ce ?_ | refine Cm ?_ ?_ | (first | refine Bo (fun hk h => ?_) fun hk h => ?_ | refine Al (fun hk h => ?_) fun hk h => ?_) <;> (try (have hb : (_ : Bool) = _ := h; clear h; subst hb)) <;> (try replace hr := hri hr) <;> first | exact Dd | refine Nx ?_)
 all_goals first | with_reducible refine Ez ?_ | exact Cl1 | exact decide_eq_true h1 | exact Cl2 | skip
theorem AE : aE Tryz.prog AI 54 iU.con := aj.sound ai mixed (fn := Tryz.f54) (c := aS Tryz.f54) Tryz.call54 (by kernel_rfl) (by kernel_rfl) (by kernel_rfl) fun args cs x hx h _ => ckh_ok args cs x hx h
def cE (l : List aT) (R : List Int) : Tup [DT.lst br] := ([], ())
noncomputable abbrev Eck9 : Env Ab := ⟨tis, [(54, iU.con)] ++ E0.con⟩
theorem eck9Ok : aU Tryz.prog AI Eck9 := (ai.add AE)
def mQ : aB := ⟨[.lst br, .lst Ii], fun (x : (List aT) × (List Int) × Unit) => CckP x.1 x.2.1, [.lst br], fun (x : (List aT) × (List Int) × Unit) => cE x.1 x.2.1⟩
theorem cck_ok (l : List aT) (R : List Int) (h : mQ.pre (l, R, ())) : PTk Tryz.prog AI 18 mQ (l, R, ()) := by
 dsimp only [PTk, mQ] at h ⊢
 generalize hr : cE l R = r
 obtain ⟨hlen, hrl, hok⟩ := h
 dsimp only [cE] at hr
 refine Tb eck9Ok mixed (fn := Tryz.f18) ?_
 refine Pq ?_
 with_reducible repeat' (first | exact True.intro | refine Ca ?_ | refine Cb ?_ | refine Cd ?_ | (refine Ce ?_; (try ((repeat (first | rw [ifP] at hr | rw [ifM] at hr | rw [if_pos rfl] at hr)); subst hr))) | refine Cm ?_ ?_ | (first | refine Bo (fun hk h => ?_) fun hk h => ?_ | refine Al (fun hk h => ?_) fun hk h => ?_) <;> (try (have hb : (_ : Bool) = _ := h; clear h; subst hb)) <;> (try replace hr := hri hr) <;> first | exact Dd | refine Nx ?_)
 all_goals first | with_reducible refine Ez ?_ | exact Cl1 | exact Cl2 | skip
 refine ⟨⟨{i : Nat // i ≤ l.length}, fun i => ⟨[(3, Sx.one (.ptr 0 0)), (5, .val (.fn 54 [.ptr 0 0])), (6, Sx.one (.nilS)), (10, Sx.one (.ro br (fun _ => l))), (11, Sx.one (.int .i64 (fun _ => l.length))), (12, Sx.one (.int .i64 (fun _ => i.1)))],
  [.cells 40 [.ro Ii (fun _ => R)]]⟩, fun i => l.length - i.1, ⟨0, Nat.zero_le _⟩⟩, ?_, fun (i : {i : Nat // i ≤ l.length}) => ?_⟩
 · refine Pq ?_
   with_reducible repeat' first | exact True.intro | refine Ca ?_ | refine Cb ?_ | refine Cd ?_ | refine Ce ?_ | refine Cm ?_ ?_
   all_goals first | with_reducible refine Ez ?_ | exact Cl1 | rfl | exact Cl2 | skip
 obtain ⟨i, hi⟩ := i
 dsimp only
 have hx := fun (h : (i : Int) < (l.length : Int)) => (⟨by omega, h⟩ : (0 : Int) ≤ (i : Int) ∧ (i : Int) < (l.length : Int))
 have hd := fun (h : (i : Int) < (l.length : Int)) => hok (l.getD (i : Int).toNat (0, 0, 0)) (by rw [List.getD_eq_getElem?_getD, List.getElem?_eq_getElem (show (i : Int).toNat < l.length by omega)]; exact List.getElem_mem _)
 have hd1 := fun (h : (i : Int) < (l.length : Int)) => (hd h).1
 have hd2 := fun (h : (i : Int) < (l.length : Int)) => (hd h).2.1
 have hd3 := fun (h : (i : Int) < (l.length : Int)) => (⟨hd1 h, hrl⟩ : (0 ≤ (l.getD (i : Int).toNat (0, 0, 0)).1 ∧ (l.getD (i : Int).toNat (0, 0, 0)).1 < (R.length : Int)) ∧ R.length ≤ 1000000)
 have hd4 := fun (h : (i : Int) < (l.length : Int)) => (⟨hd2 h, hrl⟩ : (0 ≤ (l.getD (i : Int).toNat (0, 0, 0)).2.1 ∧ (l.getD (i : Int).toNat (0, 0, 0)).2.1 < (R.length : Int)) ∧ R.length ≤ 1000000)
 have hd5 := fun (h : (i : Int) < (l.length : Int)) => (show ¬ R.getD (l.getD (i : Int).toNat (0, 0, 0)).2.1.toNat 0 ≤ R.getD (l.getD (i : Int).toNat (0, 0, 0)).1.toNat 0 by have := (hd h).2.2; omega)
 refine Pq ?_
 with_reducible repeat' (first | exact True.intro | refine Ca ?_ | refine Cb ?_ | refine Cd ?_ | refine Ce ?_ | refine Cm ?_ ?_ | (first | refine Bo (fun hk h => ?_) fun hk h => ?_ | refine Al (fun hk h => ?_) fun hk h => ?_) <;> (try (have hb : (_ : Bool) = _ := h; clear h; subst hb)) <;> (try replace hr := hri hr) <;> first | exact Dd | refine Nx ?_)
 all_goals first | with_reducible refine Ez ?_ | exact Cl1 | exact hx (by assumption) | exact hd1 (by assumption) | exact hd2 (by assumption) | exact hd3 (by assumption) | exact hd4 (by assumption) | exact absurd (by assumption) (hd5 (by assumption)) | (subst hr; rfl) | exact Cl2 | skip
 all_goals
  (first
   | (refine ⟨⟨i + 1, by omega⟩, (by dsimp only; omega), ?_⟩
      refine Pq ?_
      with_reducible repeat' first | exact True.intro | refine Ca ?_ | refine Cb ?_ | refine Cd ?_ | refine Ce ?_ | refine Cm ?_ ?_
      all_goals first | with_reducible refine Ez ?_ | exact Cl1 | rfl | exact absurd (by assumption) (hd5 (by assumption)) | exact Cl2 | skip)
   | (exfalso; exact hd5 (by assumption) (by assumption)))
theorem AH : aE Tryz.prog AI 18 mQ.con := aB.sound Tryz.call18 (fun x h => cck_ok x.1 x.2.1 h)
end Go.Proofs.YtcaoldilmnpjoaaGreat
