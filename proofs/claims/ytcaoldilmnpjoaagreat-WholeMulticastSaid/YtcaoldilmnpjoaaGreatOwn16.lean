/-
  Part Own16 of the proof.
-/
import Derived.Test.YtcaoldilmnpjoaaGreatOwn11
import Derived.Test.YtcaoldilmnpjoaaGreatOwn13
import Derived.Test.YtcaoldilmnpjoaaGreatOwn15
namespace Go.Proofs.YtcaoldilmnpjoaaGreat
set_option linter.all false
open Go.RowKit Go.Sx
set_option maxRecDepth 100000
set_option maxHeartbeats 16000000
def b6 (p : a8) (u : Int) (path : List Int) (i : Nat) : Int := (path.take i).foldl (fun v c => (acF (cab p c) v).1) u
def nD (p : a8) (u : Int) (path : List Int) (i : Nat) : List Int := (List.range i).map (b6 p u path)
theorem jh (p : a8) (u : Int) (path : List Int) {i : Nat} (h : i < path.length) : b6 p u path (i + 1) = (acF (p.2.getD (path.getD i 0).toNat z6) (b6 p u path i)).1 := by
 have e : path.getD i 0 = path[i] := by rw [List.getD_eq_getElem?_getD, List.getElem?_eq_getElem h]; rfl
 unfold b6
 rw [List.take_succ_eq_append_getElem h, List.foldl_append, e]; rfl
theorem ze (p : a8) (u : Int) (path : List Int) (i : Nat) : nD p u path (i + 1) = nD p u path i ++ [b6 p u path i] := by
 unfold nD
 rw [List.range_succ, List.map_append]; rfl
theorem vB (p : a8) (u : Int) (path : List Int) (i : Nat) : (nD p u path i).length = i := by simp [nD]
theorem nodL_at (p : a8) (u : Int) (path : List Int) {i k : Nat} (h : k < i) : (nD p u path i).getD k 0 = b6 p u path k := by
 unfold nD
 rw [List.getD_eq_getElem?_getD, List.getElem?_map, List.getElem?_range h]; rfl
structure NdP (p : a8) (u : Int) (path : List Int) : Prop where
 pl : wA p
 ok : bh p = 0
 u0 : 0 ≤ u ∧ u < (p.1.length : Int)
 len : path.length ≤ 100000
 rng : ∀ i, i < path.length → 0 ≤ path.getD i 0 ∧ path.getD i 0 < (p.2.length : Int)
 ac : ∀ i, i < path.length → (acF (p.2.getD (path.getD i 0).toNat z6) (b6 p u path i)).2.1 = true
def b9 (p : a8) (u : Int) (path : List Int) : Tup [DT.lst Ii, DT.cell Ii] := (nD p u path (path.length + 1), 0, ())
theorem uin_inl : aE Tryz.prog AI 109 (inl E0 Tryz.f109 1) := cI ai mixed (fn := Tryz.f109) (c := aS Tryz.f109) Tryz.call109 (by kernel_rfl) (by kernel_rfl) (by kernel_rfl) 1
theorem uic_inl : aE Tryz.prog AI 128 (inl E0 Tryz.f128 1) := cI ai mixed (fn := Tryz.f128) (c := aS Tryz.f128) Tryz.call128 (by kernel_rfl) (by kernel_rfl) (by kernel_rfl) 1
def l8 : aB := ⟨[.cell az, .cell Ii], fun (x : aY × Int × Unit) => True, [.cell Ii, .cell .bool], fun (x : aY × Int × Unit) => acF x.1 x.2.1⟩
theorem uac_ok (c : aY) (node : Int) (h : l8.pre (c, node, ())) : PTk Tryz.prog AI 129 l8 (c, node, ()) := by
 dsimp only [PTk, l8] at h ⊢
 generalize hr : acF c node = r
 obtain ⟨c1, c2, c3, c4, c5, c6⟩ := c
 dsimp only [acF] at hr
 refine Tb ai mixed (fn := Tryz.f129) ?_
 refine Pq ?_
 with_reducible repeat' (first | exact True.intro | refine Ca ?_ | refine Cb ?_ | refine Cd ?_ | (refine Ce ?_; (try ((repeat (first | rw [ifP] at hr | rw [ifM] at hr | rw [if_pos rfl] at hr)); subst hr))) | refine Cm ?_ ?_ | (first | refine Bo (fun hk h => ?_) fun hk h => ?_ | refine Al (fun hk h => ?_) fun hk h => ?_) <;> (try (have hb : (_ : Bool) = _ := h; clear h; subst hb)) <;> (try replace hr := hri hr) <;> first | exact Dd | refine Nx ?_)
 all_goals first | with_reducible refine Ez ?_ | exact Cl1 | exact Cl2 | skip
theorem yg : aE Tryz.prog AI 129 l8.con := aB.sound Tryz.call129 (fun x h => uac_ok x.1 x.2.1 h)
noncomputable abbrev Eg1 : Env Ab := ⟨tis, [(129, l8.con), (128, inl E0 Tryz.f128 1), (109, inl E0 Tryz.f109 1), (20, bE.con)] ++ E0.con⟩
theorem eg1Ok : aU Tryz.prog AI Eg1 := ((((ai.add cR).add uin_inl).add uic_inl).add yg)
noncomputable abbrev Eg2 : Env Ab := ⟨(30, ⟨.slice 3 (some (.int .i64)), 1, 3, [.nilS]⟩) :: (3, ⟨.int .i64, 1, 0, [.li .i64 0]⟩) :: Eg1.ti, Eg1.con⟩
theorem eg2Ok : aU Tryz.prog AI Eg2 := fV eg1Ok (t := 30) (i := ⟨.slice 3 (some (.int .i64)), 1, 0, [.nilS]⟩) (tb := 3) (j := ⟨.int .i64, 1, 0, [.li .i64 0]⟩) rfl rfl
def lT : aB := ⟨[.cell bT, .cell Ii, .lst Ii], fun (x : a8 × Int × (List Int) × Unit) => NdP x.1 x.2.1 x.2.2.1, [.lst Ii, .cell Ii], fun (x : a8 × Int × (List Int) × Unit) => b9 x.1 x.2.1 x.2.2.1⟩
theorem nds_ok (p : a8) (u : Int) (path : List Int) (h : lT.pre (p, u, path, ())) : PTk Tryz.prog AI 98 lT (p, u, path, ()) := by
 dsimp only [PTk, lT] at h ⊢
 generalize hr : b9 p u path = r
 obtain ⟨p1, p2⟩ := p; obtain ⟨hP, hok, ⟨hu0, hu1⟩, hlen, hrng, hac⟩ := h; have hn := hP.n; have hc := hP.c; dsimp only at hu0 hu1 hlen hrng hac hn hc
 dsimp only [b9] at hr
 refine Tb eg2Ok mixed (fn := Tryz.f98) ?_
 refine Pr ?_
 (try (conv in (SS.mk _ _) => dsimp only [aA]))
 refine Nx ?_
 with_reducible repeat' (first | exact True.intro | refine Ca ?_ | refine Cb ?_ | refine Cd ?_ | (refine Ce ?_; (try ((repeat (first | rw [ifP] at hr | rw [ifM] at hr | rw [if_pos rfl] at hr)); subst hr))) | refine Cm ?_ ?_ | (first | refine Bo (fun hk h => ?_) fun hk h => ?_ | refine Al (fun hk h => ?_) fun hk h => ?_) <;> (try dsimp only [aA] at h) <;> (try simp only [natCast_eq] at h) <;> (try (have hb : (_ : Bool) = _ := h; clear h; subst hb)) <;> (try replace hr := hri hr) <;> first | exact Dd | refine Nx ?_)
 all_goals first | with_reducible refine Ez ?_ | exact Cl1 | (dsimp only [aA]; exact Cl1) | (dsimp only [bE]; simp only [aH, aJ]; exact hP) | (exfalso; exact h hok) | exact Cl2 | (dsimp only [aA]; exact Cl2) | (dsimp only [aA] at *; exact Cl2) | skip
 refine ⟨⟨{i : Nat // i ≤ path.length}, fun i => ⟨[(1, Sx.one (.int .i64 (fun _ => u))), (2, Sx.one (.ro Ii (fun _ => path))), (3, Sx.one (.ptr 0 0)), (23, Sx.one (.ro Ii (fun _ => path))), (24, Sx.one (.int .i64 (fun _ => path.length))), (25, Sx.one (.int .i64 (fun _ => i.1)))],
  [.cells 25 [.ro ah (fun _ => p1), .ro az (fun _ => p2)]]⟩, fun i => path.length - i.1, ⟨0, Nat.zero_le _⟩⟩, ?_, fun (i : {i : Nat // i ≤ path.length}) => ?_⟩
 · refine Pr ?_
   (try (conv in (SS.mk _ _) => dsimp only [aA]))
   refine Nx ?_
   with_reducible repeat' first | exact True.intro | refine Ca ?_ | refine Cb ?_ | refine Cd ?_ | refine Ce ?_ | refine Cm ?_ ?_
   all_goals first | with_reducible refine Ez ?_ | exact Cl1 | (dsimp only [aA]; exact Cl1) | rfl | exact Cl2 | (dsimp only [aA]; exact Cl2) | (dsimp only [aA] at *; exact Cl2) | skip
 obtain ⟨i, hi⟩ := i
 dsimp only
 have hr1 : ∀ (h : (i : Int) < (path.length : Int)), 0 ≤ path.getD (i : Int).toNat 0 ∧ path.getD (i : Int).toNat 0 < (p2.length : Int) := fun h => hrng i (by omega)
 refine Pr ?_
 (try (conv in (SS.mk _ _) => dsimp only [aA]))
 refine Nx ?_
 with_reducible repeat' (first | exact True.intro | refine Ca ?_ | refine Cb ?_ | refine Cd ?_ | refine Ce ?_ | refine Cm ?_ ?_ | (first | refine Bo (fun hk h => ?_) fun hk h => ?_ | refine Al (fun hk h => ?_) fun hk h => ?_) <;> (try dsimp only [aA] at h) <;> (try simp only [natCast_eq] at h) <;> (try (have hb : (_ : Bool) = _ := h; clear h; subst hb)) <;> (try replace hr := hri hr) <;> first | exact Dd | refine Nx ?_)
 all_goals first | with_reducible refine Ez ?_ | exact Cl1 | (dsimp only [aA]; exact Cl1) | (exfalso; have := hr1 (by assumption); omega) | exact Cl2 | (dsimp only [aA]; exact Cl2) | (dsimp only [aA] at *; exact Cl2) | skip
 · refine ⟨⟨i + 1, by omega⟩, (by dsimp only; omega), ?_⟩
   refine Pr ?_
   (try (conv in (SS.mk _ _) => dsimp only [aA]))
   refine Nx ?_
   with_reducible repeat' first | exact True.intro | refine Ca ?_ | refine Cb ?_ | refine Cd ?_ | refine Ce ?_ | refine Cm ?_ ?_
   all_goals first | with_reducible refine Ez ?_ | exact Cl1 | (dsimp only [aA]; exact Cl1) | rfl | exact Cl2 | (dsimp only [aA]; exact Cl2) | (dsimp only [aA] at *; exact Cl2) | skip
 clear hr1
 refine ⟨⟨{i : Nat // i ≤ path.length}, fun i => ⟨[(2, Sx.one (.ro Ii (fun _ => path))), (3, Sx.one (.ptr 0 0)), (10, Sx.one (.hd 1 0)), (11, Sx.one (.int .i64 (fun _ => b6 (p1, p2) u path i.1))), (37, Sx.one (.ro Ii (fun _ => path))), (38, Sx.one (.int .i64 (fun _ => path.length))), (39, Sx.one (.int .i64 (fun _ => i.1)))],
  [.cells 25 [.ro ah (fun _ => p1), .ro az (fun _ => p2)], .row 3 Ii 0 (fun _ => nD (p1, p2) u path (i.1 + 1))]⟩, fun i => path.length - i.1, ⟨0, Nat.zero_le _⟩⟩, ?_, fun (i : {i : Nat // i ≤ path.length}) => ?_⟩
 · refine Pr ?_
   (try (conv in (SS.mk _ _) => dsimp only [aA]))
   refine Nx ?_
   with_reducible repeat' first | exact True.intro | refine Ca ?_ | refine Cb ?_ | refine Cd ?_ | refine Ce ?_ | refine Cm ?_ ?_
   all_goals first | with_reducible refine Ez ?_ | exact Cl1 | (dsimp only [aA]; exact Cl1) | rfl | exact Cl2 | (dsimp only [aA]; exact Cl2) | (dsimp only [aA] at *; exact Cl2) | skip
 obtain ⟨i, hi⟩ := i
 dsimp only
 have hx := fun (h : (i : Int) < (path.length : Int)) => (⟨by omega, h⟩ : (0 : Int) ≤ (i : Int) ∧ (i : Int) < (path.length : Int))
 have hr1 : ∀ (h : (i : Int) < (path.length : Int)), 0 ≤ path.getD (i : Int).toNat 0 ∧ path.getD (i : Int).toNat 0 < (p2.length : Int) := fun h => hrng i (by omega)
 have ha1 : ∀ (h : (i : Int) < (path.length : Int)), (acF (p2.getD (path.getD (i : Int).toNat 0).toNat z6) (b6 (p1, p2) u path i)).2.1 = true := fun h => hac i (by omega)
 have hs1 : ∀ (h : (i : Int) < (path.length : Int)), b6 (p1, p2) u path (i + 1) = (acF (p2.getD (path.getD (i : Int).toNat 0).toNat z6) (b6 (p1, p2) u path i)).1 := fun h => jh (p1, p2) u path (i := i) (by omega)
 have hs2 : ∀ (h : (i : Int) < (path.length : Int)), nD (p1, p2) u path (i + 1 + 1) = nD (p1, p2) u path (i + 1) ++ [(acF (p2.getD (path.getD (i : Int).toNat 0).toNat z6) (b6 (p1, p2) u path i)).1] := fun h => by rw [ze, hs1 h]
 have hl : ∀ o : Int, (nD (p1, p2) u path (i + 1)).length + [o].length ≤ bP := fun o => by rw [vB]; show i + 1 + 1 ≤ 1099511627776; omega
 refine Pr ?_
 (try (conv in (SS.mk _ _) => dsimp only [aA]))
 refine Nx ?_
 with_reducible repeat' (first | exact True.intro | refine Ca ?_ | refine Cb ?_ | refine Cd ?_ | refine Ce ?_ | refine Cm ?_ ?_ | (first | refine Bo (fun hk h => ?_) fun hk h => ?_ | refine Al (fun hk h => ?_) fun hk h => ?_) <;> (try dsimp only [aA] at h) <;> (try simp only [natCast_eq] at h) <;> (try (have hb : (_ : Bool) = _ := h; clear h; subst hb)) <;> (try replace hr := hri hr) <;> first | exact Dd | refine Nx ?_)
 all_goals first | with_reducible refine Ez ?_ | exact Cl1 | (dsimp only [aA]; exact Cl1) | exact hx (by assumption) | exact hr1 (by assumption) | exact hl _ | exact absurd ((ha1 (by assumption)).symm.trans h) (fun e => Bool.noConfusion e) | (subst hr; have e : i = path.length := (by omega); subst e; rfl) | exact Cl2 | (dsimp only [aA]; exact Cl2) | (dsimp only [aA] at *; exact Cl2) | skip
 refine ⟨⟨i + 1, by omega⟩, (by dsimp only; omega), ?_⟩
 refine Pr ?_
 (try (conv in (SS.mk _ _) => dsimp only [aA]))
 refine Nx ?_
 with_reducible repeat' first | exact True.intro | refine Ca ?_ | refine Cb ?_ | refine Cd ?_ | refine Ce ?_ | refine Cm ?_ ?_
 all_goals first | with_reducible refine Ez ?_ | exact Cl1 | (dsimp only [aA]; exact Cl1) | exact (hs1 (by assumption)).symm | exact (hs2 (by assumption)).symm | exact Cl2 | (dsimp only [aA]; exact Cl2) | (dsimp only [aA] at *; exact Cl2) | skip
theorem zg : aE Tryz.prog AI 98 lT.con := aB.sound Tryz.call98 (fun x h => nds_ok x.1 x.2.1 x.2.2.1 h)
def nR (p : a8) (L : List Int) (u : Int) (path : List Int) : Nat → Bool
 | 0 => false
 | i + 1 => !(ae (L, ()) (b6 p u path (i + 1)) (b6 p u path i)).1
theorem stp_eq (p : a8) (L : List Int) (u : Int) (path : List Int) (b : Bool) (i : Nat) : (p7 L (b6 p u path i, b) (b6 p u path (i + 1))).1 = (b6 p u path (i + 1), nR p L u path (i + 1)) := by
 show (if (ae (L, ()) (b6 p u path (i + 1)) (b6 p u path i)).1 = true then (((b6 p u path (i + 1), false), !b, ()) : Tup [DT.cell SKE, DT.cell .bool]) else ((b6 p u path (i + 1), true), true, ())).1 = (b6 p u path (i + 1), !(ae (L, ()) (b6 p u path (i + 1)) (b6 p u path i)).1)
 cases h : (ae (L, ()) (b6 p u path (i + 1)) (b6 p u path i)).1 <;> rfl
structure LgP (p : a8) (o : ab) (u : Int) (path : List Int) : Prop where
 nd : NdP p u path
 lv : LvP p o
 lvl : ∀ i, i ≤ path.length → (0 ≤ b6 p u path i ∧ b6 p u path i < (p.1.length : Int)) ∧ 0 ≤ lat o.1 (b6 p u path i)
 st : ∀ i, i < path.length → (p7 o.1 (b6 p u path i, nR p o.1 u path i) (b6 p u path (i + 1))).2.1 = true
 ne : ∀ i, 0 < i → i < path.length → path.getD i 0 ≠ path.getD (i - 1) 0
def bM (p : a8) (o : ab) (u : Int) (path : List Int) : Tup [DT.cell .bool] := (true, ())
noncomputable abbrev Elg1 : Env Ab := ⟨tis, [(99, gN.con), (98, lT.con), (36, dE.con)] ++ E0.con⟩
theorem elg1Ok : aU Tryz.prog AI Elg1 := (((ai.add eB).add zg).add p8)
def ga : aB := ⟨[.cell bT, .cell iq, .cell Ii, .lst Ii], fun (x : a8 × ab × Int × (List Int) × Unit) => LgP x.1 x.2.1 x.2.2.1 x.2.2.2.1, [.cell .bool], fun (x : a8 × ab × Int × (List Int) × Unit) => bM x.1 x.2.1 x.2.2.1 x.2.2.2.1⟩
theorem legl_ok (p : a8) (o : ab) (u : Int) (path : List Int) (h : ga.pre (p, o, u, path, ())) : PTk Tryz.prog AI 53 ga (p, o, u, path, ()) := by
 dsimp only [PTk, ga] at h ⊢
 generalize hr : bM p o u path = r
 obtain ⟨p1, p2⟩ := p; obtain ⟨L, ou⟩ := o; obtain ⟨hN, hV, hlv, hst, hne⟩ := h; have hn := hV.pl.n; have hlen := hN.len; have hLl := hV.lv.len; dsimp only at hn hlv hst hne hLl
 dsimp only [bM] at hr
 refine Tb elg1Ok mixed (fn := Tryz.f53) ?_
 refine Pr ?_
 (try (conv in (SS.mk _ _) => dsimp only [aF, b9, bK]))
 refine Nx ?_
 with_reducible repeat' (first | exact True.intro | refine Ca ?_ | refine Cb ?_ | refine Cd ?_ | (refine Ce ?_; (try ((repeat (first | rw [ifP] at hr | rw [ifM] at hr | rw [if_pos rfl] at hr)); subst hr))) | refine Cm ?_ ?_ | (first | refine Bo (fun hk h => ?_) fun hk h => ?_ | refine Al (fun hk h => ?_) fun hk h => ?_) <;> (try dsimp only [aF, b9, bK] at h) <;> (try simp only [natCast_eq] at h) <;> (try (have hb : (_ : Bool) = _ := h; clear h; subst hb)) <;> (try replace hr := hri hr) <;> first | exact Dd | refine Nx ?_)
 all_goals first | with_reducible refine Ez ?_ | exact Cl1 | (dsimp only [aF, b9, bK]; exact Cl1) | (dsimp only; simp only [aH, aJ]; first | exact hV | exact hN) | exact hN | exact hV | exact Cl2 | (dsimp only [aF, b9, bK]; exact Cl2) | (dsimp only [aF, b9, bK] at *; exact Cl2) | skip
 obtain ⟨ns, hns⟩ : ∃ ns, nD (p1, p2) u path (path.length + 1) = ns := ⟨_, rfl⟩
 have hnl : ns.length = path.length + 1 := by rw [← hns]; exact vB _ _ _ _
 have hat : ∀ i, i ≤ path.length → ns.getD i 0 = b6 (p1, p2) u path i := fun i hi => by rw [← hns]; exact nodL_at _ _ _ (by omega)
 refine ⟨⟨{i : Nat // i ≤ ns.length}, fun i => ⟨[(2, Sx.one (.int .i64 (fun _ => u))), (3, Sx.one (.ro Ii (fun _ => path))), (4, Sx.one (.ptr 0 0)), (5, Sx.one (.ptr 1 0)), (9, Sx.one (.ro Ii (fun _ => ns))), (31, Sx.one (.ro Ii (fun _ => ns))), (32, Sx.one (.int .i64 (fun _ => ns.length))), (33, Sx.one (.int .i64 (fun _ => i.1)))],
  [.cells 25 [.ro ah (fun _ => p1), .ro az (fun _ => p2)], .cells 32 [.ro Ii (fun _ => L)]]⟩, fun i => ns.length - i.1, ⟨0, Nat.zero_le _⟩⟩, ?_, fun (i : {i : Nat // i ≤ ns.length}) => ?_⟩
 · refine Pr ?_
   (try (conv in (SS.mk _ _) => dsimp only [aF, b9, bK]))
   refine Nx ?_
   with_reducible repeat' first | exact True.intro | refine Ca ?_ | refine Cb ?_ | refine Cd ?_ | refine Ce ?_ | refine Cm ?_ ?_
   all_goals first | with_reducible refine Ez ?_ | exact Cl1 | (dsimp only [aF, b9, bK]; exact Cl1) | exact hns | (dsimp only; simp only [aH, aJ]; exact hns) | exact congrArg (fun l : List Int => (l.length : Int)) hns | exact Cl2 | (dsimp only [aF, b9, bK]; exact Cl2) | (dsimp only [aF, b9, bK] at *; exact Cl2) | skip
 obtain ⟨i, hi⟩ := i
 dsimp only
 have hx := fun (h : (i : Int) < (ns.length : Int)) => (⟨by omega, h⟩ : (0 : Int) ≤ (i : Int) ∧ (i : Int) < (ns.length : Int))
 have hl1 : ∀ (h : (i : Int) < (ns.length : Int)), (0 ≤ ns.getD (i : Int).toNat 0 ∧ ns.getD (i : Int).toNat 0 < (L.length : Int)) ∧ 0 ≤ lat L (ns.getD (i : Int).toNat 0) := fun h => by
  have := hlv i (by omega)
  rw [Int.toNat_natCast, hat i (by omega), hLl]
  exact this
 unfold lat at hl1
 refine Pr ?_
 (try (conv in (SS.mk _ _) => dsimp only [aF, b9, bK]))
 refine Nx ?_
 with_reducible repeat' (first | exact True.intro | refine Ca ?_ | refine Cb ?_ | refine Cd ?_ | refine Ce ?_ | refine Cm ?_ ?_ | (first | refine Bo (fun hk h => ?_) fun hk h => ?_ | refine Al (fun hk h => ?_) fun hk h => ?_) <;> (try dsimp only [aF, b9, bK] at h) <;> (try simp only [natCast_eq] at h) <;> (try (have hb : (_ : Bool) = _ := h; clear h; subst hb)) <;> (try replace hr := hri hr) <;> first | exact Dd | refine Nx ?_)
 all_goals first | with_reducible refine Ez ?_ | exact Cl1 | (dsimp only [aF, b9, bK]; exact Cl1) | exact hx (by assumption) | exact (hl1 (by assumption)).1 | (exfalso; have := (hl1 (by assumption)).2; omega) | exact Cl2 | (dsimp only [aF, b9, bK]; exact Cl2) | (dsimp only [aF, b9, bK] at *; exact Cl2) | skip
 · refine ⟨⟨i + 1, by omega⟩, (by dsimp only; omega), ?_⟩
   refine Pr ?_
   (try (conv in (SS.mk _ _) => dsimp only [aF, b9, bK]))
   refine Nx ?_
   with_reducible repeat' first | exact True.intro | refine Ca ?_ | refine Cb ?_ | refine Cd ?_ | refine Ce ?_ | refine Cm ?_ ?_
   all_goals first | with_reducible refine Ez ?_ | exact Cl1 | (dsimp only [aF, b9, bK]; exact Cl1) | rfl | exact Cl2 | (dsimp only [aF, b9, bK]; exact Cl2) | (dsimp only [aF, b9, bK] at *; exact Cl2) | skip
 clear hl1 hx
 refine ⟨⟨{i : Nat // i ≤ path.length}, fun i => ⟨[(3, Sx.one (.ro Ii (fun _ => path))), (5, Sx.one (.ptr 1 0)), (9, Sx.one (.ro Ii (fun _ => ns))), (13, Sx.one (.ptr 2 0)), (46, Sx.one (.ro Ii (fun _ => path))), (47, Sx.one (.int .i64 (fun _ => path.length))), (48, Sx.one (.int .i64 (fun _ => i.1)))],
  [.cells 25 [.ro ah (fun _ => p1), .ro az (fun _ => p2)], .cells 32 [.ro Ii (fun _ => L)], .cells 155 [.int .i64 (fun _ => b6 (p1, p2) u path i.1), .sb (fun _ => nR (p1, p2) L u path i.1)]]⟩, fun i => path.length - i.1, ⟨0, Nat.zero_le _⟩⟩, ?_, fun (i : {i : Nat // i ≤ path.length}) => ?_⟩
 · refine Pr ?_
   (try (conv in (SS.mk _ _) => dsimp only [aF, b9, bK]))
   refine Nx ?_
   with_reducible repeat' first | exact True.intro | refine Ca ?_ | refine Cb ?_ | refine Cd ?_ | refine Ce ?_ | refine Cm ?_ ?_
   all_goals first | with_reducible refine Ez ?_ | exact Cl1 | (dsimp only [aF, b9, bK]; exact Cl1) | rfl | exact Cl2 | (dsimp only [aF, b9, bK]; exact Cl2) | (dsimp only [aF, b9, bK] at *; exact Cl2) | skip
 obtain ⟨i, hi⟩ := i
 dsimp only
 have hx := fun (h : (i : Int) < (path.length : Int)) => (⟨by omega, h⟩ : (0 : Int) ≤ (i : Int) ∧ (i : Int) < (path.length : Int))
 have hx2 := fun (h : (i : Int) < (path.length : Int)) => (⟨by omega, by omega⟩ : (0 : Int) ≤ (i : Int) + 1 ∧ (i : Int) + 1 < (ns.length : Int))
 have hx3 := fun (h : (i : Int) < (path.length : Int)) (h2 : 0 < (i : Int)) => (⟨by omega, by omega⟩ : (0 : Int) ≤ (i : Int) - 1 ∧ (i : Int) - 1 < (path.length : Int))
 have hv : ∀ (h : (i : Int) < (path.length : Int)), ns.getD ((i : Int) + 1).toNat 0 = b6 (p1, p2) u path (i + 1) := fun h => by
  rw [show ((i : Int) + 1).toNat = i + 1 by omega]
  exact hat (i + 1) (by omega)
 have hs1 : ∀ (h : (i : Int) < (path.length : Int)), (p7 L (b6 (p1, p2) u path i, nR (p1, p2) L u path i) (ns.getD ((i : Int) + 1).toNat 0)).2.1 = true := fun h => by
  rw [hv h]; exact hst i (by omega)
 have hs2 : ∀ (h : (i : Int) < (path.length : Int)), (p7 L (b6 (p1, p2) u path i, nR (p1, p2) L u path i) (ns.getD ((i : Int) + 1).toNat 0)).1 = (b6 (p1, p2) u path (i + 1), nR (p1, p2) L u path (i + 1)) := fun h => by
  rw [hv h]; exact stp_eq _ _ _ _ _ _
 have hs3 := fun h => congrArg Prod.fst (hs2 h)
 have hs4 := fun h => congrArg Prod.snd (hs2 h)
 have hn1 : ∀ (h : (i : Int) < (path.length : Int)) (h2 : 0 < (i : Int)), ¬ path.getD (i : Int).toNat 0 = path.getD ((i : Int) - 1).toNat 0 := fun h h2 => by
  rw [show ((i : Int) - 1).toNat = i - 1 by omega]
  exact hne i (by omega) (by omega)
 refine Pr ?_
 (try (conv in (SS.mk _ _) => dsimp only [aF, b9, bK]))
 refine Nx ?_
 with_reducible repeat' (first | exact True.intro | refine Ca ?_ | refine Cb ?_ | refine Cd ?_ | refine Ce ?_ | refine Cm ?_ ?_ | (first | refine Bo (fun hk h => ?_) fun hk h => ?_ | refine Al (fun hk h => ?_) fun hk h => ?_) <;> (try dsimp only [aF, b9, bK] at h) <;> (try simp only [natCast_eq] at h) <;> (try (have hb : (_ : Bool) = _ := h; clear h; subst hb)) <;> (try replace hr := hri hr) <;> first | exact Dd | refine Nx ?_)
 all_goals first | with_reducible refine Ez ?_ | exact Cl1 | (dsimp only [aF, b9, bK]; exact Cl1) | exact hx (by assumption) | exact hx2 (by assumption) | exact hx3 (by assumption) (by assumption) | exact absurd ((hs1 (by assumption)).symm.trans h) (fun e => Bool.noConfusion e) | exact absurd h (hn1 (by assumption) (by assumption)) | (subst hr; rfl) | exact Cl2 | (dsimp only [aF, b9, bK]; exact Cl2) | (dsimp only [aF, b9, bK] at *; exact Cl2) | skip
 all_goals
  (refine ⟨⟨i + 1, by omega⟩, (by dsimp only; omega), ?_⟩
   refine Pr ?_
   (try (conv in (SS.mk _ _) => dsimp only [aF, b9, bK]))
   refine Nx ?_
   with_reducible repeat' first | exact True.intro | refine Ca ?_ | refine Cb ?_ | refine Cd ?_ | refine Ce ?_ | refine Cm ?_ ?_
   all_goals first | with_reducible refine Ez ?_ | exact Cl1 | (dsimp only [aF, b9, bK]; exact Cl1) | exact hs3 (by assumption) | exact hs4 (by assumption) | exact Cl2 | (dsimp only [aF, b9, bK]; exact Cl2) | (dsimp only [aF, b9, bK] at *; exact Cl2) | skip)
theorem wm : aE Tryz.prog AI 53 ga.con := aB.sound Tryz.call53 (fun x h => legl_ok x.1 x.2.1 x.2.2.1 x.2.2.2.1 h)
end Go.Proofs.YtcaoldilmnpjoaaGreat
