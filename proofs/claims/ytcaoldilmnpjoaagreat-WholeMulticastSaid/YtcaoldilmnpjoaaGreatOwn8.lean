/-
  Part Own8 of the proof.
-/
import Derived.Test.YtcaoldilmnpjoaaGreatOwn7
namespace Go.Proofs.YtcaoldilmnpjoaaGreat
set_option linter.all false
open Go.RowKit Go.Sx
set_option maxRecDepth 100000
set_option maxHeartbeats 16000000
theorem fV {E : Env Ab} (hE : aU Tryz.prog AI E) {t tb : Nat} {i j : TI} (h : Go.Sx.look E.ti t = some i) (h2 : Go.Sx.look E.ti tb = some j) : aU Tryz.prog AI ⟨(t, ⟨i.kind, i.size, 3, i.zero⟩) :: (tb, j) :: E.ti, E.con⟩ := by
 refine ⟨fun t' i' h' => ?_, hE.con⟩
 rw [Go.Sx.ax] at h'
 split at h'
 · rename_i e
   cases h'; subst e
   obtain ⟨h1, h2, _⟩ := hE.ti _ _ h
   exact ⟨h1, h2, fun hb => by cases hb⟩
 · rw [Go.Sx.ax] at h'
   split at h'
   · rename_i e
     cases h'; subst e
     exact hE.ti _ _ h2
   · exact hE.ti _ _ h'
theorem vis_inl : aE Tryz.prog AI 131 (inl E0 Tryz.f131 1) := cI ai mixed (fn := Tryz.f131) (c := aS Tryz.f131) Tryz.call131 (by kernel_rfl) (by kernel_rfl) (by kernel_rfl) 1
noncomputable abbrev Ed1 : Env Ab := ⟨tis, [(131, inl E0 Tryz.f131 1)] ++ E0.con⟩
theorem ed1Ok : aU Tryz.prog AI Ed1 := (ai.add vis_inl)
noncomputable abbrev Ed2 : Env Ab := ⟨(30, ⟨.slice 3 (some (.int .i64)), 1, 3, [.nilS]⟩) :: (3, ⟨.int .i64, 1, 0, [.li .i64 0]⟩) :: Ed1.ti, Ed1.con⟩
theorem ed2Ok : aU Tryz.prog AI Ed2 := fV ed1Ok (t := 30) (i := ⟨.slice 3 (some (.int .i64)), 1, 0, [.nilS]⟩) (tb := 3) (j := ⟨.int .i64, 1, 0, [.li .i64 0]⟩) rfl rfl
structure Lf (n : Nat) where
 i : Int
 M : List Int
 lo : 0 ≤ i
 hi : i ≤ (n : Int)
 len : M.length = n
 ok : ∀ k : Nat, (k : Int) < i → M[k]? = some (-1)
theorem Lf.zero (n : Nat) : ∃ x : Lf n, x.i = 0 ∧ x.M = List.replicate n 0 := ⟨⟨0, List.replicate n 0, Int.le_refl _, by omega, by simp, fun k h => by omega⟩, rfl, rfl⟩
theorem Lf.step {n : Nat} (x : Lf n) (h : x.i < (n : Int)) : ∃ y : Lf n, y.i = x.i + 1 ∧ y.M = x.M.set x.i.toNat (-1) := by
 have hlo := x.lo; have hl := x.len
 refine ⟨⟨x.i + 1, x.M.set x.i.toNat (-1), by omega, by omega, by simpa using hl, fun k hk => ?_⟩, rfl, rfl⟩
 rw [List.getElem?_set]
 split
 · rw [if_pos (by omega)]
 · exact x.ok k (by omega)
theorem Lf.done {n : Nat} (x : Lf n) (h : ¬ x.i < (n : Int)) : x.M = List.replicate n (-1) := by
 have hl := x.len
 refine List.ext_getElem? fun k => ?_
 rw [List.getElem?_replicate]
 split
 · exact x.ok k (by omega)
 · exact List.getElem?_eq_none (by omega)
def jE (p : a8) (root : Int) (up : List Bool) : Tup [DT.lst Ii] := (cz p.2 up p.1.length root, ())
structure UpOk (p : a8) (up : List Bool) : Prop where
 n : p.1.length ≤ 16
 c : p.2.length ≤ 32
 ends : bd p.2 p.1.length
 up : up.length = p.2.length
theorem cut_ok {α : Type} {L : List α} (h : (0 : Int) < (L.length : Int)) : 0 ≤ eZ (some fun _ => 1) () ∧ eZ (some fun _ => 1) () ≤ fm none (fun _ => (L.length : Int)) () ∧ fm none (fun _ => (L.length : Int)) () ≤ (L.length : Int) := ⟨by show (0 : Int) ≤ 1; decide, by show (1 : Int) ≤ L.length; omega, Int.le_refl _⟩
theorem vm {α : Type} (L : List α) : List.drop (eZ (some fun _ => 1) ()).toNat (List.take (fm none (fun _ => (L.length : Int)) ()).toNat L) = L.drop 1 := by
 show List.drop 1 (List.take (L.length : Int).toNat L) = L.drop 1
 rw [List.take_of_length_le (by omega)]
def gg : aB := ⟨[.cell bT, .cell Ii, .lst .bool], fun (x : a8 × Int × (List Bool) × Unit) => UpOk x.1 x.2.2.1 ∧ 0 ≤ x.2.1 ∧ x.2.1 < ((x.1).1.length : Int), [.lst Ii], fun (x : a8 × Int × (List Bool) × Unit) => jE x.1 x.2.1 x.2.2.1⟩
theorem dist_ok (p : a8) (root : Int) (up : List Bool) (h : gg.pre (p, root, up, ())) : PTk Tryz.prog AI 108 gg (p, root, up, ()) := by
 dsimp only [PTk, gg] at h ⊢
 generalize hr : jE p root up = r
 obtain ⟨p1, p2⟩ := p; obtain ⟨⟨hn, hc, hE, hup⟩, hr0, hr1⟩ := h; dsimp only at hn hc hE hup hr0 hr1
 dsimp only [jE] at hr
 refine Tb ed2Ok mixed (fn := Tryz.f108) ?_
 refine Pq ?_
 with_reducible repeat' (first | exact True.intro | refine Ca ?_ | refine Cb ?_ | refine Cd ?_ | (refine Ce ?_; (try ((repeat (first | rw [ifP] at hr | rw [ifM] at hr | rw [if_pos rfl] at hr)); subst hr))) | refine Cm ?_ ?_ | (first | refine Bo (fun hk h => ?_) fun hk h => ?_ | refine Al (fun hk h => ?_) fun hk h => ?_) <;> (try (exfalso; exact hab (by assumption) (by assumption) (by assumption))) <;> (try (have hb : (_ : Bool) = _ := h; clear h; subst hb)) <;> (try replace hr := hri hr) <;> first | exact Dd | refine Nx ?_)
 all_goals first | with_reducible refine Ez ?_ | exact Cl1 | exact Cl2 | skip
 obtain ⟨x0, hx0, hx1⟩ := Lf.zero p1.length
 refine ⟨⟨Lf p1.length, fun x => ⟨[(1, Sx.one (.int .i64 (fun _ => root))), (2, Sx.one (.ro .bool (fun _ => up))), (3, Sx.one (.ptr 0 0)), (7, Sx.one (.ptr 2 0)), (19, Sx.one (.int .i64 (fun _ => p1.length))), (20, Sx.one (.int .i64 (fun _ => x.i)))],
  [.cells 25 [.ro ah (fun _ => p1), .ro az (fun _ => p2)], .row 3 Ii 0 (fun _ => x.M), .cells 30 [.hd 1 0]]⟩, fun x => (p1.length - x.i).toNat, x0⟩, ?_, fun (x : Lf p1.length) => ?_⟩
 · refine Pq ?_
   with_reducible repeat' first | exact True.intro | refine Ca ?_ | refine Cb ?_ | refine Cd ?_ | refine Ce ?_ | refine Cm ?_ ?_
   all_goals first | with_reducible refine Ez ?_ | exact Cl1 | exact hx0.symm | exact hx1.symm | exact Cl2 | skip
 have hlo := x.lo
 have hhi := x.hi
 have hle := x.len
 refine Pq ?_
 with_reducible repeat' (first | exact True.intro | refine Ca ?_ | refine Cb ?_ | refine Cd ?_ | refine Ce ?_ | refine Cm ?_ ?_ | (first | refine Bo (fun hk h => ?_) fun hk h => ?_ | refine Al (fun hk h => ?_) fun hk h => ?_) <;> (try (exfalso; exact hab (by assumption) (by assumption) (by assumption))) <;> (try (have hb : (_ : Bool) = _ := h; clear h; subst hb)) <;> (try replace hr := hri hr) <;> first | exact Dd | refine Nx ?_)
 all_goals first | with_reducible refine Ez ?_ | exact Cl1 | exact Cl2 | skip
 · obtain ⟨y, hy1, hy2⟩ := x.step (by assumption)
   refine ⟨y, dF (by assumption) hy1, ?_⟩
   refine Pq ?_
   with_reducible repeat' first | exact True.intro | refine Ca ?_ | refine Cb ?_ | refine Cd ?_ | refine Ce ?_ | refine Cm ?_ ?_
   all_goals first | with_reducible refine Ez ?_ | exact Cl1 | exact hy1.symm | exact hy2.symm | exact Cl2 | skip
 have hM := x.done (by assumption)
 clear hx0 hx1 x0 hlo hhi hle
 obtain ⟨x0, hx0⟩ := Ds.zero (C := p2) (up := up) hr0 hr1
 refine ⟨⟨Ds p2 up p1.length root, fun x => ⟨[(2, Sx.one (.ro .bool (fun _ => up))), (3, Sx.one (.ptr 0 0)), (7, Sx.one (.ptr 2 0)), (9, Sx.one (.ptr 4 0))],
  [.cells 25 [.ro ah (fun _ => p1), .ro az (fun _ => p2)], .row 3 Ii 0 (fun _ => x.S.1), .cells 30 [.hd 1 0], .row 3 Ii 0 (fun _ => x.S.2), .cells 30 [.hd 3 0]]⟩, fun x => x.k, x0⟩, ?_, fun (x : Ds p2 up p1.length root) => ?_⟩
 · refine Pq ?_
   with_reducible repeat' first | exact True.intro | refine Ca ?_ | refine Cb ?_ | refine Cd ?_ | refine Ce ?_ | refine Cm ?_ ?_
   all_goals first | with_reducible refine Ez ?_ | exact Cl1 | (rw [hx0, hM]; rfl) | (rw [hx0]; rfl) | exact Cl2 | skip
 have hg := x.gd
 have hle := hg.len
 refine Pq ?_
 with_reducible repeat' (first | exact True.intro | refine Ca ?_ | refine Cb ?_ | refine Cd ?_ | refine Ce ?_ | refine Cm ?_ ?_ | (first | refine Bo (fun hk h => ?_) fun hk h => ?_ | refine Al (fun hk h => ?_) fun hk h => ?_) <;> (try (exfalso; exact hab (by assumption) (by assumption) (by assumption))) <;> (try (have hb : (_ : Bool) = _ := h; clear h; subst hb)) <;> (try replace hr := hri hr) <;> first | exact Dd | refine Nx ?_)
 all_goals first | with_reducible refine Ez ?_ | exact Cl1 | (subst hr; exact x.done (by omega)) | exact cut_ok h | exact Cl2 | skip
 have hq : 0 < x.S.2.length := by omega
 obtain ⟨hnd, hln⟩ := hg.head hq
 have hsc := fun (j : Nat) (hj : j ≤ p2.length) => Gd.scan (up := up) hE hnd j _ hj hg.tail hln
 refine ⟨⟨{j : Nat // j ≤ p2.length}, fun j => ⟨[(2, Sx.one (.ro .bool (fun _ => up))), (3, Sx.one (.ptr 0 0)), (7, Sx.one (.ptr 2 0)), (9, Sx.one (.ptr 4 0)), (10, Sx.one (.ptr 5 0)), (11, .val (.fn 131 [.ptr 2 0, .ptr 5 0, .ptr 4 0])), (42, Sx.one (.ro az (fun _ => p2))), (43, Sx.one (.int .i64 (fun _ => p2.length))), (44, Sx.one (.int .i64 (fun _ => j.1)))],
  [.cells 25 [.ro ah (fun _ => p1), .ro az (fun _ => p2)], .row 3 Ii 0 (fun _ => (k8 p2 up (x.S.2.getD 0 0) j.1 (x.S.1, x.S.2.drop 1)).1), .cells 30 [.hd 1 0], .row 3 Ii 0 (fun _ => (k8 p2 up (x.S.2.getD 0 0) j.1 (x.S.1, x.S.2.drop 1)).2), .cells 30 [.hd 3 0], .cells 3 [.int .i64 (fun _ => x.S.2.getD 0 0)]]⟩, fun j => p2.length - j.1, ⟨0, Nat.zero_le _⟩⟩, ?_, fun (j : {j : Nat // j ≤ p2.length}) => ?_⟩
 · refine Pq ?_
   with_reducible repeat' first | exact True.intro | refine Ca ?_ | refine Cb ?_ | refine Cd ?_ | refine Ce ?_ | refine Cm ?_ ?_
   all_goals first | with_reducible refine Ez ?_ | exact Cl1 | exact vm _ | (rw [vm]; rfl) | exact Cl2 | skip
 obtain ⟨j, hj⟩ := j
 dsimp only
 have hT := hsc j hj
 have hcb := fun hjl : j < p2.length => hE _ (eU hjl)
 have hst : j < p2.length → k8 p2 up (x.S.2.getD 0 0) (j + 1) (x.S.1, x.S.2.drop 1) = il (x.S.2.getD 0 0) (p2.getD j z6) (up.getD j false) (k8 p2 up (x.S.2.getD 0 0) j (x.S.1, x.S.2.drop 1)) := fun _ => rfl
 have hst2 := fun (hjl : j < p2.length) => hsc (j + 1) hjl
 have hmu : muS p1.length (x.S.1, x.S.2.drop 1) ≤ 17 := by
  have h1 := x.mu; have h2 := x.kb
  have : muS p1.length (x.S.1, x.S.2.drop 1) ≤ muS p1.length x.S := by unfold muS; simp only [List.length_drop]; omega
  omega
 generalize hnd' : x.S.2.getD 0 0 = nd at *
 generalize hS1 : (x.S.1, x.S.2.drop 1) = S1 at *
 generalize hTT : k8 p2 up nd j S1 = T at *
 have hab : ((j : Nat) : Int) < (p2.length : Int) → (p2.getD (j : Int).toNat z6).1 = nd → (p2.getD (j : Int).toNat z6).2.2.1 = nd → False := fun h1 h2 h3 => (hcb (by omega)).2.2 (h2.trans h3.symm)
 have ixA := fun (h1 : (j : Int) < (p2.length : Int)) => hT.1.ix (hcb (by omega)).1
 have ixB := fun (h1 : (j : Int) < (p2.length : Int)) => hT.1.ix (hcb (by omega)).2.1
 have ixN := hT.1.ix hnd
 have hi6 := hT.1.i64 hnd hn
 have hrow : ∀ o : Int, T.2.length + [o].length ≤ bP := fun o => Gd.row (C := p2) (root := root) (by rw [hT.2.2]; exact hmu)
 refine Pq ?_
 with_reducible repeat' (first | exact True.intro | refine Ca ?_ | refine Cb ?_ | refine Cd ?_ | refine Ce ?_ | refine Cm ?_ ?_ | (first | refine Bo (fun hk h => ?_) fun hk h => ?_ | refine Al (fun hk h => ?_) fun hk h => ?_) <;> (try (exfalso; exact hab (by assumption) (by assumption) (by assumption))) <;> (try (have hb : (_ : Bool) = _ := h; clear h; subst hb)) <;> (try replace hr := hri hr) <;> first | exact Dd | refine Nx ?_)
 all_goals first | with_reducible refine Ez ?_ | exact Cl1 | exact ixA (by assumption) | exact ixB (by assumption) | exact ixN | exact hi6 | exact hrow _ | exact Cl2 | skip
 rotate_right
 · have hj9 : j = p2.length := by omega
   obtain ⟨y, hy1, hy2⟩ := x.next hE hq
   have hyT : y.S = T := by
    rw [hy2, ← hTT, hj9]
    unfold sk
    rw [hnd', hS1]
   refine ⟨y, hy1, ?_⟩
   refine Pq ?_
   with_reducible repeat' first | exact True.intro | refine Ca ?_ | refine Cb ?_ | refine Cd ?_ | refine Ce ?_ | refine Cm ?_ ?_
   all_goals first | with_reducible refine Ez ?_ | exact Cl1 | (rw [hyT]; done) | exact Cl2 | skip
 all_goals
  (refine ⟨⟨j + 1, by omega⟩, (by dsimp only; omega), ?_⟩
   refine Pq ?_
   with_reducible repeat' first | exact True.intro | refine Ca ?_ | refine Cb ?_ | refine Cd ?_ | refine Ce ?_ | refine Cm ?_ ?_
   all_goals first | with_reducible refine Ez ?_ | exact Cl1 | exact (congrArg Prod.fst ((hst (by omega)).trans (stp1 (by assumption) ))).symm | exact (congrArg Prod.snd ((hst (by omega)).trans (stp1 (by assumption) ))).symm | exact (congrArg Prod.fst ((hst (by omega)).trans (stp2 (by assumption) (by assumption) (by assumption) (by assumption) ))).symm | exact (congrArg Prod.snd ((hst (by omega)).trans (stp2 (by assumption) (by assumption) (by assumption) (by assumption) ))).symm | exact (congrArg Prod.fst ((hst (by omega)).trans (stp3 (by assumption) (by assumption) (by assumption) (by assumption) ))).symm | exact (congrArg Prod.snd ((hst (by omega)).trans (stp3 (by assumption) (by assumption) (by assumption) (by assumption) ))).symm | exact (congrArg Prod.fst ((hst (by omega)).trans (stp4 (by assumption) (by assumption) (by assumption) (by assumption) ))).symm | exact (congrArg Prod.snd ((hst (by omega)).trans (stp4 (by assumption) (by assumption) (by assumption) (by assumption) ))).symm | exact (congrArg Prod.fst ((hst (by omega)).trans (stp5 (by assumption) (by assumption) (by assumption) (by assumption) ))).symm | exact (congrArg Prod.snd ((hst (by omega)).trans (stp5 (by assumption) (by assumption) (by assumption) (by assumption) ))).symm | exact (congrArg Prod.fst ((hst (by omega)).trans (stp6 (by assumption) (by assumption) ))).symm | exact (congrArg Prod.snd ((hst (by omega)).trans (stp6 (by assumption) (by assumption) ))).symm | exact Cl2 | skip)
theorem xD : aE Tryz.prog AI 108 gg.con := aB.sound Tryz.call108 (fun x h => dist_ok x.1 x.2.1 x.2.2.1 h)
def Ad (p : a8) (up : List Bool) : Tup [DT.cell .bool] := if bh p = 0 then (decide ((up.length : Int) = (p.2.length : Int)), ()) else (false, ())
noncomputable abbrev Ed3 : Env Ab := ⟨tis, [(20, bE.con)] ++ E0.con⟩
theorem ed3Ok : aU Tryz.prog AI Ed3 := (ai.add cR)
def jQ : aB := ⟨[.cell bT, .lst .bool], fun (x : a8 × (List Bool) × Unit) => wA x.1, [.cell .bool], fun (x : a8 × (List Bool) × Unit) => Ad x.1 x.2.1⟩
theorem use_ok (p : a8) (up : List Bool) (h : jQ.pre (p, up, ())) : PTk Tryz.prog AI 107 jQ (p, up, ()) := by
 dsimp only [PTk, jQ] at h ⊢
 generalize hr : Ad p up = r
 obtain ⟨p1, p2⟩ := p
 dsimp only [Ad] at hr
 refine Tb ed3Ok mixed (fn := Tryz.f107) ?_
 refine Pr ?_
 (try (conv in (SS.mk _ _) => dsimp only [aA]))
 refine Nx ?_
 with_reducible repeat' (first | exact True.intro | refine Ca ?_ | refine Cb ?_ | refine Cd ?_ | (refine Ce ?_; (try ((repeat (first | rw [ifP] at hr | rw [ifM] at hr | rw [if_pos rfl] at hr)); subst hr))) | refine Cm ?_ ?_ | (first | refine Bo (fun hk h => ?_) fun hk h => ?_ | refine Al (fun hk h => ?_) fun hk h => ?_) <;> (try dsimp only [aA] at h) <;> (try simp only [natCast_eq] at h) <;> (try (have hb : (_ : Bool) = _ := h; clear h; subst hb)) <;> (try replace hr := hri hr) <;> first | exact Dd | refine Nx ?_)
 all_goals first | with_reducible refine Ez ?_ | exact Cl1 | (dsimp only [aA]; exact Cl1) | exact Cl2 | (dsimp only [aA]; exact Cl2) | (dsimp only [aA] at *; exact Cl2) | skip
theorem ya : aE Tryz.prog AI 107 jQ.con := aB.sound Tryz.call107 (fun x h => use_ok x.1 x.2.1 h)
theorem vU {p : a8} {a b : Int} (h : (hpF p a b).1 = true) : 0 ≤ a ∧ a < (p.1.length : Int) := by
 unfold hpF at h
 split at h
 · split at h
   · exact ⟨by assumption, by assumption⟩
   · cases h
 · cases h
theorem bD {p : a8} (h : bh p = 0) : bd p.2 p.1.length := by
 unfold bh at h
 split at h <;> (try (cases h; done))
 split at h <;> (try (cases h; done))
 rename_i h2
 split at h <;> (try (cases h; done))
 split at h <;> (try (cases h; done))
 rename_i h4
 intro c hc
 have e2 := List.all_eq_true.1 h2 c hc
 have e4 := List.all_eq_true.1 h4 c hc
 obtain ⟨e5, e6⟩ := Bool.and_eq_true_iff.1 e2
 refine ⟨vU e5, vU e6, ?_⟩
 simpa [ik] using e4
structure k6 (p : a8) (up : List Bool) : Prop where
 pl : wA p
 ok : bh p = 0
 up : up.length = p.2.length
theorem k6.upOk {p : a8} {up : List Bool} (h : k6 p up) : UpOk p up := ⟨h.pl.n, h.pl.c, bD h.ok, h.up⟩
theorem k6.use {p : a8} {up : List Bool} (h : k6 p up) : Ad p up = (true, ()) := by unfold Ad; rw [if_pos h.ok, h.up]; simp
abbrev iq : Ty := .pair (.lst Ii) .unit
abbrev ab := List Int × Unit
noncomputable abbrev Eo1 : Env Ab := ⟨tis, [(108, gg.con), (107, jQ.con), (20, bE.con)] ++ E0.con⟩
theorem eo1Ok : aU Tryz.prog AI Eo1 := (((ai.add cR).add ya).add xD)
def jo : aB := ⟨[.cell bT, .cell Ii, .lst .bool], fun (x : a8 × Int × (List Bool) × Unit) => k6 x.1 x.2.2.1 ∧ 0 ≤ x.2.1 ∧ x.2.1 < ((x.1).1.length : Int), [.lst Ii], fun (x : a8 × Int × (List Bool) × Unit) => jE x.1 x.2.1 x.2.2.1⟩
theorem dst_ok (p : a8) (root : Int) (up : List Bool) (h : jo.pre (p, root, up, ())) : PTk Tryz.prog AI 67 jo (p, root, up, ()) := by
 dsimp only [PTk, jo] at h ⊢
 generalize hr : jE p root up = r
 obtain ⟨p1, p2⟩ := p; obtain ⟨hS, hr0, hr1⟩ := h; have hP := hS.pl; have hU := hS.upOk; have hue := hS.use; dsimp only at hr0 hr1
 dsimp only [jE] at hr
 refine Tb eo1Ok mixed (fn := Tryz.f67) ?_
 refine Pq ?_
 with_reducible repeat' (first | exact True.intro | refine Ca ?_ | refine Cb ?_ | refine Cd ?_ | (refine Ce ?_; (try ((repeat (first | rw [ifP] at hr | rw [ifM] at hr | rw [if_pos rfl] at hr)); subst hr))) | refine Cm ?_ ?_ | (first | refine Bo (fun hk h => ?_) fun hk h => ?_ | refine Al (fun hk h => ?_) fun hk h => ?_) <;> (try (have hb : (_ : Bool) = _ := h; clear h; subst hb)) <;> (try replace hr := hri hr) <;> first | exact Dd | refine Nx ?_)
 all_goals first | with_reducible refine Ez ?_ | exact Cl1 | (dsimp only [bE, jQ, gg]; simp only [aH, aJ]; first | exact hP | exact ⟨hU, hr0, hr1⟩) | (exfalso; rw [hue] at h; exact absurd h (by decide)) | exact Cl2 | skip
 dsimp only
 simp only [aH, aJ]
 rfl
theorem A3 : aE Tryz.prog AI 67 jo.con := aB.sound Tryz.call67 (fun x h => dst_ok x.1 x.2.1 x.2.2.1 h)
def ofF (p : a8) (up : List Bool) (root : Int) : Tup [DT.cell iq, DT.cell Ii] := ((cz p.2 up p.1.length root, ()), 0, ())
noncomputable abbrev Eo2 : Env Ab := ⟨tis, [(67, jo.con), (20, bE.con)] ++ E0.con⟩
theorem eo2Ok : aU Tryz.prog AI Eo2 := ((ai.add cR).add A3)
def pU : aB := ⟨[.cell bT, .lst .bool, .cell Ii], fun (x : a8 × (List Bool) × Int × Unit) => k6 x.1 x.2.1 ∧ 0 ≤ x.2.2.1 ∧ x.2.2.1 < ((x.1).1.length : Int), [.cell iq, .cell Ii], fun (x : a8 × (List Bool) × Int × Unit) => ofF x.1 x.2.1 x.2.2.1⟩
theorem of_ok (p : a8) (up : List Bool) (root : Int) (h : pU.pre (p, up, root, ())) : PTk Tryz.prog AI 21 pU (p, up, root, ()) := by
 dsimp only [PTk, pU] at h ⊢
 generalize hr : ofF p up root = r
 obtain ⟨p1, p2⟩ := p; obtain ⟨hS, hr0, hr1⟩ := h; have hP := hS.pl; have hU := hS.up; have hok := hS.ok; dsimp only at hr0 hr1 hU
 dsimp only [ofF] at hr
 refine Tb eo2Ok mixed (fn := Tryz.f21) ?_
 refine Pr ?_
 (try (conv in (SS.mk _ _) => dsimp only [aA, jE]))
 refine Nx ?_
 with_reducible repeat' (first | exact True.intro | refine Ca ?_ | refine Cb ?_ | refine Cd ?_ | (refine Ce ?_; (try ((repeat (first | rw [ifP] at hr | rw [ifM] at hr | rw [if_pos rfl] at hr)); subst hr))) | refine Cm ?_ ?_ | (first | refine Bo (fun hk h => ?_) fun hk h => ?_ | refine Al (fun hk h => ?_) fun hk h => ?_) <;> (try dsimp only [aA, jE] at h) <;> (try simp only [natCast_eq] at h) <;> (try (have hb : (_ : Bool) = _ := h; clear h; subst hb)) <;> (try replace hr := hri hr) <;> first | exact Dd | refine Nx ?_)
 all_goals first | with_reducible refine Ez ?_ | exact Cl1 | (dsimp only [aA, jE]; exact Cl1) | (dsimp only [bE, jo]; simp only [aH, aJ]; first | exact hP | exact ⟨hS, hr0, hr1⟩) | (exfalso; exact h hok) | exact Cl2 | (dsimp only [aA, jE]; exact Cl2) | (dsimp only [aA, jE] at *; exact Cl2) | skip
theorem BM : aE Tryz.prog AI 21 pU.con := aB.sound Tryz.call21 (fun x h => of_ok x.1 x.2.1 x.2.2.1 h)
end Go.Proofs.YtcaoldilmnpjoaaGreat
