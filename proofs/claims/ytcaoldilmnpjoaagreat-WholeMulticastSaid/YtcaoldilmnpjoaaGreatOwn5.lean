/-
  Part Own5 of the proof.
-/
import Derived.Test.YtcaoldilmnpjoaaGreatOwn1
import Derived.Test.YtcaoldilmnpjoaaGreatEng5
namespace Go.Proofs.YtcaoldilmnpjoaaGreat
set_option linter.all false
open Go.RowKit Go.Sx
set_option maxRecDepth 100000
set_option maxHeartbeats 16000000
def vnmF (l : List Int) : Bool := gq ⟨(u8s l).toArray⟩
theorem yV : aE Tryz.prog AI 106 (ey vnmF) := qv Tryz.call106 fun l w => yZ _ w
abbrev Ii : Ty := .int .i64
abbrev ah : Ty := .pair .str (.pair .bool Ii)
abbrev az : Ty := .pair Ii (.pair Ii (.pair Ii (.pair Ii (.pair Ii Ii))))
abbrev bT : Ty := .pair (.lst ah) (.lst az)
abbrev cL := List Int × Bool × Int
abbrev aY := Int × Int × Int × Int × Int × Int
abbrev a8 := List cL × List aY
abbrev z6 : aY := (0, 0, 0, 0, 0, 0)
abbrev zN : cL := ([], false, 0)
def ma (n : cL) : Tup [DT.cell .bool] :=
 if vnmF n.1 = true then
  (if n.2.1 = true then (if 1 ≤ n.2.2 then (decide (n.2.2 ≤ 8), ()) else (false, ())) else (decide (n.2.2 = 1), ()))
 else (false, ())
noncomputable abbrev Ev1 : Env Ab := ⟨tis, [(106, ey vnmF)] ++ E0.con⟩
theorem ev1Ok : aU Tryz.prog AI Ev1 := (ai.add yV)
def l4 : aB := ⟨[.cell ah], fun (x : cL × Unit) => bq (x.1).1, [.cell .bool], fun (x : cL × Unit) => ma x.1⟩
theorem vnd_ok (n : cL) (h : l4.pre (n, ())) : PTk Tryz.prog AI 64 l4 (n, ()) := by
 dsimp only [PTk, l4] at h ⊢
 generalize hr : ma n = r
 obtain ⟨n1, n2, n3⟩ := n
 dsimp only [ma] at hr
 refine Tb ev1Ok mixed (fn := Tryz.f64) ?_
 refine Pq ?_
 with_reducible repeat' (first | exact True.intro | refine Ca ?_ | refine Cb ?_ | refine Cd ?_ | (refine Ce ?_; (try ((repeat (first | rw [ifP] at hr | rw [ifM] at hr | rw [if_pos rfl] at hr)); subst hr))) | refine Cm ?_ ?_ | (first | refine Bo (fun hk h => ?_) fun hk h => ?_ | refine Al (fun hk h => ?_) fun hk h => ?_) <;> (try (have hb : (_ : Bool) = _ := h; clear h; subst hb)) <;> (try replace hr := hri hr) <;> first | exact Dd | refine Nx ?_)
 all_goals first | with_reducible refine Ez ?_ | exact Cl1 | exact Cl2 | skip
theorem yW : aE Tryz.prog AI 64 l4.con := aB.sound Tryz.call64 (fun x h => vnd_ok x.1 h)
abbrev portsAt (N : List cL) (k : Int) : Int := (N.getD k.toNat zN).2.2
def hpF (p : a8) (node port : Int) : Tup [DT.cell .bool] :=
 if 0 ≤ node then (if node < (p.1.length : Int) then (if 0 ≤ port then (decide (port < portsAt p.1 node), ()) else (false, ())) else (false, ())) else (false, ())
def qG : aB := ⟨[.cell bT, .cell Ii, .cell Ii], fun (x : a8 × Int × Int × Unit) => (x.1).1.length ≤ 16, [.cell .bool], fun (x : a8 × Int × Int × Unit) => hpF x.1 x.2.1 x.2.2.1⟩
theorem hp_ok (p : a8) (node : Int) (port : Int) (h : qG.pre (p, node, port, ())) : PTk Tryz.prog AI 65 qG (p, node, port, ()) := by
 dsimp only [PTk, qG] at h ⊢
 generalize hr : hpF p node port = r
 obtain ⟨p1, p2⟩ := p
 dsimp only [hpF] at hr
 refine Tb ai mixed (fn := Tryz.f65) ?_
 refine Pq ?_
 with_reducible repeat' (first | exact True.intro | refine Ca ?_ | refine Cb ?_ | refine Cd ?_ | (refine Ce ?_; (try ((repeat (first | rw [ifP] at hr | rw [ifM] at hr | rw [if_pos rfl] at hr)); subst hr))) | refine Cm ?_ ?_ | (first | refine Bo (fun hk h => ?_) fun hk h => ?_ | refine Al (fun hk h => ?_) fun hk h => ?_) <;> (try (have hb : (_ : Bool) = _ := h; clear h; subst hb)) <;> (try replace hr := hri hr) <;> first | exact Dd | refine Nx ?_)
 all_goals first | with_reducible refine Ez ?_ | exact Cl1 | exact Cl2 | skip
theorem Bf : aE Tryz.prog AI 65 qG.con := aB.sound Tryz.call65 (fun x h => hp_ok x.1 x.2.1 x.2.2.1 h)
def fW (C : List aY) : List (Int × Int) := C.flatMap fun c => [(c.1, c.2.1), (c.2.2.1, c.2.2.2.1)]
def oH (p : a8) : Bool := !decide ((p.1.map Prod.fst).Nodup ∧ (fW p.2).Nodup)
theorem te : ∀ (C : List aY) (k : Nat), k < C.length → (fW C)[2 * k]? = some ((C.getD k z6).1, (C.getD k z6).2.1) ∧ (fW C)[2 * k + 1]? = some ((C.getD k z6).2.2.1, (C.getD k z6).2.2.2.1)
 | c :: C, 0, _ => ⟨rfl, rfl⟩
 | c :: C, k + 1, h => by
   have ih := te C k (by simpa using h)
   have e : fW (c :: C) = (c.1, c.2.1) :: (c.2.2.1, c.2.2.2.1) :: fW C := rfl
   rw [e, show 2 * (k + 1) = 2 * k + 1 + 1 from by omega, show 2 * k + 1 + 1 + 1 = 2 * k + 1 + 1 + 1 from rfl]
   simpa using ih
theorem qU : ∀ C : List aY, (fW C).length = 2 * C.length
 | [] => rfl
 | c :: C => by
   have e : fW (c :: C) = (c.1, c.2.1) :: (c.2.2.1, c.2.2.2.1) :: fW C := rfl
   have ih := qU C
   rw [e, List.length_cons, List.length_cons, List.length_cons, ih]; omega
theorem nm_at (N : List cL) (x : Sn (N.map Prod.fst)) (h : (x.n : Int) < (N.length : Int)) : (N.map Prod.fst)[x.n]? = some (N.getD (x.n : Int).toNat zN).1 := by
 have e : (x.n : Int).toNat = x.n := rfl
 have h2 : x.n < N.length := by omega
 rw [e, List.getD_eq_getElem?_getD, List.getElem?_eq_getElem h2, List.getElem?_map, List.getElem?_eq_getElem h2]; rfl
structure Se (C : List aY) where
 s : Sn (fW C)
 i : Nat
 j : Nat
 eq : s.n = 2 * i + j
theorem Se.ihi {C : List aY} (x : Se C) : x.i ≤ C.length := by have h1 := x.s.le; have h2 := x.eq; rw [qU] at h1; omega
theorem Se.z {C : List aY} : ∃ x : Se C, x.i = 0 ∧ x.j = 0 ∧ x.s.D = [] := by
 obtain ⟨x, h1, h2⟩ := Sn.zero (fW C)
 exact ⟨⟨x, 0, 0, h1⟩, rfl, rfl, h2⟩
theorem Se.e0 {C : List aY} (x : Se C) (hj : x.j = 0) (h : (x.i : Int) < (C.length : Int)) : (fW C)[x.s.n]? = some ((C.getD (x.i : Int).toNat z6).1, (C.getD (x.i : Int).toNat z6).2.1) := by
 rw [x.eq, hj]; exact (te C x.i (by omega)).1
theorem Se.e1 {C : List aY} (x : Se C) (hj : x.j = 1) (h : (x.i : Int) < (C.length : Int)) : (fW C)[x.s.n]? = some ((C.getD (x.i : Int).toNat z6).2.2.1, (C.getD (x.i : Int).toNat z6).2.2.2.1) := by
 rw [x.eq, hj]; exact (te C x.i (by omega)).2
theorem Se.inc {C : List aY} (x : Se C) {k : Int × Int} (hk : (fW C)[x.s.n]? = some k) (h : ¬ (bB x.s.D k).getD false = true) : ∃ y : Se C, y.i = x.i ∧ y.j = x.j + 1 ∧ y.s.D = ak x.s.D k true := by
 obtain ⟨y, h1, h2⟩ := x.s.step hk h
 exact ⟨⟨y, x.i, x.j + 1, by rw [h1, x.eq]; omega⟩, rfl, rfl, h2⟩
theorem Se.nxt {C : List aY} (x : Se C) (h : x.j = 2) : ∃ y : Se C, y.i = x.i + 1 ∧ y.j = 0 ∧ y.s.D = x.s.D :=
 ⟨⟨x.s, x.i + 1, 0, by have := x.eq; omega⟩, rfl, rfl, rfl⟩
theorem nm_in {N : List cL} (h : ∀ n ∈ N, bq n.1) {k : Int} (hk : k < (N.length : Int)) : bq (N.getD k.toNat zN).1 := by
 by_cases h2 : k.toNat < N.length
 · rw [List.getD_eq_getElem?_getD, List.getElem?_eq_getElem h2]; exact h _ (List.getElem_mem h2)
 · rw [List.getD_eq_getElem?_getD, List.getElem?_eq_none (by omega)]; intro x hx; cases hx
theorem cab_in {C : List aY} (h : ∀ c ∈ C, az.bW c) {k : Int} (hk : k < (C.length : Int)) : az.bW (C.getD k.toNat z6) := by
 by_cases h2 : k.toNat < C.length
 · rw [List.getD_eq_getElem?_getD, List.getElem?_eq_getElem h2]; exact h _ (List.getElem_mem h2)
 · rw [List.getD_eq_getElem?_getD, List.getElem?_eq_none (by omega)]; simp [Ty.bW]
theorem tR {n : Nat} (h : (n : Int) = Int.ofNat 0) : n = 0 := Int.ofNat.inj h
theorem vS {n : Nat} (h0 : ¬ (n : Int) = Int.ofNat 0) (h : (n : Int) < 2) : n = 1 := by
 have h1 : ¬ n = 0 := fun e => h0 (congrArg Int.ofNat e)
 omega
theorem rep_n {p1 : List cL} {p2 : List aY} (h : ¬ (p1.map Prod.fst).Nodup) : oH (p1, p2) = true := by unfold oH; simp [h]
theorem rep_e {p1 : List cL} {p2 : List aY} (h : ¬ (fW p2).Nodup) : oH (p1, p2) = true := by unfold oH; simp [h]
theorem rep_no {p1 : List cL} {p2 : List aY} (h1 : (p1.map Prod.fst).Nodup) (x : Se p2) (hj : x.j = 0) (h : ¬ (x.i : Int) < (p2.length : Int)) : oH (p1, p2) = false := by
 have h2 : (fW p2).Nodup := x.s.done (by have h3 := x.eq; have h4 := qU p2; omega)
 unfold oH; simp [h1, h2]
def bI (p : a8) : Tup [DT.cell .bool] := (oH p, ())
def jc : aB := ⟨[.cell bT], fun (x : a8 × Unit) => (x.1).1.length ≤ 16 ∧ (x.1).2.length ≤ 32 ∧ (∀ n ∈ (x.1).1, bq n.1) ∧ ∀ c ∈ (x.1).2, az.bW c, [.cell .bool], fun (x : a8 × Unit) => bI x.1⟩
theorem rep_ok (p : a8) (h : jc.pre (p, ())) : PTk Tryz.prog AI 66 jc (p, ()) := by
 dsimp only [PTk, jc] at h ⊢
 generalize hr : bI p = r
 obtain ⟨p1, p2⟩ := p
 dsimp only [bI] at hr
 refine Tb ai mixed (fn := Tryz.f66) ?_
 refine Pq ?_
 with_reducible repeat' (first | exact True.intro | refine Ca ?_ | refine Cb ?_ | refine Cd ?_ | (refine Ce ?_; (try ((repeat (first | rw [ifP] at hr | rw [ifM] at hr | rw [if_pos rfl] at hr)); subst hr))) | refine Cm ?_ ?_ | (first | refine Bo (fun hk h => ?_) fun hk h => ?_ | refine Al (fun hk h => ?_) fun hk h => ?_) <;> (try (have hb : (_ : Bool) = _ := h; clear h; subst hb)) <;> (try replace hr := hri hr) <;> first | exact Dd | refine Nx ?_)
 all_goals first | with_reducible refine Ez ?_ | exact Cl1 | exact Cl2 | skip
 obtain ⟨hp1, hp2, hp3, hp4⟩ := h
 have zn := fun (x : Sn (p1.map Prod.fst)) (hx : (x.n : Int) < (p1.length : Int)) => nm_at p1 x hx
 obtain ⟨x0, hx0, hx1⟩ := Sn.zero (p1.map Prod.fst)
 refine ⟨⟨Sn (p1.map Prod.fst), fun x => ⟨[(1, Sx.one (.ptr 0 0)), (3, Sx.one (.mp 1)), (13, Sx.one (.ro ah (fun _ => p1))), (14, Sx.one (.int .i64 (fun _ => p1.length))), (15, Sx.one (.int .i64 (fun _ => x.n)))],
  [.cells 25 [.ro ah (fun _ => p1), .ro az (fun _ => p2)], .map .str .bool (fun _ => x.D)]⟩, fun x => p1.length - x.n, x0⟩, ?_, fun (x : Sn (p1.map Prod.fst)) => ?_⟩
 · refine Pq ?_
   with_reducible repeat' first | exact True.intro | refine Ca ?_ | refine Cb ?_ | refine Cd ?_ | refine Ce ?_ | refine Cm ?_ ?_
   all_goals first | with_reducible refine Ez ?_ | exact Cl1 | exact Cl2 | skip
 have hle := x.le
 have hdl := x.dl
 rw [List.length_map] at hle
 dsimp only at hp1 hp2 hp3 hp4
 refine Pq ?_
 with_reducible repeat' (first | exact True.intro | refine Ca ?_ | refine Cb ?_ | refine Cd ?_ | refine Ce ?_ | refine Cm ?_ ?_ | (first | refine Bo (fun hk h => ?_) fun hk h => ?_ | refine Al (fun hk h => ?_) fun hk h => ?_) <;> (try (have hb : (_ : Bool) = _ := h; clear h; subst hb)) <;> (try replace hr := hri hr) <;> first | exact Dd | refine Nx ?_)
 all_goals first | with_reducible refine Ez ?_ | exact Cl1 | exact nm_in hp3 (by assumption) | (subst hr; exact (rep_n (x.hit (zn x (by assumption)) h)).symm) | (show _ ≤ _; omega) | exact Cl2 | skip
 · obtain ⟨y, hy1, hy2⟩ := x.step (zn x (by assumption)) (by rw [h]; decide)
   refine ⟨y, by (try dsimp only); omega, ?_⟩
   refine Pq ?_
   with_reducible repeat' first | exact True.intro | refine Ca ?_ | refine Cb ?_ | refine Cd ?_ | refine Ce ?_ | refine Cm ?_ ?_
   all_goals first | with_reducible refine Ez ?_ | exact Cl1 | exact hy2.symm | (rw [hy1]; rfl) | (rw [hy1]; omega) | exact Cl2 | skip
 have hnm := x.done (by rw [List.length_map]; omega)
 clear hx0 hx1 x0 hle hdl
 obtain ⟨x0, hx0, hx1, hx2⟩ := Se.z (C := p2)
 refine ⟨⟨{x : Se p2 // x.j = 0}, fun x => ⟨[(1, Sx.one (.ptr 0 0)), (6, Sx.one (.mp 2)), (29, Sx.one (.ro az (fun _ => p2))), (30, Sx.one (.int .i64 (fun _ => p2.length))), (31, Sx.one (.int .i64 (fun _ => x.1.i)))],
  [.cells 25 [.ro ah (fun _ => p1), .ro az (fun _ => p2)], .gone, .map (.agg (.pair Ii Ii)) .bool (fun _ => x.1.s.D)]⟩, fun x => p2.length - x.1.i, ⟨x0, hx1⟩⟩, ?_, fun (x : {x : Se p2 // x.j = 0}) => ?_⟩
 · refine Pq ?_
   with_reducible repeat' first | exact True.intro | refine Ca ?_ | refine Cb ?_ | refine Cd ?_ | refine Ce ?_ | refine Cm ?_ ?_
   all_goals first | with_reducible refine Ez ?_ | exact Cl1 | (rw [hx0]; rfl) | exact hx2.symm | exact Cl2 | skip
 obtain ⟨x, hxj⟩ := x
 dsimp only
 have hle := x.ihi
 have hdl := x.s.dl
 refine Pq ?_
 with_reducible repeat' (first | exact True.intro | refine Ca ?_ | refine Cb ?_ | refine Cd ?_ | refine Ce ?_ | refine Cm ?_ ?_ | (first | refine Bo (fun hk h => ?_) fun hk h => ?_ | refine Al (fun hk h => ?_) fun hk h => ?_) <;> (try (have hb : (_ : Bool) = _ := h; clear h; subst hb)) <;> (try replace hr := hri hr) <;> first | exact Dd | refine Nx ?_)
 all_goals first | with_reducible refine Ez ?_ | exact Cl1 | (subst hr; exact (rep_no hnm x hxj (by assumption)).symm) | exact Cl2 | skip
 have he0 := fun (y : Se p2) (h1 : y.i = x.i) (h2 : y.j = 0) => h1 ▸ y.e0 h2 (by rw [h1]; assumption)
 have he1 := fun (y : Se p2) (h1 : y.i = x.i) (h2 : y.j = 1) => h1 ▸ y.e1 h2 (by rw [h1]; assumption)
 have hci := cab_in hp4 (k := (x.i : Int)) (by assumption)
 refine ⟨⟨{y : Se p2 // y.i = x.i ∧ y.j ≤ 2}, fun y => ⟨[(1, Sx.one (.ptr 0 0)), (6, Sx.one (.mp 2)), (29, Sx.one (.ro az (fun _ => p2))), (30, Sx.one (.int .i64 (fun _ => p2.length))), (31, Sx.one (.int .i64 (fun _ => x.i))),
  (45, .val (.agg [.int .i64 (fun _ => (p2.getD (x.i : Int).toNat z6).1), .int .i64 (fun _ => (p2.getD (x.i : Int).toNat z6).2.1), .int .i64 (fun _ => (p2.getD (x.i : Int).toNat z6).2.2.1), .int .i64 (fun _ => (p2.getD (x.i : Int).toNat z6).2.2.2.1)])),
  (46, Sx.one (.int .i64 (fun _ => y.1.j)))],
  [.cells 25 [.ro ah (fun _ => p1), .ro az (fun _ => p2)], .gone, .map (.agg (.pair Ii Ii)) .bool (fun _ => y.1.s.D), .gone]⟩, fun y => 2 - y.1.j, ⟨x, rfl, by omega⟩⟩, ?_, fun (y : {y : Se p2 // y.i = x.i ∧ y.j ≤ 2}) => ?_⟩
 · refine Pq ?_
   with_reducible repeat' first | exact True.intro | refine Ca ?_ | refine Cb ?_ | refine Cd ?_ | refine Ce ?_ | refine Cm ?_ ?_
   all_goals first | with_reducible refine Ez ?_ | exact Cl1 | (rw [hxj]; rfl) | exact Cl2 | skip
 obtain ⟨y, hy1, hy2⟩ := y
 dsimp only
 have hle := y.ihi
 have hdl := y.s.dl
 have hye := y.eq
 refine Pq ?_
 with_reducible repeat' (first | exact True.intro | refine Ca ?_ | refine Cb ?_ | refine Cd ?_ | refine Ce ?_ | refine Cm ?_ ?_ | (first | refine Bo (fun hk h => ?_) fun hk h => ?_ | refine Al (fun hk h => ?_) fun hk h => ?_) <;> (try (have hb : (_ : Bool) = _ := h; clear h; subst hb)) <;> (try replace hr := hri hr) <;> first | exact Dd | refine Nx ?_)
 all_goals first | with_reducible refine Ez ?_ | exact Cl1 | exact ⟨hci.1, hci.2.1⟩ | exact ⟨hci.2.2.1, hci.2.2.2.1⟩ | exact congrArg Int.ofNat (vS (by assumption) (by assumption)) | (subst hr; exact (rep_e (y.s.hit (he0 y hy1 (tR (by assumption))) h)).symm) | (subst hr; exact (rep_e (y.s.hit (he1 y hy1 (vS (by assumption) (by assumption))) h)).symm) | (show _ ≤ _; omega) | exact Cl2 | skip
 · have hjz := tR (n := y.j) (by assumption)
   obtain ⟨u, hu1, hu2, hu3⟩ := y.inc (he0 y hy1 (tR (by assumption))) (by rw [h]; decide)
   refine ⟨⟨u, by omega, by omega⟩, by (try dsimp only); omega, ?_⟩
   refine Pq ?_
   with_reducible repeat' first | exact True.intro | refine Ca ?_ | refine Cb ?_ | refine Cd ?_ | refine Ce ?_ | refine Cm ?_ ?_
   all_goals first | with_reducible refine Ez ?_ | exact Cl1 | exact hu3.symm | (rw [hu2]; rfl) | (rw [hu2]; omega) | exact Cl2 | skip
 · have hjz := vS (n := y.j) (by assumption) (by assumption)
   obtain ⟨u, hu1, hu2, hu3⟩ := y.inc (he1 y hy1 (vS (by assumption) (by assumption))) (by rw [h]; decide)
   refine ⟨⟨u, by omega, by omega⟩, by (try dsimp only); omega, ?_⟩
   refine Pq ?_
   with_reducible repeat' first | exact True.intro | refine Ca ?_ | refine Cb ?_ | refine Cd ?_ | refine Ce ?_ | refine Cm ?_ ?_
   all_goals first | with_reducible refine Ez ?_ | exact Cl1 | exact hu3.symm | (rw [hu2]; rfl) | (rw [hu2]; omega) | exact Cl2 | skip
 obtain ⟨u, hu1, hu2, hu3⟩ := y.nxt (by omega)
 refine ⟨⟨u, hu2⟩, by (try dsimp only); omega, ?_⟩
 refine Pq ?_
 with_reducible repeat' first | exact True.intro | refine Ca ?_ | refine Cb ?_ | refine Cd ?_ | refine Ce ?_ | refine Cm ?_ ?_
 all_goals first | with_reducible refine Ez ?_ | exact Cl1 | exact hu3.symm | (rw [hu1, hy1]; rfl) | (rw [hu1]; omega) | exact Cl2 | skip
theorem zO : aE Tryz.prog AI 66 jc.con := aB.sound Tryz.call66 (fun x h => rep_ok x.1 h)
end Go.Proofs.YtcaoldilmnpjoaaGreat
