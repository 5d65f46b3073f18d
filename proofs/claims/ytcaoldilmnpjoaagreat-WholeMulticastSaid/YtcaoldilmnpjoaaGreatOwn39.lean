/-
  Part Own39 of the proof.
-/
import Derived.Test.YtcaoldilmnpjoaaGreatOwn35
import Derived.Test.YtcaoldilmnpjoaaGreatEng3
namespace Go.Proofs.YtcaoldilmnpjoaaGreat
set_option linter.all false
open Go.RowKit Go.Sx
set_option maxRecDepth 100000
set_option maxHeartbeats 16000000
def tmC (x : U TmS) : List (Chunk Ab) := [.map (.int .i64) .bool (fun _ => (x ()).wd), .cells 49 [.mp 0], .cells 25 [.ro ah (fun _ => (x ()).p1), .ro az (fun _ => (x ()).p2)], .cells 30 [.ro Ii (fun _ => (x ()).par)], .cells 102 [.fnc 43 [1, 2, 3, 4, 5]], .cells 52 [.int .i64 (fun _ => (x ()).src), .hd 6 0, .hd 7 0], .nest 30 3 1 0 (fun _ => (x ()).out) none, .row 3 Ii 0 (fun _ => (x ()).dl)]
def cMap : Chunk Ab → Option (U (List (Int × Bool)))
 | .map (.int .i64) .bool L => some L
 | _ => none
theorem cMap_eq {c : Chunk Ab} {L} (h : cMap c = some L) : c = .map (.int .i64) .bool L := by
 unfold cMap at h
 split at h <;> cases h
 rfl
def cMp (t : Nat) : Chunk Ab → Bool
 | .cells t1 [.mp a] => aG t1 t && aG a 0
 | _ => false
theorem cMp_eq {t : Nat} {c : Chunk Ab} (h : cMp t c = true) : c = .cells t [.mp 0] := by
 unfold cMp at h
 split at h <;> (try (cases h; done))
 simp only [Bool.and_eq_true, ad] at h
 obtain ⟨rfl, rfl⟩ := h
 rfl
def cPl (t : Nat) : Chunk Ab → Option (U (List cL) × U (List aY))
 | .cells t1 [.ro (.pair .str (.pair .bool (.int .i64))) p1, .ro (.pair (.int .i64) (.pair (.int .i64) (.pair (.int .i64) (.pair (.int .i64) (.pair (.int .i64) (.int .i64)))))) p2] => (match aG t1 t with | true => some (p1, p2) | false => none)
 | _ => none
theorem C7 {t : Nat} {c : Chunk Ab} {x} (h : cPl t c = some x) : c = .cells t [.ro ah x.1, .ro az x.2] := by
 unfold cPl at h
 split at h <;> (try (cases h; done))
 split at h <;> cases h
 rename_i hb
 rw [ad.1 hb]
def cRo (t : Nat) : Chunk Ab → Option (U (List Int))
 | .cells t1 [.ro (.int .i64) L] => (match aG t1 t with | true => some L | false => none)
 | _ => none
theorem cRo_eq {t : Nat} {c : Chunk Ab} {L} (h : cRo t c = some L) : c = .cells t [.ro Ii L] := by
 unfold cRo at h
 split at h <;> (try (cases h; done))
 split at h <;> cases h
 rename_i hb
 rw [ad.1 hb]
theorem vg : ∀ {l m : List Nat}, x6 l m = true → l = m
 | [], [], _ => rfl
 | a :: l, b :: m, h => by
   obtain ⟨h1, h2⟩ := Bool.and_eq_true_iff.1 h
   rw [ad.1 h1, vg h2]
 | [], _ :: _, h => by cases h
 | _ :: _, [], h => by cases h
def cFn (t f : Nat) (ds : List Nat) : Chunk Ab → Bool
 | .cells t1 [.fnc g l] => aG t1 t && aG g f && x6 l ds
 | _ => false
theorem C8 {t f : Nat} {ds : List Nat} {c : Chunk Ab} (h : cFn t f ds c = true) : c = .cells t [.fnc f ds] := by
 unfold cFn at h
 split at h <;> (try (cases h; done))
 simp only [Bool.and_eq_true, ad] at h
 obtain ⟨⟨rfl, rfl⟩, h⟩ := h
 rw [vg h]
def cTr (t : Nat) : Chunk Ab → Option (U Int)
 | .cells t1 [.int .i64 s, .hd a v, .hd b w] => (match aG t1 t && aG a 6 && aG v 0 && aG b 7 && aG w 0 with | true => some s | false => none)
 | _ => none
theorem cTr_eq {t : Nat} {c : Chunk Ab} {s} (h : cTr t c = some s) : c = .cells t [.int .i64 s, .hd 6 0, .hd 7 0] := by
 unfold cTr at h
 split at h <;> (try (cases h; done))
 split at h <;> cases h
 rename_i hb
 simp only [Bool.and_eq_true, ad] at hb
 obtain ⟨⟨⟨⟨rfl, rfl⟩, rfl⟩, rfl⟩, rfl⟩ := hb
 rfl
def cNe (t tb : Nat) : Chunk Ab → Option (U (List (List Int)))
 | .nest t1 t2 z v O none => (match aG t1 t && aG t2 tb && aG z 1 && aG v 0 with | true => some O | false => none)
 | _ => none
theorem cNe_eq {t tb : Nat} {c : Chunk Ab} {O} (h : cNe t tb c = some O) : c = .nest t tb 1 0 O none := by
 unfold cNe at h
 split at h <;> (try (cases h; done))
 split at h <;> cases h
 rename_i hb
 simp only [Bool.and_eq_true, ad] at hb
 obtain ⟨⟨⟨rfl, rfl⟩, rfl⟩, rfl⟩ := hb
 rfl
def cRw (t : Nat) : Chunk Ab → Option (U (List Int))
 | .row t1 (.int .i64) v D => (match aG t1 t && aG v 0 with | true => some D | false => none)
 | _ => none
theorem C6 {t : Nat} {c : Chunk Ab} {D} (h : cRw t c = some D) : c = .row t Ii 0 D := by
 unfold cRw at h
 split at h <;> (try (cases h; done))
 split at h <;> cases h
 rename_i hb
 simp only [Bool.and_eq_true, ad] at hb
 obtain ⟨rfl, rfl⟩ := hb
 rfl
def unTm2 (c1 c4 : Chunk Ab) (L : U (List (Int × Bool))) (pp : U (List cL) × U (List aY)) (par : U (List Int)) (s : U Int) (O : U (List (List Int))) (D : U (List Int)) : Option (U TmS) :=
 match cMp 49 c1 && cFn 102 43 [1, 2, 3, 4, 5] c4 with
 | true => some (fun _ => ⟨L (), pp.1 (), pp.2 (), par (), s (), O (), D ()⟩)
 | false => none
def unTm : List (Chunk Ab) → Option (U TmS)
 | [c0, c1, c2, c3, c4, c5, c6, c7] => (match cMap c0 with
   | some L => (match cPl 25 c2 with
     | some pp => (match cRo 30 c3 with
       | some par => (match cTr 52 c5 with
         | some s => (match cNe 30 3 c6 with
           | some O => (match cRw 3 c7 with
             | some D => unTm2 c1 c4 L pp par s O D
             | none => none)
           | none => none)
         | none => none)
       | none => none)
     | none => none)
   | none => none)
 | _ => none
theorem unTm_eq (cs : List (Chunk Ab)) (W : U TmS) (h : unTm cs = some W) : cs = tmC (fun _ => W ()) := by
 unfold unTm at h
 split at h <;> (try (cases h; done))
 split at h <;> (try (cases h; done))
 rename_i h0
 split at h <;> (try (cases h; done))
 rename_i h2
 split at h <;> (try (cases h; done))
 rename_i h3
 split at h <;> (try (cases h; done))
 rename_i h5
 split at h <;> (try (cases h; done))
 rename_i h6
 split at h <;> (try (cases h; done))
 rename_i h7
 unfold unTm2 at h
 split at h <;> cases h
 rename_i hb
 obtain ⟨h1, h4⟩ := Bool.and_eq_true_iff.1 hb
 rw [cMap_eq h0, cMp_eq h1, C7 h2, cRo_eq h3, C8 h4, cTr_eq h5, cNe_eq h6, C6 h7]
 rfl
def tmP : AS Ab TmS := ⟨6, 8, unTm, tmC, by decide, unTm_eq⟩
structure TmOk (n : Nat) (S : TmS) (u o : Int) : Prop where
 tr : TrP (S.p1, S.p2)
 par : S.par.length = S.p1.length
 out : S.out.length = S.p1.length
 u0 : 0 ≤ u ∧ u < (S.p1.length : Int)
 ms : TmP (S.p1, S.p2) S.par n u o
 len : ∀ k, (S.out.getD k []).length + (apL (S.p1, S.p2) S.par S.wd n u o).length ≤ 1000000
def dg (n : Nat) : bp Ab TmS := ⟨tmP, [.cell Ii, .cell Ii], [1, 2, 3, 4, 5], fun S (x : Int × Int × Unit) => TmOk n S x.1 x.2.1, [.cell .bool], fun S (x : Int × Int × Unit) => (ndB (S.p1, S.p2) S.par S.wd n x.1 x.2.1, ()), fun S (x : Int × Int × Unit) => ⟨S.wd, S.p1, S.p2, S.par, S.src, ec S.out (apL (S.p1, S.p2) S.par S.wd n x.1 x.2.1), S.dl⟩⟩
noncomputable abbrev Etm0 : Env Ab := ⟨tis, [(45, cx.con), (44, iM.con)] ++ E0.con⟩
theorem etm0Ok : aU Tryz.prog AI Etm0 := ((ai.add s8).add lO)
noncomputable abbrev Etm1 : Env Ab := ⟨(50, ⟨.slice 30 (some (.lst (.int .i64))), 1, 3, [.nilS]⟩) :: (3, ⟨.int .i64, 1, 0, [.li .i64 0]⟩) :: Etm0.ti, Etm0.con⟩
theorem etm1Ok : aU Tryz.prog AI Etm1 := fV etm0Ok (t := 50) (i := ⟨.slice 30 (some (.lst (.int .i64))), 1, 0, [.nilS]⟩) (tb := 3) (j := ⟨.int .i64, 1, 0, [.li .i64 0]⟩) rfl rfl
noncomputable abbrev Etm (n : Nat) : Env Ab := ⟨Etm1.ti, [(43, (dg n).con)] ++ Etm1.con⟩
theorem tm_step (n : Nat) (S : TmS) (u o : Int) (h : (dg (n + 1)).pre S (u, o, ())) : ∃ args : List SV, args.length + [1, 2, 3, 4, 5].length ≤ Tryz.f43.ntmps ∧ args.all (iX 6) = true ∧ (∀ (ρ : Ev) us, aL (Den ρ) (dM [.cell Ii, .cell Ii] (fun _ => (u, o, ()))) us → aL (Den ρ) args us) ∧
 (svc (Etm n) 6 (aS Tryz.f43) ⟨cQ 0 (args ++ cg [1, 2, 3, 4, 5]), tmC (fun _ => S)⟩ (ek (Etm n).ti 6 Tryz.f43.results.toList (ag (svs [.cell .bool] (fun _ => (dg (n + 1)).f S (u, o, ())))) (tmC (fun _ => (dg (n + 1)).next S (u, o, ())))) ∨
  svc (Etm n) 6 (aS Tryz.f43) ⟨cQ 0 (args ++ cg [1, 2, 3, 4, 5]), tmC (fun _ => S)⟩ (nQ (Etm n).ti 6 Tryz.f43.results.toList (ag (svs [.cell .bool] (fun _ => (dg (n + 1)).f S (u, o, ())))) (tmC (fun _ => (dg (n + 1)).next S (u, o, ()))))) := by
 dsimp only [dg] at h ⊢
 obtain ⟨wd, p1, p2, par, src, out, dl⟩ := S
 obtain ⟨hT, hpar, hout, hu, hms, hlen⟩ := h
 dsimp only at hT hpar hout hu hms hlen ⊢
 have hm := hT.c
 have hn := hT.n
 dsimp only at hm hn
 have hA : apL (p1, p2) par wd (n + 1) u o = apJ (p1, p2) par wd n u o p2.length := rfl
 have hN : ndB (p1, p2) par wd (n + 1) u o = ndJ (p1, p2) par wd n u o p2.length := rfl
 rw [hA] at hlen ⊢
 rw [hN]
 clear hA hN
 refine ⟨dM [.cell Ii, .cell Ii] (fun _ => (u, o, ())), Nat.le_of_ble_eq_true (by kernel_rfl), rfl, (fun ρ us hd => hd), .inl ?_⟩
 refine Pq ?_
 with_reducible repeat' (first | exact True.intro | refine Ca ?_ | refine Cb ?_ | refine Cd ?_ | refine Ce ?_ | refine Cm ?_ ?_ | (first | refine Bo (fun hk h => ?_) fun hk h => ?_ | refine Al (fun hk h => ?_) fun hk h => ?_) <;> (try (have hb : (_ : Bool) = _ := h; clear h; subst hb)) <;> (try replace hr := hri hr) <;> first | exact Dd | refine Nx ?_)
 all_goals first | with_reducible refine Ez ?_ | exact Cl1 | exact Cl2 | skip
 refine ⟨⟨{j : Nat // j ≤ p2.length}, fun j => ⟨[(0, Sx.one (.int .i64 (fun _ => u))), (1, Sx.one (.int .i64 (fun _ => o))), (2, Sx.one (.ptr 1 0)), (3, Sx.one (.ptr 2 0)), (4, Sx.one (.ptr 3 0)), (5, Sx.one (.ptr 4 0)), (6, Sx.one (.ptr 5 0)), (10, Sx.one (.sb (fun _ => ndJ (p1, p2) par wd n u o j.1))), (18, Sx.one (.int .i64 (fun _ => p2.length))), (19, Sx.one (.int .i64 (fun _ => j.1)))],
  tmC (fun _ => ⟨wd, p1, p2, par, src, ec out (apJ (p1, p2) par wd n u o j.1), dl⟩)⟩, fun j => p2.length - j.1, ⟨0, Nat.zero_le _⟩⟩, ?_, fun (j : {j : Nat // j ≤ p2.length}) => ?_⟩
 · refine Pq ?_
   with_reducible repeat' first | exact True.intro | refine Ca ?_ | refine Cb ?_ | refine Cd ?_ | refine Ce ?_ | refine Cm ?_ ?_
   all_goals first | with_reducible refine Ez ?_ | exact Cl1 | rfl | exact (BS (p1, p2) par wd n u o).symm | exact Cl2 | skip
 obtain ⟨j, hj⟩ := j
 dsimp only
 obtain ⟨O, hO⟩ : ∃ O, ec out (apJ (p1, p2) par wd n u o j) = O := ⟨_, rfl⟩
 have hOl : O.length = p1.length := by rw [← hO, nY]; exact hout
 rw [hO]
 have hOr : ∀ k, (O.getD k []).length ≤ (out.getD k []).length + (apJ (p1, p2) par wd n u o j).length := fun k => by rw [← hO]; exact nX _ _ _
 have hx0 : 0 ≤ u ∧ u < (par.length : Int) := by rw [hpar]; exact hu
 have hx1 : 0 ≤ u ∧ u < (O.length : Int) := by rw [hOl]; exact hu
 have hot : ∀ (h : (lh (p1, p2) (j : Int) u).1 = true), 0 ≤ (otF (p1, p2) (j : Int) u).1 ∧ (otF (p1, p2) (j : Int) u).1 < (par.length : Int) := fun h => by rw [hpar]; exact tC hT h
 have hpo : (j : Int) < (p2.length : Int) → TrP (p1, p2) ∧ (0 ≤ (j : Int) ∧ (j : Int) < (p2.length : Int)) ∧ 0 ≤ u ∧ u < (p1.length : Int) := fun h => ⟨hT, ⟨by omega, h⟩, hu⟩
 have hle : ∀ (h : (j : Int) < (p2.length : Int)) (he : edB (p1, p2) par u o (j : Int) = true), (apJ (p1, p2) par wd n u o j).length + (apL (p1, p2) par wd n (otF (p1, p2) (j : Int) u).1 (j : Int)).length ≤ (apJ (p1, p2) par wd n u o p2.length).length := fun h he => by
  refine Nat.le_trans ?_ (apJ_le (p1, p2) par wd n u o (i := j + 1) (j := p2.length) (by omega))
  rw [jK, if_pos he, List.length_append, List.length_append]; omega
 have hpre : ∀ (h : (j : Int) < (p2.length : Int)) (he : edB (p1, p2) par u o (j : Int) = true), TmOk n ⟨wd, p1, p2, par, src, O, dl⟩ (otF (p1, p2) (j : Int) u).1 (j : Int) := fun h he => ⟨hT, hpar, hOl, (by
  have := hot (by unfold edB at he; simp only [Bool.and_eq_true] at he; exact he.2.1)
  rw [hpar] at this; exact this), hms.next hu.1 hu.2 he, fun k => by
  have h1 := hOr k
  have h2 := hlen k
  have h3 := hle h he
  show (O.getD k []).length + (apL (p1, p2) par wd n (otF (p1, p2) (j : Int) u).1 (j : Int)).length ≤ 1000000
  omega⟩
 obtain ⟨O2, hO2⟩ : ∃ O2, ec O (apL (p1, p2) par wd n (otF (p1, p2) (j : Int) u).1 (j : Int)) = O2 := ⟨_, rfl⟩
 have hO2l : O2.length = p1.length := by rw [← hO2, nY]; exact hOl
 have hx2 : 0 ≤ u ∧ u < ((ec O (apL (p1, p2) par wd n (otF (p1, p2) (j : Int) u).1 (j : Int))).length : Int) := by rw [hO2, hO2l]; exact hu
 have hR2 : ∀ (h : (j : Int) < (p2.length : Int)) (he : edB (p1, p2) par u o (j : Int) = true) (k : Nat) (x : Int), ((ec O (apL (p1, p2) par wd n (otF (p1, p2) (j : Int) u).1 (j : Int))).getD k []).length + [x].length ≤ bP := fun h he k x => by
  have h1 := nX O (apL (p1, p2) par wd n (otF (p1, p2) (j : Int) u).1 (j : Int)) k
  have h2 := hOr k
  have h3 := hlen k
  have h4 := hle h he
  show _ + 1 ≤ 1099511627776
  omega
 refine Pq ?_
 with_reducible repeat' (first | exact True.intro | refine Ca ?_ | refine Cb ?_ | refine Cd ?_ | refine Ce ?_ | refine Cm ?_ ?_ | (first | refine Bo (fun hk h => ?_) fun hk h => ?_ | refine Al (fun hk h => ?_) fun hk h => ?_) <;> (try (have hb : (_ : Bool) = _ := h; clear h; subst hb)) <;> (try replace hr := hri hr) <;> first | exact Dd | refine Nx ?_)
 all_goals first | with_reducible refine Ez ?_ | exact Cl1 | exact hx0 | exact hx2 | (dsimp only [dg, iM, cx]; (try simp only [aH, aJ]); first | exact hot (by assumption) | exact hx2 | exact ⟨hx2, rfl⟩ | exact hR2 (by assumption) (rG (by assumption) (by assumption) (.inl (by assumption))) _ _ | exact hR2 (by assumption) (rG (by assumption) (by assumption) (.inr (by assumption))) _ _ | exact hpre (by assumption) (rG (by assumption) (by assumption) (.inl (by assumption))) | exact hpre (by assumption) (rG (by assumption) (by assumption) (.inr (by assumption)))) | exact hot (by assumption) | exact hpo (by assumption) | exact hpre (by assumption) (rG (by assumption) (by assumption) (.inl (by assumption))) | exact hpre (by assumption) (rG (by assumption) (by assumption) (.inr (by assumption))) | (have e : j = p2.length := (by omega); rw [← hO, e]) | (have e : j = p2.length := (by omega); rw [e]) | exact Cl2 | skip
 all_goals
  (first
    | have hS := qj (wd := wd) (k := n) (ed_1 (p := (p1, p2)) (par := par) (u := u) h)
    | have hS := qj (wd := wd) (k := n) (ed_2 (par := par) (o := o) h)
    | have hS := qj (wd := wd) (k := n) (ed_3 (p := (p1, p2)) (par := par) (u := u) (o := o) (by assumption) h)
    | have hN := CD (wd := wd) (k := n) (rG (p := (p1, p2)) (par := par) (u := u) (o := o) (c := (j : Int)) (by assumption) (by assumption) (.inl (by assumption))) h
    | have hN := CD (wd := wd) (k := n) (rG (p := (p1, p2)) (par := par) (u := u) (o := o) (c := (j : Int)) (by assumption) (by assumption) (.inr (by assumption))) h
    | have hY := yR (wd := wd) (k := n) (rG (p := (p1, p2)) (par := par) (u := u) (o := o) (c := (j : Int)) (by assumption) (by assumption) (.inl (by assumption))) h
    | have hY := yR (wd := wd) (k := n) (rG (p := (p1, p2)) (par := par) (u := u) (o := o) (c := (j : Int)) (by assumption) (by assumption) (.inr (by assumption))) h
   refine ⟨⟨j + 1, by omega⟩, (by dsimp only; omega), ?_⟩
   refine Pq ?_
   with_reducible repeat' first | exact True.intro | refine Ca ?_ | refine Cb ?_ | refine Cd ?_ | refine Ce ?_ | refine Cm ?_ ?_
   all_goals first | with_reducible refine Ez ?_ | exact Cl1 | (rw [hS.1]; exact hO.symm) | exact hS.2.symm | exact hN.2.symm | exact hY.2.symm | (dsimp only; simp only [aH, aJ]; first | (rw [hN.1, nZ, hO]; done) | (rw [hY.1, nZ, nZ, hO]; rfl)) | exact Cl2 | skip)
theorem uO : ∀ n : Nat, aE Tryz.prog AI 43 (dg n).con
 | 0 => bp.sound ai mixed (fn := Tryz.f43) (c := aS Tryz.f43) Tryz.call43 (by kernel_rfl) (by kernel_rfl) (by kernel_rfl) (q := dg 0) rfl fun S x h => by
   obtain ⟨r, hr, _⟩ := h.ms
   exact absurd hr (Nat.not_lt_zero _)
 | n + 1 =>
   have hE : aU Tryz.prog AI (Etm n) := etm1Ok.add (uO n)
   bp.sound hE mixed (fn := Tryz.f43) (c := aS Tryz.f43) Tryz.call43 (by kernel_rfl) (by kernel_rfl) (by kernel_rfl) (q := dg (n + 1)) rfl fun S x h => tm_step n S x.1 x.2.1 h
end Go.Proofs.YtcaoldilmnpjoaaGreat
