/-
  Part Own40 of the proof.
-/
import Derived.Test.YtcaoldilmnpjoaaGreatOwn39
import Derived.Test.YtcaoldilmnpjoaaGreatOwn38
import Derived.Test.YtcaoldilmnpjoaaGreatOwn31
import Derived.Test.YtcaoldilmnpjoaaGreatOwn34
namespace Go.Proofs.YtcaoldilmnpjoaaGreat
set_option linter.all false
open Go.RowKit Go.Sx
set_option maxRecDepth 100000
set_option maxHeartbeats 16000000
def rcC (x : U RcS) : List (Chunk Ab) := [.cells 30 [.hd 4 0], .cells 52 [.int .i64 (fun _ => (x ()).src), .ro (.lst Ii) (fun _ => (x ()).out), .ro Ii (fun _ => (x ()).dl)], .cells 102 [.fnc 117 [0, 1, 2, 3]], .cells 25 [.ro ah (fun _ => (x ()).p1), .ro az (fun _ => (x ()).p2)], .row 3 Ii 0 (fun _ => (x ()).ov)]
def cHd (t i : Nat) : Chunk Ab → Bool
 | .cells t1 [.hd a v] => aG t1 t && aG a i && aG v 0
 | _ => false
theorem cHd_eq {t i : Nat} {c : Chunk Ab} (h : cHd t i c = true) : c = .cells t [.hd i 0] := by
 unfold cHd at h
 split at h <;> (try (cases h; done))
 simp only [Bool.and_eq_true, ad] at h
 obtain ⟨⟨rfl, rfl⟩, rfl⟩ := h
 rfl
def cTo (t : Nat) : Chunk Ab → Option (U Int × U (List (List Int)) × U (List Int))
 | .cells t1 [.int .i64 s, .ro (.lst (.int .i64)) O, .ro (.int .i64) D] => (match aG t1 t with | true => some (s, O, D) | false => none)
 | _ => none
theorem cTo_eq {t : Nat} {c : Chunk Ab} {x} (h : cTo t c = some x) : c = .cells t [.int .i64 x.1, .ro (.lst Ii) x.2.1, .ro Ii x.2.2] := by
 unfold cTo at h
 split at h <;> (try (cases h; done))
 split at h <;> cases h
 rename_i hb
 rw [ad.1 hb]
def unRc2 (c0 c2 : Chunk Ab) (t : U Int × U (List (List Int)) × U (List Int)) (pp : U (List cL) × U (List aY)) (V : U (List Int)) : Option (U RcS) :=
 match cHd 30 4 c0 && cFn 102 117 [0, 1, 2, 3] c2 with
 | true => some (fun _ => ⟨pp.1 (), pp.2 (), t.1 (), t.2.1 (), t.2.2 (), V ()⟩)
 | false => none
def unRc : List (Chunk Ab) → Option (U RcS)
 | [c0, c1, c2, c3, c4] => (match cTo 52 c1 with
   | some t => (match cPl 25 c3 with
     | some pp => (match cRw 3 c4 with
       | some V => unRc2 c0 c2 t pp V
       | none => none)
     | none => none)
   | none => none)
 | _ => none
theorem unRc_eq (cs : List (Chunk Ab)) (W : U RcS) (h : unRc cs = some W) : cs = rcC (fun _ => W ()) := by
 unfold unRc at h
 split at h <;> (try (cases h; done))
 split at h <;> (try (cases h; done))
 rename_i h1
 split at h <;> (try (cases h; done))
 rename_i h3
 split at h <;> (try (cases h; done))
 rename_i h4
 unfold unRc2 at h
 split at h <;> cases h
 rename_i hb
 obtain ⟨h0, h2⟩ := Bool.and_eq_true_iff.1 hb
 rw [cHd_eq h0, cTo_eq h1, C8 h2, C7 h3, C6 h4]
 rfl
def rcP : AS Ab RcS := ⟨4, 5, unRc, rcC, by decide, unRc_eq⟩
def eA (n : Nat) : bp Ab RcS := ⟨rcP, [.cell Ii, .cell Ii], [0, 1, 2, 3], fun S (x : Int × Int × Unit) => oU n S x.1 x.2.1, [.cell .bool], fun S (x : Int × Int × Unit) => (true, ()), fun S (x : Int × Int × Unit) => ⟨S.p1, S.p2, S.src, S.out, S.dl, cu S.ov (rlT (S.p1, S.p2) S.out n x.1 x.2.1)⟩⟩
noncomputable abbrev Erc1 : Env Ab := ⟨tis, [(45, cx.con)] ++ E0.con⟩
theorem erc1Ok : aU Tryz.prog AI Erc1 := (ai.add lO)
noncomputable abbrev Erc (n : Nat) : Env Ab := ⟨Erc1.ti, [(117, (eA n).con)] ++ Erc1.con⟩
theorem rc_step (n : Nat) (S : RcS) (u c : Int) (h : (eA (n + 1)).pre S (u, c, ())) : ∃ args : List SV, args.length + [0, 1, 2, 3].length ≤ Tryz.f117.ntmps ∧ args.all (iX 4) = true ∧ (∀ (ρ : Ev) us, aL (Den ρ) (dM [.cell Ii, .cell Ii] (fun _ => (u, c, ()))) us → aL (Den ρ) args us) ∧
 (svc (Erc n) 4 (aS Tryz.f117) ⟨cQ 0 (args ++ cg [0, 1, 2, 3]), rcC (fun _ => S)⟩ (ek (Erc n).ti 4 Tryz.f117.results.toList (ag (svs [.cell .bool] (fun _ => (eA (n + 1)).f S (u, c, ())))) (rcC (fun _ => (eA (n + 1)).next S (u, c, ())))) ∨
  svc (Erc n) 4 (aS Tryz.f117) ⟨cQ 0 (args ++ cg [0, 1, 2, 3]), rcC (fun _ => S)⟩ (nQ (Erc n).ti 4 Tryz.f117.results.toList (ag (svs [.cell .bool] (fun _ => (eA (n + 1)).f S (u, c, ())))) (rcC (fun _ => (eA (n + 1)).next S (u, c, ()))))) := by
 dsimp only [eA] at h ⊢
 have h0 := h
 obtain ⟨p1, p2, src, out, dl, ov⟩ := S
 have hu := h0.u0
 have hat := h0.at0
 have hT := h0.tr
 have hkid := fun (j : Nat) => h0.kid (j := j)
 have hnext := fun (j : Nat) => h0.next (j := j)
 obtain ⟨_, hovl, hout, _, _, _, hln⟩ := h
 dsimp only at hu hat hT hkid hnext hovl hout hln ⊢
 have hl0 := hln u.toNat
 have hx0 : 0 ≤ u ∧ u < (ov.length : Int) := by rw [hovl]; exact hu
 have hx1 : 0 ≤ u ∧ u < (out.length : Int) := by rw [hout]; exact hu
 clear h0
 refine ⟨dM [.cell Ii, .cell Ii] (fun _ => (u, c, ())), Nat.le_of_ble_eq_true (by kernel_rfl), rfl, (fun ρ us hd => hd), .inl ?_⟩
 refine Pq ?_
 with_reducible repeat' (first | exact True.intro | refine Ca ?_ | refine Cb ?_ | refine Cd ?_ | refine Ce ?_ | refine Cm ?_ ?_ | (first | refine Bo (fun hk h => ?_) fun hk h => ?_ | refine Al (fun hk h => ?_) fun hk h => ?_) <;> (try exact absurd hat h) <;> (try (have hb : (_ : Bool) = _ := h; clear h; subst hb)) <;> (try replace hr := hri hr) <;> first | exact Dd | refine Nx ?_)
 all_goals first | with_reducible refine Ez ?_ | exact Cl1 | exact hx0 | exact hx1 | exact Cl2 | skip
 refine ⟨⟨{j : Nat // j ≤ (out.getD u.toNat []).length}, fun j => ⟨[(0, Sx.one (.int .i64 (fun _ => u))), (2, Sx.one (.ptr 0 0)), (3, Sx.one (.ptr 1 0)), (4, Sx.one (.ptr 2 0)), (5, Sx.one (.ptr 3 0)), (24, Sx.one (.ro Ii (fun _ => out.getD u.toNat []))), (25, Sx.one (.int .i64 (fun _ => (out.getD u.toNat []).length))), (26, Sx.one (.int .i64 (fun _ => j.1)))],
  rcC (fun _ => ⟨p1, p2, src, out, dl, cu ov (rlJ (p1, p2) out n u c j.1)⟩)⟩, fun j => (out.getD u.toNat []).length - j.1, ⟨0, Nat.zero_le _⟩⟩, ?_, fun (j : {j : Nat // j ≤ (out.getD u.toNat []).length}) => ?_⟩
 · refine Pq ?_
   with_reducible repeat' first | exact True.intro | refine Ca ?_ | refine Cb ?_ | refine Cd ?_ | refine Ce ?_ | refine Cm ?_ ?_
   all_goals first | with_reducible refine Ez ?_ | exact Cl1 | rfl | (rw [B7]; rfl) | exact Cl2 | skip
 obtain ⟨j, hj⟩ := j
 dsimp only
 have hx := fun (h : (j : Int) < ((out.getD u.toNat []).length : Int)) => (⟨by omega, h⟩ : (0 : Int) ≤ (j : Int) ∧ (j : Int) < ((out.getD u.toNat []).length : Int))
 have hot := fun (h : (j : Int) < ((out.getD u.toNat []).length : Int)) => (⟨hT, (dR (hkid j (by omega))).1, hu⟩ : TrP (p1, p2) ∧ (0 ≤ (out.getD u.toNat []).getD j 0 ∧ (out.getD u.toNat []).getD j 0 < (p2.length : Int)) ∧ 0 ≤ u ∧ u < (p1.length : Int))
 have hpre := fun (h : (j : Int) < ((out.getD u.toNat []).length : Int)) => hnext j (by omega)
 have hsn := fun (h : (j : Int) < ((out.getD u.toNat []).length : Int)) => (show cu ov (rlJ (p1, p2) out n u c (j + 1)) = cu (cu ov (rlJ (p1, p2) out n u c j)) (rlT (p1, p2) out n (oth (p1, p2) ((out.getD u.toNat []).getD j 0) u) ((out.getD u.toNat []).getD j 0)) by rw [pJ (by omega), z8])
 have hend : ¬ (j : Int) < ((out.getD u.toNat []).length : Int) → cu ov (rlJ (p1, p2) out n u c j) = cu ov (rlT (p1, p2) out (n + 1) u c) := fun h => by
  rw [show j = (out.getD u.toNat []).length by omega, rlJ_end]
 refine Pq ?_
 with_reducible repeat' (first | exact True.intro | refine Ca ?_ | refine Cb ?_ | refine Cd ?_ | refine Ce ?_ | refine Cm ?_ ?_ | (first | refine Bo (fun hk h => ?_) fun hk h => ?_ | refine Al (fun hk h => ?_) fun hk h => ?_) <;> (try exact absurd hat h) <;> (try (have hb : (_ : Bool) = _ := h; clear h; subst hb)) <;> (try replace hr := hri hr) <;> first | exact Dd | refine Nx ?_)
 all_goals first | with_reducible refine Ez ?_ | exact Cl1 | exact hx (by assumption) | (dsimp only [eA, cx]; (try simp only [aH, aJ]); first | exact hot (by assumption) | exact hpre (by assumption)) | exact hot (by assumption) | exact hpre (by assumption) | exact hend (by assumption) | exact Cl2 | skip
 refine ⟨⟨j + 1, by omega⟩, (by dsimp only; omega), ?_⟩
 refine Pq ?_
 with_reducible repeat' first | exact True.intro | refine Ca ?_ | refine Cb ?_ | refine Cd ?_ | refine Ce ?_ | refine Cm ?_ ?_
 all_goals first | with_reducible refine Ez ?_ | exact Cl1 | exact (hsn (by assumption)).symm | (dsimp only [eA, cx]; (try simp only [aH, aJ]); exact (hsn (by assumption)).symm) | exact Cl2 | skip
theorem uo : ∀ n : Nat, aE Tryz.prog AI 117 (eA n).con
 | 0 => bp.sound ai mixed (fn := Tryz.f117) (c := aS Tryz.f117) Tryz.call117 (by kernel_rfl) (by kernel_rfl) (by kernel_rfl) (q := eA 0) rfl fun S x h => h.rl.elim
 | n + 1 =>
   have hE : aU Tryz.prog AI (Erc n) := erc1Ok.add (uo n)
   bp.sound hE mixed (fn := Tryz.f117) (c := aS Tryz.f117) Tryz.call117 (by kernel_rfl) (by kernel_rfl) (by kernel_rfl) (q := eA (n + 1)) rfl fun S x h => rc_step n S x.1 x.2.1 h
def sw (L : List Int) (u : Int) : Nat := if lat L u < 0 then 5000 else (lat L u).toNat * 16 + u.toNat
def rkC (p : a8) (L : List Int) (c : Int) : Nat :=
 if 0 ≤ c ∧ c < 2 * (p.2.length : Int) then (if (ae (L, ()) (aM p c).2.1 (aM p c).1).1 = true then 1000 - sw L (aM p c).1 else 2000 + sw L (aM p c).2.1) else 0
theorem su {n : Nat} {C : List aY} {L : List Int} (h : xZ C n L) (hn : n ≤ 16) {u : Int} (h0 : 0 ≤ u) (h1 : u < (n : Int)) : sw L u ≤ 5000 ∧ (0 ≤ lat L u → sw L u ≤ 300) := by
 have h2 := h.at h0 h1
 unfold sw
 split
 · exact ⟨Nat.le_refl _, fun h3 => by omega⟩
 · exact ⟨by omega, fun _ => by omega⟩
theorem jy {n : Nat} {L : List Int} (hl : L.length = n) {a b : Int} (ha : 0 ≤ a ∧ a < (n : Int)) (hb : 0 ≤ b ∧ b < (n : Int)) : (ae (L, ()) a b).1 = true ↔ 0 ≤ lat L a ∧ 0 ≤ lat L b ∧ (lat L a < lat L b ∨ (lat L a = lat L b ∧ a < b)) := by
 unfold ae
 rw [if_pos ha.1, if_pos (show a < (L.length : Int) by rw [hl]; exact ha.2)]
 dsimp only
 by_cases h1 : 0 ≤ lat L a
 · rw [if_pos h1, if_pos hb.1, if_pos (show b < (L.length : Int) by rw [hl]; exact hb.2)]
   by_cases h2 : 0 ≤ lat L b
   · rw [if_pos h2]
     show abv L a b = true ↔ _
     rw [yS]
     exact ⟨fun h => ⟨h1, h2, h⟩, fun h => h.2.2⟩
   · rw [if_neg h2]
     exact ⟨fun h => (by cases h), fun h => absurd h.2.1 h2⟩
 · rw [if_neg h1]
   exact ⟨fun h => (by cases h), fun h => absurd h.1 h1⟩
theorem jk {p : a8} {e v : Int} (h0 : 0 ≤ e) (h : (acF (p.2.getD e.toNat z6) v).2.1 = true) : (aM p (cG p e v).1).1 = v ∧ (aM p (cG p e v).1).2.1 = (acF (p.2.getD e.toNat z6) v).1 := by
 unfold acF at h ⊢
 unfold cG
 by_cases h1 : (p.2.getD e.toNat z6).1 = v
 · rw [if_pos h1, if_pos h1.symm]
   have e1 : ((2 * e + 0 : Int) / 2) = e := by omega
   have e2 : ((2 * e + 0 : Int) % 2) = 0 := by omega
   unfold aM
   show (if (2 * e + 0 : Int) % 2 = 0 then _ else _ : Tup [DT.cell Ii, DT.cell Ii]).1 = v ∧ (if (2 * e + 0 : Int) % 2 = 0 then _ else _ : Tup [DT.cell Ii, DT.cell Ii]).2.1 = _
   rw [if_pos e2, e1]
   exact ⟨h1, rfl⟩
 · rw [if_neg h1, if_neg fun h => h1 h.symm]
   rw [if_neg fun h => h1 h.symm] at h
   have e1 : ((2 * e + 1 : Int) / 2) = e := by omega
   have e2 : ¬ ((2 * e + 1 : Int) % 2) = 0 := by omega
   unfold aM
   show (if (2 * e + 1 : Int) % 2 = 0 then _ else _ : Tup [DT.cell Ii, DT.cell Ii]).1 = v ∧ (if (2 * e + 1 : Int) % 2 = 0 then _ else _ : Tup [DT.cell Ii, DT.cell Ii]).2.1 = _
   rw [if_neg e2, e1]
   by_cases h2 : v = (p.2.getD e.toNat z6).2.2.1
   · rw [if_pos h2]; exact ⟨h2.symm, rfl⟩
   · rw [if_neg h2] at h; cases h
theorem q9 {p : a8} {e v : Int} (h0 : 0 ≤ e) (h1 : e < (p.2.length : Int)) : 0 ≤ (cG p e v).1 ∧ (cG p e v).1 < 2 * (p.2.length : Int) := by
 unfold cG
 split
 · exact ⟨show (0 : Int) ≤ 2 * e + 0 by omega, show (2 * e + 0 : Int) < _ by omega⟩
 · exact ⟨show (0 : Int) ≤ 2 * e + 1 by omega, show (2 * e + 1 : Int) < _ by omega⟩
theorem tz {p : a8} {o : ab} {T : dw} {c : Int} {ph t : Nat} {d : aT} (h : d ∈ cT p o T c ph t) : ∃ to, to < t ∧ dpE p o T c ph to = some d := by
 unfold cT at h
 obtain ⟨to, h1, h2⟩ := List.mem_filterMap.1 h
 exact ⟨to, List.mem_range.1 h1, h2⟩
theorem B2 {p : a8} {L : List Int} {T : dw} (h : TbOk p L T) {k : Int} (h0 : 0 ≤ k) (h1 : k < (p.1.length : Int)) {ph to : Nat} (hph : ph = 0 ∨ ph = 1) (ht : to < p.1.length) : okE p L k.toNat to ph ((j1 T k ph).getD to 0) := by
 have hk : k.toNat < p.1.length := by omega
 rcases hph with rfl | rfl
 · exact h.e0 _ _ hk ht
 · exact h.e1 _ _ hk ht
theorem tri7 {a b x y : Int} (h : ¬ (0 ≤ a ∧ 0 ≤ b ∧ (a < b ∨ (a = b ∧ x < y)))) (ha : 0 ≤ a) (hb : 0 ≤ b) (hn : x ≠ y) : b < a ∨ (b = a ∧ y < x) := by omega
theorem Bv {p : a8} {o : ab} {T : dw} (h : DpP p o T) {d : aT} (hd : d ∈ qX p o T) :
 (0 ≤ d.1 ∧ d.1 < 2 * (p.2.length : Int)) ∧ (0 ≤ d.2.1 ∧ d.2.1 < 2 * (p.2.length : Int)) ∧ (0 ≤ d.2.2 ∧ d.2.2 < 16) ∧ rkC p o.1 d.1 < rkC p o.1 d.2.1 := by
 have hn := h.lv.pl.n
 have hE : bd p.2 p.1.length := bD h.lv.ok
 obtain ⟨c, hc, hm⟩ := vk hd
 have hc0 : (0 : Int) ≤ (c : Int) := by omega
 have hc1 : (c : Int) < 2 * (p.2.length : Int) := by omega
 obtain ⟨hu, hv, hne⟩ := jm hE hc0 hc1
 unfold cP at hm
 split at hm
 · cases hm
 rename_i hlu
 split at hm
 · cases hm
 rename_i hlv
 have hph : ∃ ph to, (ph = 0 ∨ ph = 1) ∧ to < p.1.length ∧ dpE p o T (c : Int) ph to = some d := by
  rcases List.mem_append.1 hm with hm | hm
  · obtain ⟨to, h1, h2⟩ := tz hm; exact ⟨0, to, .inl rfl, h1, h2⟩
  · obtain ⟨to, h1, h2⟩ := tz hm; exact ⟨1, to, .inr rfl, h1, h2⟩
 obtain ⟨ph, to, hph, hto, he⟩ := hph
 unfold dpE at he
 split at he <;> (try (cases he; done))
 split at he <;> cases he
 rename_i hx
 have haft : gk p o (c : Int) ph = 0 ∨ gk p o (c : Int) ph = 1 := by unfold gk; split; split; exact .inl rfl; exact .inr rfl; exact .inr rfl
 have hok := B2 h.tb hv.1 hv.2 haft hto
 obtain ⟨k1, k2, k3⟩ := pT hok hx
 have hvv : (((aM p (c : Int)).2.1.toNat : Nat) : Int) = (aM p (c : Int)).2.1 := Int.toNat_of_nonneg hv.1
 rw [hvv] at k2 k3
 obtain ⟨w1, w2⟩ := jk hx k2
 have hl := q9 (p := p) (v := (aM p (c : Int)).2.1) hx k1
 refine ⟨⟨hc0, hc1⟩, hl, ⟨hv.1, Int.lt_of_lt_of_le hv.2 (by omega)⟩, ?_⟩
 have hw := jm hE hl.1 hl.2
 dsimp only
 unfold rkC
 rw [if_pos ⟨hc0, hc1⟩, if_pos hl, w1, w2]
 rw [w1, w2] at hw
 generalize (acF (p.2.getD ((j1 T (aM p (c : Int)).2.1 (gk p o (c : Int) ph)).getD to 0).toNat z6) (aM p (c : Int)).2.1).1 = w at *
 obtain ⟨L, ou⟩ := o
 have hLv := h.lv.lv
 have hlen := hLv.len
 dsimp only at hLv hlen hlu hlv k3 ⊢
 have pu := su hLv hn hu.1 hu.2
 have pv := su hLv hn hv.1 hv.2
 have pw := su hLv hn hw.2.1.1 hw.2.1.2
 have lu := hLv.at hu.1 hu.2
 have lv := hLv.at hv.1 hv.2
 have lw := hLv.at hw.2.1.1 hw.2.1.2
 have au := jy hlen hv hu
 have aw := jy hlen hw.2.1 hv
 have hout : ¬ (ae (L, ()) (aM p (c : Int)).2.1 (aM p (c : Int)).1).1 = true → gk p (L, ou) (c : Int) ph = 1 := fun h => by
  unfold gk
  by_cases h0 : ph = 0
  · rw [if_pos h0, if_neg h]
  · rw [if_neg h0]
 have kk : ¬ (ae (L, ()) (aM p (c : Int)).2.1 (aM p (c : Int)).1).1 = true → ¬ (ae (L, ()) w (aM p (c : Int)).2.1).1 = true := fun h => by rw [k3 (hout h)]; decide
 have hwne : w ≠ (aM p (c : Int)).2.1 := fun e => hw.2.2 e.symm
 have hu16 := Int.lt_of_lt_of_le hu.2 (show (p.1.length : Int) ≤ 16 by omega)
 have hv16 := Int.lt_of_lt_of_le hv.2 (show (p.1.length : Int) ≤ 16 by omega)
 have hw16 := Int.lt_of_lt_of_le hw.2.1.2 (show (p.1.length : Int) ≤ 16 by omega)
 clear hout k3
 generalize (aM p (c : Int)).2.1 = v at *
 generalize (aM p (c : Int)).1 = u at *
 have key : ∀ x y : Int, 0 ≤ x → 0 ≤ y → x < 16 → y < 16 → 0 ≤ lat L x → (lat L x < lat L y ∨ (lat L x = lat L y ∧ x < y)) → sw L x < sw L y := fun x y x0 y0 x1 y1 hx h => by
  unfold sw
  rw [if_neg (by omega), if_neg (by omega)]
  omega
 have hlu0 : 0 ≤ lat L u := by omega
 have hlv0 : 0 ≤ lat L v := by omega
 by_cases ha : (ae (L, ()) v u).1 = true
 · rw [if_pos ha]
   have h5 := key v u hv.1 hu.1 hv16 hu16 hlv0 (au.1 ha).2.2
   have h6 := pu.2 hlu0
   by_cases hb : (ae (L, ()) w v).1 = true
   · rw [if_pos hb]; omega
   · rw [if_neg hb]; omega
 · rw [if_neg ha, if_neg (kk ha)]
   have h7 := kk ha
   rw [aw] at h7
   by_cases hw0 : 0 ≤ lat L w
   · have h5 := key v w hv.1 hw.2.1.1 hv16 hw16 hlv0 (tri7 h7 hw0 hlv0 hwne)
     omega
   · have h6 := pv.2 hlv0
     have h8 : sw L w = 5000 := if_pos (by omega)
     omega
end Go.Proofs.YtcaoldilmnpjoaaGreat
