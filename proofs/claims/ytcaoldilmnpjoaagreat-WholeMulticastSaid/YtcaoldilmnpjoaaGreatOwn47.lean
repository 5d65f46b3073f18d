/-
  Part Own47 of the proof.
-/
import Derived.Test.YtcaoldilmnpjoaaGreatOwn46
import Derived.Test.YtcaoldilmnpjoaaGreatOwn33
import Derived.Test.YtcaoldilmnpjoaaGreatOwn2
import Derived.Test.YtcaoldilmnpjoaaGreatOwn34
namespace Go.Proofs.YtcaoldilmnpjoaaGreat
set_option linter.all false
open Go.RowKit Go.Sx
set_option maxRecDepth 100000
def addU (m : List Int) (k : Int) : List Int := if k ∈ m then m else m ++ [k]
def fl (n : Int) (t : List Int) (j : Nat) : List Int := (t.take j).foldl (fun m x => addU m (x % n)) []
theorem nF (n : Int) (t : List Int) : fl n t 0 = [] := by unfold fl; simp
theorem nG {n : Int} {t : List Int} {j : Nat} (h : j < t.length) : fl n t (j + 1) = addU (fl n t j) (t.getD j 0 % n) := by
 unfold fl
 have := dS t h
 rw [Int.toNat_natCast] at this
 rw [this, List.foldl_append]; rfl
theorem BU {n : Int} {t : List Int} {j : Nat} (h : (j : Int) < (t.length : Int)) (h2 : (bB (K := Int) (bA (fl n t j)) (t.getD (j : Int).toNat 0 % n)).getD false = true) : fl n t (j + 1) = fl n t j := by
 rw [nG (by omega)]
 rw [gT, Int.toNat_natCast] at h2
 exact if_pos (of_decide_eq_true h2)
theorem memJ_no {n : Int} {t : List Int} {j : Nat} (h : (j : Int) < (t.length : Int)) (h2 : (bB (K := Int) (bA (fl n t j)) (t.getD (j : Int).toNat 0 % n)).getD false = false) : fl n t (j + 1) = fl n t j ++ [t.getD (j : Int).toNat 0 % n] ∧ bA (fl n t (j + 1)) = ak (K := Int) (bA (fl n t j)) (t.getD (j : Int).toNat 0 % n) true := by
 have e : fl n t (j + 1) = fl n t j ++ [t.getD (j : Int).toNat 0 % n] := by
  rw [nG (by omega)]
  rw [gT, Int.toNat_natCast] at h2
  exact if_neg (of_decide_eq_false h2)
 exact ⟨e, by rw [e, gR]⟩
structure MmOk (n : Int) (m : List Int) (j : Nat) : Prop where
 nd : m.Nodup
 rng : ∀ x ∈ m, 0 ≤ x ∧ x < n
 len : m.length ≤ j
theorem yA {n : Int} (hn : 0 < n) (t : List Int) : ∀ j, j ≤ t.length → MmOk n (fl n t j) j
 | 0, _ => by rw [nF]; exact ⟨List.nodup_nil, (fun x h => by cases h), Nat.le_refl _⟩
 | j + 1, h => by
   obtain ⟨h1, h2, h3⟩ := yA hn t j (by omega)
   rw [nG (by omega)]
   unfold addU
   split
   · exact ⟨h1, h2, by omega⟩
   · rename_i hx
     refine ⟨List.nodup_append.2 ⟨h1, by simp, fun a ha b hb => by rw [List.mem_singleton.1 hb]; exact fun e => hx (e ▸ ha)⟩, fun x hm => ?_, by rw [List.length_append]; simp only [List.length_cons, List.length_nil]; omega⟩
     rcases List.mem_append.1 hm with hm | hm
     · exact h2 x hm
     · rw [List.mem_singleton.1 hm]
       exact ⟨Int.emod_nonneg _ (by omega), Int.emod_lt_of_pos _ hn⟩
theorem MmOk.ck {p : a8} {o : ab} {s : Int} {m : List Int} {j : Nat} (h : MmOk (p.1.length : Int) m j) (hj : j ≤ 1000) (hv : LvP p o) (h0 : 0 ≤ s) (h1 : s < (p.1.length : Int)) : CkP p o s m := ⟨hv, ⟨h0, h1⟩, by have := h.len; omega, h.rng, h.nd⟩
structure MkX (p : a8) (o : ab) (X : fb) : Prop where
 lga : LgaP p o X
 td : TdP p X
 tn : ∀ d ∈ fB (dpL p X), oD p o.1 d
 len : (fB (dpL p X)).length ≤ 17000
theorem CkP.mkx {p : a8} {o : ab} {s : Int} {ms : List Int} (h : CkP p o s ms) (he : (pr p o s ms).2.1 = 0) : MkX p o (pr p o s ms).1 := by
 have h0 : (gM p o s ms).1 = 0 := by
  unfold pr at he
  split at he
  · assumption
  · exact he
 have e : (pr p o s ms).1 = (s, fe p o.1 s ms, l9 ms) := by unfold pr; rw [if_pos h0]
 rw [e]
 have htd := h.td h0
 refine ⟨h.lga h0, htd, fun d hd => (h.uI h0 ((wN htd.sd).mem_iff.1 hd)).1, ?_⟩
 rw [mg]
 have h1 := tg (p := p) (V := ovL p s (fe p o.1 s ms)) htd.wy.ln p.1.length
 have hn := h.lv.pl.n
 unfold dpL
 dsimp only at h1 ⊢
 omega
structure GOk (p : a8) (L : List Int) (l : List aT) (i : Nat) : Prop where
 tn : ∀ d ∈ l, oD p L d
 len : l.length ≤ 4096 + i * 17000
theorem GOk.uni {p : a8} {L : List Int} {l m : List aT} {i : Nat} (h : GOk p L l i) (hm : ∀ d ∈ m, oD p L d) (hl : m.length ≤ 17000) : GOk p L (kI l m) (i + 1) := by
 refine ⟨fun d hd => ?_, ?_⟩
 · rcases (rR _ _ _).1 hd with h1 | h1
   · exact h.tn d h1
   · exact hm d h1
 · have h1 := rS l m
   have h2 := h.len
   omega
theorem GOk.skip {p : a8} {L : List Int} {l : List aT} {i : Nat} (h : GOk p L l i) : GOk p L l (i + 1) := ⟨h.tn, by have := h.len; omega⟩
theorem ot {p : a8} {L : List Int} {l : List aT} (h : ∀ d ∈ l, oD p L d) (hl : l.length ≤ 1000000) (hc : p.2.length ≤ 32) : OkD l := ⟨hl, fun d hd => by
 obtain ⟨⟨a1, a2⟩, ⟨b1, b2⟩, ⟨c1, c2⟩, _⟩ := h d hd
 exact ⟨show -9223372036854775808 ≤ d.1 ∧ d.1 ≤ 9223372036854775807 by omega, show -9223372036854775808 ≤ d.2.1 ∧ d.2.1 ≤ 9223372036854775807 by omega, show -9223372036854775808 ≤ d.2.2 ∧ d.2.2 ≤ 9223372036854775807 by omega⟩⟩
theorem xw {L PL : List Int} {n u v : Int} (h : RkP L PL n) : -1001 ≤ rkV L PL n u v ∧ rkV L PL n u v ≤ 2000 := by
 have h1 := h.rng u.toNat
 have h2 := h.rng v.toNat
 have h3 := h.n
 unfold rkV
 split
 · omega
 · split
   · omega
   · split <;> omega
theorem sn {p : a8} {L : List Int} (h : RkP L (plL L) (p.1.length : Int)) (m k : Nat) : -1001 ≤ (eT p L m).getD k 0 ∧ (eT p L m).getD k 0 ≤ 2000 := by
 by_cases hk : k < (eT p L m).length
 · have h1 : (eT p L m).getD k 0 ∈ eT p L m := ll hk
   generalize (eT p L m).getD k 0 = x at h1 ⊢
   unfold eT at h1
   obtain ⟨i, _, hx⟩ := List.mem_flatMap.1 h1
   rcases List.mem_cons.1 hx with rfl | hx
   · exact xw h
   · rw [List.mem_singleton.1 hx]; exact xw h
 · rw [List.getD_eq_getElem?_getD, List.getElem?_eq_none (by omega)]
   exact ⟨by decide, by decide⟩
theorem LvP.rk {p : a8} {o : ab} (h : LvP p o) : RkP o.1 (plL o.1) (p.1.length : Int) := by
 have h1 := h.pl.n
 have h2 := h.lv.len
 exact ⟨y4 _, ⟨by omega, by omega⟩, fun k => xz (by omega) k⟩
theorem GOk.cck {p : a8} {o : ab} (hv : LvP p o) {l : List aT} {i : Nat} (h : GOk p o.1 l i) (hi : i ≤ 4) : CckP l (eT p o.1 p.2.length) := by
 have hc := h.len
 have hm := hv.pl.c
 have hl := j2 p o.1 p.2.length
 refine ⟨by omega, by omega, fun d hd => ?_⟩
 have ht := h.tn d hd
 have h1 := ht.c
 have h2 := ht.t
 exact ⟨by omega, by omega, ht.rk (bD hv.ok) hv.lv.len⟩
theorem GOk.cyp {p : a8} {o : ab} (hv : LvP p o) {l : List aT} {i : Nat} (h : GOk p o.1 l i) (hi : i ≤ 4) : CyP l := by
 have hc := h.len
 refine ⟨ot h.tn (by omega) hv.pl.c, fun x => ((eT p o.1 p.2.length).getD x.toNat 0 + 2000).toNat, fun x => ?_, fun d hd => ?_⟩
 · have := sn hv.rk p.2.length x.toNat
   dsimp only; omega
 · have h1 := sn hv.rk p.2.length d.1.toNat
   have h2 := sn hv.rk p.2.length d.2.1.toNat
   have h3 := (h.tn d hd).rk (bD hv.ok) hv.lv.len
   dsimp only; omega
theorem dpo_gok {p : a8} {up : List Bool} (h : k6 p up) {root : Int} (h0 : 0 ≤ root) (h1 : root < (p.1.length : Int)) : GOk p (cz p.2 up p.1.length root) (dpo p up root) 0 := by
 have hD := h.dp h0 h1
 have hc := h.pl.c
 have hn := h.pl.n
 refine ⟨fun d hd => Bu hD hd, ?_⟩
 unfold dpo qX
 rw [(e7 _).length_eq]
 have h2 := eH (cC p (cz p.2 up p.1.length root, ()) (fg (dP p (cz p.2 up p.1.length root, ()) up) p.1.length, ()) (2 * p.2.length)) []
 have h3 := xN p (cz p.2 up p.1.length root, ()) (fg (dP p (cz p.2 up p.1.length root, ()) up) p.1.length, ()) (2 * p.2.length)
 have h4 : 2 * p.2.length * (2 * p.1.length) ≤ 64 * 32 := Nat.mul_le_mul (by omega) (by omega)
 simp only [bS, List.length_map, List.length_nil] at h2 ⊢
 omega
set_option maxHeartbeats 16000000
theorem yB (l : List (List Int)) : List.map (List.map fun x => x) l = l := (congrArg (List.map · l) (funext fun l => List.map_id l)).trans (List.map_id l)
def mcsF (p : a8) (up : List Bool) (root : Int) (G : List (List Int)) : Tup [DT.cell .bool] := (true, ())
noncomputable abbrev Emu : Env Ab := ⟨tis, [(12, mI.con), (18, mQ.con), (9, jS.con), (17, lZ.con), (16, iu.con), (15, lA.con), (14, lz (.int .i64) lU.con), (13, mJ.con), (7, mG.con), (6, lD.con), (5, js.con)] ++ E0.con⟩
theorem emuOk : aU Tryz.prog AI Emu := (((((((((((ai.add AL).add yz).add A5).add AB).add (kE zj)).add yj).add wE).add zo).add rT).add AH).add A8)
def oa : aB := ⟨[.cell bT, .lst .bool, .cell (.int .u8), .lst .bytes], fun (x : a8 × (List Bool) × Int × (List (List Int)) × Unit) => (DT.cell bT).ok x.1 ∧ (DT.cell (.int .u8)).ok x.2.2.1 ∧ (DT.lst .bytes).ok x.2.2.2.1, [.cell .bool], fun (x : a8 × (List Bool) × Int × (List (List Int)) × Unit) => mcsF x.1 x.2.1 x.2.2.1 x.2.2.2.1⟩
theorem mcs_ok (p : a8) (up : List Bool) (root : Int) (G : List (List Int)) (h : oa.pre (p, up, root, G, ())) : PTk Tryz.prog AI 4 oa (p, up, root, G, ()) := by
 dsimp only [PTk, oa] at h ⊢
 generalize hr : mcsF p up root G = r
 obtain ⟨h0, h1, h2⟩ := h; have hin := pl_in h0; have hx := u8_in h1; have hg := grp_in h2; obtain ⟨p1, p2⟩ := p; have hS1 : (wQ (p1, p2) up).1 = true → k6 (p1, p2) up := fun h => (Ax hin h).1; have hS2 : (wQ (p1, p2) up).1 = true → 0 < p1.length := fun h => (Ax hin h).2; clear h0 h1 h2
 dsimp only [mcsF] at hr
 refine Tb emuOk mixed (fn := Tryz.f4) ?_
 refine Pr ?_
 (try (conv in (SS.mk _ _) => dsimp only [cJ, cA, cD, c8, bC, c9, aR, cE, cB]))
 refine Nx ?_
 with_reducible repeat' (first | exact True.intro | refine Ca ?_ | refine Cb ?_ | refine Cd ?_ | (refine Ce ?_; (try ((repeat (first | rw [ifP] at hr | rw [ifM] at hr | rw [if_pos rfl] at hr)); subst hr))) | refine Cm ?_ ?_ | (first | refine Bo (fun hk h => ?_) fun hk h => ?_ | refine Al (fun hk h => ?_) fun hk h => ?_) <;> (try dsimp only [cJ, cA, cD, c8, bC, c9, aR, cE, cB] at h) <;> (try simp only [natCast_eq] at h) <;> (try (have q1 := hS1 h)) <;> (try (have q2 := hS2 h)) <;> (try (have hb : (_ : Bool) = _ := h; clear h; subst hb)) <;> (try replace hr := hri hr) <;> first | exact Dd | refine Nx ?_)
 all_goals first | with_reducible refine Ez ?_ | exact Cl1 | (dsimp only [cJ, cA, cD, c8, bC, c9, aR, cE, cB]; exact Cl1) | exact hin | exact ⟨hx.1, by omega, by unfold b5; omega⟩ | (dsimp only; simp only [aH, aJ]; first | exact ⟨by assumption, pq hx.1 (by assumption)⟩ | exact k6.lv (by assumption) (pq hx.1 (by assumption)).1 (pq hx.1 (by assumption)).2 | exact hin) | (subst hr; rfl) | exact Cl2 | (dsimp only [cJ, cA, cD, c8, bC, c9, aR, cE, cB]; exact Cl2) | (dsimp only [cJ, cA, cD, c8, bC, c9, aR, cE, cB] at *; exact Cl2) | skip
 have hA : k6 (p1, p2) up := by assumption
 have hn0 : 0 < p1.length := by assumption
 have hr0 := pq hx.1 hn0
 have hLv := hA.lv hr0.1 hr0.2
 have hG0 := dpo_gok hA hr0.1 hr0.2
 dsimp only at hLv hG0
 obtain ⟨l0, hl0⟩ : ∃ l, dpo (p1, p2) up (root % (p1.length : Int)) = l := ⟨_, rfl⟩
 obtain ⟨L, hL⟩ : ∃ l, cz p2 up p1.length (root % (p1.length : Int)) = l := ⟨_, rfl⟩
 obtain ⟨R, hR⟩ : ∃ l, eT (p1, p2) L p2.length = l := ⟨_, rfl⟩
 rw [hL] at hLv hG0
 rw [hl0] at hG0
 have hn8 : p1.length ≤ 16 := hLv.pl.n
 have hG4 : G.length ≤ 4 := by omega
 refine ⟨⟨{x : Nat × List aT // x.1 ≤ G.length ∧ GOk (p1, p2) L x.2 x.1}, fun x => ⟨[(4, Sx.one (.ptr 0 0)), (9, Sx.one (.int .i64 (fun _ => p1.length))), (10, Sx.one (.ro br (fun _ => x.1.2))), (11, Sx.one (.ptr 1 0)), (13, Sx.one (.ro Ii (fun _ => R))), (63, Sx.one (.ro .bytes (fun _ => G))), (64, Sx.one (.int .i64 (fun _ => G.length))), (65, Sx.one (.int .i64 (fun _ => x.1.1)))],
  [.cells 25 [.ro ah (fun _ => p1), .ro az (fun _ => p2)], .cells 32 [.ro Ii (fun _ => L)]]⟩, fun x => G.length - x.1.1, ⟨(0, l0), Nat.zero_le _, hG0⟩⟩, ?_, fun (x : {x : Nat × List aT // x.1 ≤ G.length ∧ GOk (p1, p2) L x.2 x.1}) => ?_⟩
 · refine Pr ?_
   (try (conv in (SS.mk _ _) => dsimp only [cJ, cA, cD, c8, bC, c9, aR, cE, cB]))
   refine Nx ?_
   with_reducible repeat' first | exact True.intro | refine Ca ?_ | refine Cb ?_ | refine Cd ?_ | refine Ce ?_ | refine Cm ?_ ?_
   all_goals first | with_reducible refine Ez ?_ | exact Cl1 | (dsimp only [cJ, cA, cD, c8, bC, c9, aR, cE, cB]; exact Cl1) | (dsimp only; (try simp only [aH, aJ]); first | exact hl0 | exact hL | (rw [hL]; exact hR)) | exact Cl2 | (dsimp only [cJ, cA, cD, c8, bC, c9, aR, cE, cB]; exact Cl2) | (dsimp only [cJ, cA, cD, c8, bC, c9, aR, cE, cB] at *; exact Cl2) | skip
 obtain ⟨⟨i, l⟩, hi, hG⟩ := x
 dsimp only at hi hG ⊢
 have hxi := fun (h : (i : Int) < (G.length : Int)) => (⟨by omega, h⟩ : (0 : Int) ≤ (i : Int) ∧ (i : Int) < (G.length : Int))
 have hck := hG.cck hLv (by omega)
 have hcy := hG.cyp hLv (by omega)
 dsimp only at hck
 rw [hR] at hck
 refine Pr ?_
 (try (conv in (SS.mk _ _) => dsimp only [cJ, cA, cD, c8, bC, c9, aR, cE, cB]))
 refine Nx ?_
 with_reducible repeat' (first | exact True.intro | refine Ca ?_ | refine Cb ?_ | refine Cd ?_ | refine Ce ?_ | refine Cm ?_ ?_ | (first | refine Bo (fun hk h => ?_) fun hk h => ?_ | refine Al (fun hk h => ?_) fun hk h => ?_) <;> (try dsimp only [cJ, cA, cD, c8, bC, c9, aR, cE, cB] at h) <;> (try simp only [natCast_eq] at h) <;> (try (have q1 := hS1 h)) <;> (try (have q2 := hS2 h)) <;> (try (have hb : (_ : Bool) = _ := h; clear h; subst hb)) <;> (try replace hr := hri hr) <;> first | exact Dd | refine Nx ?_)
 all_goals first | with_reducible refine Ez ?_ | exact Cl1 | (dsimp only [cJ, cA, cD, c8, bC, c9, aR, cE, cB]; exact Cl1) | exact hxi (by assumption) | exact hck | exact hcy | (dsimp only; (try simp only [aH, aJ]); first | exact hck | exact hcy) | (subst hr; rfl) | exact Cl2 | (dsimp only [cJ, cA, cD, c8, bC, c9, aR, cE, cB]; exact Cl2) | (dsimp only [cJ, cA, cD, c8, bC, c9, aR, cE, cB] at *; exact Cl2) | skip
 have hiG : (i : Int) < (G.length : Int) := by assumption
 have hgi := hg i
 obtain ⟨g, hgg⟩ : ∃ g, G.getD (i : Int).toNat [] = g := ⟨_, rfl⟩
 have hgg2 : G.getD i [] = g := hgg
 rw [hgg2] at hgi
 have hA1 : ¬ ((G.getD (i : Int).toNat []).length : Int) < 1 := by assumption
 have hA2 : ¬ (8 : Int) < ((G.getD (i : Int).toNat []).length : Int) := by assumption
 rw [hgg] at hA1 hA2
 have hg1 : 1 ≤ g.length := by omega
 have hg8 : g.length ≤ 8 := by omega
 obtain ⟨t, ht⟩ : ∃ t, g.drop 1 = t := ⟨_, rfl⟩
 have hgt : List.drop (Int.toNat 1) (List.take ((G.getD (i : Int).toNat []).length : Int).toNat (G.getD (i : Int).toNat [])) = t := by
  rw [hgg, uP (Int.le_refl _)]; exact ht
 have htl : t.length = g.length - 1 := by rw [← ht, List.length_drop]
 have htb : ∀ x ∈ t, 0 ≤ x ∧ x < 256 := fun x hx => hgi x (by rw [← ht] at hx; exact List.mem_of_mem_drop hx)
 have hg0 : 0 ≤ g.getD 0 0 ∧ g.getD 0 0 < 256 := hgi _ (ll (by omega))
 have hs0 := pq (x := g.getD 0 0) hg0.1 hn0
 refine ⟨⟨{j : Nat // j ≤ t.length}, fun j => ⟨[(4, Sx.one (.ptr 0 0)), (9, Sx.one (.int .i64 (fun _ => p1.length))), (10, Sx.one (.ro br (fun _ => l))), (11, Sx.one (.ptr 1 0)), (13, Sx.one (.ro Ii (fun _ => R))), (16, Sx.one (.ro (.int .u8) (fun _ => g))), (17, Sx.one (.hd 3 0)), (18, Sx.one (.mp 2)), (63, Sx.one (.ro .bytes (fun _ => G))), (64, Sx.one (.int .i64 (fun _ => G.length))), (65, Sx.one (.int .i64 (fun _ => i))), (79, Sx.one (.ro (.int .u8) (fun _ => t))), (80, Sx.one (.int .i64 (fun _ => t.length))), (81, Sx.one (.int .i64 (fun _ => j.1)))],
  [.cells 25 [.ro ah (fun _ => p1), .ro az (fun _ => p2)], .cells 32 [.ro Ii (fun _ => L)], .map (.int .i64) .bool (fun _ => bA (fl (p1.length : Int) t j.1)), .row 3 Ii 0 (fun _ => fl (p1.length : Int) t j.1)]⟩, fun j => t.length - j.1, ⟨0, Nat.zero_le _⟩⟩, ?_, fun (j : {j : Nat // j ≤ t.length}) => ?_⟩
 · refine Pr ?_
   (try (conv in (SS.mk _ _) => dsimp only [cJ, cA, cD, c8, bC, c9, aR, cE, cB]))
   refine Nx ?_
   with_reducible repeat' first | exact True.intro | refine Ca ?_ | refine Cb ?_ | refine Cd ?_ | refine Ce ?_ | refine Cm ?_ ?_
   all_goals first | with_reducible refine Ez ?_ | exact Cl1 | (dsimp only [cJ, cA, cD, c8, bC, c9, aR, cE, cB]; exact Cl1) | exact hgg | exact hgt | exact congrArg (fun l : List Int => (l.length : Int)) hgt | (dsimp only; exact hgt) | exact (nF _ _).symm | (rw [nF]; rfl) | exact Cl2 | (dsimp only [cJ, cA, cD, c8, bC, c9, aR, cE, cB]; exact Cl2) | (dsimp only [cJ, cA, cD, c8, bC, c9, aR, cE, cB] at *; exact Cl2) | skip
 obtain ⟨j, hj⟩ := j
 dsimp only
 have hMm := yA (n := (p1.length : Int)) (by omega) t j hj
 have hCk := hMm.ck (p := (p1, p2)) (o := (L, ())) (s := g.getD 0 0 % (p1.length : Int)) (by omega) hLv hs0.1 hs0.2
 have hxj := fun (h : (j : Int) < (t.length : Int)) => (⟨by omega, h⟩ : (0 : Int) ≤ (j : Int) ∧ (j : Int) < (t.length : Int))
 have hbj := fun (h : (j : Int) < (t.length : Int)) => htb (t.getD (j : Int).toNat 0) (ll (by omega))
 have hrj := fun (h : (j : Int) < (t.length : Int)) => (⟨(hbj h).1, by omega, by have := hbj h; unfold b5; omega⟩ : 0 ≤ t.getD (j : Int).toNat 0 ∧ (0 : Int) < (p1.length : Int) ∧ b5 (t.getD (j : Int).toNat 0))
 have hmx : ∀ v : Int, (fl (p1.length : Int) t j).length + [v].length ≤ bP := fun v => by
  have := hMm.len
  show _ + 1 ≤ 1099511627776
  omega
 have hye := fun (h : (j : Int) < (t.length : Int)) => BU (n := (p1.length : Int)) h
 have hno := fun (h : (j : Int) < (t.length : Int)) => memJ_no (n := (p1.length : Int)) h
 have hMX : (pr (p1, p2) (L, ()) (g.getD 0 0 % (p1.length : Int)) (fl (p1.length : Int) t j)).2.1 = 0 → MkX (p1, p2) (L, ()) (pr (p1, p2) (L, ()) (g.getD 0 0 % (p1.length : Int)) (fl (p1.length : Int) t j)).1 := fun h => hCk.mkx h
 have hod := ot hG.tn (by have := hG.len; omega) hLv.pl.c
 have hxd := fun h => (hMX h).td
 have hxl := fun h => (hMX h).lga
 have hxw := fun h => (hMX h).lga.wy
 have hxu := fun h => (⟨hod, ot (hMX h).tn (by have := (hMX h).len; omega) hLv.pl.c⟩ : OkD l ∧ OkD (fB (dpL (p1, p2) (pr (p1, p2) (L, ()) (g.getD 0 0 % (p1.length : Int)) (fl (p1.length : Int) t j)).1)))
 have hxg := fun h => hG.uni (hMX h).tn (hMX h).len
 have hg00 : 0 ≤ g.getD 0 0 ∧ (0 : Int) < (p1.length : Int) ∧ b5 (g.getD 0 0) := ⟨hg0.1, by omega, by unfold b5; omega⟩
 refine Pr ?_
 (try (conv in (SS.mk _ _) => dsimp only [cJ, cA, cD, c8, bC, c9, aR, cE, cB]))
 refine Nx ?_
 with_reducible repeat' (first | exact True.intro | refine Ca ?_ | refine Cb ?_ | refine Cd ?_ | refine Ce ?_ | refine Cm ?_ ?_ | (first | refine Bo (fun hk h => ?_) fun hk h => ?_ | refine Al (fun hk h => ?_) fun hk h => ?_) <;> (try dsimp only [cJ, cA, cD, c8, bC, c9, aR, cE, cB] at h) <;> (try simp only [natCast_eq] at h) <;> (try (have q1 := hS1 h)) <;> (try (have q2 := hS2 h)) <;> (try (have hb : (_ : Bool) = _ := h; clear h; subst hb)) <;> (try replace hr := hri hr) <;> first | exact Dd | refine Nx ?_)
 all_goals first | with_reducible refine Ez ?_ | exact Cl1 | (dsimp only [cJ, cA, cD, c8, bC, c9, aR, cE, cB]; exact Cl1) | exact hxj (by assumption) | exact hrj (by assumption) | exact hmx _ | exact hg00 | exact hg00.2.2 | exact hg00.2.1 | exact hg00.1 | exact (hrj (by assumption)).2.2 | exact (hrj (by assumption)).1 | (dsimp only; (try simp only [aH, aJ, yB]); first | exact hCk | exact hxd (by assumption) | exact hxw (by assumption) | exact hxl (by assumption) | exact hxu (by assumption)) | exact Cl2 | (dsimp only [cJ, cA, cD, c8, bC, c9, aR, cE, cB]; exact Cl2) | (dsimp only [cJ, cA, cD, c8, bC, c9, aR, cE, cB] at *; exact Cl2) | skip
 · have hq := hno (by assumption) (by assumption)
   refine ⟨⟨j + 1, by omega⟩, (by dsimp only; omega), ?_⟩
   refine Pr ?_
   (try (conv in (SS.mk _ _) => dsimp only [cJ, cA, cD, c8, bC, c9, aR, cE, cB]))
   refine Nx ?_
   with_reducible repeat' first | exact True.intro | refine Ca ?_ | refine Cb ?_ | refine Cd ?_ | refine Ce ?_ | refine Cm ?_ ?_
   all_goals first | with_reducible refine Ez ?_ | exact Cl1 | (dsimp only [cJ, cA, cD, c8, bC, c9, aR, cE, cB]; exact Cl1) | exact hq.1.symm | exact hq.2.symm | exact (List.map_id _).trans hq.2.symm | exact Cl2 | (dsimp only [cJ, cA, cD, c8, bC, c9, aR, cE, cB]; exact Cl2) | (dsimp only [cJ, cA, cD, c8, bC, c9, aR, cE, cB] at *; exact Cl2) | skip
 · have hq := hye (by assumption) (by assumption)
   refine ⟨⟨j + 1, by omega⟩, (by dsimp only; omega), ?_⟩
   refine Pr ?_
   (try (conv in (SS.mk _ _) => dsimp only [cJ, cA, cD, c8, bC, c9, aR, cE, cB]))
   refine Nx ?_
   with_reducible repeat' first | exact True.intro | refine Ca ?_ | refine Cb ?_ | refine Cd ?_ | refine Ce ?_ | refine Cm ?_ ?_
   all_goals first | with_reducible refine Ez ?_ | exact Cl1 | (dsimp only [cJ, cA, cD, c8, bC, c9, aR, cE, cB]; exact Cl1) | exact hq.symm | exact congrArg bA hq.symm | (rw [hq]; done) | exact Cl2 | (dsimp only [cJ, cA, cD, c8, bC, c9, aR, cE, cB]; exact Cl2) | (dsimp only [cJ, cA, cD, c8, bC, c9, aR, cE, cB] at *; exact Cl2) | skip
 · refine ⟨⟨(i + 1, l), by omega, hG.skip⟩, (by dsimp only; omega), ?_⟩
   refine Pr ?_
   (try (conv in (SS.mk _ _) => dsimp only [cJ, cA, cD, c8, bC, c9, aR, cE, cB]))
   refine Nx ?_
   with_reducible repeat' first | exact True.intro | refine Ca ?_ | refine Cb ?_ | refine Cd ?_ | refine Ce ?_ | refine Cm ?_ ?_
   all_goals first | with_reducible refine Ez ?_ | exact Cl1 | (dsimp only [cJ, cA, cD, c8, bC, c9, aR, cE, cB]; exact Cl1) | rfl | exact Cl2 | (dsimp only [cJ, cA, cD, c8, bC, c9, aR, cE, cB]; exact Cl2) | (dsimp only [cJ, cA, cD, c8, bC, c9, aR, cE, cB] at *; exact Cl2) | skip
 · have hq := hxg (by assumption)
   refine ⟨⟨(i + 1, _), by omega, hq⟩, (by dsimp only; omega), ?_⟩
   refine Pr ?_
   (try (conv in (SS.mk _ _) => dsimp only [cJ, cA, cD, c8, bC, c9, aR, cE, cB]))
   refine Nx ?_
   with_reducible repeat' first | exact True.intro | refine Ca ?_ | refine Cb ?_ | refine Cd ?_ | refine Ce ?_ | refine Cm ?_ ?_
   all_goals first | with_reducible refine Ez ?_ | exact Cl1 | (dsimp only [cJ, cA, cD, c8, bC, c9, aR, cE, cB]; exact Cl1) | (dsimp only; (try simp only [aH, aJ, yB]); first | done | rfl) | exact Cl2 | (dsimp only [cJ, cA, cD, c8, bC, c9, aR, cE, cB]; exact Cl2) | (dsimp only [cJ, cA, cD, c8, bC, c9, aR, cE, cB] at *; exact Cl2) | skip
end Go.Proofs.YtcaoldilmnpjoaaGreat
