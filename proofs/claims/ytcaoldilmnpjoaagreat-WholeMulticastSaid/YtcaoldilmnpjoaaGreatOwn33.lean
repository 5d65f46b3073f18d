/-
  Part Own33 of the proof.
-/
import Derived.Test.YtcaoldilmnpjoaaGreatOwn32
import Derived.Test.YtcaoldilmnpjoaaGreatOwn19
import Derived.Test.YtcaoldilmnpjoaaGreatEng3
namespace Go.Proofs.YtcaoldilmnpjoaaGreat
set_option linter.all false
open Go.RowKit Go.Sx
set_option maxRecDepth 100000
set_option maxHeartbeats 16000000
structure PlIn (p : a8) : Prop where
 nm : ∀ n ∈ p.1, bq n.1
 cb : ∀ c ∈ p.2, az.bW c
def wQ (p : a8) (up : List Bool) : Tup [DT.cell .bool] :=
 if (p.1.length : Int) ≤ 8 then (if (p.2.length : Int) ≤ 12 then (if (up.length : Int) = (p.2.length : Int) then (if (0 : Int) < (p.1.length : Int) then (decide (bh p = 0), ()) else (false, ())) else (false, ())) else (false, ())) else (false, ())
noncomputable abbrev Ez1 : Env Ab := ⟨tis, [(20, bE.con)] ++ E0.con⟩
theorem ez1Ok : aU Tryz.prog AI Ez1 := (ai.add cR)
def lD : aB := ⟨[.cell bT, .lst .bool], fun (x : a8 × (List Bool) × Unit) => PlIn x.1, [.cell .bool], fun (x : a8 × (List Bool) × Unit) => wQ x.1 x.2.1⟩
theorem sml_ok (p : a8) (up : List Bool) (h : lD.pre (p, up, ())) : PTk Tryz.prog AI 6 lD (p, up, ()) := by
 dsimp only [PTk, lD] at h ⊢
 generalize hr : wQ p up = r
 obtain ⟨p1, p2⟩ := p; have hP : p1.length ≤ 16 → p2.length ≤ 32 → wA (p1, p2) := fun h1 h2 => ⟨h1, h2, h.nm, h.cb⟩
 dsimp only [wQ] at hr
 refine Tb ez1Ok mixed (fn := Tryz.f6) ?_
 refine Pr ?_
 (try (conv in (SS.mk _ _) => dsimp only [aA]))
 refine Nx ?_
 with_reducible repeat' (first | exact True.intro | refine Ca ?_ | refine Cb ?_ | refine Cd ?_ | (refine Ce ?_; (try ((repeat (first | rw [ifP] at hr | rw [ifM] at hr | rw [if_pos rfl] at hr)); subst hr))) | refine Cm ?_ ?_ | (first | refine Bo (fun hk h => ?_) fun hk h => ?_ | refine Al (fun hk h => ?_) fun hk h => ?_) <;> (try dsimp only [aA] at h) <;> (try simp only [natCast_eq] at h) <;> (try (have hb : (_ : Bool) = _ := h; clear h; subst hb)) <;> (try replace hr := hri hr) <;> first | exact Dd | refine Nx ?_)
 all_goals first | with_reducible refine Ez ?_ | exact Cl1 | (dsimp only [aA]; exact Cl1) | exact hP (by omega) (by omega) | (dsimp only; simp only [aH, aJ]; exact hP (by omega) (by omega)) | exact Cl2 | (dsimp only [aA]; exact Cl2) | (dsimp only [aA] at *; exact Cl2) | skip
theorem yz : aE Tryz.prog AI 6 lD.con := aB.sound Tryz.call6 (fun x h => sml_ok x.1 x.2.1 h)
theorem k6.lv {p : a8} {up : List Bool} (h : k6 p up) {root : Int} (h0 : 0 ≤ root) (h1 : root < (p.1.length : Int)) : LvP p (cz p.2 up p.1.length root, ()) := ⟨h.pl, h.ok, Bt (bD h.ok) h0 h1⟩
def dpo (p : a8) (up : List Bool) (root : Int) : List aT := qX p (cz p.2 up p.1.length root, ()) (fg (dP p (cz p.2 up p.1.length root, ()) up) p.1.length, ())
def cA (p : a8) (up : List Bool) (root : Int) : Tup [DT.lst br, DT.cell iq, DT.cell .bool] := (dpo p up root, (cz p.2 up p.1.length root, ()), true, ())
theorem k6.dp {p : a8} {up : List Bool} (h : k6 p up) {root : Int} (h0 : 0 ≤ root) (h1 : root < (p.1.length : Int)) : DpP p (cz p.2 up p.1.length root, ()) (fg (dP p (cz p.2 up p.1.length root, ()) up) p.1.length, ()) := ⟨h.lv h0 h1, tab_ok p _ up⟩
noncomputable abbrev Ez2 : Env Ab := ⟨tis, [(23, mF.con), (22, lY.con), (21, pU.con)] ++ E0.con⟩
theorem ez2Ok : aU Tryz.prog AI Ez2 := (((ai.add BM).add zl).add A4)
def mG : aB := ⟨[.cell bT, .lst .bool, .cell Ii], fun (x : a8 × (List Bool) × Int × Unit) => k6 x.1 x.2.1 ∧ 0 ≤ x.2.2.1 ∧ x.2.2.1 < ((x.1).1.length : Int), [.lst br, .cell iq, .cell .bool], fun (x : a8 × (List Bool) × Int × Unit) => cA x.1 x.2.1 x.2.2.1⟩
theorem dpo_ok (p : a8) (up : List Bool) (root : Int) (h : mG.pre (p, up, root, ())) : PTk Tryz.prog AI 7 mG (p, up, root, ()) := by
 dsimp only [PTk, mG] at h ⊢
 generalize hr : cA p up root = r
 obtain ⟨p1, p2⟩ := p; obtain ⟨hS, h0, h1⟩ := h; have hL := hS.lv h0 h1; have hD := hS.dp h0 h1; have hU : LvU (p1, p2) (cz p2 up p1.length root, ()) up := ⟨hL, hS.up⟩; dsimp only at h1 hL hD
 dsimp only [cA] at hr
 refine Tb ez2Ok mixed (fn := Tryz.f7) ?_
 refine Pr ?_
 (try (conv in (SS.mk _ _) => dsimp only [ofF, vM, o7]))
 refine Nx ?_
 with_reducible repeat' (first | exact True.intro | refine Ca ?_ | refine Cb ?_ | refine Cd ?_ | (refine Ce ?_; (try ((repeat (first | rw [ifP] at hr | rw [ifM] at hr | rw [if_pos rfl] at hr)); subst hr))) | refine Cm ?_ ?_ | (first | refine Bo (fun hk h => ?_) fun hk h => ?_ | refine Al (fun hk h => ?_) fun hk h => ?_) <;> (try dsimp only [ofF, vM, o7] at h) <;> (try simp only [natCast_eq] at h) <;> (try (have hb : (_ : Bool) = _ := h; clear h; subst hb)) <;> (try replace hr := hri hr) <;> first | exact Dd | refine Nx ?_)
 all_goals first | with_reducible refine Ez ?_ | exact Cl1 | (dsimp only [ofF, vM, o7]; exact Cl1) | (dsimp only; simp only [aH, aJ]; first | exact ⟨hS, h0, h1⟩ | exact hU | exact hD) | exact Cl2 | (dsimp only [ofF, vM, o7]; exact Cl2) | (dsimp only [ofF, vM, o7] at *; exact Cl2) | skip
 dsimp only
 simp only [aH, aJ]
 rfl
theorem A5 : aE Tryz.prog AI 7 mG.con := aB.sound Tryz.call7 (fun x h => dpo_ok x.1 x.2.1 x.2.2.1 h)
theorem i64_min : IntKind.i64.min = -9223372036854775808 := by rfl
theorem i64_max : IntKind.i64.max = 9223372036854775807 := by rfl
theorem pl_in {p : a8} (h : (DT.cell bT).ok p) : PlIn p := by
 obtain ⟨⟨_, h1⟩, _, h2⟩ := h
 refine ⟨fun n hn => (h1 n hn).1.2, fun c hc => ?_⟩
 obtain ⟨a, b, c', d, e, f⟩ := h2 c hc
 simp only [Ty.ok, i64_min, i64_max] at a b c' d e f
 exact ⟨a, b, c', d, e, f⟩
theorem u8_in {n : Int} (h : (DT.cell (.int .u8)).ok n) : 0 ≤ n ∧ n ≤ 255 := by
 have h1 : IntKind.u8.min = 0 := by rfl
 have h2 : IntKind.u8.max = 255 := by rfl
 have h3 : IntKind.u8.min ≤ n ∧ n ≤ IntKind.u8.max := h
 rw [h1, h2] at h3
 exact h3
theorem Ax {p : a8} {up : List Bool} (hi : PlIn p) (h : (wQ p up).1 = true) : k6 p up ∧ 0 < p.1.length := by
 unfold wQ at h
 split at h <;> (try (cases h; done))
 split at h <;> (try (cases h; done))
 split at h <;> (try (cases h; done))
 split at h <;> (try (cases h; done))
 exact ⟨⟨⟨by omega, by omega, hi.nm, hi.cb⟩, of_decide_eq_true h, by omega⟩, by omega⟩
theorem pq {x : Int} {n : Nat} (h0 : 0 ≤ x) (hn : 0 < n) : 0 ≤ x % (n : Int) ∧ x % (n : Int) < (n : Int) := ⟨Int.emod_nonneg _ (by omega), Int.emod_lt_of_pos _ (by omega)⟩
theorem grp_in {G : List (List Int)} (h : (DT.lst .bytes).ok G) : ∀ k : Nat, ∀ x ∈ G.getD k [], 0 ≤ x ∧ x < 256 := fun k x hx => by
 by_cases hk : k < G.length
 · have e : G.getD k [] = G[k] := by rw [List.getD_eq_getElem?_getD, List.getElem?_eq_getElem hk]; rfl
   rw [e] at hx
   exact (h.2 G[k] (List.getElem_mem hk)).2 x hx
 · rw [List.getD_eq_getElem?_getD, List.getElem?_eq_none (by omega)] at hx
   cases hx
end Go.Proofs.YtcaoldilmnpjoaaGreat
