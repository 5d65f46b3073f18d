/-
  Part Own11 of the proof.
-/
import Derived.Test.YtcaoldilmnpjoaaGreatOwn9
import Derived.Test.YtcaoldilmnpjoaaGreatOwn10
namespace Go.Proofs.YtcaoldilmnpjoaaGreat
set_option linter.all false
open Go.RowKit Go.Sx
set_option maxRecDepth 100000
set_option maxHeartbeats 16000000
abbrev cab (p : a8) (c : Int) : aY := p.2.getD c.toNat z6
structure TrP (p : a8) : Prop where
 n : p.1.length ≤ 16
 c : p.2.length ≤ 32
 e : bd p.2 p.1.length
theorem TrP.at {p : a8} (h : TrP p) {c : Int} (h0 : 0 ≤ c) (h1 : c < (p.2.length : Int)) : (0 ≤ (cab p c).1 ∧ (cab p c).1 < (p.1.length : Int)) ∧ (0 ≤ (cab p c).2.2.1 ∧ (cab p c).2.2.1 < (p.1.length : Int)) ∧ (cab p c).1 ≠ (cab p c).2.2.1 := by
 refine h.e (cab p c) ?_
 show p.2.getD c.toNat z6 ∈ p.2
 rw [List.getD_eq_getElem?_getD, List.getElem?_eq_getElem (by omega)]
 exact List.getElem_mem _
def yi (p : a8) (u : Int) : Tup [DT.cell .bool] := if 0 ≤ u then (decide (u < (p.1.length : Int)), ()) else (false, ())
def jT : aB := ⟨[.cell bT, .cell Ii], fun (x : a8 × Int × Unit) => (x.1).1.length ≤ 16, [.cell .bool], fun (x : a8 × Int × Unit) => yi x.1 x.2.1⟩
theorem tin_ok (p : a8) (u : Int) (h : jT.pre (p, u, ())) : PTk Tryz.prog AI 86 jT (p, u, ()) := by
 dsimp only [PTk, jT] at h ⊢
 generalize hr : yi p u = r
 obtain ⟨p1, p2⟩ := p; dsimp only at h
 dsimp only [yi] at hr
 refine Tb ai mixed (fn := Tryz.f86) ?_
 refine Pq ?_
 with_reducible repeat' (first | exact True.intro | refine Ca ?_ | refine Cb ?_ | refine Cd ?_ | (refine Ce ?_; (try ((repeat (first | rw [ifP] at hr | rw [ifM] at hr | rw [if_pos rfl] at hr)); subst hr))) | refine Cm ?_ ?_ | (first | refine Bo (fun hk h => ?_) fun hk h => ?_ | refine Al (fun hk h => ?_) fun hk h => ?_) <;> (try (have hb : (_ : Bool) = _ := h; clear h; subst hb)) <;> (try replace hr := hri hr) <;> first | exact Dd | refine Nx ?_)
 all_goals first | with_reducible refine Ez ?_ | exact Cl1 | exact Cl2 | skip
theorem rU : aE Tryz.prog AI 86 jT.con := aB.sound Tryz.call86 (fun x h => tin_ok x.1 x.2.1 h)
def lh (p : a8) (c u : Int) : Tup [DT.cell .bool] := if 0 ≤ c then (if c < (p.2.length : Int) then (if (p.2.getD c.toNat z6).1 = u then (true, ()) else (decide ((p.2.getD c.toNat z6).2.2.1 = u), ())) else (false, ())) else (false, ())
def iM : aB := ⟨[.cell bT, .cell Ii, .cell Ii], fun (x : a8 × Int × Int × Unit) => (x.1).2.length ≤ 32, [.cell .bool], fun (x : a8 × Int × Int × Unit) => lh x.1 x.2.1 x.2.2.1⟩
theorem isE_ok (p : a8) (c : Int) (u : Int) (h : iM.pre (p, c, u, ())) : PTk Tryz.prog AI 44 iM (p, c, u, ()) := by
 dsimp only [PTk, iM] at h ⊢
 generalize hr : lh p c u = r
 obtain ⟨p1, p2⟩ := p; dsimp only at h
 dsimp only [lh] at hr
 refine Tb ai mixed (fn := Tryz.f44) ?_
 refine Pq ?_
 with_reducible repeat' (first | exact True.intro | refine Ca ?_ | refine Cb ?_ | refine Cd ?_ | (refine Ce ?_; (try ((repeat (first | rw [ifP] at hr | rw [ifM] at hr | rw [if_pos rfl] at hr)); subst hr))) | refine Cm ?_ ?_ | (first | refine Bo (fun hk h => ?_) fun hk h => ?_ | refine Al (fun hk h => ?_) fun hk h => ?_) <;> (try (have hb : (_ : Bool) = _ := h; clear h; subst hb)) <;> (try replace hr := hri hr) <;> first | exact Dd | refine Nx ?_)
 all_goals first | with_reducible refine Ez ?_ | exact Cl1 | exact Cl2 | skip
theorem s8 : aE Tryz.prog AI 44 iM.con := aB.sound Tryz.call44 (fun x h => isE_ok x.1 x.2.1 x.2.2.1 h)
def otF (p : a8) (c u : Int) : Tup [DT.cell Ii] := ((p.2.getD c.toNat z6).1 + (p.2.getD c.toNat z6).2.2.1 - u, ())
def cx : aB := ⟨[.cell bT, .cell Ii, .cell Ii], fun (x : a8 × Int × Int × Unit) => TrP x.1 ∧ (0 ≤ x.2.1 ∧ x.2.1 < ((x.1).2.length : Int)) ∧ 0 ≤ x.2.2.1 ∧ x.2.2.1 < ((x.1).1.length : Int), [.cell Ii], fun (x : a8 × Int × Int × Unit) => otF x.1 x.2.1 x.2.2.1⟩
theorem ot_ok (p : a8) (c : Int) (u : Int) (h : cx.pre (p, c, u, ())) : PTk Tryz.prog AI 45 cx (p, c, u, ()) := by
 dsimp only [PTk, cx] at h ⊢
 generalize hr : otF p c u = r
 obtain ⟨p1, p2⟩ := p; obtain ⟨hT, ⟨hc0, hc1⟩, hu0, hu1⟩ := h; have hn := hT.n; have hm := hT.c; have hx := hT.at hc0 hc1; dsimp only [cab] at hc1 hu1 hn hm hx; obtain ⟨hx1, hx2, _⟩ := hx; have hI1 : b5 ((p2.getD c.toNat z6).1 + (p2.getD c.toNat z6).2.2.1) := (by unfold b5; omega); have hI2 : b5 ((p2.getD c.toNat z6).1 + (p2.getD c.toNat z6).2.2.1 - u) := (by unfold b5; omega)
 dsimp only [otF] at hr
 refine Tb ai mixed (fn := Tryz.f45) ?_
 refine Pq ?_
 with_reducible repeat' (first | exact True.intro | refine Ca ?_ | refine Cb ?_ | refine Cd ?_ | (refine Ce ?_; (try ((repeat (first | rw [ifP] at hr | rw [ifM] at hr | rw [if_pos rfl] at hr)); subst hr))) | refine Cm ?_ ?_ | (first | refine Bo (fun hk h => ?_) fun hk h => ?_ | refine Al (fun hk h => ?_) fun hk h => ?_) <;> (try (have hb : (_ : Bool) = _ := h; clear h; subst hb)) <;> (try replace hr := hri hr) <;> first | exact Dd | refine Nx ?_)
 all_goals first | with_reducible refine Ez ?_ | exact Cl1 | exact hI1 | exact hI2 | exact Cl2 | skip
theorem lO : aE Tryz.prog AI 45 cx.con := aB.sound Tryz.call45 (fun x h => ot_ok x.1 x.2.1 x.2.2.1 h)
def ee : aB := ⟨[.cell bT, .cell Ii, .cell Ii], fun (x : a8 × Int × Int × Unit) => (x.1).2.length ≤ 32 ∧ 0 ≤ x.2.1 ∧ x.2.1 < ((x.1).2.length : Int), [.cell Ii], fun (x : a8 × Int × Int × Unit) => cG x.1 x.2.1 x.2.2.1⟩
theorem tlv_ok (p : a8) (c : Int) (n : Int) (h : ee.pre (p, c, n, ())) : PTk Tryz.prog AI 47 ee (p, c, n, ()) := by
 dsimp only [PTk, ee] at h ⊢
 generalize hr : cG p c n = r
 obtain ⟨p1, p2⟩ := p; obtain ⟨hc, h0, h1⟩ := h; dsimp only at hc h1
 dsimp only [cG] at hr
 refine Tb el1Ok mixed (fn := Tryz.f47) ?_
 refine Pr ?_
 (try (conv in (SS.mk _ _) => dsimp only [gi]))
 refine Nx ?_
 with_reducible repeat' (first | exact True.intro | refine Ca ?_ | refine Cb ?_ | refine Cd ?_ | (refine Ce ?_; (try ((repeat (first | rw [ifP] at hr | rw [ifM] at hr | rw [if_pos rfl] at hr)); subst hr))) | refine Cm ?_ ?_ | (first | refine Bo (fun hk h => ?_) fun hk h => ?_ | refine Al (fun hk h => ?_) fun hk h => ?_) <;> (try dsimp only [gi] at h) <;> (try simp only [natCast_eq] at h) <;> (try (have hb : (_ : Bool) = _ := h; clear h; subst hb)) <;> (try replace hr := hri hr) <;> first | exact Dd | refine Nx ?_)
 all_goals first | with_reducible refine Ez ?_ | exact Cl1 | (dsimp only [gi]; exact Cl1) | exact Cl2 | (dsimp only [gi]; exact Cl2) | (dsimp only [gi] at *; exact Cl2) | skip
theorem yh : aE Tryz.prog AI 47 ee.con := aB.sound Tryz.call47 (fun x h => tlv_ok x.1 x.2.1 x.2.2.1 h)
def vt (l : List Int) : Bool := decide (∀ k, k < l.length - 1 → l.getD k 0 < l.getD (k + 1) 0)
def bo (l : List Int) : Tup [DT.cell .bool] := (vt l, ())
theorem asc_t {l : List Int} (h : ∀ k, k < l.length - 1 → l.getD k 0 < l.getD (k + 1) 0) : vt l = true := decide_eq_true h
theorem asc_f {l : List Int} {k : Nat} (hk : k < l.length - 1) (h : l.getD (k + 1) 0 ≤ l.getD k 0) : vt l = false := decide_eq_false fun h2 => by have := h2 k hk; omega
def mS : aB := ⟨[.lst Ii], fun (x : (List Int) × Unit) => (x.1).length ≤ 1000000, [.cell .bool], fun (x : (List Int) × Unit) => bo x.1⟩
theorem asc_ok (l : List Int) (h : mS.pre (l, ())) : PTk Tryz.prog AI 91 mS (l, ()) := by
 dsimp only [PTk, mS] at h ⊢
 generalize hr : bo l = r
 dsimp only [bo] at hr
 refine Tb ai mixed (fn := Tryz.f91) ?_
 refine Pq ?_
 with_reducible repeat' (first | exact True.intro | refine Ca ?_ | refine Cb ?_ | refine Cd ?_ | (refine Ce ?_; (try ((repeat (first | rw [ifP] at hr | rw [ifM] at hr | rw [if_pos rfl] at hr)); subst hr))) | refine Cm ?_ ?_ | (first | refine Bo (fun hk h => ?_) fun hk h => ?_ | refine Al (fun hk h => ?_) fun hk h => ?_) <;> (try (have hb : (_ : Bool) = _ := h; clear h; subst hb)) <;> (try replace hr := hri hr) <;> first | exact Dd | refine Nx ?_)
 all_goals first | with_reducible refine Ez ?_ | exact Cl1 | exact Cl2 | skip
 have hL : l.length ≤ 1000000 := h
 refine ⟨⟨{i : Nat // i ≤ l.length ∧ ∀ k, k < i → k < l.length - 1 → l.getD k 0 < l.getD (k + 1) 0}, fun i => ⟨[(0, Sx.one (.ro Ii (fun _ => l))), (3, Sx.one (.int .i64 (fun _ => (i.1 : Int) + 1)))], []⟩, fun i => l.length - i.1, ⟨0, Nat.zero_le _, fun k hk => absurd hk (Nat.not_lt_zero _)⟩⟩, ?_, fun (i : {i : Nat // i ≤ l.length ∧ ∀ k, k < i → k < l.length - 1 → l.getD k 0 < l.getD (k + 1) 0}) => ?_⟩
 · refine Pq ?_
   with_reducible repeat' first | exact True.intro | refine Ca ?_ | refine Cb ?_ | refine Cd ?_ | refine Ce ?_ | refine Cm ?_ ?_
   all_goals first | with_reducible refine Ez ?_ | exact Cl1 | rfl | exact Cl2 | skip
 obtain ⟨i, hi, hK⟩ := i
 dsimp only at hi hK ⊢
 have e1 : ((i : Int) + 1).toNat = i + 1 := by omega
 have e2 : ((i : Int) + 1 - 1).toNat = i := by omega
 have hF : ∀ h : l.getD ((i : Int) + 1).toNat 0 ≤ l.getD ((i : Int) + 1 - 1).toNat 0, l.getD (i + 1) 0 ≤ l.getD i 0 := fun h => by rw [e1, e2] at h; exact h
 have hG : ∀ h : ¬ l.getD ((i : Int) + 1).toNat 0 ≤ l.getD ((i : Int) + 1 - 1).toNat 0, l.getD i 0 < l.getD (i + 1) 0 := fun h => by rw [e1, e2] at h; omega
 refine Pq ?_
 with_reducible repeat' (first | exact True.intro | refine Ca ?_ | refine Cb ?_ | refine Cd ?_ | refine Ce ?_ | refine Cm ?_ ?_ | (first | refine Bo (fun hk h => ?_) fun hk h => ?_ | refine Al (fun hk h => ?_) fun hk h => ?_) <;> (try (have hb : (_ : Bool) = _ := h; clear h; subst hb)) <;> (try replace hr := hri hr) <;> first | exact Dd | refine Nx ?_)
 all_goals first | with_reducible refine Ez ?_ | exact Cl1 | (subst hr; exact (asc_f (k := i) (by omega) (hF h)).symm) | (subst hr; exact (asc_t fun k h1 => hK k (by omega) h1).symm) | exact Cl2 | skip
 have hg := hG h
 refine ⟨⟨i + 1, by omega, fun k h1 h2 => ?_⟩, (by dsimp only; omega), ?_⟩
 · by_cases e : k = i
   · subst e
     exact hg
   · exact hK k (by omega) h2
 · refine Pq ?_
   with_reducible repeat' (first | exact True.intro | refine Ca ?_ | refine Cb ?_ | refine Cd ?_ | refine Ce ?_ | refine Cm ?_ ?_ | (first | refine Bo (fun hk h => ?_) fun hk h => ?_ | refine Al (fun hk h => ?_) fun hk h => ?_) <;> (try (have hb : (_ : Bool) = _ := h; clear h; subst hb)) <;> (try replace hr := hri hr) <;> first | exact Dd | refine Nx ?_)
   all_goals first | with_reducible refine Ez ?_ | exact Cl1 | rfl | exact Cl2 | skip
theorem AM : aE Tryz.prog AI 91 mS.con := aB.sound Tryz.call91 (fun x h => asc_ok x.1 h)
end Go.Proofs.YtcaoldilmnpjoaaGreat
