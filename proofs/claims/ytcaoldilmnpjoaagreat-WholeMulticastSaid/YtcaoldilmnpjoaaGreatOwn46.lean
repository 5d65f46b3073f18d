/-
  Part Own46 of the proof.
-/
import Derived.Test.YtcaoldilmnpjoaaGreatOwn44
import Derived.Test.YtcaoldilmnpjoaaGreatOwn29
import Derived.Test.YtcaoldilmnpjoaaGreatOwn42
import Derived.Test.YtcaoldilmnpjoaaGreatOwn45
import Derived.Test.YtcaoldilmnpjoaaGreatOwn41
namespace Go.Proofs.YtcaoldilmnpjoaaGreat
set_option linter.all false
open Go.RowKit Go.Sx
set_option maxRecDepth 100000
set_option maxHeartbeats 16000000
def frI (p : a8) (V : List Int) (k : Nat) : Int := (cG p (V.getD k 0) (otF p (V.getD k 0) (k : Int)).1).1
def ki (p : a8) (V : List Int) (O : fp) (k j : Nat) : List aT := ((O.getD k []).take j).map fun c => (frI p V k, (cG p c (k : Int)).1, (k : Int))
def dpT (p : a8) (V : List Int) (O : fp) (i : Nat) : List aT := (List.range i).flatMap fun k : Nat => if V.getD k 0 < 0 then [] else ki p V O k (O.getD k []).length
theorem qW (p : a8) (V : List Int) (O : fp) (i : Nat) : dpT p V O (i + 1) = dpT p V O i ++ (if V.getD i 0 < 0 then [] else ki p V O i (O.getD i []).length) := by
 unfold dpT
 rw [List.range_succ, List.flatMap_append]; simp
theorem sI (p : a8) (V : List Int) (O : fp) (k : Nat) : ki p V O k 0 = [] := by unfold ki; simp
theorem A7 {p : a8} {V : List Int} {O : fp} {k j : Nat} (h : j < (O.getD k []).length) : ki p V O k (j + 1) = ki p V O k j ++ [(frI p V k, (cG p ((O.getD k []).getD j 0) (k : Int)).1, (k : Int))] := by
 unfold ki
 have := dS (O.getD k []) h
 rw [Int.toNat_natCast] at this
 rw [this, List.map_append]; rfl
theorem vl {p : a8} {V : List Int} {O : fp} {k j : Nat} : (ki p V O k j).length ≤ (O.getD k []).length := by
 unfold ki
 rw [List.length_map, List.length_take]; omega
theorem tg {p : a8} {V : List Int} {O : fp} (h : ∀ k, (O.getD k []).length ≤ 1000) : ∀ i, (dpT p V O i).length ≤ i * 1000
 | 0 => Nat.zero_le _
 | i + 1 => by
   have h1 := tg (p := p) (V := V) h i
   have h2 := vl (p := p) (V := V) (O := O) (k := i) (j := (O.getD i []).length)
   have h3 := h i
   rw [qW, List.length_append]
   split
   · simp only [List.length_nil]; omega
   · omega
def dpL (p : a8) (X : fb) : List aT := dpT p (ovL p X.1 X.2.1) X.2.1 p.1.length
structure TdP (p : a8) (X : fb) : Prop where
 wy : WyP p X.1 X.2.1 X.2.2
 e : ∀ k : Nat, k < p.1.length → 0 ≤ (ovL p X.1 X.2.1).getD k 0 → isE p ((ovL p X.1 X.2.1).getD k 0) (k : Int)
 sd : SdP (dpL p X)
def c8 (p : a8) (X : fb) : Tup [DT.lst br, DT.cell Ii] := (fB (dpL p X), 0, ())
noncomputable abbrev Etd : Env Ab := ⟨tis, [(48, sf), (47, ee.con), (45, cx.con), (46, ed.con)] ++ E0.con⟩
theorem etdOk : aU Tryz.prog AI Etd := ((((ai.add mZ).add lO).add yh).add se)
def lA : aB := ⟨[.cell bT, .cell xV], fun (x : a8 × fb × Unit) => TdP x.1 x.2.1, [.lst br, .cell Ii], fun (x : a8 × fb × Unit) => c8 x.1 x.2.1⟩
theorem tdp_ok (p : a8) (X : fb) (h : lA.pre (p, X, ())) : PTk Tryz.prog AI 15 lA (p, X, ()) := by
 dsimp only [PTk, lA] at h ⊢
 generalize hr : c8 p X = r
 obtain ⟨p1, p2⟩ := p; obtain ⟨s, O, D⟩ := X; obtain ⟨hW, hE, hSd⟩ := h; dsimp only [dpL] at hW hE hSd; have hT := hW.tr; have hn := hW.pl.n; have hc := hW.pl.c; have hln := hW.ln; have hrow := hW.row; have hO : O.length = p1.length := hW.out
 dsimp only at hn hc hrow
 dsimp only [c8] at hr
 refine Tb etdOk mixed (fn := Tryz.f15) ?_
 refine Pr ?_
 (try (conv in (SS.mk _ _) => dsimp only [aV]))
 refine Nx ?_
 with_reducible repeat' (first | exact True.intro | refine Ca ?_ | refine Cb ?_ | refine Cd ?_ | (refine Ce ?_; (try ((repeat (first | rw [ifP] at hr | rw [ifM] at hr | rw [if_pos rfl] at hr)); subst hr))) | refine Cm ?_ ?_ | (first | refine Bo (fun hk h => ?_) fun hk h => ?_ | refine Al (fun hk h => ?_) fun hk h => ?_) <;> (try dsimp only [aV] at h) <;> (try simp only [natCast_eq] at h) <;> (try (have hb : (_ : Bool) = _ := h; clear h; subst hb)) <;> (try replace hr := hri hr) <;> first | exact Dd | refine Nx ?_)
 all_goals first | with_reducible refine Ez ?_ | exact Cl1 | (dsimp only [aV]; exact Cl1) | (dsimp only; simp only [aH, aJ]; exact hW) | exact Cl2 | (dsimp only [aV]; exact Cl2) | (dsimp only [aV] at *; exact Cl2) | skip
 dsimp only [dpL] at hr
 obtain ⟨V, hV⟩ : ∃ V, ovL (p1, p2) s O = V := ⟨_, rfl⟩
 have hVl : V.length = p1.length := by rw [← hV]; exact tB _ _ _
 rw [hV] at hE hSd hr
 refine ⟨⟨{k : Nat // k ≤ V.length}, fun k => ⟨[(2, Sx.one (.ptr 0 0)), (3, Sx.one (.ptr 1 0)), (8, Sx.one (.hd 2 0)), (22, Sx.one (.ro Ii (fun _ => V))), (23, Sx.one (.int .i64 (fun _ => V.length))), (24, Sx.one (.int .i64 (fun _ => k.1)))],
  [.cells 25 [.ro ah (fun _ => p1), .ro az (fun _ => p2)], .cells 52 [.int .i64 (fun _ => s), .ro (.lst Ii) (fun _ => O), .ro Ii (fun _ => D)], .row 76 br 0 (fun _ => dpT (p1, p2) V O k.1)]⟩, fun k => V.length - k.1, ⟨0, Nat.zero_le _⟩⟩, ?_, fun (k : {k : Nat // k ≤ V.length}) => ?_⟩
 · refine Pr ?_
   (try (conv in (SS.mk _ _) => dsimp only [aV]))
   refine Nx ?_
   with_reducible repeat' first | exact True.intro | refine Ca ?_ | refine Cb ?_ | refine Cd ?_ | refine Ce ?_ | refine Cm ?_ ?_
   all_goals first | with_reducible refine Ez ?_ | exact Cl1 | (dsimp only [aV]; exact Cl1) | with_reducible rfl | (dsimp only [ed, aV]; (try simp only [aH, aJ]); first | exact hV | exact congrArg (fun l : List Int => (l.length : Int)) hV) | exact Cl2 | (dsimp only [aV]; exact Cl2) | (dsimp only [aV] at *; exact Cl2) | skip
 obtain ⟨k, hk⟩ := k
 dsimp only
 have hx := fun (h : (k : Int) < (V.length : Int)) => (⟨by omega, h⟩ : (0 : Int) ≤ (k : Int) ∧ (k : Int) < (V.length : Int))
 have hxo := fun (h : (k : Int) < (V.length : Int)) => (⟨by omega, by omega⟩ : (0 : Int) ≤ (k : Int) ∧ (k : Int) < (O.length : Int))
 have hcb := fun (h : (k : Int) < (V.length : Int)) (h2 : ¬ V.getD (k : Int).toNat 0 < 0) => (dR (hE k (by omega) (by rw [Int.toNat_natCast] at h2; omega))).1
 have hot := fun (h : (k : Int) < (V.length : Int)) (h2 : ¬ V.getD (k : Int).toNat 0 < 0) => (⟨hT, hcb h h2, by omega, show (k : Int) < (p1.length : Int) by omega⟩ : TrP (p1, p2) ∧ (0 ≤ V.getD (k : Int).toNat 0 ∧ V.getD (k : Int).toNat 0 < (p2.length : Int)) ∧ 0 ≤ (k : Int) ∧ (k : Int) < (p1.length : Int))
 have htl := fun (h : (k : Int) < (V.length : Int)) (h2 : ¬ V.getD (k : Int).toNat 0 < 0) => (⟨hc, hcb h h2⟩ : p2.length ≤ 32 ∧ 0 ≤ V.getD (k : Int).toNat 0 ∧ V.getD (k : Int).toNat 0 < (p2.length : Int))
 have hsk := fun (h2 : V.getD (k : Int).toNat 0 < 0) => (by rw [qW, if_pos (show V.getD k 0 < 0 from h2), List.append_nil] : dpT (p1, p2) V O (k + 1) = dpT (p1, p2) V O k)
 have hDl : (dpT (p1, p2) V O k).length ≤ 17000 := by
  have := tg (p := (p1, p2)) (V := V) (O := O) hln k
  omega
 have hsd : ¬ (k : Int) < (V.length : Int) → (dpT (p1, p2) V O k).length ≤ 1000000 ∧ SdP (dpT (p1, p2) V O k) := fun h => ⟨by omega, by rw [show k = p1.length by omega]; exact hSd⟩
 have hend : ¬ (k : Int) < (V.length : Int) → dpT (p1, p2) V O k = dpT (p1, p2) V O p1.length := fun h => by rw [show k = p1.length by omega]
 refine Pr ?_
 (try (conv in (SS.mk _ _) => dsimp only [aV]))
 refine Nx ?_
 with_reducible repeat' (first | exact True.intro | refine Ca ?_ | refine Cb ?_ | refine Cd ?_ | refine Ce ?_ | refine Cm ?_ ?_ | (first | refine Bo (fun hk h => ?_) fun hk h => ?_ | refine Al (fun hk h => ?_) fun hk h => ?_) <;> (try dsimp only [aV] at h) <;> (try simp only [natCast_eq] at h) <;> (try (have hb : (_ : Bool) = _ := h; clear h; subst hb)) <;> (try replace hr := hri hr) <;> first | exact Dd | refine Nx ?_)
 all_goals first | with_reducible refine Ez ?_ | exact Cl1 | (dsimp only [aV]; exact Cl1) | exact hx (by assumption) | exact hxo (by assumption) | exact hsd (by assumption) | (dsimp only [cx, ee]; (try simp only [aH, aJ]); first | exact hot (by assumption) (by assumption) | exact htl (by assumption) (by assumption)) | (subst hr; first | with_reducible rfl | exact congrArg fB (hend (by assumption)) | (dsimp only; (try simp only [aH, aJ]); exact congrArg fB (hend (by assumption)))) | exact Cl2 | (dsimp only [aV]; exact Cl2) | (dsimp only [aV] at *; exact Cl2) | skip
 · refine ⟨⟨k + 1, by omega⟩, (by dsimp only; omega), ?_⟩
   refine Pr ?_
   (try (conv in (SS.mk _ _) => dsimp only [aV]))
   refine Nx ?_
   with_reducible repeat' first | exact True.intro | refine Ca ?_ | refine Cb ?_ | refine Cd ?_ | refine Ce ?_ | refine Cm ?_ ?_
   all_goals first | with_reducible refine Ez ?_ | exact Cl1 | (dsimp only [aV]; exact Cl1) | exact (hsk (by assumption)).symm | exact (List.map_id _).trans (hsk (by assumption)).symm | exact Cl2 | (dsimp only [aV]; exact Cl2) | (dsimp only [aV] at *; exact Cl2) | skip
 have hkV : (k : Int) < (V.length : Int) := by assumption
 have hvk : ¬ V.getD (k : Int).toNat 0 < 0 := by assumption
 clear hot htl hsk hsd hend
 obtain ⟨fr, hfr⟩ : ∃ fr, (cG (p1, p2) (V.getD (k : Int).toNat 0) (otF (p1, p2) (V.getD (k : Int).toNat 0) (k : Int)).1).1 = fr := ⟨_, rfl⟩
 have hfr2 : frI (p1, p2) V k = fr := hfr
 have hok := (hrow k (by omega)).2
 have hlk := hln k
 refine ⟨⟨{j : Nat // j ≤ (O.getD k []).length}, fun j => ⟨[(2, Sx.one (.ptr 0 0)), (3, Sx.one (.ptr 1 0)), (8, Sx.one (.hd 2 0)), (9, Sx.one (.int .i64 (fun _ => k))), (11, Sx.one (.int .i64 (fun _ => fr))), (22, Sx.one (.ro Ii (fun _ => V))), (23, Sx.one (.int .i64 (fun _ => V.length))), (24, Sx.one (.int .i64 (fun _ => k))), (42, Sx.one (.ro Ii (fun _ => O.getD k []))), (43, Sx.one (.int .i64 (fun _ => (O.getD k []).length))), (44, Sx.one (.int .i64 (fun _ => j.1)))],
  [.cells 25 [.ro ah (fun _ => p1), .ro az (fun _ => p2)], .cells 52 [.int .i64 (fun _ => s), .ro (.lst Ii) (fun _ => O), .ro Ii (fun _ => D)], .row 76 br 0 (fun _ => dpT (p1, p2) V O k ++ ki (p1, p2) V O k j.1)]⟩, fun j => (O.getD k []).length - j.1, ⟨0, Nat.zero_le _⟩⟩, ?_, fun (j : {j : Nat // j ≤ (O.getD k []).length}) => ?_⟩
 · refine Pr ?_
   (try (conv in (SS.mk _ _) => dsimp only [aV]))
   refine Nx ?_
   with_reducible repeat' first | exact True.intro | refine Ca ?_ | refine Cb ?_ | refine Cd ?_ | refine Ce ?_ | refine Cm ?_ ?_
   all_goals first | with_reducible refine Ez ?_ | exact Cl1 | (dsimp only [aV]; exact Cl1) | with_reducible rfl | (dsimp only [cx, ee]; (try simp only [aH, aJ]); first | exact hfr | rfl | (rw [sI, List.append_nil]; done)) | (rw [sI, List.append_nil]; done) | exact Cl2 | (dsimp only [aV]; exact Cl2) | (dsimp only [aV] at *; exact Cl2) | skip
 obtain ⟨j, hj⟩ := j
 dsimp only
 have hxj := fun (h : (j : Int) < ((O.getD k []).length : Int)) => (⟨by omega, h⟩ : (0 : Int) ≤ (j : Int) ∧ (j : Int) < ((O.getD k []).length : Int))
 have htj := fun (h : (j : Int) < ((O.getD k []).length : Int)) => (⟨hc, (dR (hok ((O.getD k []).getD (j : Int).toNat 0) (ll (by omega)))).1⟩ : p2.length ≤ 32 ∧ 0 ≤ (O.getD k []).getD (j : Int).toNat 0 ∧ (O.getD k []).getD (j : Int).toNat 0 < (p2.length : Int))
 have hjl := vl (p := (p1, p2)) (V := V) (O := O) (k := k) (j := j)
 have hmx : ∀ d : aT, (dpT (p1, p2) V O k ++ ki (p1, p2) V O k j).length + [d].length ≤ bP := fun d => by
  rw [List.length_append]
  show _ + 1 ≤ 1099511627776
  omega
 have hnx := fun (h : (j : Int) < ((O.getD k []).length : Int)) => (by rw [A7 (by omega), hfr2, List.append_assoc] : dpT (p1, p2) V O k ++ ki (p1, p2) V O k (j + 1) = (dpT (p1, p2) V O k ++ ki (p1, p2) V O k j) ++ [(fr, (cG (p1, p2) ((O.getD k []).getD j 0) (k : Int)).1, (k : Int))])
 have hen := fun (h : ¬ (j : Int) < ((O.getD k []).length : Int)) => (by rw [qW, if_neg (show ¬ V.getD k 0 < 0 from hvk), show j = (O.getD k []).length by omega] : dpT (p1, p2) V O (k + 1) = dpT (p1, p2) V O k ++ ki (p1, p2) V O k j)
 refine Pr ?_
 (try (conv in (SS.mk _ _) => dsimp only [aV]))
 refine Nx ?_
 with_reducible repeat' (first | exact True.intro | refine Ca ?_ | refine Cb ?_ | refine Cd ?_ | refine Ce ?_ | refine Cm ?_ ?_ | (first | refine Bo (fun hk h => ?_) fun hk h => ?_ | refine Al (fun hk h => ?_) fun hk h => ?_) <;> (try dsimp only [aV] at h) <;> (try simp only [natCast_eq] at h) <;> (try (have hb : (_ : Bool) = _ := h; clear h; subst hb)) <;> (try replace hr := hri hr) <;> first | exact Dd | refine Nx ?_)
 all_goals first | with_reducible refine Ez ?_ | exact Cl1 | (dsimp only [aV]; exact Cl1) | exact hxj (by assumption) | exact hmx _ | (dsimp only [cx, ee]; (try simp only [aH, aJ]); exact htj (by assumption)) | exact Cl2 | (dsimp only [aV]; exact Cl2) | (dsimp only [aV] at *; exact Cl2) | skip
 · refine ⟨⟨j + 1, by omega⟩, (by dsimp only; omega), ?_⟩
   refine Pr ?_
   (try (conv in (SS.mk _ _) => dsimp only [aV]))
   refine Nx ?_
   with_reducible repeat' first | exact True.intro | refine Ca ?_ | refine Cb ?_ | refine Cd ?_ | refine Ce ?_ | refine Cm ?_ ?_
   all_goals first | with_reducible refine Ez ?_ | exact Cl1 | (dsimp only [aV]; exact Cl1) | exact (hnx (by assumption)).symm | (dsimp only [cx, ee]; (try simp only [aH, aJ]); exact (hnx (by assumption)).symm) | exact Cl2 | (dsimp only [aV]; exact Cl2) | (dsimp only [aV] at *; exact Cl2) | skip
 · refine ⟨⟨k + 1, by omega⟩, (by dsimp only; omega), ?_⟩
   refine Pr ?_
   (try (conv in (SS.mk _ _) => dsimp only [aV]))
   refine Nx ?_
   with_reducible repeat' first | exact True.intro | refine Ca ?_ | refine Cb ?_ | refine Cd ?_ | refine Ce ?_ | refine Cm ?_ ?_
   all_goals first | with_reducible refine Ez ?_ | exact Cl1 | (dsimp only [aV]; exact Cl1) | exact (hen (by assumption)).symm | exact (List.map_id _).trans (hen (by assumption)).symm | exact Cl2 | (dsimp only [aV]; exact Cl2) | (dsimp only [aV] at *; exact Cl2) | skip
theorem yj : aE Tryz.prog AI 15 lA.con := aB.sound Tryz.call15 (fun x h => tdp_ok x.1 x.2.1 h)
section
variable {p : a8} {L : List Int}
theorem tp_T (h : TrL p L) {T : List (Int × Int)} {s x ox : Int} {w : List Int} (hs : Okv p L s (-1)) (ht : TPm p L T s x ox w) : ∀ i, i < w.length → (b6 p s w (i + 1), w.getD i 0) ∈ T := by
 induction ht with
 | root _ => exact fun i hi => absurd hi (Nat.not_lt_zero _)
 | step y oy c w h1 he hm ih =>
   intro i hi
   have hl : (w ++ [c]).length = w.length + 1 := by simp
   rw [hl] at hi
   by_cases e : i = w.length
   · have g := TPm.ok h hs h1
     have hnew : b6 p s (w ++ [c]) (w.length + 1) = oth p c y := by
      rw [jh p s (w ++ [c]) (by simp), er, dO s w c (Nat.le_refl _), g.nod]
      exact (AQ he.e).2
     rw [e, hnew, er]
     exact hm
   · rw [dO s w c (by omega), jC (by omega)]
     exact ih i (by omega)
end
section
variable {p : a8} {o : ab} {s : Int} {ms : List Int}
theorem CkP.sq (h : CkP p o s ms) (h0 : (gM p o s ms).1 = 0) {k : Nat} (hk : k < p.1.length) (hne : ¬ (ovL p s (fe p o.1 s ms)).getD k 0 = -2) : ((k : Int), (ovL p s (fe p o.1 s ms)).getD k 0) ∈ trT p (ay p o.1) (bA ms) 40 s (-1) := by
 by_cases hx : ∃ ox, ((k : Int), ox) ∈ trT p (ay p o.1) (bA ms) 40 s (-1)
 · obtain ⟨ox, hx⟩ := hx
   have := h.ov h0 hx
   rw [Int.toNat_natCast] at this
   rw [this]; exact hx
 · exfalso; apply hne
   have := h.ovn h0 (x := (k : Int)) (by omega) (by omega) fun ox q => hx ⟨ox, q⟩
   rw [Int.toNat_natCast] at this
   exact this
theorem CkP.lga (h : CkP p o s ms) (h0 : (gM p o s ms).1 = 0) : LgaP p o (s, fe p o.1 s ms, l9 ms) := by
 have hT := h.trl
 have hok := h.okv h0
 have hM := h.mo h0
 refine ⟨h.wy h0, h.lv, fun k hk hne => ?_⟩
 have hr := h.sq h0 hk hne
 dsimp only at hne ⊢
 obtain ⟨w, hw⟩ := hM.wy _ hr
 have g := TPm.ok hT hok hw
 have hin := tp_T hT hok hw
 have hms := po hT (o := -1) h.s0
 have hgl := g.len
 refine ⟨w, ia.lgP h.lv hT hok.1 g, by omega, g.nod, ?_, fun i hi => ?_⟩
 · exact h.ov h0 (by unfold trT; exact List.mem_cons_self ..)
 · have h1 := hin i hi
   have h2 := g.ac i hi
   have h3 : b6 p s w (i + 1) = oth p (w.getD i 0) (b6 p s w i) := by
    rw [jh p s w hi]
    exact (AQ h2).2
   refine ⟨h.ov h0 h1, (dR h2).1, ?_⟩
   rw [h3]
   exact bu
theorem dpT_mem {V : List Int} {O : fp} : ∀ {i : Nat} {d : aT}, d ∈ dpT p V O i → ∃ k : Nat, k < i ∧ ¬ V.getD k 0 < 0 ∧ ∃ c ∈ O.getD k [], d = (frI p V k, (cG p c (k : Int)).1, (k : Int)) := by
 intro i d hd
 unfold dpT at hd
 obtain ⟨k, hk, hd⟩ := List.mem_flatMap.1 hd
 split at hd
 · cases hd
 · rename_i hv
   unfold ki at hd
   rw [List.take_length] at hd
   obtain ⟨c, hc, rfl⟩ := List.mem_map.1 hd
   exact ⟨k, List.mem_range.1 hk, hv, c, hc, rfl⟩
theorem CkP.uI (h : CkP p o s ms) (h0 : (gM p o s ms).1 = 0) {d : aT} (hd : d ∈ dpL p (s, fe p o.1 s ms, l9 ms)) : oD p o.1 d ∧ (aM p d.1).2.1 = d.2.2 := by
 have hT := h.trl
 have hM := h.mo h0
 have hn := h.lv.pl.n
 have hll := h.lv.lv.len
 obtain ⟨k, hk, hv, c, hc, rfl⟩ := dpT_mem hd
 dsimp only at hv hc ⊢
 have hr := h.sq h0 hk (by omega)
 obtain ⟨V, hV⟩ : ∃ V, ovL p s (fe p o.1 s ms) = V := ⟨_, rfl⟩
 rw [hV] at hv hr
 have hfr : frI p (ovL p (s, fe p o.1 s ms, l9 ms).1 (s, fe p o.1 s ms, l9 ms).2.1) k = (cG p (V.getD k 0) (oth p (V.getD k 0) (k : Int))).1 := by
  dsimp only
  rw [hV]; rfl
 have hfr2 : frI p (ovL p s (fe p o.1 s ms)) k = (cG p (V.getD k 0) (oth p (V.getD k 0) (k : Int))).1 := hfr
 have hok := hM.ok _ hr
 have hEd := hM.row _ hr c (by rw [Int.toNat_natCast]; exact hc)
 dsimp only at hok hEd
 generalize V.getD k 0 = ov at *
 obtain ⟨⟨hk0, hk1⟩, hor⟩ := hok
 have hor := hor.resolve_left hv
 obtain ⟨hovE, hpar⟩ := hor
 have huE := BJ hovE
 have ha1 := AQ huE
 have ha2 := AQ hEd.e
 rw [bu] at ha1
 have hr1 := dR hovE
 have hr2 := dR hEd.e
 have e1 := jk hr1.1.1 ha1.1
 have e2 := jk hr2.1.1 ha2.1
 have e1b : (aM p (cG p ov (oth p ov (k : Int))).1).2.1 = (k : Int) := e1.2.trans ha1.2
 have e2b : (aM p (cG p c (k : Int)).1).2.1 = oth p c (k : Int) := e2.2.trans ha2.2
 have hlu : 0 ≤ lat o.1 (oth p ov (k : Int)) := by
  rcases hpar with q | q
  · have h5 := bj (p := p) (L := o.1) (u := (k : Int)) (by rw [q]; omega)
    rw [q] at h5
    omega
  · have h5 := bj (p := p) (L := o.1) (u := oth p ov (k : Int)) (by rw [q]; omega)
    omega
 have hlw : 0 ≤ lat o.1 (oth p c (k : Int)) := by
  obtain ⟨_, q | q⟩ := hEd.cases <;> omega
 have hrk := hr1.1
 have hui := pQ hT.tr hovE
 have hwi := pQ hT.tr hEd.e
 have lr1 := q9 (p := p) (v := oth p ov (k : Int)) hr1.1.1 hr1.1.2
 have lr2 := q9 (p := p) (v := (k : Int)) hr2.1.1 hr2.1.2
 obtain ⟨L, ou⟩ := o
 dsimp only at hk1 hlu hlw hpar hEd hll
 refine ⟨⟨by rw [hfr2]; exact lr1, lr2, ⟨by dsimp only; omega, by dsimp only; omega⟩, ?_, ?_, ?_, ?_, ?_⟩, ?_⟩
 · dsimp only
   rw [hfr2, e2.1, e1b]
 · dsimp only
   rw [hfr2, e1.1]; exact hlu
 · dsimp only
   rw [hfr2, e1b]; exact hk1
 · dsimp only
   rw [e2b]; exact hlw
 · dsimp only
   rw [hfr2, e1b, e1.1, e2b]
   intro hna hab
   rw [xT hll hk0 hui] at hna
   rw [xT hll hwi hk0] at hab
   have hpk : bU p L (k : Int) = ov := by
    rcases hpar with q | q
    · exact q
    · exfalso; apply hna
      have h5 := bj (p := p) (L := L) (u := oth p ov (k : Int)) (by rw [q]; omega)
      rw [q, bu] at h5
      exact ⟨hk1, hlu, .inl (by omega)⟩
   obtain ⟨_, q | q⟩ := hEd.cases
   · exact hEd.ne (q.1.symm.trans hpk)
   · omega
 · dsimp only
   rw [hfr2]; exact e1b
theorem CkP.td (h : CkP p o s ms) (h0 : (gM p o s ms).1 = 0) : TdP p (s, fe p o.1 s ms, l9 ms) := by
 have hM := h.mo h0
 refine ⟨h.wy h0, fun k hk hv => ?_, ⟨fun x hx y hy he => ?_⟩⟩
 · dsimp only at hv ⊢
   have hr := h.sq h0 hk (by omega)
   have hok := hM.ok _ hr
   exact (hok.2.resolve_left (by dsimp only; omega)).1
 · have h1 := (h.uI h0 hx).2
   have h2 := (h.uI h0 hy).2
   rw [← h1, ← h2, he]
end
end Go.Proofs.YtcaoldilmnpjoaaGreat
