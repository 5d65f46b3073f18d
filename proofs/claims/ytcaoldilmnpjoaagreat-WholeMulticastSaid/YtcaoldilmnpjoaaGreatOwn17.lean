/-
  Part Own17 of the proof.
-/
import Derived.Test.YtcaoldilmnpjoaaGreatOwn10
import Derived.Test.YtcaoldilmnpjoaaGreatEng3
import Derived.Test.YtcaoldilmnpjoaaGreatOwn15
namespace Go.Proofs.YtcaoldilmnpjoaaGreat
set_option linter.all false
open Go.RowKit Go.Sx
set_option maxRecDepth 100000
set_option maxHeartbeats 16000000
def mm (L : List Int) (i : Nat) : List Int := (List.range L.length).map fun k => if k < i ∨ L.length - i ≤ k then L.getD (L.length - 1 - k) 0 else L.getD k 0
theorem dj (L : List Int) (i : Nat) : (mm L i).length = L.length := by simp [mm]
theorem jb (L : List Int) (i : Nat) {k : Nat} (h : k < L.length) : (mm L i).getD k 0 = if k < i ∨ L.length - i ≤ k then L.getD (L.length - 1 - k) 0 else L.getD k 0 := by
 unfold mm
 rw [List.getD_eq_getElem?_getD, List.getElem?_map, List.getElem?_range h]; rfl
theorem qS {l m : List Int} (h : l.length = m.length) (h2 : ∀ k, k < l.length → l.getD k 0 = m.getD k 0) : l = m := by
 refine List.ext_getElem h fun k h3 h4 => ?_
 have := h2 k h3
 rw [List.getD_eq_getElem?_getD, List.getD_eq_getElem?_getD, List.getElem?_eq_getElem h3, List.getElem?_eq_getElem h4] at this
 exact this
theorem zK (L : List Int) : mm L 0 = L := qS (dj L 0) fun k h => by
 rw [dj] at h
 rw [jb L 0 h, if_neg (by omega)]
theorem ue {l : List Int} {i : Nat} {x : Int} {k : Nat} (h : k < l.length) : (l.set i x).getD k 0 = if i = k then x else l.getD k 0 := by
 rw [List.getD_eq_getElem?_getD, List.getElem?_set]
 split
 · rename_i e; subst e; rw [if_pos h]; rfl
 · rw [List.getD_eq_getElem?_getD]
theorem zL (L : List Int) {i : Nat} (h : i < L.length - 1 - i) : mm L (i + 1) = ((mm L i).set i ((mm L i).getD (L.length - 1 - i) 0)).set (L.length - 1 - i) ((mm L i).getD i 0) := by
 refine qS (by simp [dj]) fun k hk => ?_
 rw [dj] at hk
 rw [ue (by rw [List.length_set, dj]; exact hk), ue (by rw [dj]; exact hk), jb L _ hk, jb L i (by omega : L.length - 1 - i < L.length), jb L i (by omega : i < L.length), jb L i hk]
 by_cases e1 : L.length - 1 - i = k
 · rw [if_pos e1, if_pos (by omega), if_neg (by omega)]
   congr 1; omega
 · rw [if_neg e1]
   by_cases e2 : i = k
   · rw [if_pos e2, if_pos (by omega), if_neg (by omega)]
     congr 1; omega
   · rw [if_neg e2]
     by_cases e3 : k < i ∨ L.length - i ≤ k
     · rw [if_pos e3, if_pos (by omega)]
     · rw [if_neg e3, if_neg (by omega)]
theorem BA (L : List Int) {i : Nat} (h : L.length - 1 - i ≤ i) : mm L i = L.reverse := by
 refine qS (by simp [dj]) fun k hk => ?_
 rw [dj] at hk
 have e : L.reverse.getD k 0 = L.getD (L.length - 1 - k) 0 := by
  rw [List.getD_eq_getElem?_getD, List.getElem?_reverse hk, List.getD_eq_getElem?_getD]
 rw [jb L i hk, e]
 split
 · rfl
 · congr 1; omega
def sg : jM := ⟨3, fun L => L.length ≤ 1000000, List.reverse⟩
theorem rvs_ok (L : List Int) (h : L.length ≤ 1000000) : svc E0 1 (aS Tryz.f52) ⟨cQ 0 [Sx.one (.hd 0 0)], [.row 3 (.int .i64) 0 (fun _ => L)]⟩ (ek E0.ti 1 Tryz.f52.results.toList (ag []) [.row 3 (.int .i64) 0 (fun _ => L.reverse)]) := by
 refine Pq ?_
 with_reducible repeat' (first | exact True.intro | refine Ca ?_ | refine Cb ?_ | refine Cd ?_ | refine Ce ?_ | refine Cm ?_ ?_ | (first | refine Bo (fun hk h => ?_) fun hk h => ?_ | refine Al (fun hk h => ?_) fun hk h => ?_) <;> (try (have hb : (_ : Bool) = _ := h; clear h; subst hb)) <;> (try replace hr := hri hr) <;> first | exact Dd | refine Nx ?_)
 all_goals first | with_reducible refine Ez ?_ | exact Cl1 | exact Cl2 | skip
 refine ⟨⟨{i : Nat // i ≤ L.length}, fun i => ⟨[(0, Sx.one (.hd 0 0)), (2, Sx.one (.int .i64 (fun _ => i.1))), (3, Sx.one (.int .i64 (fun _ => (L.length : Int) - 1 - i.1)))], [.row 3 (.int .i64) 0 (fun _ => mm L i.1)]⟩, fun i => L.length - i.1, ⟨0, Nat.zero_le _⟩⟩, ?_, fun (i : {i : Nat // i ≤ L.length}) => ?_⟩
 · refine Pq ?_
   with_reducible repeat' first | exact True.intro | refine Ca ?_ | refine Cb ?_ | refine Cd ?_ | refine Ce ?_ | refine Cm ?_ ?_
   all_goals first | with_reducible refine Ez ?_ | exact Cl1 | exact (zK L).symm | exact Cl2 | skip
 obtain ⟨i, hi⟩ := i
 dsimp only
 have hl := dj L i
 have e1 := fun (h : (i : Int) < (L.length : Int) - 1 - (i : Int)) => (by omega : ((L.length : Int) - 1 - (i : Int)).toNat = L.length - 1 - i)
 have hs := fun (h : (i : Int) < (L.length : Int) - 1 - (i : Int)) => zL L (i := i) (by omega)
 have hx1 := fun (h : (i : Int) < (L.length : Int) - 1 - (i : Int)) => (⟨by omega, by omega⟩ : (0 : Int) ≤ (i : Int) ∧ (i : Int) < ((mm L i).length : Int))
 have hx2 := fun (h : (i : Int) < (L.length : Int) - 1 - (i : Int)) => (⟨by omega, by omega⟩ : (0 : Int) ≤ (L.length : Int) - 1 - (i : Int) ∧ (L.length : Int) - 1 - (i : Int) < ((mm L i).length : Int))
 refine Pq ?_
 with_reducible repeat' (first | exact True.intro | refine Ca ?_ | refine Cb ?_ | refine Cd ?_ | refine Ce ?_ | refine Cm ?_ ?_ | (first | refine Bo (fun hk h => ?_) fun hk h => ?_ | refine Al (fun hk h => ?_) fun hk h => ?_) <;> (try (have hb : (_ : Bool) = _ := h; clear h; subst hb)) <;> (try replace hr := hri hr) <;> first | exact Dd | refine Nx ?_)
 all_goals first | with_reducible refine Ez ?_ | exact Cl1 | exact hx1 (by assumption) | exact hx2 (by assumption) | (rw [List.length_set]; exact hx2 (by assumption)) | exact BA L (by omega) | exact Cl2 | skip
 refine ⟨⟨i + 1, by omega⟩, (by dsimp only; omega), ?_⟩
 have hs1 := hs (by assumption)
 rw [← e1 (by assumption)] at hs1
 refine Pq ?_
 with_reducible repeat' (first | exact True.intro | refine Ca ?_ | refine Cb ?_ | refine Cd ?_ | refine Ce ?_ | refine Cm ?_ ?_ | (first | refine Bo (fun hk h => ?_) fun hk h => ?_ | refine Al (fun hk h => ?_) fun hk h => ?_) <;> (try (have hb : (_ : Bool) = _ := h; clear h; subst hb)) <;> (try replace hr := hri hr) <;> first | exact Dd | refine Nx ?_)
 all_goals first | with_reducible refine Ez ?_ | exact Cl1 | exact hs1.symm | exact Cl2 | skip
theorem zB : aE Tryz.prog AI 52 sg.Bx := jM.soundK Tryz.call52 fun L h => av ai mixed (fn := Tryz.f52) (c := aS Tryz.f52) (by kernel_rfl) (by kernel_rfl) (by kernel_rfl) (Nat.le_of_ble_eq_true (by kernel_rfl)) (rvs_ok L h)
abbrev TabE : Ty := .pair (.lst (.pair (.lst Ii) (.lst Ii))) .unit
abbrev dw := List (List Int × List Int) × Unit
def chS (p : a8) (o : ab) (up : List Bool) (to : Nat) : ChS := ⟨p.1, p.2, up, o.1, rsL (dh o.1 p.2 up p.1.length (to : Int)) false p.1.length, rsL (dh o.1 p.2 up p.1.length (to : Int)) true p.1.length⟩
def dP (p : a8) (o : ab) (up : List Bool) (s to : Nat) : Int :=
 if s / 2 = to then -2
 else if s % 2 = 0 then chI (chS p o up to) ((s / 2 : Nat) : Int) (lat (chS p o up to).R ((s / 2 : Nat) : Int)) true
 else chI (chS p o up to) ((s / 2 : Nat) : Int) (lat (chS p o up to).F ((s / 2 : Nat) : Int)) false
def eS (e : Nat → Nat → Int) (n t q : Nat) : List (List Int) := (List.range (2 * n)).map fun s => if s < q then (List.range (t + 1)).map (e s) else (List.range t).map (e s)
theorem fH (e : Nat → Nat → Int) (n t q : Nat) : (eS e n t q).length = 2 * n := by unfold eS; rw [List.length_map, List.length_range]
theorem gy (e : Nat → Nat → Int) {n t q s : Nat} (h : s < 2 * n) : (eS e n t q)[s]? = some (if s < q then (List.range (t + 1)).map (e s) else (List.range t).map (e s)) := by
 unfold eS
 rw [List.getElem?_map, List.getElem?_range h]; rfl
theorem zJ (e : Nat → Nat → Int) (n t : Nat) : eS e n t (2 * n) = eS e n (t + 1) 0 := by
 refine List.ext_getElem? fun s => ?_
 by_cases h : s < 2 * n
 · rw [gy e h, gy e h, if_pos h, if_neg (by omega)]
 · rw [List.getElem?_eq_none (by rw [fH]; omega), List.getElem?_eq_none (by rw [fH]; omega)]
theorem uh (e : Nat → Nat → Int) {n t q : Nat} (h : q < 2 * n) : (eS e n t q).getD q [] = (List.range t).map (e q) := by
 rw [List.getD_eq_getElem?_getD, gy e h, if_neg (by omega)]; rfl
theorem B6 (e : Nat → Nat → Int) {n t q : Nat} (h : q < 2 * n) : (eS e n t q).set q ((eS e n t q).getD q [] ++ [e q t]) = eS e n t (q + 1) := by
 rw [uh e h]
 refine List.ext_getElem? fun s => ?_
 rw [List.getElem?_set]
 by_cases hs : q = s
 · subst hs
   rw [if_pos rfl, if_pos (by rw [fH]; exact h), gy e h, if_pos (by omega), List.range_succ, List.map_append]; rfl
 · rw [if_neg hs]
   by_cases h2 : s < 2 * n
   · rw [gy e h2, gy e h2]
     by_cases h3 : s < q
     · rw [if_pos h3, if_pos (by omega)]
     · rw [if_neg h3, if_neg (by omega)]
   · rw [List.getElem?_eq_none (by rw [fH]; omega), List.getElem?_eq_none (by rw [fH]; omega)]
theorem zI (e : Nat → Nat → Int) (n : Nat) : eS e n 0 0 = List.replicate (n * 2) [] := by
 refine List.ext_getElem? fun s => ?_
 rw [List.getElem?_replicate]
 by_cases h : s < 2 * n
 · rw [gy e h, if_neg (by omega), if_pos (by omega)]; rfl
 · rw [List.getElem?_eq_none (by rw [fH]; omega), if_neg (by omega)]
def fg (e : Nat → Nat → Int) (n : Nat) : List (List Int × List Int) := (List.range n).map fun k => ((List.range n).map (e (2 * k)), (List.range n).map (e (2 * k + 1)))
theorem uz (g : Nat → List Int) : ∀ n i : Nat, pairUp ((List.range' (2 * i) (2 * n)).map g) = (List.range' i n).map fun k => (g (2 * k), g (2 * k + 1))
 | 0, i => rfl
 | n + 1, i => by
   rw [show 2 * (n + 1) = 2 * n + 1 + 1 from by omega, List.range'_succ, List.range'_succ, List.range'_succ]
   simp only [List.map_cons, pairUp]
   rw [show 2 * i + 1 + 1 = 2 * (i + 1) from by omega, uz g n (i + 1)]
theorem B5 (e : Nat → Nat → Int) (n : Nat) : pairUp (eS e n n 0) = fg e n := by
 unfold eS fg
 have h : ∀ s, (if s < 0 then (List.range (n + 1)).map (e s) else (List.range n).map (e s)) = (List.range n).map (e s) := fun s => if_neg (by omega)
 simp only [h]
 have := uz (fun s => (List.range n).map (e s)) n 0
 rw [List.range_eq_range', List.range_eq_range'] at *
 exact this
def okE (p : a8) (L : List Int) (k t ph : Nat) (e : Int) : Prop :=
 (k = t ∧ e = -2) ∨ (k ≠ t ∧ (e = -1 ∨ ∃ i : Nat, i < p.2.length ∧ e = (i : Int) ∧ (acF (p.2.getD i z6) (k : Int)).2.1 = true ∧ (ph = 1 → (ae (L, ()) (acF (p.2.getD i z6) (k : Int)).1 (k : Int)).1 = false)))
theorem tl {S : ChS} {node left : Int} {may : Bool} {i : Nat} (h : chB S node left may i = true) : (acF (S.p2.getD i z6) node).2.1 = true ∧ (may = false → (ae (S.L, ()) (acF (S.p2.getD i z6) node).1 node).1 = false) := by
 unfold chB at h
 split at h
 · cases h
 · split at h
   · rename_i h2
     refine ⟨h2, fun hm => ?_⟩
     split at h
     · split at h
       · rw [hm] at h; cases h
       · rename_i h4
         cases hx : (ae (S.L, ()) (acF (S.p2.getD i z6) node).1 node).1 with
         | false => rfl
         | true => exact absurd hx h4
     · cases h
   · cases h
theorem Bn (p : a8) (o : ab) (up : List Bool) (k t ph : Nat) (hph : ph < 2) : okE p o.1 k t ph (dP p o up (2 * k + ph) t) := by
 have e1 : (2 * k + ph) / 2 = k := by omega
 have e2 : (2 * k + ph) % 2 = ph := by omega
 unfold okE dP
 rw [e1, e2]
 by_cases hk : k = t
 · rw [if_pos hk]; exact .inl ⟨hk, rfl⟩
 · rw [if_neg hk]
   refine .inr ⟨hk, ?_⟩
   by_cases h0 : ph = 0
   · rw [if_pos h0]
     rcases mP (chB (chS p o up t) (k : Int) (lat (chS p o up t).R (k : Int)) true) p.2.length 0 with h | ⟨i, _, h2, h3, h4⟩
     · exact .inl h
     · exact .inr ⟨i, by omega, h4, (tl h3).1, fun h => by omega⟩
   · rw [if_neg h0]
     rcases mP (chB (chS p o up t) (k : Int) (lat (chS p o up t).F (k : Int)) false) p.2.length 0 with h | ⟨i, _, h2, h3, h4⟩
     · exact .inl h
     · exact .inr ⟨i, by omega, h4, (tl h3).1, fun _ => (tl h3).2 rfl⟩
structure TbOk (p : a8) (L : List Int) (T : dw) : Prop where
 len : T.1.length = p.1.length
 r0 : ∀ k : Nat, k < p.1.length → (T.1.getD k ([], [])).1.length = p.1.length
 r1 : ∀ k : Nat, k < p.1.length → (T.1.getD k ([], [])).2.length = p.1.length
 e0 : ∀ k t : Nat, k < p.1.length → t < p.1.length → okE p L k t 0 ((T.1.getD k ([], [])).1.getD t 0)
 e1 : ∀ k t : Nat, k < p.1.length → t < p.1.length → okE p L k t 1 ((T.1.getD k ([], [])).2.getD t 0)
theorem getD_map {α : Type} (f : Nat → α) (d : α) {n k : Nat} (h : k < n) : ((List.range n).map f).getD k d = f k := by
 rw [List.getD_eq_getElem?_getD, List.getElem?_map, List.getElem?_range h]; rfl
theorem tab_ok (p : a8) (o : ab) (up : List Bool) : TbOk p o.1 (fg (dP p o up) p.1.length, ()) := by
 have hk : ∀ k, k < p.1.length → (fg (dP p o up) p.1.length).getD k ([], []) = ((List.range p.1.length).map (dP p o up (2 * k)), (List.range p.1.length).map (dP p o up (2 * k + 1))) := fun k h => getD_map _ _ h
 refine ⟨by show (fg _ _).length = _; unfold fg; rw [List.length_map, List.length_range], fun k h => ?_, fun k h => ?_, fun k t h ht => ?_, fun k t h ht => ?_⟩
 · dsimp only; rw [hk k h]; simp
 · dsimp only; rw [hk k h]; simp
 · dsimp only; rw [hk k h]; dsimp only; rw [getD_map _ _ ht]; exact Bn p o up k t 0 (by omega)
 · dsimp only; rw [hk k h]; dsimp only; rw [getD_map _ _ ht]; exact Bn p o up k t 1 (by omega)
end Go.Proofs.YtcaoldilmnpjoaaGreat
