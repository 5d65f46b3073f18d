/-
  Part Own26 of the proof.
-/
import Derived.Test.YtcaoldilmnpjoaaGreatOwn25
namespace Go.Proofs.YtcaoldilmnpjoaaGreat
set_option linter.all false
open Go.RowKit Go.Sx
abbrev NxT := List (Int × List Int)
abbrev StT := List (Int × Int)
def nxs (L : NxT) (c : Int) : List Int := (bB (K := Int) L c).getD []
def sts (st : StT) (c : Int) : Int := (bB (K := Int) st c).getD 0
def l5 (L : NxT) : Nat → StT → Int → StT
 | 0, st, _ => st
 | n + 1, st, c => if sts st c = 2 then st else ak (K := Int) ((nxs L c).foldl (l5 L n) (ak (K := Int) st c 1)) c 2
theorem jB {V : Type} : ∀ (L : List (Int × V)) (k : Int) (v : V) (x : Int), bB (ak L k v) x = if x = k then some v else bB L x
 | [], k, v, x => by
   show (if k = x then some v else none) = _
   by_cases h : x = k
   · rw [if_pos h, if_pos h.symm]
   · rw [if_neg h, if_neg fun e => h e.symm]; rfl
 | (a, u) :: L, k, v, x => by
   unfold ak
   by_cases ha : a = k
   · rw [if_pos ha]
     subst ha
     show (if a = x then some v else bB L x) = if x = a then some v else if a = x then some u else bB L x
     by_cases h : x = a
     · rw [if_pos h.symm, if_pos h]
     · rw [if_neg fun e => h e.symm, if_neg h, if_neg fun e => h e.symm]
   · rw [if_neg ha]
     show (if a = x then some u else bB (ak L k v) x) = if x = k then some v else if a = x then some u else bB L x
     rw [jB L k v x]
     by_cases h : a = x
     · rw [if_pos h, if_pos h, if_neg fun e => ha (h.trans e)]
     · rw [if_neg h, if_neg h]
theorem sU (st : StT) (k v x : Int) : sts (ak (K := Int) st k v) x = if x = k then v else sts st x := by
 unfold sts
 rw [jB]
 split <;> rfl
structure VsS where
 L : NxT
 st : StT
 path : List Int
def VsP (r : Int → Nat) (B n : Nat) (L : NxT) (st : StT) (c : Int) : Prop := (∀ x, r x ≤ B) ∧ B < n + r c ∧ (∀ a to, to ∈ nxs L a → r a < r to) ∧ (∀ x, sts st x = 1 → r x < r c)
theorem VsP.no {r : Int → Nat} {B : Nat} {L : NxT} {st : StT} {c : Int} (h : VsP r B 0 L st c) : False := by
 have h1 := h.1 c; have h2 := h.2.1; omega
theorem VsP.ne1 {r : Int → Nat} {B n : Nat} {L : NxT} {st : StT} {c : Int} (h : VsP r B n L st c) : ¬ sts st c = 1 := fun e => by have := h.2.2.2 c e; omega
theorem mb {r : Int → Nat} {B : Nat} {L : NxT} : ∀ (n : Nat) (st : StT) (c : Int), VsP r B n L st c → ∀ x, sts (l5 L n st c) x = 1 → sts st x = 1
 | 0, st, c, h => h.no.elim
 | n + 1, st, c, h => by
   intro x hx
   unfold l5 at hx
   split at hx
   · exact hx
   · rw [sU] at hx
     split at hx
     · cases hx
     · rename_i hxc
       have key : ∀ (l : List Int) (s : StT), (∀ to ∈ l, r c < r to) → (∀ y, sts s y = 1 → sts st y = 1 ∨ y = c) → ∀ y, sts (l.foldl (l5 L n) s) y = 1 → sts st y = 1 ∨ y = c := by
        intro l
        induction l with
        | nil => intro s _ hs y hy; exact hs y hy
        | cons to l ih =>
          intro s hl hs y hy
          refine ih (l5 L n s to) (fun t ht => hl t (List.mem_cons_of_mem _ ht)) (fun z hz => ?_) y hy
          refine hs z (mb n s to ⟨h.1, ?_, h.2.2.1, fun w hw => ?_⟩ z hz)
          · have h1 := hl to (List.mem_cons_self ..); have h2 := h.2.1; omega
          · have h1 := hl to (List.mem_cons_self ..)
            rcases hs w hw with h2 | h2
            · have := h.2.2.2 w h2; omega
            · subst h2; exact h1
       rcases key (nxs L c) (ak (K := Int) st c 1) (fun to ht => h.2.2.1 c to ht) (fun y hy => by
        rw [sU] at hy
        split at hy
        · rename_i e; exact .inr e
        · exact .inl hy) x hx with h1 | h1
       · exact h1
       · exact absurd h1 hxc
def l6 (L : NxT) (n : Nat) (st : StT) (c : Int) (j : Nat) : StT := ((nxs L c).take j).foldl (l5 L n) (ak (K := Int) st c 1)
theorem yX (L : NxT) (n : Nat) (st : StT) (c : Int) : l6 L n st c 0 = ak (K := Int) st c 1 := rfl
theorem rP (L : NxT) (n : Nat) (st : StT) (c : Int) {j : Nat} (h : j < (nxs L c).length) : l6 L n st c (j + 1) = l5 L n (l6 L n st c j) ((nxs L c).getD j 0) := by
 unfold l6
 rw [List.take_succ_eq_append_getElem h, List.foldl_append, List.getD_eq_getElem?_getD, List.getElem?_eq_getElem h]; rfl
theorem AZ (L : NxT) (n : Nat) (st : StT) (c : Int) (h : ¬ sts st c = 2) : l5 L (n + 1) st c = ak (K := Int) (l6 L n st c (nxs L c).length) c 2 := by
 unfold l6
 rw [List.take_length]
 show (if _ then _ else _) = _
 rw [if_neg h]
theorem AY {r : Int → Nat} {B n : Nat} {L : NxT} {st : StT} {c : Int} (h : VsP r B (n + 1) L st c) : ∀ j : Nat, j ≤ (nxs L c).length → (∀ y, sts (l6 L n st c j) y = 1 → sts st y = 1 ∨ y = c) ∧ (∀ hj : j < (nxs L c).length, VsP r B n L (l6 L n st c j) ((nxs L c).getD j 0)) := by
 have mk : ∀ j, (∀ y, sts (l6 L n st c j) y = 1 → sts st y = 1 ∨ y = c) → ∀ hj : j < (nxs L c).length, VsP r B n L (l6 L n st c j) ((nxs L c).getD j 0) := by
  intro j ho hj
  have hm : (nxs L c).getD j 0 ∈ nxs L c := by rw [List.getD_eq_getElem?_getD, List.getElem?_eq_getElem hj]; exact List.getElem_mem hj
  have h1 := h.2.2.1 c _ hm
  refine ⟨h.1, by have := h.2.1; omega, h.2.2.1, fun w hw => ?_⟩
  rcases ho w hw with h2 | h2
  · have := h.2.2.2 w h2; omega
  · subst h2; exact h1
 intro j
 induction j with
 | zero =>
   intro _
   have ho : ∀ y, sts (l6 L n st c 0) y = 1 → sts st y = 1 ∨ y = c := fun y hy => by
    rw [yX, sU] at hy
    split at hy
    · rename_i e; exact .inr e
    · exact .inl hy
   exact ⟨ho, mk 0 ho⟩
 | succ j ih =>
   intro hj
   obtain ⟨h1, h2⟩ := ih (by omega)
   have ho : ∀ y, sts (l6 L n st c (j + 1)) y = 1 → sts st y = 1 ∨ y = c := fun y hy => by
    rw [rP L n st c (by omega)] at hy
    exact h1 y (mb n _ _ (h2 (by omega)) y hy)
   exact ⟨ho, mk (j + 1) ho⟩
end Go.Proofs.YtcaoldilmnpjoaaGreat
