/-
  Plain: ranks of channels by taking away, one after the other, those that wait for nothing.
-/
import Derived.Test.YtcaoldilmnpjoaaGreatLft
namespace Go.Proofs.YtcaoldilmnpjoaaGreat
set_option linter.all false
open Go.RowKit Go.Sx
def rowU (U : List DepT) (c : Int) : List Int := (U.filter fun d => decide (d.1 = c)).map fun d => d.2.1
def rowV (U : List DepT) (c : Int) : List Int := (U.filter fun d => decide (d.2.1 = c)).map fun d => d.1
def misU (U : List DepT) (c : Int) : Int := ((U.countP fun d => decide (d.2.1 = c) : Nat) : Int)
def rowsA (N : Nat) (U : List DepT) : List (List Int) := (List.range N).map fun c : Nat => rowU U (c : Int)
def rowsB (N : Nat) (U : List DepT) : List (List Int) := (List.range N).map fun c : Nat => rowV U (c : Int)
def misM (N : Nat) (U : List DepT) : List Int := (List.range N).map fun c : Nat => misU U (c : Int)
theorem tab_set {α : Type} (N : Nat) (f g : Nat → α) (i : Nat) (v : α) (hi : i < N) (h1 : g i = v) (h2 : ∀ j, j ≠ i → g j = f j) : ((List.range N).map f).set i v = (List.range N).map g := by
  refine List.ext_getElem? fun j => ?_
  rw [List.getElem?_set, List.getElem?_map, List.getElem?_map, List.length_map, List.length_range]
  by_cases e : i = j
  · subst e
    rw [if_pos rfl, if_pos hi, List.getElem?_range hi]
    exact congrArg some h1.symm
  · rw [if_neg e]
    by_cases hj : j < N
    · rw [List.getElem?_range hj]
      exact congrArg some (h2 j fun e2 => e e2.symm).symm
    · rw [List.getElem?_eq_none (by simpa using hj)]; rfl
theorem tab_get {α : Type} {N : Nat} (f : Nat → α) (d : α) {i : Nat} (hi : i < N) : ((List.range N).map f).getD i d = f i := by
  rw [List.getD_eq_getElem?_getD, List.getElem?_map, List.getElem?_range hi]; rfl
theorem rowU_snoc (U : List DepT) (d : DepT) (c : Int) : rowU (U ++ [d]) c = if d.1 = c then rowU U c ++ [d.2.1] else rowU U c := by
  unfold rowU
  rw [List.filter_append, List.map_append]
  by_cases h : d.1 = c <;> simp [h]
theorem rowV_snoc (U : List DepT) (d : DepT) (c : Int) : rowV (U ++ [d]) c = if d.2.1 = c then rowV U c ++ [d.1] else rowV U c := by
  unfold rowV
  rw [List.filter_append, List.map_append]
  by_cases h : d.2.1 = c <;> simp [h]
theorem misU_snoc (U : List DepT) (d : DepT) (c : Int) : misU (U ++ [d]) c = if d.2.1 = c then misU U c + 1 else misU U c := by
  unfold misU
  rw [List.countP_append]
  by_cases h : d.2.1 = c <;> simp [h]
theorem rowsA_snoc {N : Nat} (U : List DepT) {d : DepT} (h0 : 0 ≤ d.1) (h1 : d.1 < (N : Int)) : (rowsA N U).set d.1.toNat ((rowsA N U).getD d.1.toNat [] ++ [d.2.1]) = rowsA N (U ++ [d]) := by
  unfold rowsA
  have hi : d.1.toNat < N := by omega
  have e : ((d.1.toNat : Nat) : Int) = d.1 := Int.toNat_of_nonneg h0
  rw [tab_get _ _ hi]
  refine tab_set N _ _ _ _ hi ?_ fun j hj => ?_
  · rw [rowU_snoc, e, if_pos rfl]
  · rw [rowU_snoc, if_neg (by omega)]
theorem rowsB_snoc {N : Nat} (U : List DepT) {d : DepT} (h0 : 0 ≤ d.2.1) (h1 : d.2.1 < (N : Int)) : (rowsB N U).set d.2.1.toNat ((rowsB N U).getD d.2.1.toNat [] ++ [d.1]) = rowsB N (U ++ [d]) := by
  unfold rowsB
  have hi : d.2.1.toNat < N := by omega
  have e : ((d.2.1.toNat : Nat) : Int) = d.2.1 := Int.toNat_of_nonneg h0
  rw [tab_get _ _ hi]
  refine tab_set N _ _ _ _ hi ?_ fun j hj => ?_
  · rw [rowV_snoc, e, if_pos rfl]
  · rw [rowV_snoc, if_neg (by omega)]
theorem misM_snoc {N : Nat} (U : List DepT) {d : DepT} (h0 : 0 ≤ d.2.1) (h1 : d.2.1 < (N : Int)) : (misM N U).set d.2.1.toNat ((misM N U).getD d.2.1.toNat 0 + 1) = misM N (U ++ [d]) := by
  unfold misM
  have hi : d.2.1.toNat < N := by omega
  have e : ((d.2.1.toNat : Nat) : Int) = d.2.1 := Int.toNat_of_nonneg h0
  rw [tab_get _ _ hi]
  refine tab_set N _ _ _ _ hi ?_ fun j hj => ?_
  · rw [misU_snoc, e, if_pos rfl]
  · rw [misU_snoc, if_neg (by omega)]
theorem take_snoc (U : List DepT) {k : Nat} (h : k < U.length) : U.take (k + 1) = U.take k ++ [U.getD (k : Int).toNat (0, 0, 0)] := by
  rw [List.take_succ_eq_append_getElem h, List.getD_eq_getElem?_getD, Int.toNat_natCast, List.getElem?_eq_getElem h]; rfl
theorem rowsA_nil (N : Nat) : rowsA N [] = List.replicate N [] := by
  unfold rowsA rowU
  refine List.ext_getElem? fun j => ?_
  rw [List.getElem?_map, List.getElem?_replicate]
  by_cases h : j < N
  · rw [List.getElem?_range h, if_pos h]; rfl
  · rw [List.getElem?_eq_none (by simpa using h), if_neg h]; rfl
theorem rowsB_nil (N : Nat) : rowsB N [] = List.replicate N [] := by
  unfold rowsB rowV
  refine List.ext_getElem? fun j => ?_
  rw [List.getElem?_map, List.getElem?_replicate]
  by_cases h : j < N
  · rw [List.getElem?_range h, if_pos h]; rfl
  · rw [List.getElem?_eq_none (by simpa using h), if_neg h]; rfl
theorem misM_nil (N : Nat) : misM N [] = List.replicate N 0 := by
  unfold misM misU
  refine List.ext_getElem? fun j => ?_
  rw [List.getElem?_map, List.getElem?_replicate]
  by_cases h : j < N
  · rw [List.getElem?_range h, if_pos h]; rfl
  · rw [List.getElem?_eq_none (by simpa using h), if_neg h]; rfl
/-- Ranks, numbers of those that are waited for, the queue. -/
abbrev KS := List Int × List Int × List Int
def stK (c : Int) (S : KS) (to : Int) : KS :=
  (S.1.set to.toNat (max (S.1.getD to.toNat 0) (S.1.getD c.toNat 0 + 1)), S.2.1.set to.toNat (S.2.1.getD to.toNat 0 - 1),
    if (S.2.1.set to.toNat (S.2.1.getD to.toNat 0 - 1)).getD to.toNat 0 = 0 then S.2.2 ++ [to] else S.2.2)
def inK (c : Int) (l : List Int) (S : KS) : KS := l.foldl (stK c) S
def runK (U : List DepT) : Nat → Nat → KS → KS
  | 0, _, S => S
  | n + 1, i, S => if i < S.2.2.length then runK U n (i + 1) (inK (S.2.2.getD i 0) (rowU U (S.2.2.getD i 0)) S) else S
def q0 (N : Nat) (U : List DepT) (k : Nat) : List Int := ((List.range k).filter fun c : Nat => decide ((misM N U).getD c 0 = 0)).map fun c : Nat => (c : Int)
def st0K (N : Nat) (U : List DepT) : KS := (List.replicate N 0, misM N U, q0 N U N)
def ranksL (N : Nat) (U : List DepT) : List Int := (runK U (N + 1) 0 (st0K N U)).1
structure KInv (N : Nat) (U : List DepT) (i : Nat) (S : KS) : Prop where
  lR : S.1.length = N
  lM : S.2.1.length = N
  rb : ∀ x : Nat, 0 ≤ S.1.getD x 0 ∧ S.1.getD x 0 ≤ (i : Int) * 2000000
  nd : S.2.2.Nodup
  rg : ∀ c ∈ S.2.2, 0 ≤ c ∧ c < (N : Int)
  mi : ∀ x : Nat, x < N → S.2.1.getD x 0 = ((U.countP fun d => decide (d.2.1 = (x : Int)) && !decide (d.1 ∈ S.2.2.take i) : Nat) : Int)
  qz : ∀ x : Nat, x < N → ((x : Int) ∈ S.2.2 ↔ S.2.1.getD x 0 = 0)
structure KIn (N : Nat) (U : List DepT) (P : List Int) (c : Int) (i j : Nat) (S : KS) : Prop where
  lR : S.1.length = N
  lM : S.2.1.length = N
  rb : ∀ x : Nat, 0 ≤ S.1.getD x 0 ∧ S.1.getD x 0 ≤ (i : Int) * 2000000 + (j : Int)
  nd : S.2.2.Nodup
  rg : ∀ c ∈ S.2.2, 0 ≤ c ∧ c < (N : Int)
  pf : (P ++ [c]) <+: S.2.2
  mi : ∀ x : Nat, x < N → S.2.1.getD x 0 = ((U.countP (fun d => decide (d.2.1 = (x : Int)) && !decide (d.1 ∈ P ++ [c])) + ((rowU U c).drop j).count (x : Int) : Nat) : Int)
  qz : ∀ x : Nat, x < N → ((x : Int) ∈ S.2.2 ↔ S.2.1.getD x 0 = 0)
theorem set_getD {α : Type} {L : List α} {d v : α} {k j : Nat} (h : k < L.length) : (L.set k v).getD j d = if j = k then v else L.getD j d := by
  rw [List.getD_eq_getElem?_getD, List.getD_eq_getElem?_getD, List.getElem?_set]
  by_cases e : k = j
  · subst e; rw [if_pos rfl, if_pos h, if_pos rfl]; rfl
  · rw [if_neg e, if_neg fun e2 => e e2.symm]
theorem countP_part (U : List DepT) (P : List Int) (c x : Int) (hc : c ∉ P) : U.countP (fun d => decide (d.2.1 = x) && !decide (d.1 ∈ P)) = U.countP (fun d => decide (d.2.1 = x) && !decide (d.1 ∈ P ++ [c])) + (rowU U c).count x := by
  induction U with
  | nil => rfl
  | cons d U ih =>
    have e : (rowU (d :: U) c).count x = (if d.1 = c ∧ d.2.1 = x then 1 else 0) + (rowU U c).count x := by
      unfold rowU
      by_cases h1 : d.1 = c
      · by_cases h2 : d.2.1 = x
        · simp [h1, h2]; omega
        · simp [h1, h2, List.count_cons]
      · simp [h1]
    rw [e, List.countP_cons, List.countP_cons, ih]
    by_cases h1 : d.1 = c
    · have hn : d.1 ∉ P := by rw [h1]; exact hc
      by_cases h2 : d.2.1 = x
      · simp [h1, h2, hc]; omega
      · simp [h2]
    · by_cases h2 : d.2.1 = x
      · by_cases h3 : d.1 ∈ P
        · simp [h1, h2, h3]
        · simp [h1, h2, h3]; omega
      · simp [h2]
theorem rowU_mem {U : List DepT} {c x : Int} : x ∈ rowU U c ↔ ∃ d ∈ U, d.1 = c ∧ d.2.1 = x := by
  unfold rowU
  simp only [List.mem_map, List.mem_filter, decide_eq_true_eq]
  exact ⟨fun ⟨d, ⟨h1, h2⟩, h3⟩ => ⟨d, h1, h2, h3⟩, fun ⟨d, h1, h2, h3⟩ => ⟨d, ⟨h1, h2⟩, h3⟩⟩
theorem rowU_len (U : List DepT) (c : Int) : (rowU U c).length ≤ U.length := by unfold rowU; rw [List.length_map]; exact List.length_filter_le _ _
/-- Dependencies between the channels 0 .. N - 1. -/
def OkN (N : Nat) (U : List DepT) : Prop := U.length ≤ 2000000 ∧ ∀ d ∈ U, (0 ≤ d.1 ∧ d.1 < (N : Int)) ∧ (0 ≤ d.2.1 ∧ d.2.1 < (N : Int))
theorem KIn.step {N : Nat} {U : List DepT} {P : List Int} {c : Int} {i j : Nat} {S : KS} (h : KIn N U P c i j S) (hU : OkN N U) (hj : j < (rowU U c).length) : KIn N U P c i (j + 1) (stK c S ((rowU U c).getD j 0)) := by
  have hm : (rowU U c).getD j 0 ∈ rowU U c := by rw [List.getD_eq_getElem?_getD, List.getElem?_eq_getElem hj]; exact List.getElem_mem hj
  obtain ⟨d, hd, _, hd2⟩ := rowU_mem.1 hm
  have hto := (hU.2 d hd).2
  rw [hd2] at hto
  have hdrop : (rowU U c).drop j = (rowU U c).getD j 0 :: (rowU U c).drop (j + 1) := by
    rw [List.drop_eq_getElem_cons hj, List.getD_eq_getElem?_getD, List.getElem?_eq_getElem hj]; rfl
  generalize (rowU U c).getD j 0 = to at *
  have ht : to.toNat < N := by omega
  have e : ((to.toNat : Nat) : Int) = to := Int.toNat_of_nonneg hto.1
  have hc0 := h.mi to.toNat ht
  rw [hdrop, e, List.count_cons_self] at hc0
  have hnz : ¬ S.2.1.getD to.toNat 0 = 0 := by omega
  have hnq : to ∉ S.2.2 := fun hq => hnz ((h.qz to.toNat ht).1 (by rw [e]; exact hq))
  have hs : (S.2.1.set to.toNat (S.2.1.getD to.toNat 0 - 1)).getD to.toNat 0 = S.2.1.getD to.toNat 0 - 1 := by rw [set_getD (by rw [h.lM]; exact ht), if_pos rfl]
  have eQ : (stK c S to).2.2 = if S.2.1.getD to.toNat 0 - 1 = 0 then S.2.2 ++ [to] else S.2.2 := by unfold stK; dsimp only; rw [hs]
  refine ⟨by show (List.set _ _ _).length = _; rw [List.length_set]; exact h.lR, by show (List.set _ _ _).length = _; rw [List.length_set]; exact h.lM, fun x => ?_, ?_, ?_, ?_, fun x hx => ?_, fun x hx => ?_⟩
  · show 0 ≤ (List.set _ _ _).getD x 0 ∧ (List.set _ _ _).getD x 0 ≤ _
    have h1 := h.rb x; have h2 := h.rb c.toNat; have h3 := h.rb to.toNat
    rw [set_getD (by rw [h.lR]; exact ht)]
    split <;> omega
  · rw [eQ]
    split
    · exact List.nodup_append.2 ⟨h.nd, by simp, fun a ha b hb => by simp at hb; subst hb; exact fun e2 => hnq (e2 ▸ ha)⟩
    · exact h.nd
  · rw [eQ]
    split
    · intro y hy
      rcases List.mem_append.1 hy with hy | hy
      · exact h.rg y hy
      · rw [List.mem_singleton.1 hy]; exact hto
    · exact h.rg
  · rw [eQ]
    split
    · exact h.pf.trans (List.prefix_append _ _)
    · exact h.pf
  · show (List.set _ _ _).getD x 0 = _
    rw [set_getD (by rw [h.lM]; exact ht)]
    have h1 := h.mi x hx
    rw [hdrop] at h1
    split
    · rename_i e2
      subst e2
      rw [h1, e, List.count_cons_self]; omega
    · rename_i e2
      rw [h1, List.count_cons_of_ne (by omega)]
  · have h1 := h.qz x hx
    rw [eQ]
    show _ ↔ (List.set _ _ _).getD x 0 = 0
    rw [set_getD (by rw [h.lM]; exact ht)]
    by_cases e2 : x = to.toNat
    · subst e2
      rw [if_pos rfl, e]
      split
      · rename_i h5; exact ⟨fun _ => h5, fun _ => List.mem_append_right _ (List.mem_singleton.2 rfl)⟩
      · rename_i h5; exact ⟨fun h6 => absurd h6 hnq, fun h6 => absurd h6 h5⟩
    · rw [if_neg e2, ← h1]
      split
      · rw [List.mem_append]
        exact ⟨fun h5 => h5.elim id fun h6 => absurd (List.mem_singleton.1 h6) (by omega), .inl⟩
      · rfl
theorem inK_take {c : Int} {l : List Int} {S : KS} {j : Nat} (hj : j < l.length) : inK c (l.take (j + 1)) S = stK c (inK c (l.take j) S) (l.getD j 0) := by
  unfold inK
  rw [List.take_succ_eq_append_getElem hj, List.foldl_append, List.getD_eq_getElem?_getD, List.getElem?_eq_getElem hj]; rfl
theorem getD_mem2 {l : List Int} {i : Nat} (h : i < l.length) : l.getD i 0 ∈ l := by rw [List.getD_eq_getElem?_getD, List.getElem?_eq_getElem h]; exact List.getElem_mem h
theorem take_succ2 {l : List Int} {i : Nat} (h : i < l.length) : l.take (i + 1) = l.take i ++ [l.getD i 0] := by
  rw [List.take_succ_eq_append_getElem h, List.getD_eq_getElem?_getD, List.getElem?_eq_getElem h]; rfl
theorem KInv.kin {N : Nat} {U : List DepT} {i : Nat} {S : KS} (h : KInv N U i S) (hU : OkN N U) (hi : i < S.2.2.length) : ∀ j : Nat, j ≤ (rowU U (S.2.2.getD i 0)).length → KIn N U (S.2.2.take i) (S.2.2.getD i 0) i j (inK (S.2.2.getD i 0) ((rowU U (S.2.2.getD i 0)).take j) S)
  | 0, _ => by
    have hn : S.2.2.getD i 0 ∉ S.2.2.take i := by
      intro hm
      have h1 := h.nd
      rw [← List.take_append_drop i S.2.2] at h1
      have h2 : S.2.2.getD i 0 ∈ S.2.2.drop i := by
        rw [List.drop_eq_getElem_cons hi, List.getD_eq_getElem?_getD, List.getElem?_eq_getElem hi]; exact List.mem_cons_self ..
      exact (List.nodup_append.1 h1).2.2 _ hm _ h2 rfl
    refine ⟨h.lR, h.lM, fun x => ?_, h.nd, h.rg, ?_, fun x hx => ?_, h.qz⟩
    · have := h.rb x; show 0 ≤ S.1.getD x 0 ∧ S.1.getD x 0 ≤ _; omega
    · show (S.2.2.take i ++ [S.2.2.getD i 0]) <+: S.2.2
      rw [← take_succ2 hi]; exact List.take_prefix _ _
    · show S.2.1.getD x 0 = _
      rw [h.mi x hx, countP_part U _ _ _ hn]; rfl
  | j + 1, hj => by
    rw [inK_take hj]
    exact (h.kin hU hi j (by omega)).step hU hj
theorem KIn.next {N : Nat} {U : List DepT} {i : Nat} {P : List Int} {c : Int} {S : KS} (hU : OkN N U) (hP : P.length = i) (h : KIn N U P c i (rowU U c).length S) : KInv N U (i + 1) S := by
  have e : S.2.2.take (i + 1) = P ++ [c] := by
    obtain ⟨t, ht⟩ := h.pf
    rw [← ht, List.take_append_of_le_length (by simp [hP])]
    exact List.take_of_length_le (by simp [hP])
  refine ⟨h.lR, h.lM, fun x => ?_, h.nd, h.rg, fun x hx => ?_, h.qz⟩
  · have h1 := h.rb x
    have h2 := rowU_len U c
    have h3 := hU.1
    omega
  · rw [h.mi x hx, e, List.drop_length]; simp
theorem nodup_le : ∀ (N : Nat) (l : List Int), l.Nodup → (∀ c ∈ l, 0 ≤ c ∧ c < (N : Int)) → l.length ≤ N
  | 0, l, _, h => by
    cases l with
    | nil => exact Nat.le_refl _
    | cons a r => have := h a (List.mem_cons_self ..); omega
  | N + 1, l, hn, h => by
    have h1 := nodup_le N (l.erase (N : Int)) (hn.erase _) (fun c hc => by
      have h2 := h c (List.mem_of_mem_erase hc)
      have h3 : c ≠ (N : Int) := fun e => by
        subst e
        exact absurd hc (hn.not_mem_erase)
      omega)
    have h2 := List.length_erase (a := (N : Int)) (l := l)
    split at h2 <;> omega
theorem le_of_all : ∀ (N : Nat) (l : List Int), (∀ x : Nat, x < N → (x : Int) ∈ l) → N ≤ l.length
  | 0, _, _ => Nat.zero_le _
  | N + 1, l, h => by
    have h1 := le_of_all N (l.erase (N : Int)) (fun x hx => (List.mem_erase_of_ne (by omega)).2 (h x (by omega)))
    have h2 := h N (by omega)
    have h3 := List.length_erase_of_mem h2
    have h4 := List.length_pos_of_mem h2
    omega
theorem KInv.len {N : Nat} {U : List DepT} {i : Nat} {S : KS} (h : KInv N U i S) : S.2.2.length ≤ N := nodup_le N _ h.nd h.rg
/-- Ranks that rise along every dependency. -/
def Rises (U : List DepT) : Prop := ∃ r : Int → Nat, ∀ d ∈ U, r d.1 < r d.2.1
theorem KInv.all {N : Nat} {U : List DepT} {i : Nat} {S : KS} (h : KInv N U i S) (hU : OkN N U) (hr : Rises U) (hi : S.2.2.length ≤ i) : N ≤ S.2.2.length := by
  obtain ⟨r, hr⟩ := hr
  have ht : S.2.2.take i = S.2.2 := List.take_of_length_le hi
  have key : ∀ m x : Nat, x < N → r (x : Int) < m → (x : Int) ∈ S.2.2 := by
    intro m
    induction m with
    | zero => intro x _ h0; omega
    | succ m ih =>
      intro x hx hm
      refine Classical.byContradiction fun hq => ?_
      have h1 : ¬ S.2.1.getD x 0 = 0 := fun e => hq ((h.qz x hx).2 e)
      rw [h.mi x hx, ht] at h1
      have h2 : 0 < U.countP fun d => decide (d.2.1 = (x : Int)) && !decide (d.1 ∈ S.2.2) := by omega
      obtain ⟨d, hd, h3⟩ := List.countP_pos_iff.1 h2
      simp only [Bool.and_eq_true, decide_eq_true_eq, Bool.not_eq_true', decide_eq_false_iff_not] at h3
      have h4 := hU.2 d hd
      have h5 := hr d hd
      have e : ((d.1.toNat : Nat) : Int) = d.1 := Int.toNat_of_nonneg h4.1.1
      rw [h3.1] at h5
      refine h3.2 ?_
      rw [← e]
      exact ih d.1.toNat (by omega) (by rw [e]; omega)
  exact le_of_all N _ fun x hx => key (r (x : Int) + 1) x hx (by omega)
theorem q0_succ (N : Nat) (U : List DepT) (k : Nat) : q0 N U (k + 1) = if (misM N U).getD k 0 = 0 then q0 N U k ++ [(k : Int)] else q0 N U k := by
  unfold q0
  rw [List.range_succ, List.filter_append, List.map_append]
  by_cases h : (misM N U).getD k 0 = 0
  · rw [if_pos h]
    have : ([k].filter fun c : Nat => decide ((misM N U).getD c 0 = 0)) = [k] := by rw [List.filter_cons, if_pos (decide_eq_true h)]; rfl
    rw [this]; rfl
  · rw [if_neg h]
    have : ([k].filter fun c : Nat => decide ((misM N U).getD c 0 = 0)) = [] := by rw [List.filter_cons, if_neg (by rw [decide_eq_true_eq]; exact h)]; rfl
    rw [this]; simp
theorem q0_mem {N : Nat} {U : List DepT} {k : Nat} {x : Int} : x ∈ q0 N U k ↔ ∃ c : Nat, c < k ∧ (misM N U).getD c 0 = 0 ∧ x = (c : Int) := by
  unfold q0
  simp only [List.mem_map, List.mem_filter, List.mem_range, decide_eq_true_eq]
  exact ⟨fun ⟨c, ⟨h1, h2⟩, h3⟩ => ⟨c, h1, h2, h3.symm⟩, fun ⟨c, h1, h2, h3⟩ => ⟨c, ⟨h1, h2⟩, h3.symm⟩⟩
theorem q0_len (N : Nat) (U : List DepT) (k : Nat) : (q0 N U k).length ≤ k := by
  unfold q0
  rw [List.length_map]
  exact Nat.le_trans (List.length_filter_le _ _) (by simp)
theorem KInv.zero (N : Nat) (U : List DepT) : KInv N U 0 (st0K N U) := by
  refine ⟨by simp [st0K], by simp [st0K, misM], fun x => ?_, ?_, fun c hc => ?_, fun x hx => ?_, fun x hx => ?_⟩
  · have : (List.replicate N (0 : Int)).getD x 0 = 0 := by
      rw [List.getD_eq_getElem?_getD, List.getElem?_replicate]; split <;> rfl
    show 0 ≤ (List.replicate N (0 : Int)).getD x 0 ∧ (List.replicate N (0 : Int)).getD x 0 ≤ _
    rw [this]; omega
  · show (q0 N U N).Nodup
    unfold q0
    refine List.pairwise_map.2 ((List.nodup_range.filter _).imp fun h e => h (by omega))
  · obtain ⟨c', h1, _, rfl⟩ := q0_mem.1 hc
    omega
  · show (misM N U).getD x 0 = _
    unfold misM
    rw [tab_get _ _ hx]
    show ((U.countP _ : Nat) : Int) = ((U.countP _ : Nat) : Int)
    congr 2
    funext d
    show decide (d.2.1 = (x : Int)) = (decide (d.2.1 = (x : Int)) && !decide (d.1 ∈ List.take 0 _))
    simp
  · show (x : Int) ∈ q0 N U N ↔ _
    rw [q0_mem]
    constructor
    · rintro ⟨c, h1, h2, h3⟩
      have : x = c := by omega
      subst this; exact h2
    · intro h2
      exact ⟨x, hx, h2, rfl⟩
/-- A state of the outer loop. -/
structure KSt (N : Nat) (U : List DepT) where
  i : Nat
  S : KS
  inv : KInv N U i S
  iq : i ≤ S.2.2.length
  eq : runK U (N + 1 - i) i S = runK U (N + 1) 0 (st0K N U)
theorem KSt.zero (N : Nat) (U : List DepT) : ∃ x : KSt N U, x.i = 0 ∧ x.S = st0K N U := ⟨⟨0, st0K N U, KInv.zero N U, Nat.zero_le _, rfl⟩, rfl, rfl⟩
theorem KSt.next {N : Nat} {U : List DepT} (x : KSt N U) (hU : OkN N U) (h : x.i < x.S.2.2.length) : ∃ y : KSt N U, y.i = x.i + 1 ∧ y.S = inK (x.S.2.2.getD x.i 0) (rowU U (x.S.2.2.getD x.i 0)) x.S := by
  have h1 := x.inv.kin hU h _ (Nat.le_refl _)
  rw [List.take_length] at h1
  have h2 := h1.next hU (by rw [List.length_take]; omega)
  have h3 : x.i + 1 ≤ (inK (x.S.2.2.getD x.i 0) (rowU U (x.S.2.2.getD x.i 0)) x.S).2.2.length := by
    have h4 := h1.pf.length_le
    rw [List.length_append, List.length_take] at h4
    simp only [List.length_cons, List.length_nil] at h4
    omega
  refine ⟨⟨x.i + 1, _, h2, h3, ?_⟩, rfl, rfl⟩
  have h5 := x.inv.len
  rw [← x.eq, show N + 1 - x.i = (N + 1 - (x.i + 1)) + 1 from by omega]
  show _ = (if x.i < x.S.2.2.length then _ else _)
  rw [if_pos h]
theorem KSt.done {N : Nat} {U : List DepT} (x : KSt N U) (h : ¬ x.i < x.S.2.2.length) : x.S.1 = ranksL N U := by
  unfold ranksL
  rw [← x.eq]
  cases h2 : N + 1 - x.i with
  | zero => rfl
  | succ m =>
    show _ = (if x.i < x.S.2.2.length then _ else _ : KS).1
    rw [if_neg h]
theorem KIn.mb {N : Nat} {U : List DepT} {i j : Nat} {P : List Int} {c : Int} {S : KS} (h : KIn N U P c i j S) (hU : OkN N U) {x : Nat} (hx : x < N) : 0 ≤ S.2.1.getD x 0 ∧ S.2.1.getD x 0 ≤ 4000000 := by
  have h1 := List.countP_le_length (p := fun d : DepT => decide (d.2.1 = (x : Int)) && !decide (d.1 ∈ P ++ [c])) (l := U)
  have h2 := List.count_le_length (a := (x : Int)) (l := (rowU U c).drop j)
  have h3 := rowU_len U c
  rw [List.length_drop] at h2
  have h4 := hU.1
  rw [h.mi x hx]
  omega
theorem st_eq1 (c : Int) (S : KS) (to : Int) : (stK c S to).1 = S.1.set to.toNat (max (S.1.getD to.toNat 0) (S.1.getD c.toNat 0 + 1)) := rfl
theorem st_eq2 (c : Int) (S : KS) (to : Int) : (stK c S to).2.1 = S.2.1.set to.toNat (S.2.1.getD to.toNat 0 - 1) := rfl
theorem st_eq3 {c : Int} {S : KS} {to : Int} (h : (S.2.1.set to.toNat (S.2.1.getD to.toNat 0 - 1)).getD to.toNat 0 = 0) : (stK c S to).2.2 = S.2.2 ++ [to] := if_pos h
theorem st_eq4 {c : Int} {S : KS} {to : Int} (h : ¬ (S.2.1.set to.toNat (S.2.1.getD to.toNat 0 - 1)).getD to.toNat 0 = 0) : (stK c S to).2.2 = S.2.2 := if_neg h
theorem rowsA_self {N : Nat} {U : List DepT} {c : Int} (h0 : 0 ≤ c) (h1 : c < (N : Int)) : (rowsA N U).getD c.toNat [] = rowU U c ∧ (rowsA N U).set c.toNat (rowU U c) = rowsA N U := by
  have hi : c.toNat < N := by omega
  have e : ((c.toNat : Nat) : Int) = c := Int.toNat_of_nonneg h0
  have h2 : (rowsA N U).getD c.toNat [] = rowU U c := by unfold rowsA; rw [tab_get _ _ hi, e]
  refine ⟨h2, ?_⟩
  unfold rowsA
  exact tab_set N _ _ _ _ hi (by rw [e]) fun _ _ => rfl
end Go.Proofs.YtcaoldilmnpjoaaGreat
