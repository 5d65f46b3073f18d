/-
  Plain: lists that are scanned; maps of what has been seen.
-/
import Derived.Test.YtcaoldilmnpjoaaGreatEng3
namespace Go.Proofs.YtcaoldilmnpjoaaGreat
set_option linter.all false
open Go.RowKit Go.Sx
theorem get_put' {K V : Type} [DecidableEq K] (c : K) (v : V) (k : K) : ∀ D : List (K × V), getA (putA D c v) k = if c = k then some v else getA D k
  | [] => by show (if c = k then some v else getA [] k) = _; rfl
  | (a, x) :: D => by
    show getA (if a = c then (c, v) :: D else (a, x) :: putA D c v) k = if c = k then some v else (if a = k then some x else getA D k)
    have ih := get_put' c v k D
    by_cases h1 : a = c
    · rw [if_pos h1]
      show (if c = k then some v else getA D k) = _
      by_cases h2 : c = k
      · rw [if_pos h2, if_pos h2]
      · rw [if_neg h2, if_neg h2, if_neg (fun e => h2 (h1 ▸ e))]
    · rw [if_neg h1]
      show (if a = k then some x else getA (putA D c v) k) = _
      by_cases h2 : a = k
      · have h3 : ¬ c = k := fun e => h1 (h2.trans e.symm)
        rw [if_pos h2, if_neg h3, if_pos h2]
      · rw [if_neg h2, ih, if_neg h2]
theorem put_len' {K V : Type} [DecidableEq K] (c : K) (v : V) : ∀ D : List (K × V), (putA D c v).length ≤ D.length + 1
  | [] => Nat.le_refl _
  | (a, x) :: D => by
    show (if a = c then (c, v) :: D else (a, x) :: putA D c v).length ≤ D.length + 1 + 1
    split
    · show D.length + 1 ≤ _; omega
    · have := put_len' c v D; show (putA D c v).length + 1 ≤ _; omega
/-- What a scan has seen: the first n, each once. -/
structure Sn {K : Type} [DecidableEq K] (E : List K) where
  n : Nat
  D : List (K × Bool)
  le : n ≤ E.length
  nd : (E.take n).Nodup
  ok : ∀ k, ((getA D k).getD false = true) ↔ k ∈ E.take n
  dl : D.length ≤ n
theorem Sn.zero {K : Type} [DecidableEq K] (E : List K) : ∃ x : Sn E, x.n = 0 ∧ x.D = [] :=
  ⟨⟨0, [], Nat.zero_le _, by simp, fun k => by simp [getA], Nat.le_refl _⟩, rfl, rfl⟩
theorem Sn.step {K : Type} [DecidableEq K] {E : List K} (x : Sn E) {k : K} (hk : E[x.n]? = some k) (h : ¬ (getA x.D k).getD false = true) :
    ∃ y : Sn E, y.n = x.n + 1 ∧ y.D = putA x.D k true := by
  have hlt : x.n < E.length := by
    rcases Nat.lt_or_ge x.n E.length with h1 | h1
    · exact h1
    · rw [List.getElem?_eq_none h1] at hk; cases hk
  have e : E[x.n] = k := by rw [List.getElem?_eq_getElem hlt] at hk; exact Option.some.inj hk
  have ht : E.take (x.n + 1) = E.take x.n ++ [k] := by rw [List.take_succ_eq_append_getElem hlt, e]
  refine ⟨⟨x.n + 1, putA x.D k true, hlt, ?_, fun j => ?_, Nat.le_trans (put_len' ..) (by have := x.dl; omega)⟩, rfl, rfl⟩
  · rw [ht, List.nodup_append]
    refine ⟨x.nd, by simp, fun a ha b hb => ?_⟩
    simp only [List.mem_singleton] at hb
    subst hb
    intro e2; subst e2
    exact h ((x.ok _).2 ha)
  · rw [get_put', ht, List.mem_append, List.mem_singleton, ← x.ok]
    by_cases hj : k = j
    · simp [hj]
    · rw [if_neg hj]; constructor
      · exact Or.inl
      · rintro (h1 | h1)
        · exact h1
        · exact absurd h1.symm hj
theorem Sn.hit {K : Type} [DecidableEq K] {E : List K} (x : Sn E) {k : K} (hk : E[x.n]? = some k) (h : (getA x.D k).getD false = true) : ¬ E.Nodup := by
  intro hn
  have hlt : x.n < E.length := by
    rcases Nat.lt_or_ge x.n E.length with h1 | h1
    · exact h1
    · rw [List.getElem?_eq_none h1] at hk; cases hk
  have e : E[x.n] = k := by rw [List.getElem?_eq_getElem hlt] at hk; exact Option.some.inj hk
  have ht : E = E.take x.n ++ k :: E.drop (x.n + 1) := by rw [← e, List.getElem_cons_drop hlt, List.take_append_drop]
  rw [ht, List.nodup_append] at hn
  exact hn.2.2 k ((x.ok _).1 h) k (List.mem_cons_self ..) rfl
theorem Sn.done {K : Type} [DecidableEq K] {E : List K} (x : Sn E) (h : ¬ x.n < E.length) : E.Nodup := by
  have := x.nd
  rwa [List.take_of_length_le (by omega)] at this
/-- A scan of a list whose elements so far are all good. -/
structure La {α : Type} (L : List α) (f : α → Bool) where
  i : Int
  lo : 0 ≤ i
  hi : i ≤ (L.length : Int)
  ok : ∀ k (h : k < L.length), (k : Int) < i → f L[k] = true
theorem La.zero {α : Type} (L : List α) (f : α → Bool) : ∃ x : La L f, x.i = 0 := ⟨⟨0, Int.le_refl _, by omega, fun k _ h => by omega⟩, rfl⟩
theorem getD_at {α : Type} {L : List α} {i : Int} (d : α) (h0 : 0 ≤ i) (h : i < (L.length : Int)) : ∃ hk : i.toNat < L.length, L.getD i.toNat d = L[i.toNat] :=
  ⟨by omega, by rw [List.getD_eq_getElem?_getD, List.getElem?_eq_getElem (by omega)]; rfl⟩
theorem La.step {α : Type} {L : List α} {f : α → Bool} (x : La L f) (d : α) (h : x.i < (L.length : Int)) (hf : f (L.getD x.i.toNat d) = true) : ∃ y : La L f, y.i = x.i + 1 := by
  have hlo := x.lo
  refine ⟨⟨x.i + 1, by omega, by omega, fun k hk h1 => ?_⟩, rfl⟩
  by_cases hk2 : (k : Int) < x.i
  · exact x.ok k hk hk2
  · obtain ⟨h3, h4⟩ := getD_at d hlo h
    have e : x.i.toNat = k := by omega
    rw [h4] at hf
    simpa only [e] using hf
theorem La.bad {α : Type} {L : List α} {f : α → Bool} (x : La L f) (d : α) (h : x.i < (L.length : Int)) (hf : f (L.getD x.i.toNat d) = false) : L.all f = false := by
  obtain ⟨h3, h4⟩ := getD_at d x.lo h
  rw [List.all_eq_false]
  exact ⟨_, List.getElem_mem h3, by rw [← h4, hf]; decide⟩
theorem La.done {α : Type} {L : List α} {f : α → Bool} (x : La L f) (h : ¬ x.i < (L.length : Int)) : L.all f = true := by
  rw [List.all_eq_true]
  intro a ha
  obtain ⟨k, hk, rfl⟩ := List.getElem_of_mem ha
  exact x.ok k hk (by omega)
theorem la_meas {n : Nat} {i j : Int} (h : i < (n : Int)) (e : j = i + 1) : ((n : Int) - j).toNat < ((n : Int) - i).toNat := by omega
end Go.Proofs.YtcaoldilmnpjoaaGreat
