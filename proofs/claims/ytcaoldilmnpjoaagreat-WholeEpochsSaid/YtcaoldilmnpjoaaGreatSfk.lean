/-
  The top: the keys of a map of dependencies, one after the other.
-/
import Derived.Test.YtcaoldilmnpjoaaGreatEng3
import Derived.RangeFuncGives
import Derived.Test.YtcaoldilmnpjoaaGreatProg
namespace Go.Proofs.YtcaoldilmnpjoaaGreat
set_option linter.all false
open Go.RowKit Go.Sx Go.Maps Go.Sort Go.Shelf
set_option maxRecDepth 100000
abbrev DepE : Ty := .pair (.int .i64) (.pair (.int .i64) (.int .i64))
abbrev DepT : Type := Int × Int × Int
def cellsD (x : DepT) : List Value := [.int .i64 x.1, .int .i64 x.2.1, .int .i64 x.2.2]
def aggD (x : DepT) : Value := .agg (cellsD x).toArray
theorem aggD_inj {x y : DepT} (h : aggD x = aggD y) : x = y := by
  have h2 : cellsD x = cellsD y := by
    have h1 := Value.agg.inj h
    simpa using congrArg Array.toList h1
  unfold cellsD at h2
  simp only [List.cons.injEq, Value.int.injEq, true_and, and_true] at h2
  exact Prod.ext h2.1 (Prod.ext h2.2.1 h2.2.2)
theorem mkD (x : DepT) : (KT.agg DepE).mk x = aggD x := rfl
theorem wideD : (match Tryz.prog.underlying 76 with | some (.array _ _) | some (.struct _) => true | _ => false) = true := by rw [Tryz.underlying76]
theorem lawD : WideMaps.KeyLaw Tryz.prog 76 := deep_law (m := 3) (by decide) (by kernel_rfl) (by kernel_rfl) wideD
theorem keyedD : Keyed Tryz.prog 76 := Keyed.of_law lawD
/-- What reads as a key. -/
theorem keyD_inv {key : Value} {kl : Lit} (h : keyOf Tryz.prog 76 key = some kl) : ∃ x : DepT, key = aggD x := by
  obtain ⟨xs, L, rfl, h1, _⟩ := keyOf_top wideD h
  obtain ⟨n, hn⟩ : ∃ n, Tryz.prog.types.size = n + 1 := ⟨Tryz.prog.types.size - 1, by have : 1 ≤ Tryz.prog.types.size := leN (by kernel_rfl); omega⟩
  rw [hn] at h1
  unfold Program.keyLits at h1
  simp only [Tryz.underlying76] at h1
  split at h1
  · rename_i hc
    obtain ⟨hc, _⟩ := hc
    have h3 : Tryz.prog.cellsOf 76 = 3 := by kernel_rfl
    have h4 : Tryz.prog.cellsOf 3 = 1 := by kernel_rfl
    rw [h3] at hc
    obtain ⟨l⟩ := xs
    match l, hc with
    | [a, b, c], _ =>
      simp only [List.mapM_cons, List.mapM_nil, h4] at h1
      simp only [Option.map_eq_some_iff, Option.bind_eq_bind, Option.bind_eq_some_iff, Option.pure_def] at h1
      obtain ⟨_, ⟨l1, e1, _, ⟨l2, e2, _, ⟨l3, e3, _⟩, _⟩, _⟩, _⟩ := h1
      obtain ⟨n1, q1, _⟩ := keyLits_int' Tryz.underlying3 e1
      obtain ⟨n2, q2, _⟩ := keyLits_int' Tryz.underlying3 e2
      obtain ⟨n3, q3, _⟩ := keyLits_int' Tryz.underlying3 e3
      simp at q1 q2 q3
      subst q1 q2 q3
      exact ⟨(n1, n2, n3), rfl⟩
  · cases h1
/-- The keys so far: none twice; a key is there just where the map has it and it is no longer to come. -/
def CollD {H : Type} (D0 : DataW H) (left : Lit → Bool) (ss : List DepT) : Prop := ss.Nodup ∧ ∀ x, x ∈ ss ↔ ∃ l, keyOf Tryz.prog 76 (aggD x) = some l ∧ has D0 l = true ∧ left l = false
section
variable {H : Type} {D0 : DataW H} {left : Lit → Bool} {ss : List DepT}
theorem CollD.start (D0 : DataW H) : CollD D0 (has D0) [] := ⟨List.nodup_nil, fun x => ⟨fun h => (by cases h), fun ⟨l, _, h1, h2⟩ => by rw [h1] at h2; cases h2⟩⟩
theorem CollD.step (h : CollD D0 left ss) {x : DepT} {l : Lit} {y : DataW H} (hx : keyOf Tryz.prog 76 (aggD x) = some l) (hlk : left l = true) (hat : ∀ zd, D0.atKey l zd = y) : CollD D0 (fun z => left z && !z.sameKey l) (ss ++ [x]) := by
  have hhas : has D0 l = true := has_true_of_atKey hat
  have hnew : x ∉ ss := fun hm => by
    obtain ⟨l', h1, _, h3⟩ := (h.2 x).1 hm
    rw [hx] at h1; cases h1; rw [hlk] at h3; cases h3
  refine ⟨List.nodup_append.2 ⟨h.1, by simp, fun a ha b hb => by simp at hb; subst hb; exact fun e => hnew (e ▸ ha)⟩, fun y => ?_⟩
  obtain ⟨s, rfl⟩ := lawD.str hx
  by_cases hy : y = x
  · subst hy
    simp only [List.mem_append, List.mem_singleton, or_true, true_iff]
    exact ⟨_, hx, hhas, by simp [Lit.sameKey]⟩
  · simp only [List.mem_append, List.mem_singleton, hy, or_false]
    rw [h.2 y]
    constructor
    · rintro ⟨l', h1, h2, h3⟩
      exact ⟨l', h1, h2, by rw [h3]; rfl⟩
    · rintro ⟨l', h1, h2, h3⟩
      refine ⟨l', h1, h2, ?_⟩
      obtain ⟨s', rfl⟩ := lawD.str h1
      cases hl : left (.string s') with
      | false => rfl
      | true =>
        rw [hl] at h3
        simp [Lit.sameKey] at h3
        subst h3
        exact absurd (aggD_inj (keyedD.inj h1 hx)) hy
end
def keysD {V : Type} (l : List (DepT × V)) : List DepT := l.map fun p => p.1
theorem keyD_some {x : DepT} (hx : DepE.keyIn x) : ∃ l, keyOf Tryz.prog 76 (aggD x) = some l := by
  obtain ⟨⟨a1, a2⟩, ⟨b1, b2⟩, c1, c2⟩ := hx
  have h3 : Tryz.prog.cellsOf 76 = 3 := by kernel_rfl
  have h4 : Tryz.prog.cellsOf 3 = 1 := by kernel_rfl
  have h5 : Tryz.prog.keyType 76 = true := by kernel_rfl
  obtain ⟨n, hn⟩ : ∃ n, Tryz.prog.types.size = n + 1 := ⟨Tryz.prog.types.size - 1, by have : 1 ≤ Tryz.prog.types.size := leN (by kernel_rfl); omega⟩
  have wf : ∀ {m : Int}, -9223372036854775808 ≤ m → m ≤ 9223372036854775807 → (Lit.int .i64 m).wf = true := fun h1 h2 => wf_i64 ⟨h1, h2⟩
  have one : ∀ m : Int, -9223372036854775808 ≤ m → m ≤ 9223372036854775807 → Tryz.prog.keyLits (n + 1) 3 [.int .i64 m] = some [.int .i64 m] := fun m h1 h2 => by
    unfold Program.keyLits
    simp only [Tryz.underlying3, wf h1 h2, and_self, if_true]
  refine Option.isSome_iff_exists.1 ?_
  · unfold keyOf
    simp only [Tryz.underlying76, h5, Value.formed, aggD, cellsD, Value.cells, h3, List.size_toArray, List.length_cons, List.length_nil, Bool.true_and]
    rw [if_pos (by decide), hn]
    unfold Program.keyLits
    simp only [Tryz.underlying76, h3, h4, List.length_cons, List.length_nil, List.mapM_cons, List.mapM_nil]
    rw [if_pos ⟨trivial, by kernel_rfl⟩]
    simp only [List.drop_zero, List.drop_succ_cons, List.take_succ_cons, List.take_zero, one _ a1 a2, one _ b1 b2, one _ c1 c2]
    rfl
end Go.Proofs.YtcaoldilmnpjoaaGreat
