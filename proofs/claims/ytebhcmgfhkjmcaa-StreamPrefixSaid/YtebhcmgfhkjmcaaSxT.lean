/-
  Symbolic execution: the table of types, checked by the kernel.
-/
import Derived.Test.YtebhcmgfhkjmcaaSxS
namespace Go.Sx
set_option linter.all false
set_option linter.unusedVariables false
set_option linter.unusedSimpArgs false
set_option linter.unusedSectionVars false
open Go.RowKit

variable {P : Program}

def zeroB : Ty → List Value → Option (List Value)
  | .int k, .int k' n :: r => if k = k' ∧ n = 0 then some r else none
  | .bool, .bool b :: r => if b = false then some r else none
  | .bytes, .slice none 0 0 :: r => some r
  | .lst _, .slice none 0 0 :: r => some r
  | .str, .string s :: r => if s.size = 0 then some r else none
  | .unit, r => some r
  | .pair a b, r => match zeroB a r with
    | some r => zeroB b r
    | none => none
  | _, _ => none

def isNil : Option (List Value) → Bool
  | some [] => true
  | _ => false
theorem isNil_eq {o : Option (List Value)} (h : isNil o = true) : o = some [] := by
  unfold isNil at h
  split at h
  · rfl
  · cases h

theorem zeroB_sound {M : Mem} : ∀ {T : Ty} {l r : List Value}, zeroB T l = some r → ∃ l1, l = l1 ++ r ∧ l1.length = T.size ∧ CellsM M T T.dflt (fun j => l1[j]?)
  | .int k, l, r, h => by
    cases l with
    | nil => simp [zeroB] at h
    | cons v l =>
      cases v <;> simp [zeroB] at h
      obtain ⟨⟨rfl, rfl⟩, rfl⟩ := h
      exact ⟨[.int k 0], rfl, rfl, rfl⟩
  | .bool, l, r, h => by
    cases l with
    | nil => simp [zeroB] at h
    | cons v l =>
      cases v <;> simp [zeroB] at h
      obtain ⟨rfl, rfl⟩ := h
      exact ⟨[.bool false], rfl, rfl, rfl⟩
  | .bytes, l, r, h => by
    cases l with
    | nil => simp [zeroB] at h
    | cons v l =>
      cases v <;> (try (simp [zeroB] at h; done))
      rename_i ao len cap
      cases ao <;> cases len <;> cases cap <;> (try (simp [zeroB] at h; done))
      simp [zeroB] at h
      subst h
      exact ⟨[.slice none 0 0], rfl, rfl, _, rfl, none, 0, rfl, by simp [Ty.dflt], by simp [Ty.dflt]⟩
  | .lst e, l, r, h => by
    cases l with
    | nil => simp [zeroB] at h
    | cons v l =>
      cases v <;> (try (simp [zeroB] at h; done))
      rename_i ao len cap
      cases ao <;> cases len <;> cases cap <;> (try (simp [zeroB] at h; done))
      simp [zeroB] at h
      subst h
      exact ⟨[.slice none 0 0], rfl, rfl, _, rfl, none, 0, rfl, by simp [Ty.dflt], by simp [Ty.dflt]⟩
  | .str, l, r, h => by
    cases l with
    | nil => simp [zeroB] at h
    | cons v l =>
      cases v <;> simp [zeroB] at h
      rename_i s
      obtain ⟨h0, rfl⟩ := h
      refine ⟨[.string s], rfl, rfl, ?_⟩
      have : s = ⟨#[]⟩ := h0
      subst this
      show _ = _
      rfl
  | .unit, l, r, h => by simp [zeroB] at h; subst h; exact ⟨[], rfl, rfl, trivial⟩
  | .pair a b, l, r, h => by
    simp only [zeroB] at h
    split at h
    · rename_i r1 h1
      obtain ⟨l1, e1, e2, e3⟩ := zeroB_sound (M := M) h1
      obtain ⟨l2, e4, e5, e6⟩ := zeroB_sound (M := M) h
      refine ⟨l1 ++ l2, by rw [e1, e4]; simp, by simp [Ty.size, e2, e5], CellsM.congr a e3 fun j v hj hv => ?_, CellsM.congr b e6 fun j v hj hv => ?_⟩
      · simp only [List.getElem?_append_left (show j < l1.length by omega)]; exact hv
      · simp only [List.getElem?_append_right (show l1.length ≤ a.size + j by omega), show a.size + j - l1.length = j by omega]; exact hv
    · cases h

def offsB (P : Program) : List (Nat × Nat) → List Field → Bool
  | [], [] => true
  | (o, sz) :: l, f :: fs => f.offset == o && (match P.info? f.type with | some g => g.size == sz | none => false) && offsB P l fs
  | _, _ => false
theorem offsB_sound : ∀ {l : List (Nat × Nat)} {fs : List Field}, offsB P l fs = true → All2 (fun (p : Nat × Nat) (f : Field) => f.offset = p.1 ∧ ∃ g, P.info? f.type = some g ∧ g.size = p.2) l fs
  | [], [], _ => .nil
  | (o, sz) :: l, f :: fs, h => by
    simp only [offsB, Bool.and_eq_true, beq_iff_eq] at h
    obtain ⟨⟨h1, h2⟩, h3⟩ := h
    split at h2
    · rename_i g hg; exact .cons ⟨h1, g, hg, by simpa using h2⟩ (offsB_sound h3)
    · cases h2
  | [], _ :: _, h => by cases h
  | _ :: _, [], h => by cases h

def kindB (P : Program) (t : TypeId) (k : TK) : Bool := match k, P.underlying t with
  | .int k, some (.int k') => k == k'
  | .bool, some .bool => true
  | .str, some .string => true
  | .struct offs, some (.struct fs) => offsB P offs fs.toList
  | .slice e ty, some (.slice e') => e == e' && (match P.info? e with
    | some g => (match ty with
      | none => true
      | some T => g.size == T.size && decide (0 < g.size) && decide (g.bytes ≤ 128) && (match T, P.underlying e with | .int k, some (.int k') => k == k' | .int _, _ => false | _, _ => true) && (match g.zero with | some z => z.cells.size == T.size && isNil (zeroB T z.cells.toList) | none => false))
    | none => false)
  | .array n e, some (.array n' e') => n == n' && e == e' && (P.info? e).isSome
  | .ptr e, some (.pointer e') => e == e'
  | .map k e ty, some (.map k' e') => k == k' && e == e' && (match ty with
    | none => true
    | some (ks, T) => (match ks, P.underlying k with | .int kk, some (.int kk') => kk == kk' | .str, some .string => true | _, _ => false) && (match P.info? e with
      | some g => (match g.zero with
        | some (.agg cs) => T.agg && cs.size == T.size && isNil (zeroB T cs.toList)
        | some z => !T.agg && T.size == 1 && isNil (zeroB T [z])
        | none => false)
      | none => false))
  | _, _ => false

theorem kindB_sound {t : TypeId} {k : TK} (h : kindB P t k = true) : KindOk P t k := by
  unfold kindB at h
  split at h
  · rename_i k k' hu; simp at h; subst h; exact hu
  · rename_i hu; exact hu
  · rename_i hu; exact hu
  · rename_i offs fs hu; exact ⟨fs, hu, offsB_sound h⟩
  · rename_i e ty e' hu
    simp only [Bool.and_eq_true, beq_iff_eq] at h
    obtain ⟨rfl, h⟩ := h
    split at h
    · rename_i g hg
      refine ⟨hu, g, hg, fun T hT => ?_⟩
      subst hT
      simp only [Bool.and_eq_true, beq_iff_eq, decide_eq_true_eq] at h
      obtain ⟨⟨⟨⟨h1, h2⟩, h3⟩, h4⟩, h5⟩ := h
      refine ⟨h1, h2, h3, fun k hk => ?_, ?_⟩
      · subst hk
        split at h4
        · rename_i k1 k2 e1 e2; cases e1; simp at h4; subst h4; exact e2
        · cases h4
        · rename_i hno _; exact absurd rfl (hno _)
      · split at h5
        · rename_i z hz
          simp only [Bool.and_eq_true, beq_iff_eq] at h5
          obtain ⟨h6, h7⟩ := h5
          refine ⟨z, hz, h6, fun M => ?_⟩
          obtain ⟨l1, e1, e2, e3⟩ := zeroB_sound (M := M) (isNil_eq h7)
          simp only [List.append_nil] at e1
          rw [e1]; exact e3
        · cases h5
    · cases h
  · rename_i n e n' e' hu
    simp only [Bool.and_eq_true, beq_iff_eq] at h
    obtain ⟨⟨rfl, rfl⟩, h⟩ := h
    exact ⟨hu, Option.isSome_iff_exists.1 h⟩
  · rename_i e e' hu; simp at h; subst h; exact hu
  · rename_i k e ty k' e' hu
    simp only [Bool.and_eq_true, beq_iff_eq] at h
    obtain ⟨⟨rfl, rfl⟩, h⟩ := h
    refine ⟨hu, fun ks T hT => ?_⟩
    subst hT
    simp only [Bool.and_eq_true] at h
    obtain ⟨h1, h2⟩ := h
    refine ⟨?_, ?_⟩
    · split at h1
      · rename_i h3; simp at h1; subst h1; exact h3
      · rename_i h3; exact h3
      · cases h1
    · split at h2 <;> (try cases h2)
      rename_i g hg
      split at h2 <;> (try cases h2)
      · rename_i cs hz
        simp only [Bool.and_eq_true, beq_iff_eq] at h2
        obtain ⟨⟨h3, h4⟩, h5⟩ := h2
        refine ⟨g, _, hg, hz, fun M => ?_⟩
        obtain ⟨l1, e1, e2, e3⟩ := zeroB_sound (M := M) (isNil_eq h5)
        simp only [List.append_nil] at e1
        refine ⟨cs.toList, by simpa using h4, e1 ▸ e3, ?_⟩
        rw [h3]
      · rename_i z _ hz
        simp only [Bool.and_eq_true, beq_iff_eq, Bool.not_eq_true'] at h2
        obtain ⟨⟨h3, h4⟩, h5⟩ := h2
        refine ⟨g, _, hg, hz, fun M => ?_⟩
        obtain ⟨l1, e1, e2, e3⟩ := zeroB_sound (M := M) (isNil_eq h5)
        simp only [List.append_nil] at e1
        refine ⟨[z], by simpa using h4.symm, e1 ▸ e3, ?_⟩
        rw [h3]
  · cases h

def tiB (P : Program) (p : Nat × TI) : Bool := kindB P p.1 p.2.kind && (match P.info? p.1 with | some f => f.size == p.2.size && f.zero.isSome | none => false)
def zeroP (P : Program) (t : TypeId) : List SV1 := match P.info? t with
  | some f => (match f.zero with | some z => z.cells.toList.map ofLit1 | none => [])
  | none => []

theorem look_mem {α : Type} : ∀ {l : List (Nat × α)} {t : Nat} {x : α}, look l t = some x → (t, x) ∈ l
  | [], t, x, h => by cases h
  | (k, y) :: r, t, x, h => by
    rw [look_cons] at h
    split at h
    · rename_i e; cases h; subst e; simp
    · exact List.mem_cons_of_mem _ (look_mem h)

theorem map_eq_mem {α β : Type} {f g : α → β} : ∀ {l : List α}, l.map f = l.map g → ∀ x ∈ l, f x = g x
  | [], _, x, h => by cases h
  | y :: r, h, x, hx => by
    simp only [List.map_cons, List.cons.injEq] at h
    rcases List.mem_cons.1 hx with rfl | hx
    · exact h.1
    · exact map_eq_mem h.2 x hx

theorem tiOk_of {ti : List (Nat × TI)} (h : ti.all (tiB P) = true) (hz : ti.map (fun p => zeroP P p.1) = ti.map fun p => p.2.zero) : TIok P ti := by
  intro t i hl
  have hm := look_mem hl
  have h1 := List.all_eq_true.1 h _ hm
  have h2 := map_eq_mem hz _ hm
  unfold tiB at h1
  simp only [Bool.and_eq_true] at h1
  obtain ⟨h3, h4⟩ := h1
  refine ⟨?_, kindB_sound h3⟩
  split at h4
  · rename_i f hf
    simp only [Bool.and_eq_true, beq_iff_eq] at h4
    obtain ⟨z, hz2⟩ := Option.isSome_iff_exists.1 h4.2
    refine ⟨f, hf, h4.1, z, hz2, ?_⟩
    dsimp only at h2
    rw [← h2]
    unfold zeroP
    rw [hf]
    dsimp only
    rw [hz2]
  · cases h4

end Go.Sx
