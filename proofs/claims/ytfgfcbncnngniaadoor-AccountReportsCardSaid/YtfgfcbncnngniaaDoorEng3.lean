/-
  Symbolic execution (part 3).
-/
import Derived.Test.YtfgfcbncnngniaaDoorEng2
import Derived.ChangeKeysEq
import Derived.Deep.Slices
import Derived.ChangeOld
import Derived.OpenShut
import Derived.ShutString
import Derived.Below
import Derived.Sort.Grow
import Derived.Sort.EncStr
import Derived.Lib.LaidTab
import Derived.Deep.Draws
import Derived.Shelf.SlIterI.Sorted
import Derived.Shelf.SlIterI.Nil
/-
  Symbolic execution: the table of types, checked by the kernel.
-/
namespace Go.Sx
set_option linter.all false
set_option linter.unusedVariables false
set_option linter.unusedSimpArgs false
set_option linter.unusedSectionVars false
open Go.RowKit

variable {P : Program}

def zeroB : Ty → List Value → Option (List Value)
  | .int k, .int k' n :: r => if k = k' ∧ n = 0 then some r else none
  | .bool, .bool b :: r => if b = false then some r else none
  | .bytes, .slice none 0 0 :: r => some r
  | .lst _, .slice none 0 0 :: r => some r
  | .str, .string s :: r => if s.size = 0 then some r else none
  | .unit, r => some r
  | .pair a b, r => match zeroB a r with
    | some r => zeroB b r
    | none => none
  | _, _ => none

def isNil : Option (List Value) → Bool
  | some [] => true
  | _ => false
theorem isNil_eq {o : Option (List Value)} (h : isNil o = true) : o = some [] := by
  unfold isNil at h
  split at h
  · rfl
  · cases h

theorem zeroB_sound {M : Mem} : ∀ {T : Ty} {l r : List Value}, zeroB T l = some r → ∃ l1, l = l1 ++ r ∧ l1.length = T.size ∧ CellsM M T T.dflt (fun j => l1[j]?)
  | .int k, l, r, h => by
    cases l with
    | nil => simp [zeroB] at h
    | cons v l =>
      cases v <;> simp [zeroB] at h
      obtain ⟨⟨rfl, rfl⟩, rfl⟩ := h
      exact ⟨[.int k 0], rfl, rfl, rfl⟩
  | .bool, l, r, h => by
    cases l with
    | nil => simp [zeroB] at h
    | cons v l =>
      cases v <;> simp [zeroB] at h
      obtain ⟨rfl, rfl⟩ := h
      exact ⟨[.bool false], rfl, rfl, rfl⟩
  | .bytes, l, r, h => by
    cases l with
    | nil => simp [zeroB] at h
    | cons v l =>
      cases v <;> (try (simp [zeroB] at h; done))
      rename_i ao len cap
      cases ao <;> cases len <;> cases cap <;> (try (simp [zeroB] at h; done))
      simp [zeroB] at h
      subst h
      exact ⟨[.slice none 0 0], rfl, rfl, _, rfl, none, 0, rfl, by simp [Ty.dflt], by simp [Ty.dflt]⟩
  | .lst e, l, r, h => by
    cases l with
    | nil => simp [zeroB] at h
    | cons v l =>
      cases v <;> (try (simp [zeroB] at h; done))
      rename_i ao len cap
      cases ao <;> cases len <;> cases cap <;> (try (simp [zeroB] at h; done))
      simp [zeroB] at h
      subst h
      exact ⟨[.slice none 0 0], rfl, rfl, _, rfl, none, 0, rfl, by simp [Ty.dflt], by simp [Ty.dflt]⟩
  | .str, l, r, h => by
    cases l with
    | nil => simp [zeroB] at h
    | cons v l =>
      cases v <;> simp [zeroB] at h
      rename_i s
      obtain ⟨h0, rfl⟩ := h
      refine ⟨[.string s], rfl, rfl, ?_⟩
      have : s = ⟨#[]⟩ := h0
      subst this
      show _ = _
      rfl
  | .unit, l, r, h => by simp [zeroB] at h; subst h; exact ⟨[], rfl, rfl, trivial⟩
  | .pair a b, l, r, h => by
    simp only [zeroB] at h
    split at h
    · rename_i r1 h1
      obtain ⟨l1, e1, e2, e3⟩ := zeroB_sound (M := M) h1
      obtain ⟨l2, e4, e5, e6⟩ := zeroB_sound (M := M) h
      refine ⟨l1 ++ l2, by rw [e1, e4]; simp, by simp [Ty.size, e2, e5], CellsM.congr a e3 fun j v hj hv => ?_, CellsM.congr b e6 fun j v hj hv => ?_⟩
      · simp only [List.getElem?_append_left (show j < l1.length by omega)]; exact hv
      · simp only [List.getElem?_append_right (show l1.length ≤ a.size + j by omega), show a.size + j - l1.length = j by omega]; exact hv
    · cases h

def offsB (P : Program) : List (Nat × Nat) → List Field → Bool
  | [], [] => true
  | (o, sz) :: l, f :: fs => f.offset == o && (match P.info? f.type with | some g => g.size == sz | none => false) && offsB P l fs
  | _, _ => false
theorem offsB_sound : ∀ {l : List (Nat × Nat)} {fs : List Field}, offsB P l fs = true → All2 (fun (p : Nat × Nat) (f : Field) => f.offset = p.1 ∧ ∃ g, P.info? f.type = some g ∧ g.size = p.2) l fs
  | [], [], _ => .nil
  | (o, sz) :: l, f :: fs, h => by
    simp only [offsB, Bool.and_eq_true, beq_iff_eq] at h
    obtain ⟨⟨h1, h2⟩, h3⟩ := h
    split at h2
    · rename_i g hg; exact .cons ⟨h1, g, hg, by simpa using h2⟩ (offsB_sound h3)
    · cases h2
  | [], _ :: _, h => by cases h
  | _ :: _, [], h => by cases h

def kindB (P : Program) (t : TypeId) (k : TK) : Bool := match k, P.underlying t with
  | .int k, some (.int k') => k == k'
  | .bool, some .bool => true
  | .str, some .string => true
  | .struct offs, some (.struct fs) => offsB P offs fs.toList
  | .slice e ty, some (.slice e') => e == e' && (match P.info? e with
    | some g => (match ty with
      | none => true
      | some T => g.size == T.size && decide (0 < g.size) && decide (g.bytes ≤ 128) && (match T, P.underlying e with | .int k, some (.int k') => k == k' | .int _, _ => false | _, _ => true) && (match g.zero with | some z => z.cells.size == T.size && isNil (zeroB T z.cells.toList) | none => false))
    | none => false)
  | .array n e, some (.array n' e') => n == n' && e == e' && (P.info? e).isSome
  | .ptr e, some (.pointer e') => e == e'
  | .map k e ty, some (.map k' e') => k == k' && e == e' && (match ty with
    | none => true
    | some (ks, T) => (match ks, P.underlying k with | .int kk, some (.int kk') => kk == kk' | .str, some .string => true | _, _ => false) && (match P.info? e with
      | some g => (match g.zero with
        | some (.agg cs) => T.agg && cs.size == T.size && isNil (zeroB T cs.toList)
        | some z => !T.agg && T.size == 1 && isNil (zeroB T [z])
        | none => false)
      | none => false))
  | _, _ => false

theorem kindB_sound {t : TypeId} {k : TK} (h : kindB P t k = true) : KindOk P t k := by
  unfold kindB at h
  split at h
  · rename_i k k' hu; simp at h; subst h; exact hu
  · rename_i hu; exact hu
  · rename_i hu; exact hu
  · rename_i offs fs hu; exact ⟨fs, hu, offsB_sound h⟩
  · rename_i e ty e' hu
    simp only [Bool.and_eq_true, beq_iff_eq] at h
    obtain ⟨rfl, h⟩ := h
    split at h
    · rename_i g hg
      refine ⟨hu, g, hg, fun T hT => ?_⟩
      subst hT
      simp only [Bool.and_eq_true, beq_iff_eq, decide_eq_true_eq] at h
      obtain ⟨⟨⟨⟨h1, h2⟩, h3⟩, h4⟩, h5⟩ := h
      refine ⟨h1, h2, h3, fun k hk => ?_, ?_⟩
      · subst hk
        split at h4
        · rename_i k1 k2 e1 e2; cases e1; simp at h4; subst h4; exact e2
        · cases h4
        · rename_i hno _; exact absurd rfl (hno _)
      · split at h5
        · rename_i z hz
          simp only [Bool.and_eq_true, beq_iff_eq] at h5
          obtain ⟨h6, h7⟩ := h5
          refine ⟨z, hz, h6, fun M => ?_⟩
          obtain ⟨l1, e1, e2, e3⟩ := zeroB_sound (M := M) (isNil_eq h7)
          simp only [List.append_nil] at e1
          rw [e1]; exact e3
        · cases h5
    · cases h
  · rename_i n e n' e' hu
    simp only [Bool.and_eq_true, beq_iff_eq] at h
    obtain ⟨⟨rfl, rfl⟩, h⟩ := h
    exact ⟨hu, Option.isSome_iff_exists.1 h⟩
  · rename_i e e' hu; simp at h; subst h; exact hu
  · rename_i k e ty k' e' hu
    simp only [Bool.and_eq_true, beq_iff_eq] at h
    obtain ⟨⟨rfl, rfl⟩, h⟩ := h
    refine ⟨hu, fun ks T hT => ?_⟩
    subst hT
    simp only [Bool.and_eq_true] at h
    obtain ⟨h1, h2⟩ := h
    refine ⟨?_, ?_⟩
    · split at h1
      · rename_i h3; simp at h1; subst h1; exact h3
      · rename_i h3; exact h3
      · cases h1
    · split at h2 <;> (try cases h2)
      rename_i g hg
      split at h2 <;> (try cases h2)
      · rename_i cs hz
        simp only [Bool.and_eq_true, beq_iff_eq] at h2
        obtain ⟨⟨h3, h4⟩, h5⟩ := h2
        refine ⟨g, _, hg, hz, fun M => ?_⟩
        obtain ⟨l1, e1, e2, e3⟩ := zeroB_sound (M := M) (isNil_eq h5)
        simp only [List.append_nil] at e1
        refine ⟨cs.toList, by simpa using h4, e1 ▸ e3, ?_⟩
        rw [h3]
      · rename_i z _ hz
        simp only [Bool.and_eq_true, beq_iff_eq, Bool.not_eq_true'] at h2
        obtain ⟨⟨h3, h4⟩, h5⟩ := h2
        refine ⟨g, _, hg, hz, fun M => ?_⟩
        obtain ⟨l1, e1, e2, e3⟩ := zeroB_sound (M := M) (isNil_eq h5)
        simp only [List.append_nil] at e1
        refine ⟨[z], by simpa using h4.symm, e1 ▸ e3, ?_⟩
        rw [h3]
  · cases h

/-! ### types whose values are compared cell by cell -/
def isIntT (P : Program) (t : TypeId) : Bool := match P.underlying t with
  | some (.int _) => true
  | _ => false
def intFs (P : Program) : Nat → List Field → Bool
  | _, [] => true
  | j, f :: r => f.name != "_" && f.offset == j && isIntT P f.type && intFs P (j + 1) r
def eqB (P : Program) (t : TypeId) (n : Nat) : Bool := match P.underlying t with
  | some (.struct fs) => !P.stoodInHeld t && !P.eqGuardType P.depth t && intFs P 0 fs.toList && fs.size == n
  | some (.array m e) => !P.eqGuardType P.depth t && isIntT P e && (P.info? e).isSome && P.cellsOf e == 1 && m == n
  | _ => false
theorem isIntT_sound {t : TypeId} (h : isIntT P t = true) : ∃ k, P.underlying t = some (.int k) := by
  unfold isIntT at h
  split at h
  · rename_i k hk; exact ⟨k, hk⟩
  · cases h
theorem part_int {e : TypeId} (he : isIntT P e = true) {xs : Array Value} {off : Nat} {v : Value} (hx : xs[off]? = some v) (w : World) : (part e xs off).run P w = .ok v w := by
  obtain ⟨k, hk⟩ := isIntT_sound he
  unfold part
  rw [Sem.run_bind]
  have h1 : (isAgg e).run P w = .ok false w := by simp [isAgg, run_underlying hk]
  rw [h1]
  simp only [Result.andThen, Bool.false_eq_true, if_false, hx]
  rfl
theorem eqFields_int (d : Nat) (w : World) (xs ys : Array Value) : ∀ (fs : List Field) (j : Nat) (vs us : List Value), intFs P j fs = true → fs.length = vs.length → All2 (fun v u => ∃ k a b, v = .int k a ∧ u = .int k b) vs us → (∀ i v, vs[i]? = some v → xs[j + i]? = some v) → (∀ i v, us[i]? = some v → ys[j + i]? = some v) →
    (Op.eqFields (d + 1) xs ys fs).run P w = .ok (eqVs vs us) w
  | [], j, vs, us, _, hl, h2, _, _ => by
    cases h2 with
    | nil => simp [Op.eqFields, eqVs]
    | cons _ _ => simp at hl
  | f :: fs, j, vs, us, hf, hl, h2, hx, hy => by
    cases h2 with
    | nil => simp at hl
    | @cons v u vs us h h2 =>
      obtain ⟨k, a, b, rfl, rfl⟩ := h
      simp only [intFs, Bool.and_eq_true, bne_iff_ne, ne_eq, beq_iff_eq] at hf
      obtain ⟨⟨⟨f1, f2⟩, f3⟩, f4⟩ := hf
      have e1 := part_int (P := P) f3 (hx 0 _ rfl) w
      have e2 := part_int (P := P) f3 (hy 0 _ rfl) w
      obtain ⟨k', hk'⟩ := isIntT_sound f3
      have e3 := run_equalIn_int (P := P) w d f.type k k' a b hk'
      have ih := eqFields_int d w xs ys fs (j + 1) vs us f4 (by simpa using hl) h2 (fun i v hi => by rw [show j + 1 + i = j + (i + 1) by omega]; exact hx (i + 1) v (by simpa using hi)) (fun i v hi => by rw [show j + 1 + i = j + (i + 1) by omega]; exact hy (i + 1) v (by simpa using hi))
      rw [Nat.add_zero] at e1 e2
      subst f2
      simp only [Op.eqFields, f1, ne_eq, not_false_eq_true, if_true, Sem.run_bind, e1, e2, e3, Result.andThen_ok]
      by_cases hab : a = b
      · subst hab
        simp only [beq_self_eq_true, Bool.not_true, Bool.false_eq_true, if_false, eqVs, Bool.true_and]
        exact ih
      · have : (a == b) = false := by simpa using hab
        simp [this, eqVs]
theorem eqItems_int (d : Nat) (w : World) {e : TypeId} (he : isIntT P e = true) (xs ys : Array Value) : ∀ (n j : Nat) (vs us : List Value), n = vs.length → All2 (fun v u => ∃ k a b, v = .int k a ∧ u = .int k b) vs us → (∀ i v, vs[i]? = some v → xs[j + i]? = some v) → (∀ i v, us[i]? = some v → ys[j + i]? = some v) →
    (Op.eqItems (d + 1) e 1 xs ys (List.range' j n)).run P w = .ok (eqVs vs us) w
  | 0, j, vs, us, hl, h2, _, _ => by
    cases h2 with
    | nil => simp [Op.eqItems, eqVs]
    | cons _ _ => simp at hl
  | n + 1, j, vs, us, hl, h2, hx, hy => by
    cases h2 with
    | nil => simp at hl
    | @cons v u vs us h h2 =>
      obtain ⟨k, a, b, rfl, rfl⟩ := h
      have e1 := part_int (P := P) he (hx 0 _ rfl) w
      have e2 := part_int (P := P) he (hy 0 _ rfl) w
      obtain ⟨k', hk'⟩ := isIntT_sound he
      have e3 := run_equalIn_int (P := P) w d e k k' a b hk'
      have ih := eqItems_int d w he xs ys n (j + 1) vs us (by simpa using hl) h2 (fun i v hi => by rw [show j + 1 + i = j + (i + 1) by omega]; exact hx (i + 1) v (by simpa using hi)) (fun i v hi => by rw [show j + 1 + i = j + (i + 1) by omega]; exact hy (i + 1) v (by simpa using hi))
      rw [Nat.add_zero] at e1 e2
      simp only [List.range'_succ, Op.eqItems, Nat.mul_one, Sem.run_bind, e1, e2, e3, Result.andThen_ok]
      by_cases hab : a = b
      · subst hab
        simp only [beq_self_eq_true, Bool.not_true, Bool.false_eq_true, if_false, eqVs, Bool.true_and]
        exact ih
      · have : (a == b) = false := by simpa using hab
        simp [this, eqVs]
theorem eqB_sound {t : TypeId} {n : Nat} (h : eqB P t n = true) : EqOk P t n := by
  unfold eqB at h
  split at h
  · rename_i fs hu
    simp only [Bool.and_eq_true, Bool.not_eq_true', beq_iff_eq] at h
    obtain ⟨⟨⟨h1, h2⟩, h3⟩, h4⟩ := h
    refine ⟨h2, fun w vs us hl h5 => ?_⟩
    have hf : P.fieldsOf t = fs := by simp [Program.fieldsOf, hu]
    rw [run_equalIn_struct w 9999 t _ _ (by rw [hf]; exact hu) h1, hf]
    exact eqFields_int 9998 w _ _ fs.toList 0 vs us h3 (by simp [h4, hl]) h5 (fun i v hi => by simpa using hi) (fun i v hi => by simpa using hi)
  · rename_i m e hu
    simp only [Bool.and_eq_true, Bool.not_eq_true', beq_iff_eq] at h
    obtain ⟨⟨⟨⟨h1, h2⟩, h3⟩, h4⟩, rfl⟩ := h
    obtain ⟨i, hi⟩ := Option.isSome_iff_exists.1 h3
    refine ⟨h1, fun w vs us hl h5 => ?_⟩
    rw [run_equalIn_array w 9999 _ _ hu hi, h4, List.range_eq_range']
    exact eqItems_int 9998 w h2 _ _ m 0 vs us hl.symm h5 (fun i v hi => by simpa using hi) (fun i v hi => by simpa using hi)
  · cases h

def tiB (P : Program) (p : Nat × TI) : Bool := (p.2.bytes == 0 || eqB P p.1 p.2.size) && kindB P p.1 p.2.kind && (match P.info? p.1 with | some f => f.size == p.2.size && f.zero.isSome | none => false)
def zeroP (P : Program) (t : TypeId) : List SV1 := match P.info? t with
  | some f => (match f.zero with | some z => z.cells.toList.map ofLit1 | none => [])
  | none => []

theorem look_mem {α : Type} : ∀ {l : List (Nat × α)} {t : Nat} {x : α}, look l t = some x → (t, x) ∈ l
  | [], t, x, h => by cases h
  | (k, y) :: r, t, x, h => by
    rw [look_cons] at h
    split at h
    · rename_i e; cases h; subst e; simp
    · exact List.mem_cons_of_mem _ (look_mem h)

theorem map_eq_mem {α β : Type} {f g : α → β} : ∀ {l : List α}, l.map f = l.map g → ∀ x ∈ l, f x = g x
  | [], _, x, h => by cases h
  | y :: r, h, x, hx => by
    simp only [List.map_cons, List.cons.injEq] at h
    rcases List.mem_cons.1 hx with rfl | hx
    · exact h.1
    · exact map_eq_mem h.2 x hx

theorem tiOk_of {ti : List (Nat × TI)} (h : ti.all (tiB P) = true) (hz : ti.map (fun p => zeroP P p.1) = ti.map fun p => p.2.zero) : TIok P ti := by
  intro t i hl
  have hm := look_mem hl
  have h1 := List.all_eq_true.1 h _ hm
  have h2 := map_eq_mem hz _ hm
  unfold tiB at h1
  simp only [Bool.and_eq_true] at h1
  obtain ⟨⟨h0, h3⟩, h4⟩ := h1
  refine ⟨?_, kindB_sound h3, fun hb => ?_⟩
  rotate_left 1
  · simp only [Bool.or_eq_true, beq_iff_eq] at h0
    rcases h0 with h0 | h0
    · omega
    · exact eqB_sound h0
  split at h4
  · rename_i f hf
    simp only [Bool.and_eq_true, beq_iff_eq] at h4
    obtain ⟨z, hz2⟩ := Option.isSome_iff_exists.1 h4.2
    refine ⟨f, hf, h4.1, z, hz2, ?_⟩
    dsimp only at h2
    rw [← h2]
    unfold zeroP
    rw [hf]
    dsimp only
    rw [hz2]
  · cases h4

end Go.Sx

/-
  Symbolic execution: a method of an object.
-/
namespace Go.Sx
set_option linter.all false
set_option linter.unusedVariables false
set_option linter.unusedSimpArgs false
set_option linter.unusedSectionVars false
open Go.RowKit

variable {A : Type} {G : Fr} {s : SS A} {ρ : Ev} {a : Act} {w : World} {P : Program} {lay : A → List (Chunk A)} {tq : TabQ}

/-- The object (its parts are l) that is chunk 0 opened: its parts behind the others. -/
def openObj (l : List (Chunk A)) (rest : List (Chunk A)) : List (Chunk A) := match place 0 (rest.length + 1) with
  | f => renC f (getC l 0) :: (rest ++ l.tail.map (renC f))
/-- The object closed again. -/
def shutObj (x : A) (k : Nat) (rest news : List (Chunk A)) : List (Chunk A) := .abs x :: (rest ++ (List.replicate k .gone ++ news))

theorem getC_cons_succ (c : Chunk A) (l : List (Chunk A)) (i : Nat) : getC (c :: l) (i + 1) = getC l i := rfl
theorem getC_app_left {l m : List (Chunk A)} {i : Nat} (h : i < l.length) : getC (l ++ m) i = getC l i := by
  unfold getC; rw [nth_eq, nth_eq, List.getElem?_append_left h]
theorem getC_app_right {l m : List (Chunk A)} {i : Nat} (h : l.length ≤ i) : getC (l ++ m) i = getC m (i - l.length) := by
  unfold getC; rw [nth_eq, nth_eq, List.getElem?_append_right h]
theorem getC_map {f : Chunk A → Chunk A} (hf : f .emp = .emp) (l : List (Chunk A)) (i : Nat) : getC (l.map f) i = f (getC l i) := by
  unfold getC; rw [nth_eq, nth_eq, List.getElem?_map]; cases l[i]? <;> simp [hf]
theorem getC_tail (l : List (Chunk A)) (i : Nat) : getC l.tail i = getC l (i + 1) := by
  cases l with
  | nil => rfl
  | cons c r => rfl

theorem openObj_part {l rest news : List (Chunk A)} {j : Nat} (hj : j < l.length) : getC (openObj l rest ++ news) (place 0 (rest.length + 1) j) = renC (place 0 (rest.length + 1)) (getC l j) := by
  cases j with
  | zero => rfl
  | succ j =>
    have hl : (openObj l rest).length = rest.length + 1 + l.tail.length := by simp [openObj]; omega
    rw [getC_app_left (by rw [hl]; simp [place]; omega)]
    show getC (renC _ (getC l 0) :: (rest ++ l.tail.map _)) (rest.length + 1 + j) = _
    rw [show rest.length + 1 + j = (rest.length + j) + 1 by omega, getC_cons_succ, getC_app_right (by omega), show rest.length + j - rest.length = j by omega, getC_map rfl, getC_tail]

theorem openObj_other {l rest news : List (Chunk A)} (hpos : 0 < l.length) {k : Nat} (hk : ∀ j, j < l.length → k ≠ place 0 (rest.length + 1) j) : getC (openObj l rest ++ news) k = if k < rest.length + 1 then getC rest (k - 1) else getC news (k - (rest.length + l.length)) := by
  have hl : (openObj l rest).length = rest.length + l.length := by simp [openObj]; omega
  cases k with
  | zero => exact absurd rfl (hk 0 hpos)
  | succ k =>
    split
    · rename_i h
      rw [getC_app_left (by rw [hl]; omega)]
      show getC (renC _ (getC l 0) :: (rest ++ l.tail.map _)) (k + 1) = _
      rw [getC_cons_succ, getC_app_left (by omega)]; rfl
    · rename_i h
      have h1 : rest.length + l.length ≤ k + 1 := by
        rcases Nat.lt_or_ge (k + 1) (rest.length + l.length) with h2 | h2
        · exact absurd (show k + 1 = place 0 (rest.length + 1) (k + 1 - rest.length) by rw [show k + 1 - rest.length = (k - rest.length) + 1 by omega]; simp [place]; omega) (hk _ (by omega))
        · exact h2
      rw [getC_app_right (by rw [hl]; exact h1), hl]

/-- Chunks that name no others. -/
def flatC : Chunk A → Bool
  | .cells _ _ => false
  | .rmap _ _ _ _ _ _ => false
  | _ => true

theorem Holds.drop {AI : Abs A} {tm : List (Nat × SV)} {H H1 : List (Chunk A)} {tmps : Array Value} (h : Holds AI G ⟨tm, H⟩ ρ tmps w) (hn : G.n0 ≤ H1.length) (hH : ∀ i, i < H1.length → getC H1 i = getC H i) (hf : H1.all flatC = true) : Holds AI G ⟨[], H1⟩ (ρ.trim H1.length) tmps w := by
  have hfoot : ∀ i b, b ∈ (ρ.trim H1.length).foot i → b ∈ ρ.foot i := by
    intro i b hb
    simp only [Ev.trim] at hb
    split at hb
    · exact hb
    · cases hb
  refine ⟨h.sz, h.gt, (fun t v ht => by cases ht), fun i => ?_, fun i j b hij hi hj => h.dis i j b hij (hfoot i b hi) (hfoot j b hj), fun i b hb => h.lt i b (hfoot i b hb), fun b o v hm => ⟨(h.im b o v hm).1, fun i hb => (h.im b o v hm).2 i (hfoot i b hb)⟩,
    h.os, h.tape, h.output, h.grow, h.kept, fun i b hb => h.fro i b (hfoot i b hb), fun i b hi hb => ?_, fun i hi => ?_, h.mono, h.mfr⟩
  · show HoldsC AI _ w i (getC H1 i)
    by_cases hi : i < H1.length
    · have hc := h.ch i
      have e1 := hH i hi
      have hc : HoldsC AI ρ w i (getC H i) := hc
      rw [← e1] at hc
      have hfl : flatC (getC H1 i) = true := by
        have : getC H1 i = H1[i] := by unfold getC; rw [nth_eq, List.getElem?_eq_getElem hi]
        rw [this]; exact List.all_eq_true.1 hf _ (List.getElem_mem hi)
      cases hg : getC H1 i with
      | emp => rw [hg] at hc; simp only [HoldsC, Ev.trim, if_pos hi] at hc ⊢; exact hc
      | gone => trivial
      | cells t cs => rw [hg] at hfl; cases hfl
      | row t e v L => rw [hg] at hc; simp only [HoldsC, Ev.trim, if_pos hi] at hc ⊢; exact hc
      | map ks e L => rw [hg] at hc; simp only [HoldsC, Ev.trim, if_pos hi] at hc ⊢; exact hc
      | rmap ks e L R c j => rw [hg] at hfl; cases hfl
      | itp q => rw [hg] at hc; simp only [HoldsC, Ev.trim, if_pos hi] at hc ⊢; exact hc
      | abs x => rw [hg] at hc; simp only [HoldsC, Ev.trim, if_pos hi] at hc ⊢; exact hc
    · rw [getC_beyond (by omega)]
      simp [HoldsC, Ev.trim, hi]
  · have : i < H1.length := by omega
    simp only [Ev.trim, if_pos this]; exact h.rt i b hi hb
  · have : i < H1.length := by omega
    simp only [Ev.trim, if_pos this]; exact h.rts i hi

def closed2 : SV2 → Bool
  | .one x => closed1 x
  | .agg l => l.all closed1
  | .fn _ l => l.all closed1
def closedV : SV → Bool
  | .val x => closed2 x
  | .tup l => l.all closed2

theorem closed1s_den {ρ ρ' : Ev} (hM : ρ'.M = ρ.M) {l : List SV1} {vs : List Value} (hl : l.all closed1 = true) (h : All2 (Den1 ρ) l vs) : All2 (Den1 ρ') l vs := by
  induction h with
  | nil => exact .nil
  | cons h1 _ ih =>
    simp only [List.all_cons, Bool.and_eq_true] at hl
    exact .cons ((closed1_den hM hl.1).2 h1) (ih hl.2)
theorem closed2_den {ρ ρ' : Ev} (hM : ρ'.M = ρ.M) {x : SV2} {u : Value} (hx : closed2 x = true) (h : Den2 ρ x u) : Den2 ρ' x u := by
  cases x with
  | one x => exact (closed1_den hM hx).2 h
  | agg l => obtain ⟨vs, h1, h2⟩ := h; exact ⟨vs, h1, closed1s_den hM hx h2⟩
  | fn f l => obtain ⟨vs, h1, h2⟩ := h; exact ⟨vs, h1, closed1s_den hM hx h2⟩
theorem closed2s_den {ρ ρ' : Ev} (hM : ρ'.M = ρ.M) {l : List SV2} {vs : List Value} (hl : l.all closed2 = true) (h : All2 (Den2 ρ) l vs) : All2 (Den2 ρ') l vs := by
  induction h with
  | nil => exact .nil
  | cons h1 _ ih =>
    simp only [List.all_cons, Bool.and_eq_true] at hl
    exact .cons (closed2_den hM hl.1 h1) (ih hl.2)
theorem closedV_den {ρ ρ' : Ev} (hM : ρ'.M = ρ.M) {v : SV} {u : Value} (hv : closedV v = true) (h : Den ρ v u) : Den ρ' v u := by
  cases v with
  | val x => exact closed2_den hM hv h
  | tup l =>
    obtain ⟨vs, h1, h2⟩ := h
    refine ⟨vs, h1, ?_⟩
    clear h1
    exact closed2s_den hM hv h2

theorem Holds.close_obj {x' : A} {rest' : List (Chunk A)} {tmps : Array Value} (hl' : LayOk (lay x')) (hflat : rest'.all flatC = true) (hn : G.n0 ≤ rest'.length + 1) (h : Holds (absOf lay tq) G ⟨[], openObj (lay x') rest'⟩ ρ tmps w) :
    ∃ ρ', Holds (absOf lay tq) G ⟨[], .abs x' :: rest'⟩ ρ' tmps w ∧ ρ'.M = ρ.M ∧ ρ'.root 0 = ρ.root 0 := by
  obtain ⟨ρ2, h2, e1, e2, e3⟩ := h.close_ (i := 0) (base := rest'.length + 1) (x := x') (by omega) hl' (fun j hj => by have := openObj_part (rest := rest') (news := []) hj; simpa using this)
    (H' := shutObj x' ((lay x').length - 1) rest' []) rfl (fun j h0 hj => by
      cases j with
      | zero => omega
      | succ j =>
        show getC (.abs x' :: (rest' ++ (List.replicate _ .gone ++ []))) (rest'.length + 1 + j) = .gone
        rw [show rest'.length + 1 + j = (rest'.length + j) + 1 by omega, getC_cons_succ, getC_app_right (by omega), List.append_nil]
        unfold getC
        rw [nth_eq, List.getElem?_replicate, if_pos (by omega)]) (fun k hk => by
      have := openObj_other (news := []) hl'.pos hk
      rw [List.append_nil] at this
      show getC (.abs x' :: (rest' ++ (List.replicate _ .gone ++ []))) k = getC (openObj (lay x') rest') k
      rw [this]
      cases k with
      | zero => exact absurd rfl (hk 0 hl'.pos)
      | succ k =>
        rw [getC_cons_succ]
        split
        · rename_i hlt; rw [getC_app_left (by omega)]; rfl
        · rename_i hlt
          rw [getC_beyond (show ([] : List (Chunk A)).length ≤ _ by simp), getC_beyond]
          have h1 : rest'.length + (lay x').length ≤ k + 1 := by
            rcases Nat.lt_or_ge (k + 1) (rest'.length + (lay x').length) with h2 | h2
            · exact absurd (show k + 1 = place 0 (rest'.length + 1) (k + 1 - rest'.length) by rw [show k + 1 - rest'.length = (k - rest'.length) + 1 by omega]; simp [place]; omega) (hk _ (by omega))
            · exact h2
          have := hl'.pos
          simp; omega)
  have h3 := h2.drop (H1 := .abs x' :: rest') (by simpa using hn) (fun i hi => by
    cases i with
    | zero => rfl
    | succ i =>
      simp only [List.length_cons] at hi
      show getC rest' i = getC (rest' ++ _) i
      rw [getC_app_left (by omega)]) (by simp only [List.all_cons, hflat, Bool.and_true]; rfl)
  exact ⟨_, h3, e3, by simp [Ev.trim, e1]⟩

/-- A method of the object that is chunk 0: nothing new is left behind. -/
theorem tmpl_obj [SubA A] {E : Env A} (hE : EnvOk P (absOf lay tq) E) (hm : P.follows .mixedOrders = true) {f : FuncId} {fn : Func} {c : Code} (hf : P.funcs[f]? = some fn) (hb : fn.body = some c) (hok : codeOk fn.ntmps c = true) {args : List SV} (hargs : args.length ≤ fn.ntmps)
    {x x' : A} {rest rest' : List (Chunk A)} (hl : LayOk (lay x)) (hl' : LayOk (lay x')) (hrl : rest'.length = rest.length) (hflat : rest'.all flatC = true) {v : SV} (hv : closedV v = true)
    (h : svc E (rest.length + 1) c ⟨argT 0 args, openObj (lay x) rest⟩ (finP E.ti (rest.length + 1) fn.results.toList v (openObj (lay x') rest'))) :
    TmplOk P (absOf lay tq) f args (.abs x :: rest) v (.abs x' :: rest') := by
  intro G ρ w us hG hsz hh hd
  simp only [List.length_cons] at hG
  obtain ⟨ρ1, h1, le1⟩ := hh.open_ (i := 0) (base := rest.length + 1) (x := x) rfl (by omega) (fun k hk => getC_beyond (by simpa using hk)) hl (H' := openObj (lay x) rest)
    (fun j hj => by have := openObj_part (rest := rest) (news := []) hj; simpa using this) (fun k hk => by
      have := openObj_other (news := []) hl.pos hk
      rw [List.append_nil] at this
      rw [this]
      split
      · rename_i hlt
        cases k with
        | zero => exact absurd rfl (hk 0 hl.pos)
        | succ k => rfl
      · rename_i hlt
        rw [getC_beyond (show ([] : List (Chunk A)).length ≤ _ by simp), getC_beyond (by simp; omega)])
  refine (body_ok hE hm hf hb hok hargs h hG hsz h1 (hd.mono fun _ _ => Den.mono le1)).mono ?_
  rintro e w' ⟨y, ρ2, rfl, h2, h3⟩
  obtain ⟨ρ3, h4, h5, _⟩ := h2.close_obj hl' hflat (by omega)
  exact ⟨y, ρ3, rfl, h4, closedV_den h5 hv h3⟩

end Go.Sx

/-
  Symbolic execution: contracts of functions whose arguments and results are data.
-/
namespace Go.Sx
set_option linter.all false
set_option linter.unusedVariables false
set_option linter.unusedSimpArgs false
set_option linter.unusedSectionVars false
open Go.RowKit

variable {A : Type} {AI : Abs A} {G : Fr} {s : SS A} {ρ : Ev} {a : Act} {w : World} {P : Program}

/-- What an argument or a result is, seen as data. -/
inductive DT where
  | cell (e : Ty)
  | lst (e : Ty)
abbrev DT.T : DT → Type
  | .cell e => e.T
  | .lst e => List e.T
def DT.sv : (d : DT) → U d.T → SV2
  | .cell e, x => (match elV e x with | some y => y | none => .one .any)
  | .lst e, L => .one (.ro e L)
def DT.of : (d : DT) → SV → Option (U d.T)
  | .cell e, v => (match aggV v == e.agg with | true => velt e v | false => none)
  | .lst e, .val (.one (.ro e' L)) => (match castL e' e with | some f => some (fun _ => f (L ())) | none => none)
  | .lst _, .val (.one .nilS) => some (fun _ => [])
  | _, _ => none
abbrev Tup : List DT → Type
  | [] => Unit
  | d :: r => d.T × Tup r
def svs : (ds : List DT) → U (Tup ds) → List SV2
  | [], _ => []
  | d :: r, x => d.sv (fun _ => (x ()).1) :: svs r (fun _ => (x ()).2)
def ofs : (ds : List DT) → List SV → Option (U (Tup ds))
  | [], [] => some (fun _ => ())
  | d :: r, v :: vs => (match d.of v with
    | some x => (match ofs r vs with
      | some y => some (fun _ => (x (), y ()))
      | none => none)
    | none => none)
  | _, _ => none
def argS (ds : List DT) (x : U (Tup ds)) : List SV := (svs ds x).map .val

theorem dec_closed : ∀ (e : Ty) (x : U e.T), (dec e x).all closed1 = true
  | .int _, _ => rfl
  | .bool, _ => rfl
  | .bytes, _ => rfl
  | .lst _, _ => rfl
  | .str, _ => rfl
  | .unit, _ => rfl
  | .pair a b, x => by simp only [dec, List.all_append, dec_closed a, dec_closed b]; rfl
theorem elV_closed {e : Ty} {x : U e.T} {y : SV2} (h : elV e x = some y) : closed2 y = true := by
  have hc := dec_closed e x
  unfold elV at h
  split at h
  · cases h; exact hc
  · split at h
    · rename_i z hz; cases h; rw [hz] at hc; simp only [List.all_cons, List.all_nil, Bool.and_true] at hc; exact hc
    · cases h
theorem DT.sv_closed : ∀ (d : DT) (x : U d.T), closed2 (d.sv x) = true
  | .cell e, x => by
    simp only [DT.sv]
    split
    · rename_i y hy; exact elV_closed hy
    · rfl
  | .lst e, x => rfl
theorem svs_closed : ∀ (ds : List DT) (x : U (Tup ds)), (svs ds x).all closed2 = true
  | [], _ => rfl
  | d :: r, x => by simp only [svs, List.all_cons, DT.sv_closed, svs_closed r]; rfl

theorem DT.of_den {d : DT} {v : SV} {x : U d.T} (h : d.of v = some x) {u : Value} (hu : Den ρ v u) : Den2 ρ (d.sv x) u := by
  unfold DT.of at h
  split at h
  · split at h <;> (try cases h)
    rename_i hb
    have hv := velt_den (ρ := ρ) h (by simpa using hb) hu
    simp only [DT.sv]
    split
    · rename_i y hy; exact elV_den hy hv
    · trivial
  · split at h <;> cases h
    rename_i f hf
    obtain ⟨rfl, h1⟩ := castL_id hf
    have hu : ShowsM ρ.M _ _ u := hu
    show ShowsM ρ.M _ _ u
    dsimp only
    rw [h1]; exact hu
  · cases h
    have hu : u = .slice none 0 0 := hu
    subst hu
    exact ⟨none, 0, rfl, by simp, by simp⟩
  · cases h
theorem ofs_den : ∀ {ds : List DT} {vs : List SV} {x : U (Tup ds)} {us : List Value}, ofs ds vs = some x → All2 (Den ρ) vs us → All2 (Den2 ρ) (svs ds x) us
  | [], [], x, us, h, hu => by cases hu; exact .nil
  | d :: r, v :: vs, x, us, h, hu => by
    simp only [ofs] at h
    split at h <;> (try cases h)
    rename_i x1 h1
    split at h <;> cases h
    rename_i y h2
    cases hu with
    | cons h3 h4 => exact .cons (DT.of_den h1 h3) (ofs_den h2 h4)
  | [], _ :: _, _, _, h, _ => by cases h
  | _ :: _, [], _, _, h, _ => by cases h

theorem argS_den {ds : List DT} {x : U (Tup ds)} {us : List Value} (h : All2 (Den2 ρ) (svs ds x) us) {ρ' : Ev} (hM : ρ'.M = ρ.M) : All2 (Den ρ') (argS ds x) us := by
  have h1 := closed2s_den hM (svs_closed ds x) h
  unfold argS
  generalize svs ds x = l at h1
  clear h
  induction h1 with
  | nil => exact .nil
  | cons h2 _ ih => exact .cons h2 ih

/-- The run of a call enters the function. -/
def Enters (P : Program) (f : FuncId) : Prop := ∀ args w, (callFunc f args).run P w = .ok (.enter f args) w

/-! ### functions of data -/
structure PureSpec where
  ds : List DT
  pre : Tup ds → Prop
  rs : List DT
  f : Tup ds → Tup rs

def PureSpec.con (k : PureSpec) : Con A := fun args _ => match ofs k.ds args with
  | some x => some ⟨[], 0, false, fun _ _ => .done (fun _ => k.pre (x ())) (resOf (svs k.rs (fun _ => k.f (x ())))) []⟩
  | none => none

def PureSpec.Ok (P : Program) (AI : Abs A) (fn : FuncId) (k : PureSpec) : Prop :=
  ∀ x, k.pre x → TmplOk P AI fn (argS k.ds (fun _ => x)) [] (resOf (svs k.rs (fun _ => k.f x))) []

theorem resOf_closed {l : List SV2} (h : l.all closed2 = true) : closedV (resOf l) = true := by
  unfold resOf
  split
  · simp only [List.all_cons, List.all_nil, Bool.and_true] at h; exact h
  · exact h

theorem PureSpec.sound {fn : FuncId} {k : PureSpec} (hen : Enters P fn) (hk : k.Ok P AI fn) : ConSound P AI fn k.con := by
  refine ⟨hen, fun args fresh p hp _ H d C v cs he => ?_, fun G s ρ tmps w args us fresh p d C v cs h hargs hp hfr he hC => ?_⟩
  · unfold PureSpec.con at hp
    split at hp <;> cases hp
    simp at he
    simp [getCs, he]
  · unfold PureSpec.con at hp
    split at hp <;> cases hp
    rename_i x hx
    simp at he
    obtain ⟨rfl, rfl, rfl⟩ := he
    have hd := ofs_den hx hargs
    refine (frame_call (hk (x ()) hC) (s := s) (H' := s.H) (ids := []) (news := []) h (by simp) rfl (by simp) (by simp) (by simp) (fun _ _ => rfl) (us := us) (fun ρc hM _ => argS_den hd hM)
      (v := resOf (svs k.rs (fun _ => k.f (x ())))) (fun ρc ρ' hM _ _ y hy => closedV_den hM (resOf_closed (svs_closed _ _)) hy)).mono ?_
    rintro e w' ⟨y, ρ', rfl, h1, h2, h3⟩
    exact ⟨y, ρ', rfl, h1, h2, h3⟩

/-! ### methods -/
structure MethSpec (A : Type) where
  S : Type
  sel : A → Option (U S)
  put : U S → A
  ro : Bool                       -- leaves the object as it is
  ds : List DT
  pre : S → Tup ds → Prop
  rs : List DT
  f : S → Tup ds → Tup rs
  next : S → Tup ds → S

def MethSpec.con (k : MethSpec A) : Con A := fun args _ => match args with
  | .val (.one (.ptr i 0)) :: args => (match ofs k.ds args with
    | some x => some ⟨[i], 0, !k.ro, fun cs _ => match cs with
      | [.abs a] => (match k.sel a with
        | some W => (match k.ro with
          | true => .done (fun _ => k.pre (W ()) (x ())) (resOf (svs k.rs (fun _ => k.f (W ()) (x ())))) [.abs a]
          | false => .done (fun _ => k.pre (W ()) (x ())) (resOf (svs k.rs (fun _ => k.f (W ()) (x ())))) [.abs (k.put (fun _ => k.next (W ()) (x ())))])
        | none => .fail)
      | _ => .fail⟩
    | none => none)
  | _ => none

structure MethSpec.Ok (P : Program) (AI : Abs A) (fn : FuncId) (k : MethSpec A) : Prop where
  sel : ∀ a W, k.sel a = some W → a = k.put (fun _ => W ())
  ro : k.ro = true → ∀ W x, k.next W x = W
  ok : ∀ W x, k.pre W x → TmplOk P AI fn (one (.ptr 0 0) :: argS k.ds (fun _ => x)) [.abs (k.put (fun _ => W))] (resOf (svs k.rs (fun _ => k.f W x))) [.abs (k.put (fun _ => k.next W x))]

theorem MethSpec.sound {fn : FuncId} {k : MethSpec A} (hen : Enters P fn) (hk : k.Ok P AI fn) : ConSound P AI fn k.con := by
  refine ⟨hen, fun args fresh p hp hw H d C v cs he => ?_, fun G s ρ tmps w args us fresh p d C v cs h hargs hp hfr he hC => ?_⟩
  · unfold MethSpec.con at hp
    split at hp <;> (try cases hp)
    split at hp <;> cases hp
    simp at hw
    simp only [getCs, hw] at he ⊢
    split at he <;> (try (simp at he; done))
    rename_i a heq
    split at he <;> (try (simp at he; done))
    simp at he
    rw [← he.2.2, heq]
  · unfold MethSpec.con at hp
    split at hp <;> (try cases hp)
    rename_i i args
    split at hp <;> cases hp
    rename_i x hx
    simp only [getCs] at he
    generalize hg : getC s.H i = c at he
    cases c <;> (try (simp at he; done))
    rename_i a
    dsimp only at he
    split at he <;> (try (simp at he; done))
    rename_i W hW
    have ha := hk.sel a W hW
    obtain ⟨rfl, rfl, hcs⟩ : C = (fun _ => k.pre (W ()) (x ())) ∧ v = resOf (svs k.rs (fun _ => k.f (W ()) (x ()))) ∧ cs = [.abs (k.put (fun _ => k.next (W ()) (x ())))] := by
      split at he
      · rename_i hro
        simp at he
        obtain ⟨rfl, rfl, rfl⟩ := he
        refine ⟨rfl, rfl, ?_⟩
        rw [hk.ro hro, ← ha]
      · simp at he
        obtain ⟨rfl, rfl, rfl⟩ := he
        exact ⟨rfl, rfl, rfl⟩
    subst hcs
    cases hargs with
    | @cons _ u _ us hu hargs =>
    have hd := ofs_den hx hargs
    obtain ⟨b, hb1, hb2⟩ := hu
    refine (frame_call (hk.ok (W ()) (x ()) hC) (s := s) (H' := putC s.H i (.abs (k.put (fun _ => k.next (W ()) (x ()))))) (ids := [i]) (news := []) h (by simp) rfl (by simp) (fun j i' hj => ?_) (by simp) (fun i' hi' => by
        rw [getC_putC, if_neg (by simpa using hi')]) (us := u :: us) (fun ρc hM hr => ?_)
      (v := resOf (svs k.rs (fun _ => k.f (W ()) (x ())))) (fun ρc ρ' hM _ _ y hy => closedV_den hM (resOf_closed (svs_closed _ _)) hy)).mono ?_
    · cases j with
      | zero =>
        simp at hj
        subst hj
        exact .inl ⟨a, _, hg, by rw [getC_putC, if_pos rfl], by rw [ha]; rfl, rfl⟩
      | succ j => simp at hj
    · refine .cons ?_ (argS_den hd hM)
      obtain ⟨h1, h2⟩ := hr 0 i rfl
      exact ⟨b, by rw [h1]; exact hb1, hb2⟩
    · rintro e w' ⟨y, ρ', rfl, h1, h2, h3⟩
      exact ⟨y, ρ', rfl, h1, h2, h3⟩

/-! ### constructors -/
structure NewSpec (A : Type) where
  ds : List DT
  c : Tup ds → Bool
  rs : List DT
  f : Tup ds → Tup rs
  put : U (Tup ds) → A

def NewSpec.con (k : NewSpec A) : Con A := fun args fresh => match ofs k.ds args with
  | some x => some ⟨[fresh], 1, true, fun cs d => match cs with
    | [.emp] => (match d with
      | true :: _ => .done (fun _ => k.c (x ()) = true) (resOf (.one (.ptr fresh 0) :: svs k.rs (fun _ => k.f (x ())))) [.abs (k.put x)]
      | false :: _ => .done (fun _ => k.c (x ()) = false) (resOf (.one .nilP :: svs k.rs (fun _ => k.f (x ())))) [.emp]
      | [] => .need (fun _ => k.c (x ())))
    | _ => .fail⟩
  | none => none

structure NewSpec.Ok (P : Program) (AI : Abs A) (fn : FuncId) (k : NewSpec A) : Prop where
  put : ∀ x, k.put x = k.put (fun _ => x ())
  yes : ∀ x, k.c x = true → TmplOk P AI fn (argS k.ds (fun _ => x)) [] (resOf (.one (.ptr 0 0) :: svs k.rs (fun _ => k.f x))) [.abs (k.put (fun _ => x))]
  no : ∀ x, k.c x = false → TmplOk P AI fn (argS k.ds (fun _ => x)) [] (resOf (.one .nilP :: svs k.rs (fun _ => k.f x))) []

theorem Den_ptr_cons {ρ ρ' : Ev} {x y : SV2} (hxy : ∀ u, Den2 ρ x u → Den2 ρ' y u) (hM : ρ'.M = ρ.M) {l : List SV2} (hl : l.all closed2 = true) {u : Value} (h : Den ρ (resOf (x :: l)) u) : Den ρ' (resOf (y :: l)) u := by
  cases l with
  | nil => exact hxy _ h
  | cons z l =>
    obtain ⟨vs, h1, h2⟩ := h
    cases h2 with
    | cons h3 h4 => exact ⟨_, h1, .cons (hxy _ h3) (closed2s_den hM hl h4)⟩

theorem NewSpec.sound {fn : FuncId} {k : NewSpec A} (hen : Enters P fn) (hk : k.Ok P AI fn) : ConSound P AI fn k.con := by
  refine ⟨hen, fun args fresh p hp hw H d C v cs he => ?_, fun G s ρ tmps w args us fresh p d C v cs h hargs hp hfr he hC => ?_⟩
  · unfold NewSpec.con at hp
    split at hp <;> cases hp
    simp at hw
  · unfold NewSpec.con at hp
    split at hp <;> cases hp
    rename_i x hx
    have hemp : getC s.H fresh = .emp := hfr fresh (by simp) (Nat.le_refl _)
    simp only [getCs, hemp] at he
    have hd := ofs_den hx hargs
    split at he <;> (try (simp at he; done))
    · simp at he
      obtain ⟨rfl, rfl, rfl⟩ := he
      refine (frame_call (hk.yes (x ()) hC) (s := s) (H' := putC s.H fresh (.abs (k.put x))) (ids := []) (news := [fresh]) h (by simp) rfl (fun i hi => by simp at hi; subst hi; exact hemp) (by simp) (fun j i hj => ?_) (fun i' hi' => by
          rw [getC_putC, if_neg (by simpa using hi')]) (us := us) (fun ρc hM hr => argS_den hd hM)
        (v := resOf (.one (.ptr fresh 0) :: svs k.rs (fun _ => k.f (x ())))) (fun ρc ρ' hM hr _ y hy => Den_ptr_cons (fun u hu => ?_) hM (svs_closed _ _) hy)).mono ?_
      · cases j with
        | zero =>
          simp at hj
          subst hj
          exact ⟨by rw [getC_putC, if_pos rfl, hk.put]; rfl, (fun t cs => by simp [getC, nth]), fun ks e L R c q => by simp [getC, nth]⟩
        | succ j => simp at hj
      · obtain ⟨b, h1, h2⟩ := hu
        exact ⟨b, by rw [hr 0 fresh rfl]; exact h1, h2⟩
      · rintro e w' ⟨y, ρ', rfl, h1, h2, h3⟩
        exact ⟨y, ρ', rfl, h1, h2, h3⟩
    · simp at he
      obtain ⟨rfl, rfl, rfl⟩ := he
      refine (frame_call (hk.no (x ()) hC) (s := s) (H' := putC s.H fresh .emp) (ids := []) (news := []) h (by simp) rfl (by simp) (by simp) (by simp) (fun i' _ => by
          rw [getC_putC]; split
          · rename_i e; rw [e, hemp]
          · rfl) (us := us) (fun ρc hM hr => argS_den hd hM)
        (v := resOf (.one .nilP :: svs k.rs (fun _ => k.f (x ())))) (fun ρc ρ' hM hr _ y hy => Den_ptr_cons (ρ := ρc) (ρ' := ρ') (x := .one .nilP) (y := .one .nilP) (fun u hu => hu) hM (svs_closed _ _) hy)).mono ?_
      rintro e w' ⟨y, ρ', rfl, h1, h2, h3⟩
      exact ⟨y, ρ', rfl, h1, h2, h3⟩

/-- One contract or, for other arguments, the other. -/
def orCon (k l : Con A) : Con A := fun args fresh => match k args fresh with
  | some p => some p
  | none => l args fresh
theorem orCon_sound {fn : FuncId} {k l : Con A} (hk : ConSound P AI fn k) (hl : ConSound P AI fn l) : ConSound P AI fn (orCon k l) := by
  refine ⟨hk.1, fun args fresh p hp => ?_, fun G s ρ tmps w args us fresh p d C v cs h hargs hp => ?_⟩
  · unfold orCon at hp
    split at hp
    · rename_i h1; cases hp; exact hk.2.1 args fresh _ h1
    · exact hl.2.1 args fresh p hp
  · unfold orCon at hp
    split at hp
    · rename_i h1; cases hp; exact hk.2.2 G s ρ tmps w args us fresh _ d C v cs h hargs h1
    · exact hl.2.2 G s ρ tmps w args us fresh p d C v cs h hargs hp

theorem EnvOk.add {E : Env A} (hE : EnvOk P AI E) {f : FuncId} {k : Con A} (hk : ConSound P AI f k) : EnvOk P AI ⟨E.ti, (f, k) :: E.con⟩ := by
  refine ⟨hE.ti, fun g l h => ?_⟩
  dsimp only at h
  rw [look_cons] at h
  split at h
  · rename_i e; cases h; subst e; exact hk
  · exact hE.con g l h

end Go.Sx

/-
  Symbolic execution: functions that make a new object.
-/
namespace Go.Sx
set_option linter.all false
set_option linter.unusedVariables false
set_option linter.unusedSimpArgs false
set_option linter.unusedSectionVars false
open Go.RowKit

variable {A : Type} {G : Fr} {s : SS A} {ρ : Ev} {a : Act} {w : World} {P : Program} {lay : A → List (Chunk A)} {tq : TabQ}

theorem posB_some : ∀ {p : List Nat} {i j : Nat}, posB p i = some j → p[j]? = some i
  | [], i, j, h => by cases h
  | x :: r, i, j, h => by
    simp only [posB] at h
    split at h
    · rename_i e; cases h; have := beq_eq e; subst this; rfl
    · split at h <;> cases h
      rename_i k hk
      simpa using posB_some hk
theorem nodupB_spec : ∀ {p : List Nat}, nodupB p = true → p.Nodup
  | [], _ => .nil
  | x :: r, h => by
    simp only [nodupB, Bool.and_eq_true, Bool.not_eq_true'] at h
    refine List.nodup_cons.2 ⟨fun hx => ?_, nodupB_spec h.2⟩
    have : r.any (beqN x) = true := List.any_eq_true.2 ⟨x, hx, by simp⟩
    rw [this] at h; cases h.1
theorem fixB_spec : ∀ {n k : Nat} {p : List Nat}, fixB n k p = true → ∀ i, i < n → p[i]? = some (k + i)
  | 0, k, p, _, i, hi => by omega
  | n + 1, k, x :: r, h, i, hi => by
    simp only [fixB, Bool.and_eq_true] at h
    cases i with
    | zero => have := beq_eq h.1; subst this; rfl
    | succ i => have := fixB_spec h.2 i (by omega); simp only [List.getElem?_cons_succ, this]; congr 1; omega
  | n + 1, k, [], h, _, _ => by cases h

theorem reordH_get {p : List Nat} {H : List (Chunk A)} : ∀ {l : List Nat} {j : Nat}, getC (reordH p H l) j = match l[j]? with | some i => rnC p (getC H i) | none => .emp
  | [], j => rfl
  | x :: r, 0 => rfl
  | x :: r, j + 1 => by
    have := reordH_get (p := p) (H := H) (l := r) (j := j)
    simp only [getC, reordH, nth, List.getElem?_cons_succ] at this ⊢
    exact this

def Ev.reord (ρ : Ev) (p : List Nat) : Ev :=
  { root := fun j => match p[j]? with | some i => ρ.root i | none => .bool false, ver := fun j => match p[j]? with | some i => ρ.ver i | none => 0, M := ρ.M, foot := fun j => match p[j]? with | some i => ρ.foot i | none => [] }

theorem rn1_den {p : List Nat} {x : SV1} {v : Value} (h : Den1 ρ x v) : Den1 (ρ.reord p) (rn1 p x) v := by
  cases x <;> simp only [rn1] <;> (try exact h)
  all_goals
    split
    · rename_i j hj
      have hj := posB_some hj
      simp only [Den1, Ev.reord, hj] at h ⊢
      exact h
    · trivial

theorem reord_sound {AI : Abs A} {p : List Nat} (hp : permOk G.n0 p = true) (hs : Sat AI G s a w) : Sat AI G (reord p s) a w := by
  obtain ⟨hd, ρ, hh⟩ := hs
  obtain ⟨hp1, hp2⟩ := Bool.and_eq_true_iff.1 hp
  have hn := nodupB_spec hp1
  have hf := fixB_spec hp2
  have hfoot : ∀ j b, b ∈ (ρ.reord p).foot j → ∃ i, p[j]? = some i ∧ b ∈ ρ.foot i := by
    intro j b hb
    simp only [Ev.reord] at hb
    split at hb
    · rename_i i hi; exact ⟨i, hi, hb⟩
    · cases hb
  refine ⟨hd, ρ.reord p, ⟨hh.sz, hh.gt, fun t v ht => ?_, fun j => ?_, fun i j b hij hi hj => ?_, fun j b hb => ?_, fun b o v hm => ⟨(hh.im b o v hm).1, fun j hb => ?_⟩, hh.os, hh.tape, hh.output, hh.grow, hh.kept, fun j b hb => ?_, fun i b hi hb => ?_, fun i hi => ?_, hh.mono, hh.mfr⟩⟩
  · obtain ⟨u, h1, rfl⟩ := mapT_look ht
    obtain ⟨x, h2, h3⟩ := hh.tm t u h1
    exact ⟨x, h2, mapV_den (fun _ _ => rn1_den) h3⟩
  · show HoldsC AI (ρ.reord p) w j (getC (reordH p s.H p) j)
    rw [reordH_get]
    cases hj : p[j]? with
    | none => exact ⟨by simp [Ev.reord, hj], by simp [Ev.reord, hj], by simp [Ev.reord, hj]⟩
    | some i =>
      dsimp only
      have e1 : (ρ.reord p).root j = ρ.root i := by simp [Ev.reord, hj]
      have e2 : (ρ.reord p).ver j = ρ.ver i := by simp [Ev.reord, hj]
      have e3 : (ρ.reord p).foot j = ρ.foot i := by simp [Ev.reord, hj]
      have hc := hh.ch i
      cases hg : getC s.H i with
      | emp => rw [hg] at hc; exact ⟨e3.trans hc.1, e1.trans hc.2.1, e2.trans hc.2.2⟩
      | gone => trivial
      | cells t cs =>
        rw [hg] at hc
        obtain ⟨b, vs, h1, h2, h3, h4⟩ := hc
        exact ⟨b, vs, e1.trans h1, e3.trans h2, h3, h4.mapL fun _ _ => rn1_den⟩
      | row t e v L => rw [hg] at hc; exact ⟨hc.1.trans e2.symm, by rw [e1, e3]; exact hc.2⟩
      | rmap ks e L R c j => trivial
      | itp q => trivial
      | map ks e L => rw [hg] at hc; obtain ⟨b, es, clock, h1, h2, h3, h4⟩ := hc; exact ⟨b, es, clock, e1.trans h1, e3.trans h2, h3, h4⟩
      | abs x => rw [hg] at hc; simp only [rnC, HoldsC, e1, e3] at hc ⊢; exact hc
  · obtain ⟨i', h1, h2⟩ := hfoot i b hi
    obtain ⟨j', h3, h4⟩ := hfoot j b hj
    refine hh.dis i' j' b (fun e => hij ?_) h2 h4
    subst e
    exact (List.getElem?_inj (List.getElem?_eq_some_iff.1 h1).1 hn).1 (h1.trans h3.symm)
  · obtain ⟨i, _, h2⟩ := hfoot j b hb; exact hh.lt i b h2
  · obtain ⟨i, _, h2⟩ := hfoot j b hb; exact (hh.im b o v hm).2 i h2
  · obtain ⟨i, _, h2⟩ := hfoot j b hb; exact hh.fro i b h2
  · have := hf i hi
    rw [Nat.zero_add] at this
    simp only [Ev.reord, this]; exact hh.rt i b hi hb
  · have := hf i hi
    rw [Nat.zero_add] at this
    simp only [Ev.reord, this]; exact hh.rts i hi

theorem finR_of [SubA A] {AI : Abs A} {E : Env A} (hT : TIok P E.ti) {fn : Func} {n0 : Nat} (hn0 : G.n0 = n0) {v : SV} {H1 : List (Chunk A)} {e : XE} {s' : SS A} (h : finR E.ti n0 fn.results.toList v H1 e s') {R : Ending → World → Prop}
    (hR : ∀ y ρ' w', Holds AI { G with size := 0 } ⟨[], H1⟩ ρ' #[] w' → Den ρ' v y → R (.returned y) w') : Then AI G s' (bodyPost P fn R e.out) := by
  have key : ∀ l, resV E.ti s' fn.results.toList = some l → (∃ p, permOk n0 p = true ∧ Sub n0 (reord p ⟨[(0, resOf l)], s'.H⟩) ⟨[(0, v)], H1⟩) → ∀ (a' : Act) (w' : World), a'.defers = [] → (∃ ρ', Holds AI G s' ρ' a'.tmps w') → a'.defers = [] ∧ ∃ y, (results fn a'.tmps).run P w' = .ok y w' ∧ R (.returned y) w' := by
    rintro l hl ⟨p, hperm, hsub⟩ a' w' hd ⟨ρ', hh⟩
    obtain ⟨y, h3, h4⟩ := results_sound hT hh hl
    refine ⟨hd, y, h3, ?_⟩
    let G1 : Fr := { G with size := 1 }
    have h5 : Sat AI G1 ⟨[(0, resOf l)], s'.H⟩ ⟨#[y], []⟩ w' := by
      refine ⟨rfl, ρ', ⟨rfl, hh.gt, fun t x ht => ?_, hh.ch, hh.dis, hh.lt, hh.im, hh.os, hh.tape, hh.output, hh.grow, hh.kept, hh.fro, hh.rt, hh.rts, hh.mono, hh.mfr⟩⟩
      rw [look_cons] at ht
      split at ht
      · rename_i e; subst e; cases ht; exact ⟨y, rfl, h4⟩
      · cases ht
    obtain ⟨_, ρ2, h6⟩ := hsub.sound (G := G1) hn0 (reord_sound (G := G1) (p := p) (by show permOk G.n0 p = true; rw [hn0]; exact hperm) h5)
    obtain ⟨u, h7, h8⟩ := h6.tm 0 v (by simp [look])
    simp at h7
    subst h7
    refine hR y ρ2 w' ⟨rfl, h6.gt, (fun t x ht => by cases ht), h6.ch, h6.dis, h6.lt, h6.im, h6.os, h6.tape, h6.output, h6.grow, h6.kept, h6.fro, h6.rt, h6.rts, h6.mono, h6.mfr⟩ h8
  cases e with
  | exit id => exact (Failed.elim h)
  | normal =>
    simp only [finR] at h
    split at h
    · rename_i l hl; exact key l hl h
    · exact h.elim
  | ret =>
    simp only [finR] at h
    split at h
    · rename_i l hl; exact key l hl h
    · exact h.elim

/-- A function that makes a new object and returns its address first. -/
theorem tmpl_new [SubA A] {E : Env A} (hE : EnvOk P (absOf lay tq) E) (hm : P.follows .mixedOrders = true) {f : FuncId} {fn : Func} {c : Code} (hf : P.funcs[f]? = some fn) (hb : fn.body = some c) (hok : codeOk fn.ntmps c = true) {args : List SV} (hargs : args.length ≤ fn.ntmps)
    {x : A} (hl : LayOk (lay x)) {rs : List SV2} (hrs : rs.all closed2 = true)
    (h : svc E 0 c ⟨argT 0 args, []⟩ (finR E.ti 0 fn.results.toList (resOf (.one (.ptr 0 0) :: rs)) (openObj (lay x) []))) :
    TmplOk P (absOf lay tq) f args [] (resOf (.one (.ptr 0 0) :: rs)) [.abs x] := by
  intro G ρ w us hG hsz hh hd
  refine calls_of_wp hf hb ?_
  have hlen := hd.length
  have h1 := hh.enter hd (n := fn.ntmps) (by omega)
  refine svc_sound (AI := absOf lay tq) (G := { G with size := fn.ntmps }) hE hm hG c hok _ _ _ _ w h ⟨rfl, ρ, h1⟩ fun e s' hq => ?_
  refine finR_of (AI := absOf lay tq) (G := { G with size := fn.ntmps }) hE.ti hG hq (R := fun e w' => ∃ y ρ', e = .returned y ∧ Holds (absOf lay tq) G ⟨[], [.abs x]⟩ ρ' #[] w' ∧ Den ρ' (resOf (.one (.ptr 0 0) :: rs)) y) fun y ρ' w' h2 h3 => ?_
  have e1 : ({ { G with size := fn.ntmps } with size := 0 } : Fr) = G := by cases G; simp at hsz; subst hsz; rfl
  rw [e1] at h2
  obtain ⟨ρ3, h4, h5, h6⟩ := h2.close_obj (rest' := []) hl rfl (by rw [hG]; simp)
  refine ⟨y, ρ3, rfl, h4, Den_ptr_cons (fun u hu => ?_) h5 hrs h3⟩
  obtain ⟨b, h7, h8⟩ := hu
  exact ⟨b, by rw [h6]; exact h7, h8⟩

end Go.Sx

/-
  Symbolic execution: contracts of functions that read slices of any kind.
-/
namespace Go.Sx
set_option linter.all false
set_option linter.unusedVariables false
set_option linter.unusedSimpArgs false
set_option linter.unusedSectionVars false
open Go.RowKit

variable {A : Type} {AI : Abs A} {G : Fr} {s : SS A} {ρ : Ev} {a : Act} {w : World} {P : Program}

/-- Nothing that was there is changed. -/
theorem Holds.grown {tmps : Array Value} (h : Holds AI G s ρ tmps w) {w' : World} (old : ∀ b, b < w.heap.size → w'.heap[b]? = w.heap[b]?) (os : w'.os = w.os) (tape : w'.tape = w.tape) (output : w'.output = w.output) (size : w.heap.size ≤ w'.heap.size) :
    Holds AI G s ρ tmps w' := by
  refine ⟨h.sz, h.gt, h.tm, fun i => (h.ch i).stays (.refl _) rfl rfl rfl fun b hb => old b (h.lt i b hb), h.dis, fun i b hb => Nat.lt_of_lt_of_le (h.lt i b hb) size, fun b o v hm => ?_, os.trans h.os, tape.trans h.tape, output.trans h.output, Nat.le_trans h.grow size,
    fun b hb hn => (old b (Nat.lt_of_lt_of_le hb h.grow)).trans (h.kept b hb hn), h.fro, h.rt, h.rts, h.mono, h.mfr⟩
  have hlt : b < w.heap.size := World.block_lt_of_cell? w ⟨b, o, none⟩ (h.im b o v hm).1
  exact ⟨(cell_congr (old b hlt) o).trans (h.im b o v hm).1, (h.im b o v hm).2⟩

theorem froze_cell {tmps : Array Value} (h : Holds AI G s ρ tmps w) (S : Nat → Prop) : ∀ b o v, (ρ.froze S w).M b o = some v → w.cell? ⟨b, o, none⟩ = some v := by
  intro b o v hm
  simp only [Ev.froze] at hm
  split at hm
  · exact hm
  · exact (h.im b o v hm).1

theorem srcList_shows {tmps : Array Value} (h : Holds AI G s ρ tmps w) {v : SV} {u : Value} (hv : Den ρ v u) {S : Nat → Prop} (hS : ∀ i ∈ (srcOf v).ids, S i) {e : Ty} {L : U (List e.T)} (hL : Src.list e (srcOf v) (getCs s.H (srcOf v).ids) = some L) : ShowsM (ρ.froze S w).M e (L ()) u := by
  have hM := froze_M h S
  unfold srcOf at hS hL
  split at hS
  · simp only [Src.ids, getCs, Src.list] at hL
    cases hL
    have hv : u = .slice none 0 0 := hv
    subst hv
    exact ⟨none, 0, rfl, by simp, by simp⟩
  · simp only [Src.ids, getCs, Src.list] at hL
    split at hL <;> cases hL
    rename_i f hf
    obtain ⟨rfl, h1⟩ := castL_id hf
    have hv : ShowsM ρ.M _ _ u := hv
    dsimp only
    rw [h1]; exact hv.monoM hM
  · rename_i i ver
    simp only [Src.ids, getCs] at hL hS
    have hc := h.ch i
    generalize hg : getC s.H i = c at hL hc
    cases c <;> simp only [Src.list, reduceCtorEq] at hL
    rename_i t e' ver' L'
    split at hL <;> (try cases hL)
    rename_i hb
    have hb := beq_eq hb
    subst hb
    split at hL <;> cases hL
    rename_i f hf
    obtain ⟨rfl, h1⟩ := castL_id hf
    obtain ⟨h2, h3⟩ := hc
    obtain ⟨_, _, h4⟩ := hv
    rw [h4 h2]
    dsimp only
    rw [h1]
    exact rowAt_shows h (S := S) (hS i (by simp)) h3 hM
  · rename_i i ver esz lo n
    simp only [Src.ids, getCs] at hL hS
    have hc := h.ch i
    generalize hg : getC s.H i = c at hL hc
    cases c <;> simp only [Src.list, reduceCtorEq] at hL
    rename_i t e' ver' L'
    split at hL <;> (try cases hL)
    rename_i hb
    obtain ⟨hb, hbz⟩ := Bool.and_eq_true_iff.1 hb
    have hb := beq_eq hb
    have hbz := beq_eq hbz
    subst hb; subst hbz
    split at hL <;> cases hL
    rename_i f hf
    obtain ⟨rfl, h1⟩ := castL_id hf
    obtain ⟨h2, h3⟩ := hc
    obtain ⟨_, _, _, h4⟩ := hv
    dsimp only
    rw [h1]
    exact shows_part (rowAt_shows h (S := S) (hS i (by simp)) h3 hM) (h4 h2)
  · simp only [Src.ids, getCs, Src.list, reduceCtorEq] at hL

/-- The rows that the arguments name. -/
def idsA : List DT → List SV → List Nat
  | .lst _ :: r, v :: vs => (srcOf v).ids ++ idsA r vs
  | .cell _ :: r, _ :: vs => idsA r vs
  | _, _ => []
def ofA {A : Type} : (ds : List DT) → List SV → List (Chunk A) → Option (U (Tup ds))
  | [], [], [] => some (fun _ => ())
  | .lst e :: r, v :: vs, cs => (match srcOf v with
    | src => (match takeN cs src.ids.length with
      | some c1 => (match src.list e c1 with
        | some x => (match ofA r vs (cs.drop src.ids.length) with
          | some y => some (fun _ => (x (), y ()))
          | none => none)
        | none => none)
      | none => none))
  | .cell e :: r, v :: vs, cs => (match DT.of (.cell e) v with
    | some x => (match ofA r vs cs with
      | some y => some (fun _ => (x (), y ()))
      | none => none)
    | none => none)
  | _, _, _ => none

theorem getCs_append (H : List (Chunk A)) : ∀ (l m : List Nat), getCs H (l ++ m) = getCs H l ++ getCs H m
  | [], _ => rfl
  | i :: r, m => by simp only [List.cons_append, getCs, getCs_append H r m]
theorem getCs_length (H : List (Chunk A)) : ∀ (l : List Nat), (getCs H l).length = l.length
  | [] => rfl
  | i :: r => by simp only [getCs, List.length_cons, getCs_length H r]
theorem takeN_app {α : Type} : ∀ (l m : List α), takeN (l ++ m) l.length = some l
  | [], m => by cases m <;> rfl
  | x :: r, m => by simp only [List.cons_append, List.length_cons, takeN, takeN_app r m]

theorem ofA_den {tmps : Array Value} (h : Holds AI G s ρ tmps w) {S : Nat → Prop} : ∀ {ds : List DT} {vs : List SV} {more : List (Chunk A)} {x : U (Tup ds)} {us : List Value}, more = [] → (∀ i ∈ idsA ds vs, S i) → ofA ds vs (getCs s.H (idsA ds vs) ++ more) = some x → All2 (Den ρ) vs us → All2 (Den2 (ρ.froze S w)) (svs ds x) us
  | [], vs, more, x, us, hm, hS, hx, hu => by
    cases vs with
    | nil => cases hu; exact .nil
    | cons v vs => simp [ofA] at hx
  | .lst e :: r, vs, more, x, us, hm, hS, hx, hu => by
    cases vs with
    | nil => simp [ofA] at hx
    | cons v vs =>
      subst hm
      simp only [idsA, List.append_nil] at hS hx
      simp only [ofA] at hx
      rw [getCs_append] at hx
      have e1 := takeN_app (getCs s.H (srcOf v).ids) (getCs s.H (idsA r vs))
      rw [getCs_length] at e1
      rw [e1] at hx
      dsimp only at hx
      split at hx <;> (try cases hx)
      rename_i x1 h1
      have e2 : (getCs s.H (srcOf v).ids ++ getCs s.H (idsA r vs)).drop (srcOf v).ids.length = getCs s.H (idsA r vs) := by
        rw [← getCs_length s.H (srcOf v).ids]; simp
      rw [e2] at hx
      split at hx <;> cases hx
      rename_i y h2
      cases hu with
      | cons h3 h4 =>
        refine .cons ?_ (ofA_den h (more := []) rfl (fun i hi => hS i (by simp [hi])) (by rw [List.append_nil]; exact h2) h4)
        exact srcList_shows h h3 (fun i hi => hS i (by simp [hi])) h1
  | .cell e :: r, vs, more, x, us, hm, hS, hx, hu => by
    cases vs with
    | nil => simp [ofA] at hx
    | cons v vs =>
      simp only [idsA] at hS hx
      simp only [ofA] at hx
      split at hx <;> (try cases hx)
      rename_i x1 h1
      split at hx <;> cases hx
      rename_i y h2
      cases hu with
      | cons h3 h4 => exact .cons (Den2.mono ⟨froze_M h S, fun _ _ h => h, fun _ => Nat.le_refl _, fun _ _ _ => rfl⟩ (DT.of_den h1 h3)) (ofA_den h hm hS h2 h4)

/-- Results that name no memory. -/
def flat1 : SV1 → Bool
  | .int _ _ => true
  | .li _ _ => true
  | .sb _ => true
  | .lb _ => true
  | .str _ => true
  | _ => false
def flat2 : SV2 → Bool
  | .one x => flat1 x
  | .agg l => l.all flat1
  | .fn _ _ => false
theorem flat1_den {ρ ρ' : Ev} {x : SV1} (hx : flat1 x = true) {v : Value} (h : Den1 ρ x v) : Den1 ρ' x v := by
  cases x <;> simp [flat1] at hx <;> exact h
theorem flat1s_den {ρ ρ' : Ev} {l : List SV1} {vs : List Value} (hl : l.all flat1 = true) (h : All2 (Den1 ρ) l vs) : All2 (Den1 ρ') l vs := by
  induction h with
  | nil => exact .nil
  | cons h1 _ ih =>
    simp only [List.all_cons, Bool.and_eq_true] at hl
    exact .cons (flat1_den hl.1 h1) (ih hl.2)
theorem flat2_den {ρ ρ' : Ev} {x : SV2} (hx : flat2 x = true) {v : Value} (h : Den2 ρ x v) : Den2 ρ' x v := by
  cases x with
  | one x => exact flat1_den hx h
  | agg l => obtain ⟨vs, h1, h2⟩ := h; exact ⟨vs, h1, flat1s_den hx h2⟩
  | fn f l => cases hx
theorem flat2s_den {ρ ρ' : Ev} {l : List SV2} {vs : List Value} (hl : l.all flat2 = true) (h : All2 (Den2 ρ) l vs) : All2 (Den2 ρ') l vs := by
  induction h with
  | nil => exact .nil
  | cons h1 _ ih =>
    simp only [List.all_cons, Bool.and_eq_true] at hl
    exact .cons (flat2_den hl.1 h1) (ih hl.2)
theorem flatRes_den {ρ ρ' : Ev} {l : List SV2} (hl : l.all flat2 = true) {v : Value} (h : Den ρ (resOf l) v) : Den ρ' (resOf l) v := by
  unfold resOf at h ⊢
  split
  · simp only [List.all_cons, List.all_nil, Bool.and_true] at hl; exact flat2_den hl h
  · rename_i l h0
    split at h
    · rename_i x; exact absurd rfl (h0 x)
    · obtain ⟨vs, h1, h2⟩ := h; exact ⟨vs, h1, flat2s_den hl h2⟩

/-- The template, used where the rows stay as they are for the while of the call. -/
theorem lone_call {f : FuncId} {args0 : List SV} {v0 : SV} {H1 : List (Chunk A)} (hT : TmplOk P AI f args0 [] v0 H1) {tmps : Array Value} (h : Holds AI G s ρ tmps w) {us : List Value} (S : Nat → Prop) (hargs : ∀ ρc : Ev, ρc.M = (ρ.froze S w).M → All2 (Den ρc) args0 us) :
    Calls P f us.toArray w fun e w' => ∃ y ρr, e = .returned y ∧ Holds AI ⟨w, fun _ => False, 0, fun _ => .bool false, (ρ.froze S w).M, 0, fun _ => 0⟩ ⟨[], H1⟩ ρr #[] w' ∧ Den ρr v0 y := by
  let ρc : Ev := { root := fun _ => .bool false, ver := fun _ => 0, M := (ρ.froze S w).M, foot := fun _ => [] }
  refine hT ⟨w, fun _ => False, 0, fun _ => .bool false, (ρ.froze S w).M, 0, fun _ => 0⟩ ρc w us rfl rfl ?_ (hargs ρc rfl)
  refine ⟨rfl, h.gtOf (fun b hb => hb.elim), (fun t x ht => by cases ht), fun j => ⟨rfl, rfl, rfl⟩, (fun _ _ _ _ h => by cases h), (fun _ _ h => by cases h), fun b o x hm => ⟨froze_cell h S b o x hm, fun i hi => by cases hi⟩, rfl, rfl, rfl, Nat.le_refl _, fun _ _ _ => rfl, (fun _ _ h => by cases h), (fun i b hi hb => by cases hb), (fun i hi => absurd hi (Nat.not_lt_zero i)), fun _ _ _ hm => hm, fun b o x hm => .inl hm⟩

def PureSpec.conA (k : PureSpec) : Con A := fun args _ => some ⟨idsA k.ds args, 0, false, fun cs _ => match ofA k.ds args cs with
  | some x => .done (fun _ => k.pre (x ())) (resOf (svs k.rs (fun _ => k.f (x ())))) cs
  | none => .fail⟩

/-- A function of data whose results name no memory: its slices may be rows. -/
theorem PureSpec.soundA {fn : FuncId} {k : PureSpec} (hen : Enters P fn) (hk : k.Ok P AI fn) (hflat : ∀ x, (svs k.rs x).all flat2 = true) : ConSound P AI fn k.conA := by
  refine ⟨hen, fun args fresh p hp _ H d C v cs he => ?_, fun G s ρ tmps w args us fresh p d C v cs h hargs hp hfr he hC => ?_⟩
  · cases hp
    dsimp only at he
    split at he
    · simp at he; exact he.2.2.symm
    · simp at he
  · cases hp
    dsimp only at he ⊢
    split at he <;> (try (simp at he; done))
    rename_i x hx
    simp at he
    obtain ⟨rfl, rfl, rfl⟩ := he
    have hd := ofA_den h (S := fun i => i ∈ idsA k.ds args) (more := []) rfl (fun _ hi => hi) (by rw [List.append_nil]; exact hx) hargs
    refine (lone_call (hk (x ()) hC) h (fun i => i ∈ idsA k.ds args) (us := us) fun ρc hM => argS_den hd hM).mono ?_
    rintro e w' ⟨y, ρr, rfl, h1, h2⟩
    refine ⟨y, ρ, rfl, (h.grown (fun b hb => h1.kept b hb (fun h => h)) h1.os h1.tape h1.output h1.grow).congrH (putCs_self _ _ _ fun _ => rfl), flatRes_den (hflat _) h2, .refl _⟩

/-! ### functions that make a new row out of what they read -/
def Ty.flat : Ty → Bool
  | .bytes => false
  | .lst _ => false
  | .pair a b => a.flat && b.flat
  | _ => true
theorem CellsM.flat {M M' : Mem} : ∀ {e : Ty} {x : e.T} {c : Nat → Option Value}, e.flat = true → CellsM M e x c → CellsM M' e x c
  | .int _, _, _, _, h => h
  | .bool, _, _, _, h => h
  | .str, _, _, _, h => h
  | .unit, _, _, _, _ => trivial
  | .pair a b, _, _, hf, h => by
    simp only [Ty.flat, Bool.and_eq_true] at hf
    exact ⟨CellsM.flat hf.1 h.1, CellsM.flat hf.2 h.2⟩
theorem RowAt.flat {t : TypeId} {w : World} {M M' : Mem} {e : Ty} (he : e.flat = true) {L : List e.T} {r : Value} {F : List Nat} (h : RowAt t M w e L r F) : RowAt t M' w e L r F := by
  rcases h with h | ⟨b, off, cap, h1, h2, h3, h4, h5, h6, h7⟩
  · exact .inl h
  · exact .inr ⟨b, off, cap, h1, h2, h3, h4, fun j x hj => (h5 j x hj).flat he, h6, h7⟩

structure RowSpec where
  ds : List DT
  et : TypeId
  e : Ty
  pre : Tup ds → Prop
  f : Tup ds → List e.T

def RowSpec.con (k : RowSpec) : Con A := fun args fresh => match (idsA k.ds args).any (beqN fresh) with
  | true => none
  | false => some ⟨idsA k.ds args ++ [fresh], 1, true, fun cs _ => match takeN cs (idsA k.ds args).length with
    | some c1 => (match cs.drop (idsA k.ds args).length with
      | [.emp] => (match ofA k.ds args c1 with
        | some x => .done (fun _ => k.pre (x ())) (one (.hd fresh 0)) (c1 ++ [.row k.et k.e 0 (fun _ => k.f (x ()))])
        | none => .fail)
      | _ => .fail)
    | none => .fail⟩

def RowSpec.Ok (P : Program) (AI : Abs A) (fn : FuncId) (k : RowSpec) : Prop :=
  ∀ x, k.pre x → TmplOk P AI fn (argS k.ds (fun _ => x)) [] (one (.hd 0 0)) [.row k.et k.e 0 (fun _ => k.f x)]

theorem putCs_append : ∀ (l m : List Nat) (H : List (Chunk A)) (c d : List (Chunk A)), c.length = l.length → putCs H (l ++ m) (c ++ d) = putCs (putCs H l c) m d
  | [], m, H, c, d, h => by
    have : c = [] := List.eq_nil_of_length_eq_zero h
    subst this
    cases m <;> cases d <;> rfl
  | i :: l, m, H, c, d, h => by
    cases c with
    | nil => simp at h
    | cons x c =>
      simp only [List.cons_append, putCs]
      exact putCs_append l m _ c d (by simpa using h)

theorem RowSpec.sound {fn : FuncId} {k : RowSpec} (hen : Enters P fn) (hk : k.Ok P AI fn) (hflat : k.e.flat = true) : ConSound P AI fn k.con := by
  refine ⟨hen, fun args fresh p hp hw => ?_, fun G s ρ tmps w args us fresh p d C v cs h hargs hp hfr he hC => ?_⟩
  · unfold RowSpec.con at hp
    split at hp <;> cases hp
    simp at hw
  · unfold RowSpec.con at hp
    split at hp <;> cases hp
    rename_i hany
    have hemp : getC s.H fresh = .emp := hfr fresh (by simp) (Nat.le_refl _)
    dsimp only at he ⊢
    rw [getCs_append] at he
    have e1 := takeN_app (getCs s.H (idsA k.ds args)) (getCs s.H [fresh])
    rw [getCs_length] at e1
    rw [e1] at he
    have e2 : (getCs s.H (idsA k.ds args) ++ getCs s.H [fresh]).drop (idsA k.ds args).length = [.emp] := by
      rw [← getCs_length s.H (idsA k.ds args)]; simp [getCs, hemp]
    rw [e2] at he
    dsimp only at he
    split at he <;> (try (simp at he; done))
    rename_i x hx
    simp at he
    obtain ⟨rfl, rfl, rfl⟩ := he
    have hd := ofA_den h (S := fun i => i ∈ idsA k.ds args) (more := []) rfl (fun _ hi => hi) (by rw [List.append_nil]; exact hx) hargs
    refine (lone_call (hk (x ()) hC) h (fun i => i ∈ idsA k.ds args) (us := us) fun ρc hM => argS_den hd hM).mono ?_
    rintro e w' ⟨y, ρr, rfl, h1, h2⟩
    obtain ⟨h3, h4⟩ := h1.ch 0
    obtain ⟨h5, h6, h7⟩ := h2
    have h7 := h7 h3
    have hc := h.ch fresh
    rw [hemp] at hc
    obtain ⟨hc1, hc2, hc3⟩ := hc
    obtain ⟨h8, h9⟩ := h.upd1 fresh y 0 (ρr.foot 0) (.row k.et k.e 0 (fun _ => k.f (x ()))) w' (by rw [hc2]; simp) (by omega) (by rw [hc2]; simp) (fun b hb => ⟨.inr ((h1.fro 0 b hb).resolve_left fun h => h), h1.lt 0 b hb⟩) (fun b hb _ => h1.kept b hb fun h => h) h1.os h1.tape h1.output h1.grow
      ⟨by simp [Ev.upd], by
        have e3 : (ρ.upd fresh y 0 (ρr.foot 0)).root fresh = y := by simp [Ev.upd]
        have e4 : (ρ.upd fresh y 0 (ρr.foot 0)).foot fresh = ρr.foot 0 := by simp [Ev.upd]
        rw [e3, e4, h7]
        exact h4.flat hflat⟩
    refine ⟨y, _, rfl, h8.congrH fun j => ?_, ⟨h5, by simp [Ev.upd], fun _ => by simp [Ev.upd]⟩, h9⟩
    rw [putCs_append _ _ _ _ _ (getCs_length _ _)]
    simp only [putCs, getC_putC]
    rw [putCs_self _ _ s.H fun _ => rfl]

end Go.Sx

/-
  Symbolic execution: the body of a function without loops run at its call ('in line').
-/
namespace Go.Sx
set_option linter.all false
set_option linter.unusedVariables false
set_option linter.unusedSimpArgs false
set_option linter.unusedSectionVars false
open Go.RowKit

variable {A : Type} {AI : Abs A} {G : Fr} {s : SS A} {ρ : Ev} {a : Act} {w : World} {P : Program}

inductive XO (A : Type) where
  | fail (why : Nat)
  | need (b : U Bool)
  | done (Cs : List (U Prop)) (e : XE) (s : SS A) (ds : List Bool)

def xreg (E : Env A) (ops : List Oper) (draw : Bool) (s : SS A) : Nat → Dec → List Bool → XO A
  | 0, _, _ => .fail 1000
  | n + 1, d, ds => match preSl d.sl d.sl s.tm with
    | (tm, C0) => (match srun E ops d ops 0 ⟨tm, s.H⟩ C0 [] with
      | .fail j => .fail j
      | .needS t b => (match ds with | [] => .need b | v :: ds => xreg E ops draw s n ⟨(t, v) :: d.sl, d.op⟩ ds)
      | .needC j b => (match ds with | [] => .need b | v :: ds => xreg E ops draw s n ⟨d.sl, d.op ++ [(j, v)]⟩ ds)
      | .done Cs s' effs => (match draw with
        | false => .done Cs .normal s' ds
        | true => .done ((fun _ => drawOk ops (effs.map fun e => (e.ids, e.looks)) = true) :: Cs) .normal s' ds))

def inBlk (id : Nat) : XE → XE
  | .exit id' => (match beqN id id' with | true => .normal | false => .exit id')
  | e => e

def xcode (E : Env A) : Code → SS A → List Bool → XO A
  | .skip, s, ds => .done [] .normal s ds
  | .region _ ops draw, s, ds => xreg E ops.toList draw s 24 ⟨[], []⟩ ds
  | .seq x y, s, ds => (match xcode E x s ds with
    | .done Cs .normal s ds => (match xcode E y s ds with
      | .done Cs' e s ds => .done (Cs ++ Cs') e s ds
      | r => r)
    | r => r)
  | .cond c x y, s, ds => (match evalOp s.tm c with
    | some (.val (.one (.lb true))) => xcode E x s ds
    | some (.val (.one (.lb false))) => xcode E y s ds
    | some (.val (.one (.sb g))) => (match c with
      | .tmp t => (match ds with
        | [] => .need g
        | true :: ds => (match xcode E x ⟨(t, one (.lb true)) :: s.tm, s.H⟩ ds with | .done Cs e s ds => .done ((fun _ => g () = true) :: Cs) e s ds | r => r)
        | false :: ds => (match xcode E y ⟨(t, one (.lb false)) :: s.tm, s.H⟩ ds with | .done Cs e s ds => .done ((fun _ => g () = false) :: Cs) e s ds | r => r))
      | _ => .fail 3000)
    | _ => .fail 3001)
  | .block id c, s, ds => (match xcode E c s ds with
    | .done Cs e s ds => .done Cs (inBlk id e) s ds
    | r => r)
  | .exit id, s, ds => .done [] (.exit id) s ds
  | .ret, s, ds => .done [] .ret s ds
  | .scope c, s, ds => xcode E c s ds
  | _, _, _ => .fail 4000

theorem conds_of : ∀ {Cs : List (U Prop)} {R : Prop}, (∀ C ∈ Cs, C ()) → R → conds R Cs
  | [], _, _, h => h
  | C :: r, R, hC, h => conds_of (Cs := r) (fun D hD => hC D (by simp [hD])) ⟨hC C (by simp), h⟩

theorem region_done {E : Env A} (hE : EnvOk P AI E) (hm : P.follows .mixedOrders = true) {id : Nat} {opsA : Array Oper} {draw : Bool} (hdst : ∀ o ∈ opsA.toList, ∀ t, o.dst = some t → t < G.size) {Qx : Exit → Act → World → Prop} {d : Dec} {tm : List (Nat × SV)} {C0 Cs : List (U Prop)} {s' : SS A} {effs : List (Eff A)}
    (hp : preSl d.sl d.sl s.tm = (tm, C0)) (hr : srun E opsA.toList d opsA.toList 0 ⟨tm, s.H⟩ C0 [] = .done Cs s' effs) (hok : draw = true → drawOk opsA.toList (effs.map fun e => (e.ids, e.looks)) = true) (hC : ∀ C ∈ Cs, C ()) (hs : Sat AI G s a w) (hQ : Then AI G s' (Qx .normal)) :
    (Code.region id opsA draw).wp P Qx a w := by
  refine sreg_sound hE hm hdst (Q := fun x => x = s') (Qx := Qx) (by rintro _ rfl; exact hQ) 1 d ?_ hs
  simp only [sreg, hp, hr]
  cases draw with
  | false => exact conds_of hC (by trivial)
  | true => exact ⟨hok rfl, conds_of hC (by trivial)⟩

theorem xreg_sound {E : Env A} (hE : EnvOk P AI E) (hm : P.follows .mixedOrders = true) {id : Nat} {opsA : Array Oper} {draw : Bool} (hdst : ∀ o ∈ opsA.toList, ∀ t, o.dst = some t → t < G.size) {Qx : Exit → Act → World → Prop} {Cs : List (U Prop)} {e : XE} {s' : SS A} {ds' : List Bool}
    (hC : ∀ C ∈ Cs, C ()) (hs : Sat AI G s a w) (hQ : Then AI G s' (Qx e.out)) : ∀ (n : Nat) (d : Dec) (ds : List Bool), xreg E opsA.toList draw s n d ds = .done Cs e s' ds' → (Code.region id opsA draw).wp P Qx a w
  | 0, d, ds, h => by cases h
  | n + 1, d, ds, h => by
    simp only [xreg] at h
    cases hp : preSl d.sl d.sl s.tm with
    | mk tm C0 =>
      rw [hp] at h
      dsimp only at h
      split at h
      · cases h
      · split at h
        · cases h
        · exact xreg_sound hE hm hdst hC hs hQ n _ _ h
      · split at h
        · cases h
        · exact xreg_sound hE hm hdst hC hs hQ n _ _ h
      · rename_i Cs2 s2 effs hr
        split at h
        · cases h
          exact region_done hE hm hdst hp hr (fun e => by cases e) hC hs hQ
        · cases h
          exact region_done hE hm hdst hp hr (fun _ => hC _ (List.mem_cons_self ..)) (fun C hC' => hC C (List.mem_cons_of_mem _ hC')) hs hQ

theorem xcode_sound {E : Env A} (hE : EnvOk P AI E) (hm : P.follows .mixedOrders = true) : ∀ (c : Code), codeOk G.size c = true → ∀ (s : SS A) (ds : List Bool) {Cs : List (U Prop)} {e : XE} {s' : SS A} {ds' : List Bool} {Qx : Exit → Act → World → Prop} {a : Act} {w : World},
    xcode E c s ds = .done Cs e s' ds' → (∀ C ∈ Cs, C ()) → Sat AI G s a w → Then AI G s' (Qx e.out) → c.wp P Qx a w := by
  intro c
  induction c with
  | skip => intro _ s ds Cs e s' ds' Qx a w h hC hs hQ; cases h; exact wp_skip (hQ _ _ hs.1 hs.2)
  | region id ops draw =>
    intro hok s ds Cs e s' ds' Qx a w h hC hs hQ
    refine xreg_sound hE hm (fun o ho t ht => ?_) hC hs hQ 24 ⟨[], []⟩ ds h
    have h1 := Array.all_eq_true'.1 hok o (by simpa using ho)
    rw [ht] at h1
    exact leN h1
  | seq x y ihx ihy =>
    intro hok s ds Cs e s' ds' Qx a w h hC hs hQ
    obtain ⟨o1, o2⟩ := Bool.and_eq_true_iff.1 hok
    simp only [xcode] at h
    split at h
    · rename_i C1 s1 d1 hx
      split at h
      · rename_i C2 e2 s2 d2 hy
        cases h
        refine wp_seq (ihx o1 s ds hx (fun C hC' => hC C (List.mem_append.2 (.inl hC'))) hs ?_)
        exact fun a' w' hd hh => ihy o2 s1 d1 hy (fun C hC' => hC C (List.mem_append.2 (.inr hC'))) ⟨hd, hh⟩ hQ
      · rename_i hne; exact absurd h (hne _ _ _ _)
    · rename_i hne
      refine wp_seq (ihx o1 s ds h hC hs ?_)
      cases e with
      | normal => exact absurd h (hne _ _ _)
      | ret => exact hQ
      | exit id => exact hQ
  | cond c x y ihx ihy =>
    intro hok s ds Cs e s' ds' Qx a w h hC hs hQ
    obtain ⟨o1, o2⟩ := Bool.and_eq_true_iff.1 hok
    obtain ⟨hd, ρ, hh⟩ := id hs
    simp only [xcode] at h
    split at h
    · rename_i hc; exact wp_cond_true (hh.eval hc) (ihx o1 s ds h hC hs hQ)
    · rename_i hc; exact wp_cond_false (hh.eval hc) (ihy o2 s ds h hC hs hQ)
    · rename_i g hc
      have hg := hh.eval hc
      split at h
      · rename_i t
        split at h
        · cases h
        · split at h
          · rename_i C2 e2 s2 d2 hx
            cases h
            have hb : g () = true := hC _ (List.mem_cons_self ..)
            exact wp_cond_true (by rw [show a.eval (.tmp t) = .bool (g ()) from hg, hb]) (ihx o1 _ _ hx (fun C hC' => hC C (List.mem_cons_of_mem _ hC')) (hs.lb hc hb) hQ)
          · rename_i hne; exact absurd h (hne _ _ _ _)
        · split at h
          · rename_i C2 e2 s2 d2 hx
            cases h
            have hb : g () = false := hC _ (List.mem_cons_self ..)
            exact wp_cond_false (by rw [show a.eval (.tmp t) = .bool (g ()) from hg, hb]) (ihy o2 _ _ hx (fun C hC' => hC C (List.mem_cons_of_mem _ hC')) (hs.lb hc hb) hQ)
          · rename_i hne; exact absurd h (hne _ _ _ _)
      · cases h
    · cases h
  | block id c ih =>
    intro hok s ds Cs e s' ds' Qx a w h hC hs hQ
    simp only [xcode] at h
    split at h
    · rename_i C2 e2 s2 d2 hx
      cases h
      refine wp_block (ih hok s ds hx hC hs ?_)
      cases e2 with
      | normal => exact hQ
      | ret => exact hQ
      | exit id' =>
        simp only [inBlk] at hQ
        intro a' w' hd hh
        split at hQ
        · rename_i hb
          have hb := beq_eq hb
          subst hb
          simp only [XE.out, Exit.inBlock, if_pos]
          exact hQ a' w' hd hh
        · rename_i hb
          have hne : ¬ id' = id := by rintro rfl; simp at hb
          simp only [XE.out, Exit.inBlock, if_neg hne]
          exact hQ a' w' hd hh
    · rename_i hne; exact absurd h (hne _ _ _ _)
  | exit id => intro _ s ds Cs e s' ds' Qx a w h hC hs hQ; cases h; exact wp_exit (hQ _ _ hs.1 hs.2)
  | ret => intro _ s ds Cs e s' ds' Qx a w h hC hs hQ; cases h; exact wp_ret (hQ _ _ hs.1 hs.2)
  | scope c ih =>
    intro hok s ds Cs e s' ds' Qx a w h hC hs hQ
    refine wp_scope_straight (ih hok s ds h hC hs ?_)
    cases e <;> exact hQ
  | loop c ih => intro _ s ds Cs e s' ds' Qx a w h; cases h
  | label l => intro _ s ds Cs e s' ds' Qx a w h; cases h
  | goto l => intro _ s ds Cs e s' ds' Qx a w h; cases h
  | refuse y => intro _ s ds Cs e s' ds' Qx a w h; cases h
  | rangeFunc f p x y _ _ => intro _ s ds Cs e s' ds' Qx a w h; cases h

/-! ### the contract -/
def bel1 (n : Nat) : SV1 → Bool
  | .ptr i _ => bltN i n
  | .mp i => bltN i n
  | .hd i _ => bltN i n
  | .vw i _ _ _ _ => bltN i n
  | .ep i _ _ _ _ => bltN i n
  | _ => true
def bel2 (n : Nat) : SV2 → Bool
  | .one x => bel1 n x
  | .agg l => l.all (bel1 n)
  | .fn _ l => l.all (bel1 n)
def belV (n : Nat) : SV → Bool
  | .val x => bel2 n x
  | .tup l => l.all (bel2 n)

theorem bel1_den {n : Nat} {x : SV1} (hx : bel1 n x = true) {v : Value} (hv : Den1 ρ x v) : Den1 (ρ.trim n) x v := by
  have lt : ∀ {i : Nat}, bltN i n = true → i < n := fun h => leN h
  cases x <;> try exact hv
  case ptr i o => have := lt hx; simpa only [Den1, Ev.trim, if_pos this] using hv
  case mp i => have := lt hx; simpa only [Den1, Ev.trim, if_pos this] using hv
  case hd i u => have := lt hx; simpa only [Den1, Ev.trim, if_pos this] using hv
  case vw i u e l k => have := lt hx; simpa only [Den1, Ev.trim, if_pos this] using hv
  case ep i u e k o => have := lt hx; simpa only [Den1, Ev.trim, if_pos this] using hv
theorem bel1s_den {n : Nat} {l : List SV1} {vs : List Value} (h : All2 (Den1 ρ) l vs) (hl : l.all (bel1 n) = true) : All2 (Den1 (ρ.trim n)) l vs := by
  induction h with
  | nil => exact .nil
  | cons h1 _ ih => simp only [List.all_cons, Bool.and_eq_true] at hl; exact .cons (bel1_den hl.1 h1) (ih hl.2)
theorem bel2_den {n : Nat} {x : SV2} (hx : bel2 n x = true) {v : Value} (hv : Den2 ρ x v) : Den2 (ρ.trim n) x v := by
  cases x with
  | one x => exact bel1_den hx hv
  | agg l => obtain ⟨vs, h1, h2⟩ := hv; exact ⟨vs, h1, bel1s_den h2 hx⟩
  | fn f l => obtain ⟨vs, h1, h2⟩ := hv; exact ⟨vs, h1, bel1s_den h2 hx⟩
theorem belV_den {n : Nat} {x : SV} (hx : belV n x = true) {v : Value} (hv : Den ρ x v) : Den (ρ.trim n) x v := by
  cases x with
  | val x => exact bel2_den hx hv
  | tup l =>
    obtain ⟨vs, h1, h2⟩ := hv
    refine ⟨vs, h1, ?_⟩
    clear h1
    change l.all (bel2 n) = true at hx
    induction h2 with
    | nil => exact .nil
    | cons h1 _ ih => simp only [List.all_cons, Bool.and_eq_true] at hx; exact .cons (bel2_den hx.1 h1) (ih hx.2)
theorem belVs_den {n : Nat} {l : List SV} {vs : List Value} (h : All2 (Den ρ) l vs) (hl : l.all (belV n) = true) : All2 (Den (ρ.trim n)) l vs := by
  induction h with
  | nil => exact .nil
  | cons h1 _ ih => simp only [List.all_cons, Bool.and_eq_true] at hl; exact .cons (belV_den hl.1 h1) (ih hl.2)

def allC : List (U Prop) → Prop
  | [] => True
  | C :: r => C () ∧ allC r
theorem allC_mem : ∀ {Cs : List (U Prop)}, allC Cs → ∀ C ∈ Cs, C ()
  | [], _, C, h => by cases h
  | D :: r, h, C, hC => by
    rcases List.mem_cons.1 hC with e | e
    · rw [e]; exact h.1
    · exact allC_mem h.2 C e

theorem tt_intro : tt () := True.intro
theorem Ck.all_nil {R : Prop} (h : R) : Ck (fun _ => allC []) R := ⟨trivial, h⟩
theorem Ck.all_cons {C : U Prop} {Cs : List (U Prop)} {R : Prop} (h : Ck C (Ck (fun _ => allC Cs) R)) : Ck (fun _ => allC (C :: Cs)) R := by
  cases h with
  | mk h1 h2 => cases h2 with | mk h3 h4 => exact ⟨⟨h1, h3⟩, h4⟩

def firstN : Nat → List (Chunk A) → List (Chunk A)
  | 0, _ => []
  | n + 1, c :: r => c :: firstN n r
  | n + 1, [] => .emp :: firstN n []

theorem mem_upTo : ∀ {n i j : Nat}, j ∈ upTo i n ↔ i ≤ j ∧ j < i + n
  | 0, i, j => by simp only [upTo, List.not_mem_nil, false_iff]; omega
  | n + 1, i, j => by simp only [upTo, List.mem_cons, mem_upTo (n := n)]; omega
theorem getC_firstN : ∀ {n : Nat} {H : List (Chunk A)} {j : Nat}, getC (firstN n H) j = if j < n then getC H j else .emp
  | 0, H, j => by simp [firstN, getC, nth]
  | n + 1, c :: r, 0 => by simp [firstN, getC, nth]
  | n + 1, [], 0 => by simp [firstN, getC, nth]
  | n + 1, c :: r, j + 1 => by
    have := getC_firstN (n := n) (H := r) (j := j)
    simp only [Nat.add_lt_add_iff_right]
    rw [show getC (c :: r) (j + 1) = getC r j from rfl, ← this]; rfl
  | n + 1, [], j + 1 => by
    have := getC_firstN (n := n) (H := ([] : List (Chunk A))) (j := j)
    simp only [Nat.add_lt_add_iff_right]
    rw [show getC ([] : List (Chunk A)) (j + 1) = getC ([] : List (Chunk A)) j from by simp [getC, nth], ← this]; rfl
theorem length_firstN : ∀ {n : Nat} {H : List (Chunk A)}, (firstN n H).length = n
  | 0, H => rfl
  | n + 1, c :: r => by simp [firstN, length_firstN]
  | n + 1, [] => by simp [firstN, length_firstN]
theorem getC_putCs_upTo : ∀ {n i : Nat} {H cs : List (Chunk A)} (j : Nat), cs.length = n → getC (putCs H (upTo i n) cs) j = if i ≤ j ∧ j < i + n then getC cs (j - i) else getC H j
  | 0, i, H, cs, j, h => by simp only [upTo, putCs]; rw [if_neg (by omega)]
  | n + 1, i, H, [], j, h => by simp at h
  | n + 1, i, H, c :: cs, j, h => by
    simp only [upTo, putCs]
    rw [getC_putCs_upTo (n := n) (i := i + 1) j (by simpa using h)]
    by_cases h1 : i + 1 ≤ j ∧ j < i + 1 + n
    · rw [if_pos h1, if_pos (by omega)]
      rw [show j - i = j - (i + 1) + 1 by omega]; rfl
    · rw [if_neg h1, getC_putC]
      by_cases h2 : j = i
      · subst h2; rw [if_pos rfl, if_pos (by omega)]; simp [getC, nth]
      · rw [if_neg h2, if_neg (by omega)]

def belC (n : Nat) : Chunk A → Bool
  | .cells _ l => l.all (bel1 n)
  | .rmap _ _ _ _ _ j => bltN j n
  | _ => true
theorem belC_holds {n i : Nat} (hi : i < n) {c : Chunk A} (hb : belC n c = true) (h : HoldsC AI ρ w i c) : HoldsC AI (ρ.trim n) w i c := by
  cases c with
  | emp => simpa only [HoldsC, Ev.trim, if_pos hi] using h
  | gone => trivial
  | cells t l =>
    obtain ⟨b, vs, h1, h2, h3, h4⟩ := h
    exact ⟨b, vs, by simpa only [Ev.trim, if_pos hi] using h1, by simpa only [Ev.trim, if_pos hi] using h2, h3, bel1s_den h4 hb⟩
  | row t e v L => simpa only [HoldsC, Ev.trim, if_pos hi] using h
  | map ks e L => simpa only [HoldsC, Ev.trim, if_pos hi] using h
  | rmap ks e L R c j =>
    have hj : j < n := leN hb
    obtain ⟨b, r, h1, h2, h3, h4⟩ := h
    exact ⟨b, r, by simpa only [Ev.trim, if_pos hi] using h1, by simpa only [Ev.trim, if_pos hj] using h2, by simpa only [Ev.trim, if_pos hi] using h3, h4⟩
  | itp q => simpa only [HoldsC, Ev.trim, if_pos hi] using h
  | abs x => simpa only [HoldsC, Ev.trim, if_pos hi] using h

/-- The contract of a function that is run in line (k: how many chunks it makes at most). -/
def inlCon (E : Env A) (nt : Nat) (rs : List ResultVar) (body : Code) (k : Nat) : Con A := fun args fresh =>
  match bleN args.length nt && args.all (belV fresh) with
  | true => some ⟨upTo 0 (fresh + k), k, true, fun cs ds => (match cs.all (belC fresh) with
    | true => (match xcode E body ⟨argT 0 args, firstN fresh cs⟩ ds with
      | .done Cs e s _ => (match e with
        | .exit _ => .fail
        | _ => (match resV E.ti s rs with
          | some l => (match bleN s.H.length (fresh + k) with
            | true => .done (fun _ => allC Cs) (resOf l) (firstN (fresh + k) s.H)
            | false => .fail)
          | none => .fail))
      | .need b => .need b
      | .fail _ => .fail)
    | false => .fail)⟩
  | false => none

/-- A call that may change everything. -/
theorem frame_all {f : FuncId} {tmps : Array Value} (h : Holds AI G s ρ tmps w) {m : Nat} {us : List Value} {H0 H1 : List (Chunk A)} {v : SV} {fresh : Nat} (hf : fresh ≤ m) (hH0 : ∀ j, getC H0 j = if j < fresh then getC s.H j else .emp) (hbel : ∀ j, j < fresh → belC fresh (getC s.H j) = true) (hemp : ∀ j, fresh ≤ j → j < m → getC s.H j = .emp) (hH1 : ∀ j, m ≤ j → getC H1 j = .emp) {H' : List (Chunk A)} (hin : ∀ j, j < m → getC H' j = getC H1 j) (hout : ∀ j, m ≤ j → getC H' j = getC s.H j)
    (hT : ∀ (Gc : Fr), Gc.n0 = fresh → Gc.size = 0 → Holds AI Gc ⟨[], H0⟩ (ρ.trim fresh) #[] w → Calls P f us.toArray w fun e w' => ∃ y ρr, e = .returned y ∧ Holds AI Gc ⟨[], H1⟩ ρr #[] w' ∧ Den ρr v y) :
    Calls P f us.toArray w fun e w' => ∃ y ρ', e = .returned y ∧ Holds AI G ⟨s.tm, H'⟩ ρ' tmps w' ∧ Den ρ' v y ∧ ρ.Le ρ' := by
  let ρc : Ev := ρ.trim fresh
  let Gc : Fr := { w0 := w, own := fun b => ∃ j, j < fresh ∧ b ∈ ρ.foot j, n0 := fresh, root0 := ρ.root, M0 := ρ.M, size := 0, ver0 := ρ.ver }
  have hfc : ∀ j b, b ∈ ρc.foot j → j < fresh ∧ b ∈ ρ.foot j := by
    intro j b hb
    simp only [ρc, Ev.trim] at hb
    split at hb
    · rename_i hj; exact ⟨hj, hb⟩
    · cases hb
  have hempv : ∀ j, fresh ≤ j → j < m → ρ.foot j = [] ∧ ρ.root j = .bool false ∧ ρ.ver j = 0 := fun j h1 h2 => by
    have := h.ch j; rw [hemp j h1 h2] at this; exact this
  have hc : Holds AI Gc ⟨[], H0⟩ ρc #[] w := by
    refine ⟨rfl, h.gtOf (fun b hb => by obtain ⟨j, _, hj⟩ := hb; exact ⟨_, hj⟩), (fun t x ht => by cases ht), fun j => ?_, fun i j b hij hi hj => h.dis i j b hij (hfc i b hi).2 (hfc j b hj).2, fun i b hb => h.lt i b (hfc i b hb).2, fun b o x hm => ⟨(h.im b o x hm).1, fun i hb => (h.im b o x hm).2 i (hfc i b hb).2⟩, rfl, rfl, rfl, Nat.le_refl _, fun _ _ _ => rfl,
      fun i b hb => .inl ⟨i, hfc i b hb⟩, fun i b hi hb => by show (ρ.trim fresh).root i = _; simp only [Ev.trim, if_pos (show i < fresh from hi)]; exact hb, fun i hi => ⟨by show _ ≤ (ρ.trim fresh).ver i; simp only [Ev.trim, if_pos (show i < fresh from hi)]; exact Nat.le_refl _, fun ao l c hb hv => by show (ρ.trim fresh).root i = _; simp only [Ev.trim, if_pos (show i < fresh from hi)]; exact hb⟩, fun _ _ _ hm => hm, fun b o x hm => .inl hm⟩
    show HoldsC AI ρc w j (getC H0 j)
    rw [hH0]
    split
    · rename_i hj; exact belC_holds hj (hbel j hj) (h.ch j)
    · exact ⟨by simp [ρc, Ev.trim, *], by simp [ρc, Ev.trim, *], by simp [ρc, Ev.trim, *]⟩
  refine (hT Gc rfl rfl hc).mono ?_
  rintro e w' ⟨y, ρr, rfl, hr, hy⟩
  have hbey : ∀ j, m ≤ j → ρr.foot j = [] ∧ ρr.root j = .bool false ∧ ρr.ver j = 0 := fun j hj => by
    have := hr.ch j; dsimp only at this; rw [hH1 j hj] at this; exact this
  let ρ' : Ev := { root := fun i => if i < m then ρr.root i else ρ.root i, ver := fun i => if i < m then ρr.ver i else ρ.ver i, M := ρr.M, foot := fun i => if i < m then ρr.foot i else ρ.foot i }
  have ltr : ∀ i, ρr.root i ≠ .bool false → i < m := fun i hi => Nat.lt_of_not_le fun hle => hi (hbey i hle).2.1
  have lrr : ρr.Le ρ' := by
    refine ⟨fun _ _ _ h => h, fun i b hb => ?_, fun i => ?_, fun i hv hs => ?_⟩
    · have := ltr i (by rw [hb]; simp)
      simp only [ρ', if_pos this]; exact hb
    · simp only [ρ']; split
      · exact Nat.le_refl _
      · rename_i hi; rw [(hbey i (by omega)).2.2]; exact Nat.zero_le _
    · obtain ⟨ao, l, c, hs⟩ := hs
      have := ltr i (by rw [hs]; simp)
      simp only [ρ', if_pos this]
  have le : ρ.Le ρ' := by
    refine ⟨hr.mono, fun i b hb => ?_, fun i => ?_, fun i hv hs => ?_⟩
    · by_cases hi : i < m
      · simp only [ρ', if_pos hi]
        by_cases hi2 : i < fresh
        · exact hr.rt i b hi2 hb
        · rw [(hempv i (by omega) hi).2.1] at hb; cases hb
      · simp only [ρ', if_neg hi]; exact hb
    · by_cases hi : i < m
      · simp only [ρ', if_pos hi]
        by_cases hi2 : i < fresh
        · exact (hr.rts i hi2).1
        · rw [(hempv i (by omega) hi).2.2]; exact Nat.zero_le _
      · simp only [ρ', if_neg hi]; exact Nat.le_refl _
    · obtain ⟨ao, l, c, hs⟩ := hs
      by_cases hi : i < m
      · simp only [ρ', if_pos hi] at hv ⊢
        by_cases hi2 : i < fresh
        · rw [(hr.rts i hi2).2 ao l c hs hv.symm, hs]
        · rw [(hempv i (by omega) hi).2.1] at hs; cases hs
      · simp only [ρ', if_neg hi]
  have hrfoot : ∀ j b, b ∈ ρr.foot j → (∃ k, k < fresh ∧ b ∈ ρ.foot k) ∨ w.heap.size ≤ b := fun j b hb => hr.fro j b hb
  have hblk : ∀ b, b < w.heap.size → (∀ j, j < fresh → b ∉ ρ.foot j) → w'.heap[b]? = w.heap[b]? := fun b hb hnb => hr.kept b hb (by rintro ⟨j, hj, hb'⟩; exact hnb j hj hb')
  have hnot : ∀ {i b}, ¬ i < m → b ∈ ρ.foot i → ∀ j, j < fresh → b ∉ ρ.foot j := fun {i b} hi hb j hj hb' => h.dis i j b (by omega) hb hb'
  refine ⟨y, ρ', rfl, ⟨h.sz, h.gt, fun t x ht => ?_, fun i => ?_, fun i k b hik hi hk => ?_, fun i b hb => ?_, fun b o x hm => ⟨(hr.im b o x hm).1, fun i hb => ?_⟩, hr.os.trans h.os, hr.tape.trans h.tape, hr.output.trans h.output, Nat.le_trans h.grow hr.grow,
    fun b hb hn' => ?_, fun i b hb => ?_, fun i b hi hb => le.ptr i b (h.rt i b hi hb), fun i hi => ?_, fun b o x hm => hr.mono b o x (h.mono b o x hm), fun b o x hm => ?_⟩, hy.mono lrr, le⟩
  · obtain ⟨u, h1, h2⟩ := h.tm t x ht; exact ⟨u, h1, h2.mono le⟩
  · show HoldsC AI ρ' w' i (getC H' i)
    by_cases hi : i < m
    · rw [hin i hi]
      have h3 := hr.ch i
      dsimp only at h3
      exact h3.stays lrr (by simp only [ρ', if_pos hi]) (by simp only [ρ', if_pos hi]) (by simp only [ρ', if_pos hi]) fun _ _ => rfl
    · rw [hout i (by omega)]
      exact (h.ch i).stays le (by simp only [ρ', if_neg hi]) (by simp only [ρ', if_neg hi]) (by simp only [ρ', if_neg hi]) fun b hb => hblk b (h.lt i b hb) (hnot hi hb)
  · simp only [ρ'] at hi hk
    split at hi <;> split at hk
    · exact hr.dis i k b hik hi hk
    · rename_i _ hk'
      rcases hrfoot i b hi with ⟨q, hq, hb⟩ | hge
      · exact hnot hk' hk q hq hb
      · have := h.lt k b hk; omega
    · rename_i hi' _
      rcases hrfoot k b hk with ⟨q, hq, hb⟩ | hge
      · exact hnot hi' hi q hq hb
      · have := h.lt i b hi; omega
    · exact h.dis i k b hik hi hk
  · simp only [ρ'] at hb
    split at hb
    · exact hr.lt i b hb
    · exact Nat.lt_of_lt_of_le (h.lt i b hb) hr.grow
  · simp only [ρ'] at hb
    split at hb
    · exact (hr.im b o x hm).2 i hb
    · rename_i hi
      rcases hr.mfr b o x hm with h1 | ⟨q, h1, h2⟩ | h1
      · exact (h.im b o x h1).2 i hb
      · exact hnot hi hb q h1 h2
      · have h1 : w.heap.size ≤ b := h1
        have := h.lt i b hb; omega
  · refine (hblk b (Nat.lt_of_lt_of_le hb h.grow) fun j hj hb' => ?_).trans (h.kept b hb hn')
    rcases h.fro _ b hb' with h1 | h1
    · exact hn' h1
    · omega
  · simp only [ρ'] at hb
    split at hb
    · rcases hrfoot i b hb with ⟨q, hq, hb'⟩ | hge
      · exact h.fro _ b hb'
      · exact .inr (Nat.le_trans h.grow hge)
    · exact h.fro i b hb
  · obtain ⟨hv0, hs⟩ := h.rts i hi
    refine ⟨Nat.le_trans hv0 (le.ver i), fun ao l c hb hv => ?_⟩
    have e0 : ρ.ver i = G.ver0 i := Nat.le_antisymm (hv ▸ le.ver i) hv0
    have h1 := hs ao l c hb e0
    rw [le.same i (by rw [e0, hv]) ⟨_, _, _, h1⟩]; exact h1
  · rcases hr.mfr b o x hm with h1 | ⟨q, h1, h2⟩ | h1
    · exact h.mfr b o x h1
    · exact .inr (h.fro _ b h2)
    · exact .inr (.inr (Nat.le_trans h.grow h1))

theorem inl_sound {E : Env A} (hE : EnvOk P AI E) (hm : P.follows .mixedOrders = true) {f : FuncId} {fn : Func} {c : Code} (hen : Enters P f) (hf : P.funcs[f]? = some fn) (hb : fn.body = some c) (hok : codeOk fn.ntmps c = true) (k : Nat) :
    ConSound P AI f (inlCon E fn.ntmps fn.results.toList c k) := by
  refine ⟨hen, fun args fresh p hp hw => ?_, fun G s ρ tmps w args us fresh p d C v cs h hargs hp hfr he hC => ?_⟩
  · unfold inlCon at hp
    split at hp <;> cases hp
    cases hw
  · unfold inlCon at hp
    split at hp <;> cases hp
    rename_i hcond
    simp only [Bool.and_eq_true] at hcond
    obtain ⟨hlen, hbel⟩ := hcond
    have hlen := leN hlen
    dsimp only at he hfr ⊢
    split at he
    · rename_i hall
      split at he
      · rename_i Cs e s1 ds1 hx
        have key : (e = .normal ∨ e = .ret) ∧ ∃ l, resV E.ti s1 fn.results.toList = some l ∧ s1.H.length ≤ fresh + k ∧ (C = fun _ => allC Cs) ∧ v = resOf l ∧ cs = firstN (fresh + k) s1.H := by
          cases e with
          | exit id => cases he
          | normal =>
            refine ⟨.inl rfl, ?_⟩
            dsimp only at he
            split at he
            · rename_i l hl
              split at he
              · rename_i hle
                simp at he
                exact ⟨l, hl, leN hle, he.1.symm, he.2.1.symm, he.2.2.symm⟩
              · cases he
            · cases he
          | ret =>
            refine ⟨.inr rfl, ?_⟩
            dsimp only at he
            split at he
            · rename_i l hl
              split at he
              · rename_i hle
                simp at he
                exact ⟨l, hl, leN hle, he.1.symm, he.2.1.symm, he.2.2.symm⟩
              · cases he
            · cases he
        obtain ⟨hend, l, hl, hle, rfl, rfl, rfl⟩ := key
        have hgc : ∀ j, j < fresh + k → getC (getCs s.H (upTo 0 (fresh + k))) j = getC s.H j := fun j hj => by rw [getC_getCs hj, Nat.zero_add]
        refine frame_all h (m := fresh + k) (H0 := firstN fresh (getCs s.H (upTo 0 (fresh + k)))) (H1 := s1.H) (fresh := fresh) (by omega) (fun j => ?_) (fun j hj => ?_) (fun j h1 h2 => hfr j (mem_upTo.2 (by omega)) h1) (fun j hj => getC_beyond (by omega)) (fun j hj => ?_) (fun j hj => ?_) fun Gc hn0 hsz hh => ?_
        · rw [getC_firstN]
          split
          · rw [hgc j (by omega)]
          · rfl
        · have hlen2 : ∀ {n i : Nat}, (getCs s.H (upTo i n)).length = n := by
            intro n
            induction n with
            | zero => intro i; rfl
            | succ n ih => intro i; simp only [upTo, getCs, List.length_cons, ih]
          have h1 : (getCs s.H (upTo 0 (fresh + k)))[j]? = some (getC s.H j) := by
            have h2 := hgc j (by omega)
            unfold getC at h2
            rw [nth_eq] at h2
            have h3 : j < (getCs s.H (upTo 0 (fresh + k))).length := by rw [hlen2]; omega
            rw [List.getElem?_eq_getElem h3] at h2 ⊢
            exact congrArg some h2
          exact List.all_eq_true.1 hall _ (List.mem_of_getElem? h1)
        · rw [getC_putCs_upTo j length_firstN, if_pos (by omega), Nat.sub_zero, getC_firstN, if_pos hj]
        · rw [getC_putCs_upTo j length_firstN, if_neg (by omega)]
        · refine calls_of_wp hf hb ?_
          have hd := belVs_den hargs hbel
          have hl1 := hd.length
          have h1 := hh.enter hd (n := fn.ntmps) (by omega)
          refine xcode_sound (AI := AI) (G := { Gc with size := fn.ntmps }) hE hm c hok _ _ hx (allC_mem hC) ⟨rfl, _, h1⟩ ?_
          intro a' w' hdf ⟨ρ', hh'⟩
          obtain ⟨y, h3, h4⟩ := results_sound (AI := AI) (G := { Gc with size := fn.ntmps }) hE.ti hh' hl
          have h5 : Holds AI Gc ⟨[], s1.H⟩ ρ' #[] w' := ⟨hsz.symm, hh'.gt, (fun t x ht => by cases ht), hh'.ch, hh'.dis, hh'.lt, hh'.im, hh'.os, hh'.tape, hh'.output, hh'.grow, hh'.kept, hh'.fro, hh'.rt, hh'.rts, hh'.mono, hh'.mfr⟩
          rcases hend with rfl | rfl
          · exact ⟨hdf, y, h3, y, ρ', rfl, h5, h4⟩
          · exact ⟨hdf, y, h3, y, ρ', rfl, h5, h4⟩
      · cases he
      · cases he
    · cases he

end Go.Sx

/-
  Symbolic execution: small lemmas for the ends of walks.
-/
namespace Go.Sx
set_option linter.all false
set_option linter.unusedVariables false
set_option linter.unusedSimpArgs false
set_option linter.unusedSectionVars false
/-- What evaluation gives: the kernel compares it anew (the evaluation's own proof is dropped). -/
abbrev Sh (G _X : Prop) : Prop := G
abbrev T1 (G X : Prop) := (G = X) → Sh G X
theorem Sh.mk {G X : Prop} (h : X = G) (x : X) : Sh G X := h ▸ x
theorem ifF {α : Type} {b : Bool} {x y : α} (h : b = false) : (if b = true then x else y) = y := if_neg (by rw [h]; exact Bool.false_ne_true)
theorem ifN {α : Type} {b : Bool} {x y : α} (h : b = true) : (if b = false then x else y) = y := if_neg (by rw [h]; exact Bool.noConfusion)
theorem hrPos {α : Type} {c : Prop} [Decidable c] {x y r : α} (h : c) (hr : (if c then x else y) = r) : x = r := (if_pos h).symm.trans hr
theorem hrNeg {α : Type} {c : Prop} [Decidable c] {x y r : α} (h : ¬ c) (hr : (if c then x else y) = r) : y = r := (if_neg h).symm.trans hr
theorem hrF {α : Type} {b : Bool} {x y r : α} (h : b = false) (hr : (if b = true then x else y) = r) : y = r := (ifF h).symm.trans hr
theorem natCast_eq (n : Nat) : @NatCast.natCast Int instNatCastInt n = (n : Int) := rfl
def bodyOf (f : Func) : Code := f.body.getD .skip
noncomputable def inl {A : Type} (E : Env A) (f : Func) (k : Nat) : Con A := inlCon E f.ntmps f.results.toList (bodyOf f) k
theorem nrm : (∀ (p : Prop) [Decidable p], (decide p = true) = p) ∧ (∀ (p : Prop) [Decidable p], decide p = false ↔ ¬ p) ∧ (∀ b : Bool, ((!b) = true) = (b = false)) ∧ (∀ b : Bool, ((!b) = false) = (b = true)) ∧ (∀ b : Bool, (¬ b = true) = (b = false)) ∧ (∀ b : Bool, (¬ b = false) = (b = true)) ∧ (!true) = false ∧ (!false) = true ∧ (∀ (α : Type) (a b : α), (a ≠ b) = ¬ a = b) ∧ (false = true) = False ∧ (true = false) = False ∧ (∀ (α : Type) [BEq α] [LawfulBEq α] (a b : α), (a == b) = true ↔ a = b) ∧ (∀ (α : Type) [BEq α] [LawfulBEq α] (a b : α), (a == b) = false ↔ a ≠ b) ∧ (¬ True) = False ∧ (¬ False) = True :=
  ⟨fun p _ => decide_eq_true_eq, fun p _ => decide_eq_false_iff_not, fun b => Bool.not_eq_true' b, fun b => Bool.not_eq_false' b, fun b => Bool.not_eq_true b, fun b => Bool.not_eq_false b, rfl, rfl, fun _ _ _ => rfl, eq_false Bool.false_ne_true, eq_false Bool.noConfusion, fun _ _ _ _ _ => beq_iff_eq, fun _ _ _ _ _ => beq_eq_false_iff_ne, eq_false (fun h => h trivial), eq_true id⟩
theorem nrb : (∀ b : Bool, (b || true) = true) ∧ (∀ b : Bool, (true || b) = true) ∧ (∀ b : Bool, (b || false) = b) ∧ (∀ b : Bool, (false || b) = b) ∧ (∀ b : Bool, (b && true) = b) ∧ (∀ b : Bool, (true && b) = b) ∧ (∀ b : Bool, (b && false) = false) ∧ (∀ b : Bool, (false && b) = false) ∧ (!true) = false ∧ (!false) = true :=
  ⟨Bool.or_true, Bool.true_or, Bool.or_false, Bool.false_or, Bool.and_true, Bool.true_and, Bool.and_false, Bool.false_and, rfl, rfl⟩
theorem lens : (∀ (α : Type) (a b : List α), (a ++ b).length = a.length + b.length) ∧ (∀ (α : Type) (a : α) (l : List α), (a :: l).length = l.length + 1) ∧ (∀ α : Type, ([] : List α).length = 0) ∧ (∀ (α : Type) (n : Nat) (a : α), (List.replicate n a).length = n) ∧ (∀ (α : Type) (n : Nat) (l : List α), (l.take n).length = min n l.length) ∧ (∀ (α : Type) (n : Nat) (l : List α), (l.drop n).length = l.length - n) :=
  ⟨fun _ _ _ => List.length_append, fun _ _ _ => List.length_cons, fun _ => List.length_nil, fun _ _ _ => List.length_replicate, fun _ _ _ => List.length_take, fun _ _ _ => List.length_drop⟩
theorem take_cg {α : Type} {l : List α} {a b : Int} (h : a = b) : l.take a.toNat = l.take b.toNat := by rw [h]
theorem drop_cg {α : Type} {l : List α} {a b : Int} (h : a = b) : l.drop a.toNat = l.drop b.toNat := by rw [h]
theorem take_drop_cg {α : Type} {l : List α} {a b c d : Int} (h : a = b) (h2 : c = d) : (l.drop c.toNat).take a.toNat = (l.drop d.toNat).take b.toNat := by rw [h, h2]
theorem drop_take_cg {α : Type} {l : List α} {a b c : Int} (h0 : 0 ≤ a) (h1 : 0 ≤ b) (h : c = a + b) : (l.take c.toNat).drop a.toNat = (l.drop a.toNat).take b.toNat := by rw [List.drop_take, h]; congr 1; omega
theorem take_all {α : Type} {l : List α} {a : Int} (h : l.length ≤ a) : l.take a.toNat = l := List.take_of_length_le (by omega)
theorem take_drop_all {α : Type} {l : List α} {a b : Int} (h0 : 0 ≤ b) (h : l.length - b ≤ a) : (l.drop b.toNat).take a.toNat = l.drop b.toNat := List.take_of_length_le (by rw [List.length_drop]; omega)
theorem pair_eta {α β : Type} (p : α × β) : (p.1, p.2) = p := rfl
theorem map_idL {α : Type} (l : List α) : l.map (fun x => x) = l := by simp
theorem map_pair_id {α β : Type} (l : List (α × β)) : l.map (fun x => ((fun x => x) x.1, (fun l => l) x.2)) = l := by
  induction l with
  | nil => rfl
  | cons x r ih => rw [List.map_cons, ih]
end Go.Sx

/-
  Symbolic execution: a function that looks at an open object (all chunks are of a known shape, and stay as they are).
-/
namespace Go.Sx
set_option linter.all false
set_option linter.unusedVariables false
set_option linter.unusedSimpArgs false
set_option linter.unusedSectionVars false
open Go.RowKit

variable {A : Type} {AI : Abs A} {G : Fr} {s : SS A} {ρ : Ev} {a : Act} {w : World} {P : Program}

structure ShapeSpec (A : Type) where
  n : Nat
  X : Type
  un : List SV → List (Chunk A) → Option (U X)
  pre : X → Prop
  res : U X → SV

def ShapeSpec.con (k : ShapeSpec A) : Con A := fun args fresh => match beqN fresh k.n with
  | true => some ⟨upTo 0 k.n, 0, false, fun cs _ => (match args.all (belV k.n) && cs.all (belC k.n) with
    | true => (match k.un args cs with
      | some x => .done (fun _ => k.pre (x ())) (k.res x) cs
      | none => .fail)
    | false => .fail)⟩
  | false => none

theorem length_getCs_upTo {H : List (Chunk A)} : ∀ {n i : Nat}, (getCs H (upTo i n)).length = n
  | 0, i => rfl
  | n + 1, i => by simp only [upTo, getCs, List.length_cons, length_getCs_upTo]

theorem ShapeSpec.sound [SubA A] {E : Env A} (hE : EnvOk P AI E) (hm : P.follows .mixedOrders = true) {f : FuncId} {fn : Func} {c : Code} (hen : Enters P f) (hf : P.funcs[f]? = some fn) (hb : fn.body = some c) (hok : codeOk fn.ntmps c = true) {k : ShapeSpec A}
    (h : ∀ args cs x, k.un args cs = some x → k.pre (x ()) → cs.length = k.n → args.length ≤ fn.ntmps ∧ svc E k.n c ⟨argT 0 args, cs⟩ (finP E.ti k.n fn.results.toList (k.res x) cs)) : ConSound P AI f k.con := by
  refine ⟨hen, fun args fresh p hp _ H d C v cs he => ?_, fun G s ρ tmps w args us fresh p d C v cs hh hargs hp hfr he hC => ?_⟩
  · unfold ShapeSpec.con at hp
    split at hp <;> cases hp
    dsimp only at he
    split at he
    · split at he
      · simp at he; exact he.2.2.symm
      · cases he
    · cases he
  · unfold ShapeSpec.con at hp
    split at hp <;> cases hp
    dsimp only at he hfr ⊢
    split at he
    · rename_i hbel
      obtain ⟨hb1, hb2⟩ := Bool.and_eq_true_iff.1 hbel
      split at he
      · rename_i x hx
        simp at he
        obtain ⟨rfl, rfl, rfl⟩ := he
        obtain ⟨hl, hs⟩ := h _ _ x hx hC length_getCs_upTo
        have hgc : ∀ j, j < k.n → getC (getCs s.H (upTo 0 k.n)) j = getC s.H j := fun j hj => by rw [getC_getCs hj, Nat.zero_add]
        have hbey : ∀ j, k.n ≤ j → getC (getCs s.H (upTo 0 k.n)) j = .emp := fun j hj => getC_beyond (by rw [length_getCs_upTo]; exact hj)
        refine (frame_all hh (m := k.n) (H0 := getCs s.H (upTo 0 k.n)) (H1 := getCs s.H (upTo 0 k.n)) (fresh := k.n) (v := k.res x) (Nat.le_refl _) (fun j => ?_) (fun j hj => ?_) (fun j h1 h2 => by omega) (fun j hj => hbey j hj)
          (H' := putCs s.H (upTo 0 k.n) (getCs s.H (upTo 0 k.n))) (fun j hj => ?_) (fun j hj => ?_) fun Gc hn0 hsz h0 => ?_)
        · split
          · rename_i hj; exact hgc j hj
          · rename_i hj; exact hbey j (by omega)
        · have h1 : (getCs s.H (upTo 0 k.n))[j]? = some (getC s.H j) := by
            have h2 := hgc j hj
            unfold getC at h2
            rw [nth_eq] at h2
            have h3 : j < (getCs s.H (upTo 0 k.n)).length := by rw [length_getCs_upTo]; exact hj
            rw [List.getElem?_eq_getElem h3] at h2 ⊢
            exact congrArg some h2
          exact List.all_eq_true.1 hb2 _ (List.mem_of_getElem? h1)
        · rw [putCs_self _ _ _ (fun _ => rfl) j, hgc j hj]
        · exact putCs_self _ _ _ (fun _ => rfl) j
        · exact body_ok hE hm hf hb hok hl hs hn0 hsz h0 (belVs_den hargs hb1)
      · cases he
    · cases he

end Go.Sx

/-
  Symbolic execution: the arguments of a law, seen as data; from a template to the call of a law.
-/
namespace Go.Sx
set_option linter.all false
set_option linter.unusedVariables false
set_option linter.unusedSimpArgs false
set_option linter.unusedSectionVars false
open Go.RowKit Go.Deep Go.ChangeShapes Go.WideShapes

variable {P : Program}

/-- Numbers in their ranges, bytes as bytes. -/
def Ty.ok : (e : Ty) → e.T → Prop
  | .int k, n => k.min ≤ n ∧ n ≤ k.max
  | .bool, _ => True
  | .bytes, l => l.length ≤ maxLen ∧ inBytes l
  | .lst e, l => @List.length e.T l ≤ maxLen ∧ ∀ x ∈ (show List e.T from l), e.ok x
  | .str, l => l.length ≤ maxLen ∧ inBytes l
  | .unit, _ => True
  | .pair a b, x => a.ok x.1 ∧ b.ok x.2

def memOf (w : World) : Mem := fun b o => w.cell? ⟨b, o, none⟩

/-- Is a type of this form? (n: fuel) -/
def fieldsB (tyB : TypeId → Ty → Bool) (P : Program) : Nat → List TypeId → Ty → Bool
  | _, [t], e => P.cellsOf t == e.size && tyB t e
  | n, t :: ts, .pair a b => P.cellsOf t == a.size && tyB t a && fieldsB tyB P (n + a.size) ts b
  | _, _, _ => false
def offsIn : Nat → Program → List Field → Bool
  | _, _, [] => true
  | n, P, f :: fs => f.offset == n && offsIn (n + P.cellsOf f.type) P fs
def tyB (P : Program) : Nat → TypeId → Ty → Bool
  | 0, _, _ => false
  | n + 1, t, e => match P.underlying t with
    | some (.int k) => (match e with | .int k' => k == k' | _ => false)
    | some .bool => (match e with | .bool => true | _ => false)
    | some .string => (match e with | .str => true | _ => false)
    | some (.slice u) => (match e with | .bytes => (match P.underlying u with | some (.int .u8) => P.cellsOf u == 1 | _ => false) | .lst e => P.cellsOf u == e.size && bltN 0 e.size && tyB P n u e | _ => false)
    | some (.struct fs) => P.cellsOf t == e.size && offsIn 0 P fs.toList && fieldsB (tyB P n) P 0 (fs.toList.map (·.type)) e
    | some (.array m u) => P.cellsOf t == e.size && fieldsB (tyB P n) P 0 (List.replicate m u) e
    | _ => false

section
variable {H : Type} {enc : TypeId × Value → H} {W : World} {sp : Nat → Bool} {held : Bool}

theorem add_flat (b off n : Nat) : (⟨b, off, none⟩ : Addr).add n = ⟨b, off + n, none⟩ := by
  unfold Addr.add
  split
  · rename_i h; have : n = 0 := by simpa using h
    subst this; rfl
  · rfl

theorem list_of {α : Type} (n : Nat) (p : Nat → α → Prop) (h : ∀ i, i < n → ∃ x, p i x) : ∃ l : List α, l.length = n ∧ ∀ i x, l[i]? = some x → p i x := by
  induction n with
  | zero => exact ⟨[], rfl, fun i x hi => by cases hi⟩
  | succ n ih =>
    obtain ⟨l, hl, hp⟩ := ih (fun i hi => h i (by omega))
    obtain ⟨x, hx⟩ := h n (by omega)
    refine ⟨l ++ [x], by simp [hl], fun i y hi => ?_⟩
    by_cases e : i < l.length
    · rw [List.getElem?_append_left e] at hi; exact hp i y hi
    · have hlt := (List.getElem?_eq_some_iff.1 hi).1
      have : i = l.length := by simp at hlt; omega
      subst this
      simp at hi
      subst hi
      rw [hl]; exact hx

/-- A slice shows the elements that each of its places shows. -/
theorem shows_of {t u : TypeId} (ht : P.underlying t = some (.slice u)) {e : Ty} (hc : P.cellsOf u = e.size) (hpos : 0 < e.size) {fuel : Nat} {cs : List Value} {x : DataW H × List MemPlace} (h : DataW.trod enc P W 0 sp held fuel t cs = some x)
    (he : ∀ n cs' x', DataW.trod enc P W 0 sp held n u cs' = some x' → ∃ y : e.T, cs'.length = e.size ∧ CellsM (memOf W) e y (fun i => cs'[i]?) ∧ e.ok y) :
    ∃ L : List e.T, L.length ≤ maxLen ∧ (∀ y ∈ L, e.ok y) ∧ ∃ v, cs = [v] ∧ ShowsM (memOf W) e L v := by
  rcases open_slice ht h with ⟨rfl, _⟩ | ⟨a, len, cap, m, n, D, Pl, rfl, _, hl, hm, hmm, _, hx⟩
  · exact ⟨[], Nat.zero_le _, by simp, _, rfl, none, 0, rfl, Nat.le_refl _, by simp⟩
  · have hlm : len ≤ m := by rw [hmm]; split <;> omega
    have each : ∀ i, i < len → ∃ y : e.T, e.ok y ∧ CellsM (memOf W) e y (fun j => if j < e.size then W.cell? (a.add (i * e.size + j)) else none) := by
      intro i hi
      obtain ⟨cs', h1, h2⟩ := hx i (by omega)
      obtain ⟨y, hy1, hy2, hy3⟩ := he _ _ _ h2
      rw [hc] at h1
      obtain ⟨_, hlen, hcell⟩ := World.cells?_some h1
      refine ⟨y, hy3, CellsM.congr e hy2 fun j v hj hv => ?_⟩
      have := hcell j hj
      rw [add_add] at this
      rw [if_pos hj, this]
      exact hv
    obtain ⟨L, hL, hp⟩ := list_of len _ each
    refine ⟨L, by omega, fun y hy => ?_, _, rfl, some a, cap, by rw [hL], by omega, fun h0 => ?_⟩
    · obtain ⟨i, hi⟩ := List.mem_iff_getElem?.1 hy
      exact (hp i y hi).1
    · obtain ⟨y0, hy0⟩ : ∃ y, L[0]? = some y := ⟨L[0]'h0, by simp⟩
      have hc0 := (hp 0 y0 hy0).2
      obtain ⟨b, off, spot⟩ := a
      have hspot : spot = none := by
        obtain ⟨cs', h1, _⟩ := hx 0 (by omega)
        obtain ⟨_, hlen, hcell⟩ := World.cells?_some h1
        have h3 := hcell 0 (by rw [hc]; exact hpos)
        have : 0 < cs'.length := by rw [hlen, hc]; exact hpos
        rw [List.getElem?_eq_getElem this] at h3
        rw [add_add] at h3
        simpa [Addr.add] using World.cell?_spot h3
      subst hspot
      refine ⟨b, off, rfl, fun j y hj => CellsM.congr e (hp j y hj).2 fun k v hk hv => ?_⟩
      rw [if_pos hk, add_flat, ← Nat.add_assoc] at hv
      exact hv

theorem ofs_cells {n : Nat} (tyB' : TypeId → Ty → Bool) (hrec : ∀ t e, tyB' t e = true → ∀ fuel cs x, DataW.trod enc P W 0 sp held fuel t cs = some x → ∃ y : e.T, cs.length = e.size ∧ CellsM (memOf W) e y (fun i => cs[i]?) ∧ e.ok y) :
    ∀ (ts : List TypeId) (e : Ty) (off : Nat) (cs : List Value), fieldsB tyB' P off ts e = true →
      (∀ (i : Nat) (t : TypeId), ts[i]? = some t → ∃ x, DataW.trod enc P W 0 sp held n t ((cs.drop ((ts.take i).map P.cellsOf).sum).take (P.cellsOf t)) = some x) →
      ∃ y : e.T, CellsM (memOf W) e y (fun i => cs[i]?) ∧ e.ok y
  | [], e, off, cs, h, _ => by simp [fieldsB] at h
  | [t], e, off, cs, h, hx => by
    simp only [fieldsB, Bool.and_eq_true, beq_iff_eq] at h
    obtain ⟨x, hx⟩ := hx 0 t rfl
    simp only [List.take_zero, List.map_nil, List.sum_nil, List.drop_zero] at hx
    obtain ⟨y, h1, h2, h3⟩ := hrec t e h.2 _ _ _ hx
    refine ⟨y, CellsM.congr e h2 fun j v hj hv => ?_, h3⟩
    rw [List.getElem?_take] at hv
    split at hv
    · exact hv
    · cases hv
  | t :: t2 :: ts, e, off, cs, h, hx => by
    cases e with
    | pair a b =>
      simp only [fieldsB, Bool.and_eq_true, beq_iff_eq] at h
      obtain ⟨⟨h1, h2⟩, h3⟩ := h
      obtain ⟨x, hx0⟩ := hx 0 t rfl
      simp only [List.take_zero, List.map_nil, List.sum_nil, List.drop_zero] at hx0
      obtain ⟨y, g1, g2, g3⟩ := hrec t a h2 _ _ _ hx0
      obtain ⟨z, k1, k2⟩ := ofs_cells tyB' hrec (t2 :: ts) b (off + a.size) (cs.drop a.size) h3 (fun i u hu => by
        obtain ⟨x', hx'⟩ := hx (i + 1) u hu
        refine ⟨x', ?_⟩
        simp only [List.take_succ_cons, List.map_cons, List.sum_cons, h1] at hx'
        rw [List.drop_drop]; exact hx')
      refine ⟨(y, z), ⟨CellsM.congr a g2 fun j v hj hv => ?_, CellsM.congr b k1 fun j v hj hv => ?_⟩, g3, k2⟩
      · rw [List.getElem?_take] at hv
        split at hv
        · exact hv
        · cases hv
      · rw [List.getElem?_drop] at hv; exact hv
    | _ => simp [fieldsB] at h

theorem offsIn_spec {P : Program} : ∀ {fs : List Field} {n : Nat}, offsIn n P fs = true → ∀ i f, fs[i]? = some f → f.offset = n + (((fs.map (·.type)).take i).map P.cellsOf).sum
  | [], _, _, i, f, h => by cases h
  | g :: fs, n, h, i, f, hf => by
    simp only [offsIn, Bool.and_eq_true, beq_iff_eq] at h
    cases i with
    | zero => cases hf; simpa using h.1
    | succ i =>
      have := offsIn_spec h.2 i f hf
      simp only [List.map_cons, List.take_succ_cons, List.sum_cons]
      omega

theorem open_ty : ∀ (n : Nat) {t : TypeId} {e : Ty}, tyB P n t e = true → ∀ {fuel : Nat} {cs : List Value} {x : DataW H × List MemPlace}, DataW.trod enc P W 0 sp held fuel t cs = some x →
    ∃ y : e.T, cs.length = e.size ∧ CellsM (memOf W) e y (fun i => cs[i]?) ∧ e.ok y
  | 0, t, e, h, _, _, _, _ => by simp [tyB] at h
  | n + 1, t, e, h, fuel, cs, x, hx => by
    unfold tyB at h
    split at h
    · rename_i k hu
      split at h <;> (try cases h)
      have h := eq_of_beq h
      subst h
      obtain ⟨m, rfl, _, hw⟩ := DataW.trod_int hu hx
      simp only [Lit.wf, Bool.and_eq_true, decide_eq_true_eq] at hw
      exact ⟨m, rfl, rfl, hw⟩
    · rename_i hu
      split at h <;> cases h
      obtain ⟨b, rfl, _⟩ := DataW.trod_bool hu hx
      exact ⟨b, rfl, rfl, trivial⟩
    · rename_i hu
      split at h <;> cases h
      obtain ⟨s, rfl, _, hs⟩ := DataW.trod_string hu hx
      refine ⟨s.data.toList.map fun x => (x.toNat : Int), rfl, ?_, by simpa using hs, ?_⟩
      · show some _ = some _
        congr 2
        cases s with | mk d =>
        congr 1
        simp [Function.comp_def]
      · intro y hy
        obtain ⟨z, _, rfl⟩ := List.mem_map.1 hy
        have := z.toNat_lt
        omega
    · rename_i u hu
      split at h <;> (try cases h)
      · split at h <;> (try cases h)
        rename_i hu8
        have hc := eq_of_beq h
        obtain ⟨L, h1, h2, v, rfl, h3⟩ := shows_of (e := .int .u8) hu hc (by decide) hx fun m cs' x' hx' => by
          obtain ⟨z, rfl, _, hw⟩ := DataW.trod_int hu8 hx'
          simp only [Lit.wf, Bool.and_eq_true, decide_eq_true_eq] at hw
          exact ⟨z, rfl, rfl, hw⟩
        refine ⟨L, rfl, ⟨v, rfl, showsB_iff.2 h3⟩, h1, fun y hy => ?_⟩
        obtain ⟨a, b⟩ := h2 y hy
        have e1 : IntKind.u8.min = 0 := by decide
        have e2 : IntKind.u8.max = 255 := by decide
        exact ⟨e1 ▸ a, Int.lt_of_le_of_lt (e2 ▸ b : (y : Int) ≤ 255) (by decide)⟩
      · rename_i e
        simp only [Bool.and_eq_true, beq_iff_eq] at h
        obtain ⟨⟨h1, h2⟩, h3⟩ := h
        have h2 : 0 < e.size := leN h2
        obtain ⟨L, g1, g2, v, rfl, g3⟩ := shows_of hu h1 h2 hx (fun m cs' x' hx' => open_ty n h3 hx')
        exact ⟨L, rfl, cellsM_lst.2 ⟨v, rfl, g3⟩, g1, g2⟩
    · rename_i fs hu
      simp only [Bool.and_eq_true, beq_iff_eq] at h
      obtain ⟨⟨h1, h2⟩, h3⟩ := h
      obtain ⟨xs, m, rfl, _, hl, hlen, hf⟩ := DataW.trod_struct hu hx
      obtain ⟨y, k1, k2⟩ := ofs_cells (n := m) (tyB P n) (fun t e ht fuel cs x hx => open_ty n ht hx) _ e 0 cs h3 (fun i u hi => by
        rw [List.getElem?_map] at hi
        obtain ⟨f, hf1, rfl⟩ := Option.map_eq_some_iff.1 hi
        have g := hf i f (by simpa using hf1)
        have ho := offsIn_spec h2 i f hf1
        rw [Nat.zero_add] at ho
        rw [← ho, g]
        have hi' : i < xs.length := by
          rw [hlen]; have := (List.getElem?_eq_some_iff.1 hf1).1; simpa using this
        exact ⟨xs[i], by simp⟩)
      exact ⟨y, hl.trans h1, k1, k2⟩
    · rename_i m u hu
      simp only [Bool.and_eq_true, beq_iff_eq] at h
      obtain ⟨h1, h3⟩ := h
      obtain ⟨xs, q, rfl, _, hl, hlen, hf⟩ := DataW.trod_array hu hx
      obtain ⟨y, k1, k2⟩ := ofs_cells (n := q) (tyB P n) (fun t e ht fuel cs x hx => open_ty n ht hx) _ e 0 cs h3 (fun i t' hi => by
        obtain ⟨hi1, hi2⟩ := List.getElem?_eq_some_iff.1 hi
        simp at hi1 hi2
        subst hi2
        have g := hf i hi1
        have hs : ((List.take i (List.replicate m u)).map P.cellsOf).sum = i * P.cellsOf u := by
          rw [List.take_replicate, Nat.min_eq_left (by omega)]; simp
        rw [hs, g]
        exact ⟨xs[i]'(by omega), by simp⟩)
      exact ⟨y, hl.trans h1, k1, k2⟩
    · cases h

/-- Is a parameter's type of this form? -/
def dtB (P : Program) (t : TypeId) : DT → Bool
  | .cell e => tyB P 8 t e && bltN 0 e.size && (match P.underlying t with | some (.struct _) => e.agg | some (.array _ _) => e.agg | _ => !e.agg)
  | .lst e => (match P.underlying t with | some (.slice u) => P.cellsOf u == e.size && bltN 0 e.size && tyB P 8 u e | _ => false)
def DT.ok : (d : DT) → d.T → Prop
  | .cell e, x => e.ok x
  | .lst e, L => L.length ≤ maxLen ∧ ∀ x ∈ L, e.ok x

theorem elV_some : ∀ {e : Ty} (x : U e.T), 0 < e.size → ∃ y, elV e x = some y
  | .int _, x, _ => ⟨_, rfl⟩
  | .bool, x, _ => ⟨_, rfl⟩
  | .bytes, x, _ => ⟨_, rfl⟩
  | .lst _, x, _ => ⟨_, rfl⟩
  | .str, x, _ => ⟨_, rfl⟩
  | .unit, x, h => by simp [Ty.size] at h
  | .pair a b, x, _ => ⟨_, rfl⟩

theorem open_dt {d : DT} {t : TypeId} (hd : dtB P t d = true) {v : Value} {r : Reach} {b0 : Nat} (hval : Value.okWide P W r b0 t v) {dd : DataW H} {ps : List MemPlace} (h : DataW.Trod enc P W 0 sp held t v dd ps) :
    ∃ x : d.T, d.ok x ∧ ∀ ρ : Ev, ρ.M = memOf W → Den2 ρ (d.sv (fun _ => x)) v := by
  obtain ⟨fuel, hf⟩ := h
  cases d with
  | cell e =>
    simp only [dtB, Bool.and_eq_true] at hd
    obtain ⟨⟨h1, h2⟩, h3⟩ := hd
    have h2 : 0 < e.size := leN h2
    obtain ⟨y, k1, k2, k3⟩ := open_ty 8 h1 hf
    refine ⟨y, k3, fun ρ hM => ?_⟩
    obtain ⟨z, hz⟩ := elV_some (e := e) (fun _ => y) h2
    simp only [DT.sv, hz]
    refine elV_den hz ?_
    rw [hM]
    refine ⟨v.cells.toList, k1, k2, ?_⟩
    have hag : ∀ cs, v = .agg cs → e.agg = true → (match e.agg with | true => v = .agg v.cells.toList.toArray | false => v.cells.toList = [v]) := by
      rintro cs rfl he
      rw [he]; simp [Value.cells]
    have hone : (∀ cs, v ≠ .agg cs) → e.agg = false → (match e.agg with | true => v = .agg v.cells.toList.toArray | false => v.cells.toList = [v]) := by
      intro hn he
      rw [he]
      cases v <;> first | rfl | exact absurd rfl (hn _)
    unfold tyB at h1
    split at h1
    · rename_i k hu
      obtain ⟨m, rfl⟩ := okWide_int hu hval
      rw [hu] at h3
      exact hone (fun _ h => by cases h) (by simpa using h3)
    · rename_i hu
      obtain ⟨m, rfl⟩ := okWide_bool hu hval
      rw [hu] at h3
      exact hone (fun _ h => by cases h) (by simpa using h3)
    · rename_i hu
      obtain ⟨m, rfl⟩ := okWide_string hu hval
      rw [hu] at h3
      exact hone (fun _ h => by cases h) (by simpa using h3)
    · rename_i u hu
      obtain ⟨a, l, c, rfl⟩ := okWide_slice hu hval
      rw [hu] at h3
      exact hone (fun _ h => by cases h) (by simpa using h3)
    · rename_i fs hu
      obtain ⟨cs, rfl, _⟩ := okWide_struct hu hval
      rw [hu] at h3
      exact hag _ rfl h3
    · rename_i m u hu
      have hval' := hval
      simp only [Value.okWide, hu] at hval'
      obtain ⟨cs, rfl, _⟩ := hval'
      rw [hu] at h3
      exact hag _ rfl h3
    · cases h1
  | lst e =>
    simp only [dtB] at hd
    split at hd
    · rename_i u hu
      simp only [Bool.and_eq_true, beq_iff_eq] at hd
      obtain ⟨⟨h1, h2⟩, h3⟩ := hd
      have h2 : 0 < e.size := leN h2
      obtain ⟨a, l, c, rfl⟩ := okWide_slice hu hval
      obtain ⟨L, g1, g2, v', g3, g4⟩ := shows_of hu h1 h2 hf (fun n cs' x' hx' => open_ty 8 h3 hx')
      have hv' : v' = .slice a l c := by simpa [Value.cells] using g3.symm
      subst hv'
      exact ⟨L, ⟨g1, g2⟩, fun ρ hM => by show ShowsM ρ.M e L _; rw [hM]; exact g4⟩
    · cases hd
end

/-- A call from outside, by a template over nothing. -/
theorem TmplOk.start {A : Type} {AI : Abs A} {f : FuncId} {args : List SV} {v : SV} (hT : TmplOk P AI f args [] v []) {W : World} {us : List Value} (htq : AI.tq.T W (fun _ => False)) (hargs : ∀ ρ : Ev, ρ.M = memOf W → All2 (Den ρ) args us) :
    Calls P f us.toArray W fun e w' => (∃ y ρ, e = .returned y ∧ Den ρ v y) ∧ Below W.heap.size W w' := by
  let ρc : Ev := { root := fun _ => .bool false, ver := fun _ => 0, M := memOf W, foot := fun _ => [] }
  refine (hT ⟨W, fun _ => False, 0, fun _ => .bool false, memOf W, 0, fun _ => 0⟩ ρc W us rfl rfl ?_ (hargs ρc rfl)).mono ?_
  · exact ⟨rfl, htq, (fun t x ht => by cases ht), fun j => ⟨rfl, rfl, rfl⟩, (fun _ _ _ _ h => by cases h), (fun _ _ h => by cases h), fun b o x hm => ⟨hm, fun i hi => by cases hi⟩, rfl, rfl, rfl, Nat.le_refl _, fun _ _ _ => rfl, (fun _ _ h => by cases h), (fun i b hi hb => by cases hb), (fun i hi => absurd hi (Nat.not_lt_zero i)), fun _ _ _ hm => hm, fun b o x hm => .inl hm⟩
  · rintro e w' ⟨y, ρ', rfl, hh, hy⟩
    exact ⟨⟨y, ρ', rfl, hy⟩, hh.os, hh.tape, hh.output, hh.grow, fun k hk => hh.kept k hk (fun h => h)⟩

/-- A law returns true. -/
theorem PureSpec.law {A : Type} {AI : Abs A} {f : FuncId} {k : PureSpec} (hrs : k.rs = [.cell .bool]) (hk : k.Ok P AI f) {x : Tup k.ds} (hx : k.pre x) (hf : ∀ v : SV, resOf (svs k.rs (fun _ => k.f x)) = v → ∀ ρ y, Den ρ v y → y = .bool true) {W : World} {us : List Value}
    (hargs : ∀ ρ : Ev, ρ.M = memOf W → All2 (Den2 ρ) (svs k.ds (fun _ => x)) us) (htq : AI.tq.T W (fun _ => False) := by exact TabQ.T_none _ _) :
    Calls P f us.toArray W fun e w' => e = .returned (.bool true) ∧ Below W.heap.size W w' := by
  refine ((hk x hx).start htq fun ρ hM => argS_den (hargs ρ hM) rfl).mono ?_
  rintro e w' ⟨⟨y, ρ, rfl, hy⟩, hb⟩
  rw [hf _ rfl ρ y hy]
  exact ⟨rfl, hb⟩

theorem inRange_i64 {n : Int} (h : (Ty.int .i64).ok n) : inI64 n := by
  obtain ⟨a, b⟩ := h
  have e1 : IntKind.i64.min = -9223372036854775808 := by decide
  have e2 : IntKind.i64.max = 9223372036854775807 := by decide
  exact ⟨e1 ▸ a, e2 ▸ b⟩
theorem inRange_u8 {n : Int} (h : (Ty.int .u8).ok n) : 0 ≤ n ∧ n ≤ 255 := by
  obtain ⟨a, b⟩ := h
  have e1 : IntKind.u8.min = 0 := by decide
  have e2 : IntKind.u8.max = 255 := by decide
  exact ⟨e1 ▸ a, e2 ▸ b⟩
theorem inRange_u16 {n : Int} (h : (Ty.int .u16).ok n) : 0 ≤ n ∧ n ≤ 65535 := by
  obtain ⟨a, b⟩ := h
  have e1 : IntKind.u16.min = 0 := by decide
  have e2 : IntKind.u16.max = 65535 := by decide
  exact ⟨e1 ▸ a, e2 ▸ b⟩
end Go.Sx

/-
  Symbolic execution: the equations that evaluation uses, stated once.
-/
namespace Go.Sx
set_option linter.all false
set_option linter.unusedVariables false
set_option linter.unusedSimpArgs false
set_option linter.unusedSectionVars false
theorem eqn_beqN_eq_1 : True := by first | (have := @beqN.eq_1; trivial) | trivial
theorem eqn_beqN_eq_def : True := by first | (have := @beqN.eq_def; trivial) | trivial
theorem eqn_bleN_eq_1 : True := by first | (have := @bleN.eq_1; trivial) | trivial
theorem eqn_bleN_eq_def : True := by first | (have := @bleN.eq_def; trivial) | trivial
theorem eqn_bltN_eq_1 : True := by first | (have := @bltN.eq_1; trivial) | trivial
theorem eqn_bltN_eq_def : True := by first | (have := @bltN.eq_def; trivial) | trivial
theorem eqn_U_eq_1 : True := by first | (have := @U.eq_1; trivial) | trivial
theorem eqn_U_eq_def : True := by first | (have := @U.eq_def; trivial) | trivial
theorem eqn_Ty_T_eq_1 : True := by first | (have := @Ty.T.eq_1; trivial) | trivial
theorem eqn_Ty_T_eq_def : True := by first | (have := @Ty.T.eq_def; trivial) | trivial
theorem eqn_Ty_dflt_eq_1 : True := by first | (have := @Ty.dflt.eq_1; trivial) | trivial
theorem eqn_Ty_dflt_eq_def : True := by first | (have := @Ty.dflt.eq_def; trivial) | trivial
theorem eqn_Ty_size_eq_1 : True := by first | (have := @Ty.size.eq_1; trivial) | trivial
theorem eqn_Ty_size_eq_def : True := by first | (have := @Ty.size.eq_def; trivial) | trivial
theorem eqn_Ty_agg_eq_1 : True := by first | (have := @Ty.agg.eq_1; trivial) | trivial
theorem eqn_Ty_agg_eq_def : True := by first | (have := @Ty.agg.eq_def; trivial) | trivial
theorem eqn_KT_T_eq_1 : True := by first | (have := @KT.T.eq_1; trivial) | trivial
theorem eqn_KT_T_eq_def : True := by first | (have := @KT.T.eq_def; trivial) | trivial
theorem eqn_dec_eq_1 : True := by first | (have := @dec.eq_1; trivial) | trivial
theorem eqn_dec_eq_def : True := by first | (have := @dec.eq_def; trivial) | trivial
theorem eqn_castL_eq_1 : True := by first | (have := @castL.eq_1; trivial) | trivial
theorem eqn_castL_eq_def : True := by first | (have := @castL.eq_def; trivial) | trivial
theorem eqn_lstOf_eq_1 : True := by first | (have := @lstOf.eq_1; trivial) | trivial
theorem eqn_lstOf_eq_def : True := by first | (have := @lstOf.eq_def; trivial) | trivial
theorem eqn_enc_eq_1 : True := by first | (have := @enc.eq_1; trivial) | trivial
theorem eqn_enc_eq_def : True := by first | (have := @enc.eq_def; trivial) | trivial
theorem eqn_getA_eq_1 : True := by first | (have := @getA.eq_1; trivial) | trivial
theorem eqn_getA_eq_def : True := by first | (have := @getA.eq_def; trivial) | trivial
theorem eqn_putA_eq_1 : True := by first | (have := @putA.eq_1; trivial) | trivial
theorem eqn_putA_eq_def : True := by first | (have := @putA.eq_def; trivial) | trivial
theorem eqn_delA_eq_1 : True := by first | (have := @delA.eq_1; trivial) | trivial
theorem eqn_delA_eq_def : True := by first | (have := @delA.eq_def; trivial) | trivial
theorem eqn_getM_eq_1 : True := by first | (have := @getM.eq_1; trivial) | trivial
theorem eqn_getM_eq_def : True := by first | (have := @getM.eq_def; trivial) | trivial
theorem eqn_putM_eq_1 : True := by first | (have := @putM.eq_1; trivial) | trivial
theorem eqn_putM_eq_def : True := by first | (have := @putM.eq_def; trivial) | trivial
theorem eqn_delM_eq_1 : True := by first | (have := @delM.eq_1; trivial) | trivial
theorem eqn_delM_eq_def : True := by first | (have := @delM.eq_def; trivial) | trivial
theorem eqn_TI_isAgg_eq_1 : True := by first | (have := @TI.isAgg.eq_1; trivial) | trivial
theorem eqn_TI_isAgg_eq_def : True := by first | (have := @TI.isAgg.eq_def; trivial) | trivial
theorem eqn_look_eq_1 : True := by first | (have := @look.eq_1; trivial) | trivial
theorem eqn_look_eq_def : True := by first | (have := @look.eq_def; trivial) | trivial
theorem eqn_nth_eq_1 : True := by first | (have := @nth.eq_1; trivial) | trivial
theorem eqn_nth_eq_def : True := by first | (have := @nth.eq_def; trivial) | trivial
theorem eqn_setNth_eq_1 : True := by first | (have := @setNth.eq_1; trivial) | trivial
theorem eqn_setNth_eq_def : True := by first | (have := @setNth.eq_def; trivial) | trivial
theorem eqn_takeN_eq_1 : True := by first | (have := @takeN.eq_1; trivial) | trivial
theorem eqn_takeN_eq_def : True := by first | (have := @takeN.eq_def; trivial) | trivial
theorem eqn_cut_eq_1 : True := by first | (have := @cut.eq_1; trivial) | trivial
theorem eqn_cut_eq_def : True := by first | (have := @cut.eq_def; trivial) | trivial
theorem eqn_paste_eq_1 : True := by first | (have := @paste.eq_1; trivial) | trivial
theorem eqn_paste_eq_def : True := by first | (have := @paste.eq_def; trivial) | trivial
theorem eqn_ofLit1_eq_1 : True := by first | (have := @ofLit1.eq_1; trivial) | trivial
theorem eqn_ofLit1_eq_def : True := by first | (have := @ofLit1.eq_def; trivial) | trivial
theorem eqn_ofLit_eq_1 : True := by first | (have := @ofLit.eq_1; trivial) | trivial
theorem eqn_ofLit_eq_def : True := by first | (have := @ofLit.eq_def; trivial) | trivial
theorem eqn_evalOp_eq_1 : True := by first | (have := @evalOp.eq_1; trivial) | trivial
theorem eqn_evalOp_eq_def : True := by first | (have := @evalOp.eq_def; trivial) | trivial
theorem eqn_evalOps_eq_1 : True := by first | (have := @evalOps.eq_1; trivial) | trivial
theorem eqn_evalOps_eq_def : True := by first | (have := @evalOps.eq_def; trivial) | trivial
theorem eqn_inI64_eq_1 : True := by first | (have := @inI64.eq_1; trivial) | trivial
theorem eqn_inI64_eq_def : True := by first | (have := @inI64.eq_def; trivial) | trivial
theorem eqn_one_eq_1 : True := by first | (have := @one.eq_1; trivial) | trivial
theorem eqn_one_eq_def : True := by first | (have := @one.eq_def; trivial) | trivial
theorem eqn_pureP_eq_1 : True := by first | (have := @pureP.eq_1; trivial) | trivial
theorem eqn_pureP_eq_def : True := by first | (have := @pureP.eq_def; trivial) | trivial
theorem eqn_tt_eq_1 : True := by first | (have := @tt.eq_1; trivial) | trivial
theorem eqn_tt_eq_def : True := by first | (have := @tt.eq_def; trivial) | trivial
theorem eqn_cellsOf_eq_1 : True := by first | (have := @cellsOf.eq_1; trivial) | trivial
theorem eqn_cellsOf_eq_def : True := by first | (have := @cellsOf.eq_def; trivial) | trivial
theorem eqn_ival_eq_1 : True := by first | (have := @ival.eq_1; trivial) | trivial
theorem eqn_ival_eq_def : True := by first | (have := @ival.eq_def; trivial) | trivial
theorem eqn_ivalS_eq_1 : True := by first | (have := @ivalS.eq_1; trivial) | trivial
theorem eqn_ivalS_eq_def : True := by first | (have := @ivalS.eq_def; trivial) | trivial
theorem eqn_bval_eq_1 : True := by first | (have := @bval.eq_1; trivial) | trivial
theorem eqn_bval_eq_def : True := by first | (have := @bval.eq_def; trivial) | trivial
theorem eqn_fit_eq_1 : True := by first | (have := @fit.eq_1; trivial) | trivial
theorem eqn_fit_eq_def : True := by first | (have := @fit.eq_def; trivial) | trivial
theorem eqn_arith_eq_1 : True := by first | (have := @arith.eq_1; trivial) | trivial
theorem eqn_arith_eq_def : True := by first | (have := @arith.eq_def; trivial) | trivial
theorem eqn_inBytes_eq_1 : True := by first | (have := @inBytes.eq_1; trivial) | trivial
theorem eqn_inBytes_eq_def : True := by first | (have := @inBytes.eq_def; trivial) | trivial
theorem eqn_strBA_eq_1 : True := by first | (have := @strBA.eq_1; trivial) | trivial
theorem eqn_binop1_eq_1 : True := by first | (have := @binop1.eq_1; trivial) | trivial
theorem eqn_binop1_eq_def : True := by first | (have := @binop1.eq_def; trivial) | trivial
theorem eqn_softP_eq_1 : True := by first | (have := @softP.eq_1; trivial) | trivial
theorem eqn_softP_eq_def : True := by first | (have := @softP.eq_def; trivial) | trivial
theorem eqn_binopP_eq_1 : True := by first | (have := @binopP.eq_1; trivial) | trivial
theorem eqn_binopP_eq_def : True := by first | (have := @binopP.eq_def; trivial) | trivial
theorem eqn_unopP_eq_1 : True := by first | (have := @unopP.eq_1; trivial) | trivial
theorem eqn_unopP_eq_def : True := by first | (have := @unopP.eq_def; trivial) | trivial
theorem eqn_litNat_eq_1 : True := by first | (have := @litNat.eq_1; trivial) | trivial
theorem eqn_litNat_eq_def : True := by first | (have := @litNat.eq_def; trivial) | trivial
theorem eqn_convertP_eq_1 : True := by first | (have := @convertP.eq_1; trivial) | trivial
theorem eqn_convertP_eq_def : True := by first | (have := @convertP.eq_def; trivial) | trivial
theorem eqn_srcOk_eq_1 : True := by first | (have := @srcOk.eq_1; trivial) | trivial
theorem eqn_srcOk_eq_def : True := by first | (have := @srcOk.eq_def; trivial) | trivial
theorem eqn_pack_eq_1 : True := by first | (have := @pack.eq_1; trivial) | trivial
theorem eqn_pack_eq_def : True := by first | (have := @pack.eq_def; trivial) | trivial
theorem eqn_partOf_eq_1 : True := by first | (have := @partOf.eq_1; trivial) | trivial
theorem eqn_partOf_eq_def : True := by first | (have := @partOf.eq_def; trivial) | trivial
theorem eqn_loadP_eq_1 : True := by first | (have := @loadP.eq_1; trivial) | trivial
theorem eqn_loadP_eq_def : True := by first | (have := @loadP.eq_def; trivial) | trivial
theorem eqn_storable_eq_1 : True := by first | (have := @storable.eq_1; trivial) | trivial
theorem eqn_storable_eq_def : True := by first | (have := @storable.eq_def; trivial) | trivial
theorem eqn_storeQ_eq_1 : True := by first | (have := @storeQ.eq_1; trivial) | trivial
theorem eqn_storeQ_eq_def : True := by first | (have := @storeQ.eq_def; trivial) | trivial
theorem eqn_viewOf_eq_1 : True := by first | (have := @viewOf.eq_1; trivial) | trivial
theorem eqn_viewOf_eq_def : True := by first | (have := @viewOf.eq_def; trivial) | trivial
theorem eqn_storeP_eq_1 : True := by first | (have := @storeP.eq_1; trivial) | trivial
theorem eqn_storeP_eq_def : True := by first | (have := @storeP.eq_def; trivial) | trivial
theorem eqn_fieldP_eq_1 : True := by first | (have := @fieldP.eq_1; trivial) | trivial
theorem eqn_fieldP_eq_def : True := by first | (have := @fieldP.eq_def; trivial) | trivial
theorem eqn_indexP_eq_1 : True := by first | (have := @indexP.eq_1; trivial) | trivial
theorem eqn_indexP_eq_def : True := by first | (have := @indexP.eq_def; trivial) | trivial
theorem eqn_intArg_eq_1 : True := by first | (have := @intArg.eq_1; trivial) | trivial
theorem eqn_intArg_eq_def : True := by first | (have := @intArg.eq_def; trivial) | trivial
theorem eqn_loOf_eq_1 : True := by first | (have := @loOf.eq_1; trivial) | trivial
theorem eqn_loOf_eq_def : True := by first | (have := @loOf.eq_def; trivial) | trivial
theorem eqn_hiOf_eq_1 : True := by first | (have := @hiOf.eq_1; trivial) | trivial
theorem eqn_hiOf_eq_def : True := by first | (have := @hiOf.eq_def; trivial) | trivial
theorem eqn_isSlice_eq_1 : True := by first | (have := @isSlice.eq_1; trivial) | trivial
theorem eqn_isSlice_eq_def : True := by first | (have := @isSlice.eq_def; trivial) | trivial
theorem eqn_isZero_eq_1 : True := by first | (have := @isZero.eq_1; trivial) | trivial
theorem eqn_isZero_eq_def : True := by first | (have := @isZero.eq_def; trivial) | trivial
theorem eqn_sliceP_eq_1 : True := by first | (have := @sliceP.eq_1; trivial) | trivial
theorem eqn_sliceP_eq_def : True := by first | (have := @sliceP.eq_def; trivial) | trivial
theorem eqn_lenP_eq_1 : True := by first | (have := @lenP.eq_1; trivial) | trivial
theorem eqn_lenP_eq_def : True := by first | (have := @lenP.eq_def; trivial) | trivial
theorem eqn_maxOf_eq_1 : True := by first | (have := @maxOf.eq_1; trivial) | trivial
theorem eqn_maxOf_eq_def : True := by first | (have := @maxOf.eq_def; trivial) | trivial
theorem eqn_minmaxP_eq_1 : True := by first | (have := @minmaxP.eq_1; trivial) | trivial
theorem eqn_minmaxP_eq_def : True := by first | (have := @minmaxP.eq_def; trivial) | trivial
theorem eqn_castK_eq_1 : True := by first | (have := @castK.eq_1; trivial) | trivial
theorem eqn_castK_eq_def : True := by first | (have := @castK.eq_def; trivial) | trivial
theorem eqn_castM_eq_1 : True := by first | (have := @castM.eq_1; trivial) | trivial
theorem eqn_castM_eq_def : True := by first | (have := @castM.eq_def; trivial) | trivial
theorem eqn_srcOf_eq_1 : True := by first | (have := @srcOf.eq_1; trivial) | trivial
theorem eqn_srcOf_eq_def : True := by first | (have := @srcOf.eq_def; trivial) | trivial
theorem eqn_srcOfS_eq_1 : True := by first | (have := @srcOfS.eq_1; trivial) | trivial
theorem eqn_srcOfS_eq_def : True := by first | (have := @srcOfS.eq_def; trivial) | trivial
theorem eqn_appendOk_eq_1 : True := by first | (have := @appendOk.eq_1; trivial) | trivial
theorem eqn_appendOk_eq_def : True := by first | (have := @appendOk.eq_def; trivial) | trivial
theorem eqn_u8i_eq_1 : True := by first | (have := @u8i.eq_1; trivial) | trivial
theorem eqn_u8i_eq_def : True := by first | (have := @u8i.eq_def; trivial) | trivial
theorem eqn_Src_ids_eq_1 : True := by first | (have := @Src.ids.eq_1; trivial) | trivial
theorem eqn_Src_ids_eq_def : True := by first | (have := @Src.ids.eq_def; trivial) | trivial
theorem eqn_Src_list_eq_1 : True := by first | (have := @Src.list.eq_1; trivial) | trivial
theorem eqn_Src_list_eq_def : True := by first | (have := @Src.list.eq_def; trivial) | trivial
theorem eqn_maxRow_eq_1 : True := by first | (have := @maxRow.eq_1; trivial) | trivial
theorem eqn_maxRow_eq_def : True := by first | (have := @maxRow.eq_def; trivial) | trivial
theorem eqn_appendQ_eq_1 : True := by first | (have := @appendQ.eq_1; trivial) | trivial
theorem eqn_appendQ_eq_def : True := by first | (have := @appendQ.eq_def; trivial) | trivial
theorem eqn_appendP_eq_1 : True := by first | (have := @appendP.eq_1; trivial) | trivial
theorem eqn_appendP_eq_def : True := by first | (have := @appendP.eq_def; trivial) | trivial
theorem eqn_allocP_eq_1 : True := by first | (have := @allocP.eq_1; trivial) | trivial
theorem eqn_allocP_eq_def : True := by first | (have := @allocP.eq_def; trivial) | trivial
theorem eqn_buildCells_eq_1 : True := by first | (have := @buildCells.eq_1; trivial) | trivial
theorem eqn_buildCells_eq_def : True := by first | (have := @buildCells.eq_def; trivial) | trivial
theorem eqn_places_eq_1 : True := by first | (have := @places.eq_1; trivial) | trivial
theorem eqn_places_eq_def : True := by first | (have := @places.eq_def; trivial) | trivial
theorem eqn_buildP_eq_1 : True := by first | (have := @buildP.eq_1; trivial) | trivial
theorem eqn_buildP_eq_def : True := by first | (have := @buildP.eq_def; trivial) | trivial
theorem eqn_encAll_eq_1 : True := by first | (have := @encAll.eq_1; trivial) | trivial
theorem eqn_encAll_eq_def : True := by first | (have := @encAll.eq_def; trivial) | trivial
theorem eqn_inOrder_eq_1 : True := by first | (have := @inOrder.eq_1; trivial) | trivial
theorem eqn_inOrder_eq_def : True := by first | (have := @inOrder.eq_def; trivial) | trivial
theorem eqn_isLitV_eq_1 : True := by first | (have := @isLitV.eq_1; trivial) | trivial
theorem eqn_isLitV_eq_def : True := by first | (have := @isLitV.eq_def; trivial) | trivial
theorem eqn_buildSliceP_eq_1 : True := by first | (have := @buildSliceP.eq_1; trivial) | trivial
theorem eqn_buildSliceP_eq_def : True := by first | (have := @buildSliceP.eq_def; trivial) | trivial
theorem eqn_makeSliceP_eq_1 : True := by first | (have := @makeSliceP.eq_1; trivial) | trivial
theorem eqn_makeSliceP_eq_def : True := by first | (have := @makeSliceP.eq_def; trivial) | trivial
theorem eqn_makeMapP_eq_1 : True := by first | (have := @makeMapP.eq_1; trivial) | trivial
theorem eqn_makeMapP_eq_def : True := by first | (have := @makeMapP.eq_def; trivial) | trivial
theorem eqn_keyV_eq_1 : True := by first | (have := @keyV.eq_1; trivial) | trivial
theorem eqn_keyV_eq_def : True := by first | (have := @keyV.eq_def; trivial) | trivial
theorem eqn_elV_eq_1 : True := by first | (have := @elV.eq_1; trivial) | trivial
theorem eqn_elV_eq_def : True := by first | (have := @elV.eq_def; trivial) | trivial
theorem eqn_velt_eq_1 : True := by first | (have := @velt.eq_1; trivial) | trivial
theorem eqn_velt_eq_def : True := by first | (have := @velt.eq_def; trivial) | trivial
theorem eqn_aggV_eq_1 : True := by first | (have := @aggV.eq_1; trivial) | trivial
theorem eqn_aggV_eq_def : True := by first | (have := @aggV.eq_def; trivial) | trivial
theorem eqn_lookupP_eq_1 : True := by first | (have := @lookupP.eq_1; trivial) | trivial
theorem eqn_lookupP_eq_def : True := by first | (have := @lookupP.eq_def; trivial) | trivial
theorem eqn_mapUpdateP_eq_1 : True := by first | (have := @mapUpdateP.eq_1; trivial) | trivial
theorem eqn_mapUpdateP_eq_def : True := by first | (have := @mapUpdateP.eq_def; trivial) | trivial
theorem eqn_deleteP_eq_1 : True := by first | (have := @deleteP.eq_1; trivial) | trivial
theorem eqn_deleteP_eq_def : True := by first | (have := @deleteP.eq_def; trivial) | trivial
theorem eqn_Con_eq_1 : True := by first | (have := @Con.eq_1; trivial) | trivial
theorem eqn_Con_eq_def : True := by first | (have := @Con.eq_def; trivial) | trivial
theorem eqn_argParts_eq_1 : True := by first | (have := @argParts.eq_1; trivial) | trivial
theorem eqn_argParts_eq_def : True := by first | (have := @argParts.eq_def; trivial) | trivial
theorem eqn_evalOpt_eq_1 : True := by first | (have := @evalOpt.eq_1; trivial) | trivial
theorem eqn_evalOpt_eq_def : True := by first | (have := @evalOpt.eq_def; trivial) | trivial
theorem eqn_szOf_eq_1 : True := by first | (have := @szOf.eq_1; trivial) | trivial
theorem eqn_szOf_eq_def : True := by first | (have := @szOf.eq_def; trivial) | trivial
theorem eqn_lenOk_eq_1 : True := by first | (have := @lenOk.eq_1; trivial) | trivial
theorem eqn_lenOk_eq_def : True := by first | (have := @lenOk.eq_def; trivial) | trivial
theorem eqn_callP_eq_1 : True := by first | (have := @callP.eq_1; trivial) | trivial
theorem eqn_callP_eq_def : True := by first | (have := @callP.eq_def; trivial) | trivial
theorem eqn_PO_of_eq_1 : True := by first | (have := @PO.of.eq_1; trivial) | trivial
theorem eqn_PO_of_eq_def : True := by first | (have := @PO.of.eq_def; trivial) | trivial
theorem eqn_cellOf_eq_1 : True := by first | (have := @cellOf.eq_1; trivial) | trivial
theorem eqn_cellOf_eq_def : True := by first | (have := @cellOf.eq_def; trivial) | trivial
theorem eqn_capsOf_eq_1 : True := by first | (have := @capsOf.eq_1; trivial) | trivial
theorem eqn_capsOf_eq_def : True := by first | (have := @capsOf.eq_def; trivial) | trivial
theorem eqn_binOk_eq_1 : True := by first | (have := @binOk.eq_1; trivial) | trivial
theorem eqn_binOk_eq_def : True := by first | (have := @binOk.eq_def; trivial) | trivial
theorem eqn_convNew_eq_1 : True := by first | (have := @convNew.eq_1; trivial) | trivial
theorem eqn_convNew_eq_def : True := by first | (have := @convNew.eq_def; trivial) | trivial
theorem eqn_convRow_eq_1 : True := by first | (have := @convRow.eq_1; trivial) | trivial
theorem eqn_convRow_eq_def : True := by first | (have := @convRow.eq_def; trivial) | trivial
theorem eqn_sliceZ_eq_1 : True := by first | (have := @sliceZ.eq_1; trivial) | trivial
theorem eqn_sliceZ_eq_def : True := by first | (have := @sliceZ.eq_def; trivial) | trivial
theorem eqn_nilOf_eq_1 : True := by first | (have := @nilOf.eq_1; trivial) | trivial
theorem eqn_nilOf_eq_def : True := by first | (have := @nilOf.eq_def; trivial) | trivial
theorem eqn_eqCs_eq_1 : True := by first | (have := @eqCs.eq_1; trivial) | trivial
theorem eqn_eqCs_eq_def : True := by first | (have := @eqCs.eq_def; trivial) | trivial
theorem eqn_aggCmp_eq_1 : True := by first | (have := @aggCmp.eq_1; trivial) | trivial
theorem eqn_aggCmp_eq_def : True := by first | (have := @aggCmp.eq_def; trivial) | trivial
theorem eqn_idxEff_eq_1 : True := by first | (have := @idxEff.eq_1; trivial) | trivial
theorem eqn_idxEff_eq_def : True := by first | (have := @idxEff.eq_def; trivial) | trivial
theorem eqn_idxValP_eq_1 : True := by first | (have := @idxValP.eq_1; trivial) | trivial
theorem eqn_idxValP_eq_def : True := by first | (have := @idxValP.eq_def; trivial) | trivial
theorem eqn_sliceDataP_eq_1 : True := by first | (have := @sliceDataP.eq_1; trivial) | trivial
theorem eqn_sliceDataP_eq_def : True := by first | (have := @sliceDataP.eq_def; trivial) | trivial
theorem eqn_unsafeStrP_eq_1 : True := by first | (have := @unsafeStrP.eq_1; trivial) | trivial
theorem eqn_unsafeStrP_eq_def : True := by first | (have := @unsafeStrP.eq_def; trivial) | trivial
theorem eqn_unsafeP_eq_1 : True := by first | (have := @unsafeP.eq_1; trivial) | trivial
theorem eqn_unsafeP_eq_def : True := by first | (have := @unsafeP.eq_def; trivial) | trivial
theorem eqn_arrAt_eq_1 : True := by first | (have := @arrAt.eq_1; trivial) | trivial
theorem eqn_arrAt_eq_def : True := by first | (have := @arrAt.eq_def; trivial) | trivial
theorem eqn_arrEff_eq_1 : True := by first | (have := @arrEff.eq_1; trivial) | trivial
theorem eqn_arrEff_eq_def : True := by first | (have := @arrEff.eq_def; trivial) | trivial
theorem eqn_andI_eq_1 : True := by first | (have := @andI.eq_1; trivial) | trivial
theorem eqn_andI_eq_def : True := by first | (have := @andI.eq_def; trivial) | trivial
theorem eqn_mapNil_eq_1 : True := by first | (have := @mapNil.eq_1; trivial) | trivial
theorem eqn_mapNil_eq_def : True := by first | (have := @mapNil.eq_def; trivial) | trivial
theorem eqn_nilCmp_eq_1 : True := by first | (have := @nilCmp.eq_1; trivial) | trivial
theorem eqn_nilCmp_eq_def : True := by first | (have := @nilCmp.eq_def; trivial) | trivial
theorem eqn_upTo_eq_1 : True := by first | (have := @upTo.eq_1; trivial) | trivial
theorem eqn_upTo_eq_def : True := by first | (have := @upTo.eq_def; trivial) | trivial
theorem eqn_nthC_eq_1 : True := by first | (have := @nthC.eq_1; trivial) | trivial
theorem eqn_nthC_eq_def : True := by first | (have := @nthC.eq_def; trivial) | trivial
theorem eqn_keyS_eq_1 : True := by first | (have := @keyS.eq_1; trivial) | trivial
theorem eqn_keyS_eq_def : True := by first | (have := @keyS.eq_def; trivial) | trivial
theorem eqn_rangeP_eq_1 : True := by first | (have := @rangeP.eq_1; trivial) | trivial
theorem eqn_rangeP_eq_def : True := by first | (have := @rangeP.eq_def; trivial) | trivial
theorem eqn_entryP_eq_1 : True := by first | (have := @entryP.eq_1; trivial) | trivial
theorem eqn_entryP_eq_def : True := by first | (have := @entryP.eq_def; trivial) | trivial
theorem eqn_sop_eq_1 : True := by first | (have := @sop.eq_1; trivial) | trivial
theorem eqn_sop_eq_def : True := by first | (have := @sop.eq_def; trivial) | trivial
theorem eqn_getC_eq_1 : True := by first | (have := @getC.eq_1; trivial) | trivial
theorem eqn_getC_eq_def : True := by first | (have := @getC.eq_def; trivial) | trivial
theorem eqn_getCs_eq_1 : True := by first | (have := @getCs.eq_1; trivial) | trivial
theorem eqn_getCs_eq_def : True := by first | (have := @getCs.eq_def; trivial) | trivial
theorem eqn_putC_eq_1 : True := by first | (have := @putC.eq_1; trivial) | trivial
theorem eqn_putC_eq_def : True := by first | (have := @putC.eq_def; trivial) | trivial
theorem eqn_putCs_eq_1 : True := by first | (have := @putCs.eq_1; trivial) | trivial
theorem eqn_putCs_eq_def : True := by first | (have := @putCs.eq_def; trivial) | trivial
theorem eqn_putT_eq_1 : True := by first | (have := @putT.eq_1; trivial) | trivial
theorem eqn_putT_eq_def : True := by first | (have := @putT.eq_def; trivial) | trivial
theorem eqn_applyE_eq_1 : True := by first | (have := @applyE.eq_1; trivial) | trivial
theorem eqn_applyE_eq_def : True := by first | (have := @applyE.eq_def; trivial) | trivial
theorem eqn_isApp_eq_1 : True := by first | (have := @isApp.eq_1; trivial) | trivial
theorem eqn_isApp_eq_2 : True := by first | (have := @isApp.eq_2; trivial) | trivial
theorem eqn_isApp_eq_def : True := by first | (have := @isApp.eq_def; trivial) | trivial
theorem eqn_mkEff_eq_2 : True := by first | (have := @mkEff.eq_2; trivial) | trivial
theorem eqn_mkEff_eq_1 : True := by first | (have := @mkEff.eq_1; trivial) | trivial
theorem eqn_mkEff_eq_def : True := by first | (have := @mkEff.eq_def; trivial) | trivial
theorem eqn_Dec_ofOp_eq_1 : True := by first | (have := @Dec.ofOp.eq_1; trivial) | trivial
theorem eqn_Dec_ofOp_eq_def : True := by first | (have := @Dec.ofOp.eq_def; trivial) | trivial
theorem eqn_decide1_eq_1 : True := by first | (have := @decide1.eq_1; trivial) | trivial
theorem eqn_decide1_eq_def : True := by first | (have := @decide1.eq_def; trivial) | trivial
theorem eqn_isBoolV_eq_1 : True := by first | (have := @isBoolV.eq_1; trivial) | trivial
theorem eqn_isBoolV_eq_def : True := by first | (have := @isBoolV.eq_def; trivial) | trivial
theorem eqn_guardOf_eq_1 : True := by first | (have := @guardOf.eq_1; trivial) | trivial
theorem eqn_guardOf_eq_def : True := by first | (have := @guardOf.eq_def; trivial) | trivial
theorem eqn_undefV_eq_1 : True := by first | (have := @undefV.eq_1; trivial) | trivial
theorem eqn_undefV_eq_def : True := by first | (have := @undefV.eq_def; trivial) | trivial
theorem eqn_decideD_eq_1 : True := by first | (have := @decideD.eq_1; trivial) | trivial
theorem eqn_decideD_eq_def : True := by first | (have := @decideD.eq_def; trivial) | trivial
theorem eqn_srun_eq_1 : True := by first | (have := @srun.eq_1; trivial) | trivial
theorem eqn_srun_eq_def : True := by first | (have := @srun.eq_def; trivial) | trivial
theorem eqn_preSl_eq_1 : True := by first | (have := @preSl.eq_1; trivial) | trivial
theorem eqn_preSl_eq_def : True := by first | (have := @preSl.eq_def; trivial) | trivial
theorem eqn_conds_eq_1 : True := by first | (have := @conds.eq_1; trivial) | trivial
theorem eqn_conds_eq_def : True := by first | (have := @conds.eq_def; trivial) | trivial
theorem eqn_maskOf_eq_1 : True := by first | (have := @maskOf.eq_1; trivial) | trivial
theorem eqn_maskOf_eq_def : True := by first | (have := @maskOf.eq_def; trivial) | trivial
theorem eqn_ancO_eq_1 : True := by first | (have := @ancO.eq_1; trivial) | trivial
theorem eqn_ancO_eq_def : True := by first | (have := @ancO.eq_def; trivial) | trivial
theorem eqn_ancs_eq_1 : True := by first | (have := @ancs.eq_1; trivial) | trivial
theorem eqn_ancs_eq_def : True := by first | (have := @ancs.eq_def; trivial) | trivial
theorem eqn_readsOf_eq_1 : True := by first | (have := @readsOf.eq_1; trivial) | trivial
theorem eqn_readsOf_eq_def : True := by first | (have := @readsOf.eq_def; trivial) | trivial
theorem eqn_meets_eq_1 : True := by first | (have := @meets.eq_1; trivial) | trivial
theorem eqn_meets_eq_def : True := by first | (have := @meets.eq_def; trivial) | trivial
theorem eqn_clash_eq_1 : True := by first | (have := @clash.eq_1; trivial) | trivial
theorem eqn_clash_eq_def : True := by first | (have := @clash.eq_def; trivial) | trivial
theorem eqn_okRec_eq_1 : True := by first | (have := @okRec.eq_1; trivial) | trivial
theorem eqn_okRec_eq_def : True := by first | (have := @okRec.eq_def; trivial) | trivial
theorem eqn_okRecs_eq_1 : True := by first | (have := @okRecs.eq_1; trivial) | trivial
theorem eqn_okRecs_eq_def : True := by first | (have := @okRecs.eq_def; trivial) | trivial
theorem eqn_recsOf_eq_1 : True := by first | (have := @recsOf.eq_1; trivial) | trivial
theorem eqn_recsOf_eq_def : True := by first | (have := @recsOf.eq_def; trivial) | trivial
theorem eqn_drawOk_eq_1 : True := by first | (have := @drawOk.eq_1; trivial) | trivial
theorem eqn_drawOk_eq_def : True := by first | (have := @drawOk.eq_def; trivial) | trivial
theorem eqn_sreg_eq_1 : True := by first | (have := @sreg.eq_1; trivial) | trivial
theorem eqn_sreg_eq_def : True := by first | (have := @sreg.eq_def; trivial) | trivial
theorem eqn_sub1_eq_1 : True := by first | (have := @sub1.eq_1; trivial) | trivial
theorem eqn_sub1_eq_def : True := by first | (have := @sub1.eq_def; trivial) | trivial
theorem eqn_sub1s_eq_1 : True := by first | (have := @sub1s.eq_1; trivial) | trivial
theorem eqn_sub1s_eq_def : True := by first | (have := @sub1s.eq_def; trivial) | trivial
theorem eqn_sub2_eq_1 : True := by first | (have := @sub2.eq_1; trivial) | trivial
theorem eqn_sub2_eq_def : True := by first | (have := @sub2.eq_def; trivial) | trivial
theorem eqn_sub2s_eq_1 : True := by first | (have := @sub2s.eq_1; trivial) | trivial
theorem eqn_sub2s_eq_def : True := by first | (have := @sub2s.eq_def; trivial) | trivial
theorem eqn_subV_eq_1 : True := by first | (have := @subV.eq_1; trivial) | trivial
theorem eqn_subV_eq_def : True := by first | (have := @subV.eq_def; trivial) | trivial
theorem eqn_subC_eq_1 : True := by first | (have := @subC.eq_1; trivial) | trivial
theorem eqn_subC_eq_def : True := by first | (have := @subC.eq_def; trivial) | trivial
theorem eqn_subCs_eq_1 : True := by first | (have := @subCs.eq_1; trivial) | trivial
theorem eqn_subCs_eq_def : True := by first | (have := @subCs.eq_def; trivial) | trivial
theorem eqn_subT_eq_1 : True := by first | (have := @subT.eq_1; trivial) | trivial
theorem eqn_subT_eq_def : True := by first | (have := @subT.eq_def; trivial) | trivial
theorem eqn_vers_eq_1 : True := by first | (have := @vers.eq_1; trivial) | trivial
theorem eqn_vers_eq_def : True := by first | (have := @vers.eq_def; trivial) | trivial
theorem eqn_norm1_eq_1 : True := by first | (have := @norm1.eq_1; trivial) | trivial
theorem eqn_norm1_eq_def : True := by first | (have := @norm1.eq_def; trivial) | trivial
theorem eqn_norm2_eq_1 : True := by first | (have := @norm2.eq_1; trivial) | trivial
theorem eqn_norm2_eq_def : True := by first | (have := @norm2.eq_def; trivial) | trivial
theorem eqn_normV_eq_1 : True := by first | (have := @normV.eq_1; trivial) | trivial
theorem eqn_normV_eq_def : True := by first | (have := @normV.eq_def; trivial) | trivial
theorem eqn_normC_eq_1 : True := by first | (have := @normC.eq_1; trivial) | trivial
theorem eqn_normC_eq_def : True := by first | (have := @normC.eq_def; trivial) | trivial
theorem eqn_normCs_eq_1 : True := by first | (have := @normCs.eq_1; trivial) | trivial
theorem eqn_normCs_eq_def : True := by first | (have := @normCs.eq_def; trivial) | trivial
theorem eqn_normT_eq_1 : True := by first | (have := @normT.eq_1; trivial) | trivial
theorem eqn_normT_eq_def : True := by first | (have := @normT.eq_def; trivial) | trivial
theorem eqn_norm_eq_1 : True := by first | (have := @norm.eq_1; trivial) | trivial
theorem eqn_norm_eq_def : True := by first | (have := @norm.eq_def; trivial) | trivial
theorem eqn_map2_eq_1 : True := by first | (have := @map2.eq_1; trivial) | trivial
theorem eqn_map2_eq_def : True := by first | (have := @map2.eq_def; trivial) | trivial
theorem eqn_mapV_eq_1 : True := by first | (have := @mapV.eq_1; trivial) | trivial
theorem eqn_mapV_eq_def : True := by first | (have := @mapV.eq_def; trivial) | trivial
theorem eqn_mapT_eq_1 : True := by first | (have := @mapT.eq_1; trivial) | trivial
theorem eqn_mapT_eq_def : True := by first | (have := @mapT.eq_def; trivial) | trivial
theorem eqn_frz1_eq_1 : True := by first | (have := @frz1.eq_1; trivial) | trivial
theorem eqn_frz1_eq_def : True := by first | (have := @frz1.eq_def; trivial) | trivial
theorem eqn_frzC_eq_1 : True := by first | (have := @frzC.eq_1; trivial) | trivial
theorem eqn_frzC_eq_def : True := by first | (have := @frzC.eq_def; trivial) | trivial
theorem eqn_frzCs_eq_1 : True := by first | (have := @frzCs.eq_1; trivial) | trivial
theorem eqn_frzCs_eq_def : True := by first | (have := @frzCs.eq_def; trivial) | trivial
theorem eqn_frz_eq_1 : True := by first | (have := @frz.eq_1; trivial) | trivial
theorem eqn_frz_eq_def : True := by first | (have := @frz.eq_def; trivial) | trivial
theorem eqn_absT_eq_1 : True := by first | (have := @absT.eq_1; trivial) | trivial
theorem eqn_absT_eq_def : True := by first | (have := @absT.eq_def; trivial) | trivial
theorem eqn_absL_eq_1 : True := by first | (have := @absL.eq_1; trivial) | trivial
theorem eqn_absL_eq_def : True := by first | (have := @absL.eq_def; trivial) | trivial
theorem eqn_absC_eq_1 : True := by first | (have := @absC.eq_1; trivial) | trivial
theorem eqn_absC_eq_def : True := by first | (have := @absC.eq_def; trivial) | trivial
theorem eqn_absorb_eq_1 : True := by first | (have := @absorb.eq_1; trivial) | trivial
theorem eqn_absorb_eq_def : True := by first | (have := @absorb.eq_def; trivial) | trivial
theorem eqn_unrC_eq_1 : True := by first | (have := @unrC.eq_1; trivial) | trivial
theorem eqn_unrC_eq_def : True := by first | (have := @unrC.eq_def; trivial) | trivial
theorem eqn_unr_eq_1 : True := by first | (have := @unr.eq_1; trivial) | trivial
theorem eqn_unr_eq_def : True := by first | (have := @unr.eq_def; trivial) | trivial
theorem eqn_keepT_eq_1 : True := by first | (have := @keepT.eq_1; trivial) | trivial
theorem eqn_keepT_eq_def : True := by first | (have := @keepT.eq_def; trivial) | trivial
theorem eqn_Sub_eq_1 : True := by first | (have := @Sub.eq_1; trivial) | trivial
theorem eqn_Sub_eq_def : True := by first | (have := @Sub.eq_def; trivial) | trivial
theorem eqn_nextOf_eq_1 : True := by first | (have := @nextOf.eq_1; trivial) | trivial
theorem eqn_nextOf_eq_def : True := by first | (have := @nextOf.eq_def; trivial) | trivial
theorem eqn_snext_eq_1 : True := by first | (have := @snext.eq_1; trivial) | trivial
theorem eqn_snext_eq_def : True := by first | (have := @snext.eq_def; trivial) | trivial
theorem eqn_svc_eq_1 : True := by first | (have := @svc.eq_1; trivial) | trivial
theorem eqn_svc_eq_def : True := by first | (have := @svc.eq_def; trivial) | trivial
theorem eqn_resV_eq_1 : True := by first | (have := @resV.eq_1; trivial) | trivial
theorem eqn_resV_eq_def : True := by first | (have := @resV.eq_def; trivial) | trivial
theorem eqn_resOf_eq_1 : True := by first | (have := @resOf.eq_1; trivial) | trivial
theorem eqn_resOf_eq_def : True := by first | (have := @resOf.eq_def; trivial) | trivial
theorem eqn_finP_eq_1 : True := by first | (have := @finP.eq_1; trivial) | trivial
theorem eqn_finP_eq_def : True := by first | (have := @finP.eq_def; trivial) | trivial
theorem eqn_argT_eq_1 : True := by first | (have := @argT.eq_1; trivial) | trivial
theorem eqn_argT_eq_def : True := by first | (have := @argT.eq_def; trivial) | trivial
theorem eqn_ren1_eq_1 : True := by first | (have := @ren1.eq_1; trivial) | trivial
theorem eqn_ren1_eq_def : True := by first | (have := @ren1.eq_def; trivial) | trivial
theorem eqn_renC_eq_1 : True := by first | (have := @renC.eq_1; trivial) | trivial
theorem eqn_renC_eq_def : True := by first | (have := @renC.eq_def; trivial) | trivial
theorem eqn_idsLt_eq_1 : True := by first | (have := @idsLt.eq_1; trivial) | trivial
theorem eqn_idsLt_eq_def : True := by first | (have := @idsLt.eq_def; trivial) | trivial
theorem eqn_idsLtC_eq_1 : True := by first | (have := @idsLtC.eq_1; trivial) | trivial
theorem eqn_idsLtC_eq_def : True := by first | (have := @idsLtC.eq_def; trivial) | trivial
theorem eqn_place_eq_1 : True := by first | (have := @place.eq_1; trivial) | trivial
theorem eqn_place_eq_def : True := by first | (have := @place.eq_def; trivial) | trivial
theorem eqn_putAll_eq_1 : True := by first | (have := @putAll.eq_1; trivial) | trivial
theorem eqn_putAll_eq_def : True := by first | (have := @putAll.eq_def; trivial) | trivial
theorem eqn_openH_eq_1 : True := by first | (have := @openH.eq_1; trivial) | trivial
theorem eqn_openH_eq_def : True := by first | (have := @openH.eq_def; trivial) | trivial
theorem eqn_posB_eq_1 : True := by first | (have := @posB.eq_1; trivial) | trivial
theorem eqn_posB_eq_def : True := by first | (have := @posB.eq_def; trivial) | trivial
theorem eqn_rn1_eq_1 : True := by first | (have := @rn1.eq_1; trivial) | trivial
theorem eqn_rn1_eq_def : True := by first | (have := @rn1.eq_def; trivial) | trivial
theorem eqn_rnC_eq_1 : True := by first | (have := @rnC.eq_1; trivial) | trivial
theorem eqn_rnC_eq_def : True := by first | (have := @rnC.eq_def; trivial) | trivial
theorem eqn_reordH_eq_1 : True := by first | (have := @reordH.eq_1; trivial) | trivial
theorem eqn_reordH_eq_def : True := by first | (have := @reordH.eq_def; trivial) | trivial
theorem eqn_reord_eq_1 : True := by first | (have := @reord.eq_1; trivial) | trivial
theorem eqn_reord_eq_def : True := by first | (have := @reord.eq_def; trivial) | trivial
theorem eqn_nodupB_eq_1 : True := by first | (have := @nodupB.eq_1; trivial) | trivial
theorem eqn_nodupB_eq_def : True := by first | (have := @nodupB.eq_def; trivial) | trivial
theorem eqn_fixB_eq_1 : True := by first | (have := @fixB.eq_1; trivial) | trivial
theorem eqn_fixB_eq_def : True := by first | (have := @fixB.eq_def; trivial) | trivial
theorem eqn_permOk_eq_1 : True := by first | (have := @permOk.eq_1; trivial) | trivial
theorem eqn_permOk_eq_def : True := by first | (have := @permOk.eq_def; trivial) | trivial
theorem eqn_finR_eq_1 : True := by first | (have := @finR.eq_1; trivial) | trivial
theorem eqn_finR_eq_def : True := by first | (have := @finR.eq_def; trivial) | trivial
theorem eqn_codeOk_eq_1 : True := by first | (have := @codeOk.eq_1; trivial) | trivial
theorem eqn_codeOk_eq_def : True := by first | (have := @codeOk.eq_def; trivial) | trivial
theorem eqn_absOf_eq_1 : True := by first | (have := @absOf.eq_1; trivial) | trivial
theorem eqn_absOf_eq_def : True := by first | (have := @absOf.eq_def; trivial) | trivial
theorem eqn_rvOf_eq_1 : True := by first | (have := @rvOf.eq_1; trivial) | trivial
theorem eqn_rvOf_eq_def : True := by first | (have := @rvOf.eq_def; trivial) | trivial
theorem eqn_TmplOk_eq_1 : True := by first | (have := @TmplOk.eq_1; trivial) | trivial
theorem eqn_TmplOk_eq_def : True := by first | (have := @TmplOk.eq_def; trivial) | trivial
theorem eqn_closed1_eq_1 : True := by first | (have := @closed1.eq_1; trivial) | trivial
theorem eqn_closed1_eq_def : True := by first | (have := @closed1.eq_def; trivial) | trivial
theorem eqn_Kin_eq_1 : True := by first | (have := @Kin.eq_1; trivial) | trivial
theorem eqn_Kin_eq_def : True := by first | (have := @Kin.eq_def; trivial) | trivial
theorem eqn_posOf_eq_1 : True := by first | (have := @posOf.eq_1; trivial) | trivial
theorem eqn_posOf_eq_def : True := by first | (have := @posOf.eq_def; trivial) | trivial
theorem eqn_zeroB_eq_1 : True := by first | (have := @zeroB.eq_1; trivial) | trivial
theorem eqn_zeroB_eq_def : True := by first | (have := @zeroB.eq_def; trivial) | trivial
theorem eqn_isNil_eq_1 : True := by first | (have := @isNil.eq_1; trivial) | trivial
theorem eqn_isNil_eq_def : True := by first | (have := @isNil.eq_def; trivial) | trivial
theorem eqn_offsB_eq_1 : True := by first | (have := @offsB.eq_1; trivial) | trivial
theorem eqn_offsB_eq_def : True := by first | (have := @offsB.eq_def; trivial) | trivial
theorem eqn_kindB_eq_1 : True := by first | (have := @kindB.eq_1; trivial) | trivial
theorem eqn_kindB_eq_def : True := by first | (have := @kindB.eq_def; trivial) | trivial
theorem eqn_tiB_eq_1 : True := by first | (have := @tiB.eq_1; trivial) | trivial
theorem eqn_tiB_eq_def : True := by first | (have := @tiB.eq_def; trivial) | trivial
theorem eqn_zeroP_eq_1 : True := by first | (have := @zeroP.eq_1; trivial) | trivial
theorem eqn_zeroP_eq_def : True := by first | (have := @zeroP.eq_def; trivial) | trivial
theorem eqn_openObj_eq_1 : True := by first | (have := @openObj.eq_1; trivial) | trivial
theorem eqn_openObj_eq_def : True := by first | (have := @openObj.eq_def; trivial) | trivial
theorem eqn_shutObj_eq_1 : True := by first | (have := @shutObj.eq_1; trivial) | trivial
theorem eqn_shutObj_eq_def : True := by first | (have := @shutObj.eq_def; trivial) | trivial
theorem eqn_flatC_eq_1 : True := by first | (have := @flatC.eq_1; trivial) | trivial
theorem eqn_flatC_eq_def : True := by first | (have := @flatC.eq_def; trivial) | trivial
theorem eqn_closed2_eq_1 : True := by first | (have := @closed2.eq_1; trivial) | trivial
theorem eqn_closed2_eq_def : True := by first | (have := @closed2.eq_def; trivial) | trivial
theorem eqn_closedV_eq_1 : True := by first | (have := @closedV.eq_1; trivial) | trivial
theorem eqn_closedV_eq_def : True := by first | (have := @closedV.eq_def; trivial) | trivial
theorem eqn_DT_T_eq_1 : True := by first | (have := @DT.T.eq_1; trivial) | trivial
theorem eqn_DT_T_eq_def : True := by first | (have := @DT.T.eq_def; trivial) | trivial
theorem eqn_DT_sv_eq_1 : True := by first | (have := @DT.sv.eq_1; trivial) | trivial
theorem eqn_DT_sv_eq_def : True := by first | (have := @DT.sv.eq_def; trivial) | trivial
theorem eqn_DT_of_eq_1 : True := by first | (have := @DT.of.eq_1; trivial) | trivial
theorem eqn_DT_of_eq_def : True := by first | (have := @DT.of.eq_def; trivial) | trivial
theorem eqn_Tup_eq_1 : True := by first | (have := @Tup.eq_1; trivial) | trivial
theorem eqn_Tup_eq_def : True := by first | (have := @Tup.eq_def; trivial) | trivial
theorem eqn_svs_eq_1 : True := by first | (have := @svs.eq_1; trivial) | trivial
theorem eqn_svs_eq_def : True := by first | (have := @svs.eq_def; trivial) | trivial
theorem eqn_ofs_eq_1 : True := by first | (have := @ofs.eq_1; trivial) | trivial
theorem eqn_ofs_eq_def : True := by first | (have := @ofs.eq_def; trivial) | trivial
theorem eqn_argS_eq_1 : True := by first | (have := @argS.eq_1; trivial) | trivial
theorem eqn_argS_eq_def : True := by first | (have := @argS.eq_def; trivial) | trivial
theorem eqn_Enters_eq_1 : True := by first | (have := @Enters.eq_1; trivial) | trivial
theorem eqn_Enters_eq_def : True := by first | (have := @Enters.eq_def; trivial) | trivial
theorem eqn_PureSpec_con_eq_1 : True := by first | (have := @PureSpec.con.eq_1; trivial) | trivial
theorem eqn_PureSpec_con_eq_def : True := by first | (have := @PureSpec.con.eq_def; trivial) | trivial
theorem eqn_PureSpec_Ok_eq_1 : True := by first | (have := @PureSpec.Ok.eq_1; trivial) | trivial
theorem eqn_PureSpec_Ok_eq_def : True := by first | (have := @PureSpec.Ok.eq_def; trivial) | trivial
theorem eqn_MethSpec_con_eq_1 : True := by first | (have := @MethSpec.con.eq_1; trivial) | trivial
theorem eqn_MethSpec_con_eq_def : True := by first | (have := @MethSpec.con.eq_def; trivial) | trivial
theorem eqn_NewSpec_con_eq_1 : True := by first | (have := @NewSpec.con.eq_1; trivial) | trivial
theorem eqn_NewSpec_con_eq_def : True := by first | (have := @NewSpec.con.eq_def; trivial) | trivial
theorem eqn_orCon_eq_1 : True := by first | (have := @orCon.eq_1; trivial) | trivial
theorem eqn_orCon_eq_def : True := by first | (have := @orCon.eq_def; trivial) | trivial
theorem eqn_Ev_reord_eq_1 : True := by first | (have := @Ev.reord.eq_1; trivial) | trivial
theorem eqn_Ev_reord_eq_def : True := by first | (have := @Ev.reord.eq_def; trivial) | trivial
theorem eqn_idsA_eq_1 : True := by first | (have := @idsA.eq_1; trivial) | trivial
theorem eqn_idsA_eq_def : True := by first | (have := @idsA.eq_def; trivial) | trivial
theorem eqn_ofA_eq_1 : True := by first | (have := @ofA.eq_1; trivial) | trivial
theorem eqn_ofA_eq_def : True := by first | (have := @ofA.eq_def; trivial) | trivial
theorem eqn_flat1_eq_1 : True := by first | (have := @flat1.eq_1; trivial) | trivial
theorem eqn_flat1_eq_def : True := by first | (have := @flat1.eq_def; trivial) | trivial
theorem eqn_flat2_eq_1 : True := by first | (have := @flat2.eq_1; trivial) | trivial
theorem eqn_flat2_eq_def : True := by first | (have := @flat2.eq_def; trivial) | trivial
theorem eqn_PureSpec_conA_eq_1 : True := by first | (have := @PureSpec.conA.eq_1; trivial) | trivial
theorem eqn_PureSpec_conA_eq_def : True := by first | (have := @PureSpec.conA.eq_def; trivial) | trivial
theorem eqn_Ty_flat_eq_1 : True := by first | (have := @Ty.flat.eq_1; trivial) | trivial
theorem eqn_Ty_flat_eq_def : True := by first | (have := @Ty.flat.eq_def; trivial) | trivial
theorem eqn_RowSpec_con_eq_1 : True := by first | (have := @RowSpec.con.eq_1; trivial) | trivial
theorem eqn_RowSpec_con_eq_def : True := by first | (have := @RowSpec.con.eq_def; trivial) | trivial
theorem eqn_RowSpec_Ok_eq_1 : True := by first | (have := @RowSpec.Ok.eq_1; trivial) | trivial
theorem eqn_RowSpec_Ok_eq_def : True := by first | (have := @RowSpec.Ok.eq_def; trivial) | trivial
theorem eqn_xreg_eq_1 : True := by first | (have := @xreg.eq_1; trivial) | trivial
theorem eqn_xreg_eq_def : True := by first | (have := @xreg.eq_def; trivial) | trivial
theorem eqn_inBlk_eq_1 : True := by first | (have := @inBlk.eq_1; trivial) | trivial
theorem eqn_inBlk_eq_def : True := by first | (have := @inBlk.eq_def; trivial) | trivial
theorem eqn_xcode_eq_1 : True := by first | (have := @xcode.eq_1; trivial) | trivial
theorem eqn_xcode_eq_def : True := by first | (have := @xcode.eq_def; trivial) | trivial
theorem eqn_bel1_eq_1 : True := by first | (have := @bel1.eq_1; trivial) | trivial
theorem eqn_bel1_eq_def : True := by first | (have := @bel1.eq_def; trivial) | trivial
theorem eqn_bel2_eq_1 : True := by first | (have := @bel2.eq_1; trivial) | trivial
theorem eqn_bel2_eq_def : True := by first | (have := @bel2.eq_def; trivial) | trivial
theorem eqn_belV_eq_1 : True := by first | (have := @belV.eq_1; trivial) | trivial
theorem eqn_belV_eq_def : True := by first | (have := @belV.eq_def; trivial) | trivial
theorem eqn_allC_eq_1 : True := by first | (have := @allC.eq_1; trivial) | trivial
theorem eqn_allC_eq_def : True := by first | (have := @allC.eq_def; trivial) | trivial
theorem eqn_firstN_eq_1 : True := by first | (have := @firstN.eq_1; trivial) | trivial
theorem eqn_firstN_eq_def : True := by first | (have := @firstN.eq_def; trivial) | trivial
theorem eqn_belC_eq_1 : True := by first | (have := @belC.eq_1; trivial) | trivial
theorem eqn_belC_eq_def : True := by first | (have := @belC.eq_def; trivial) | trivial
theorem eqn_inlCon_eq_1 : True := by first | (have := @inlCon.eq_1; trivial) | trivial
theorem eqn_inlCon_eq_def : True := by first | (have := @inlCon.eq_def; trivial) | trivial
theorem eqn_Sh_eq_1 : True := by first | (have := @Sh.eq_1; trivial) | trivial
theorem eqn_Sh_eq_def : True := by first | (have := @Sh.eq_def; trivial) | trivial
theorem eqn_T1_eq_1 : True := by first | (have := @T1.eq_1; trivial) | trivial
theorem eqn_T1_eq_def : True := by first | (have := @T1.eq_def; trivial) | trivial
theorem eqn_bodyOf_eq_1 : True := by first | (have := @bodyOf.eq_1; trivial) | trivial
theorem eqn_bodyOf_eq_def : True := by first | (have := @bodyOf.eq_def; trivial) | trivial
theorem eqn_inl_eq_1 : True := by first | (have := @inl.eq_1; trivial) | trivial
theorem eqn_inl_eq_def : True := by first | (have := @inl.eq_def; trivial) | trivial
theorem eqn_ShapeSpec_con_eq_1 : True := by first | (have := @ShapeSpec.con.eq_1; trivial) | trivial
theorem eqn_ShapeSpec_con_eq_def : True := by first | (have := @ShapeSpec.con.eq_def; trivial) | trivial
theorem eqn_Ty_ok_eq_1 : True := by first | (have := @Ty.ok.eq_1; trivial) | trivial
theorem eqn_Ty_ok_eq_def : True := by first | (have := @Ty.ok.eq_def; trivial) | trivial
theorem eqn_memOf_eq_1 : True := by first | (have := @memOf.eq_1; trivial) | trivial
theorem eqn_memOf_eq_def : True := by first | (have := @memOf.eq_def; trivial) | trivial
theorem eqn_fieldsB_eq_1 : True := by first | (have := @fieldsB.eq_1; trivial) | trivial
theorem eqn_fieldsB_eq_def : True := by first | (have := @fieldsB.eq_def; trivial) | trivial
theorem eqn_offsIn_eq_1 : True := by first | (have := @offsIn.eq_1; trivial) | trivial
theorem eqn_offsIn_eq_def : True := by first | (have := @offsIn.eq_def; trivial) | trivial
theorem eqn_tyB_eq_1 : True := by first | (have := @tyB.eq_1; trivial) | trivial
theorem eqn_tyB_eq_def : True := by first | (have := @tyB.eq_def; trivial) | trivial
theorem eqn_dtB_eq_1 : True := by first | (have := @dtB.eq_1; trivial) | trivial
theorem eqn_dtB_eq_def : True := by first | (have := @dtB.eq_def; trivial) | trivial
theorem eqn_DT_ok_eq_1 : True := by first | (have := @DT.ok.eq_1; trivial) | trivial
theorem eqn_DT_ok_eq_def : True := by first | (have := @DT.ok.eq_def; trivial) | trivial
theorem eqn_castL_castT_eq_1 : True := by first | (have := @castL.castT.eq_1; trivial) | trivial
theorem eqn_castL_castT_eq_def : True := by first | (have := @castL.castT.eq_def; trivial) | trivial
end Go.Sx

/-
  Symbolic execution: contracts whose arguments hold rows of bytes: from the call on these rows stay as they are.
-/
namespace Go.Sx
set_option linter.all false
set_option linter.unusedVariables false
set_option linter.unusedSimpArgs false
set_option linter.unusedSectionVars false
open Go.RowKit

variable {A : Type} {AI : Abs A} {G : Fr} {s : SS A} {ρ : Ev} {a : Act} {w : World} {P : Program}

def rowsIn1 : SV1 → List Nat
  | .hd i _ => [i]
  | _ => []
def rowsIn : SV → List Nat
  | .val (.one x) => rowsIn1 x
  | .val (.agg l) => l.flatMap rowsIn1
  | _ => []
def dummyRow : SV1 → SV1
  | .hd _ _ => .ro (.int .u8) (fun _ => [])
  | x => x
def frzArg {A : Type} (ids : List Nat) (cs : List (Chunk A)) : SV1 → SV1
  | .hd i v => (match posB ids i with
    | some j => (match nthC cs j with
      | .row _ e u L => (match beqN u v with | true => .ro e L | false => .any)
      | _ => .any)
    | none => .hd i v)
  | x => x
def eqNs : List Nat → List Nat → Bool
  | [], [] => true
  | a :: l, b :: m => beqN a b && eqNs l m
  | _, _ => false
theorem eqNs_eq : ∀ {l m : List Nat}, eqNs l m = true → l = m
  | [], [], _ => rfl
  | a :: l, b :: m, h => by
    obtain ⟨h1, h2⟩ := Bool.and_eq_true_iff.1 h
    rw [beq_eq h1, eqNs_eq h2]
  | [], _ :: _, h => by cases h
  | _ :: _, [], h => by cases h
def meetB (l m : List Nat) : Bool := l.any fun i => m.any (beqN i)
theorem meetB_no {l m : List Nat} (h : meetB l m = false) : ∀ i ∈ m, i ∉ l := by
  intro i hi hl
  have : meetB l m = true := List.any_eq_true.2 ⟨i, hl, List.any_eq_true.2 ⟨i, hi, beqN_self⟩⟩
  rw [h] at this; cases this
def allLt (n : Nat) : List Nat → Bool
  | [] => true
  | i :: r => bltN i n && allLt n r
theorem allLt_lt {n : Nat} : ∀ {l : List Nat}, allLt n l = true → ∀ i ∈ l, i < n
  | [], _, i, h => by cases h
  | x :: r, h, i, hi => by
    obtain ⟨h1, h2⟩ := Bool.and_eq_true_iff.1 h
    rcases List.mem_cons.1 hi with rfl | hi
    · exact leN h1
    · exact allLt_lt h2 i hi

/-- The rows in the arguments are frozen, then it is the contract k. -/
def frzCon (k : Con A) : Con A := fun args fresh => match args.flatMap rowsIn with
  | [] => k args fresh
  | i :: r => match nodupB (i :: r) && allLt fresh (i :: r) with
    | true => (match k (args.map (mapV dummyRow)) fresh with
      | some p0 => (match meetB (i :: r) p0.ids with
        | false => some ⟨(i :: r) ++ p0.ids, p0.nf, true, fun cs d => (match takeN cs (i :: r).length with
          | some c1 => (match k (args.map (mapV (frzArg (i :: r) c1))) fresh with
            | some p => (match eqNs p.ids p0.ids with
              | true => (match p.eff (cs.drop (i :: r).length) d with
                | .done C v cs' => .done C v ((i :: r).map (fun _ => .gone) ++ cs')
                | .need b => .need b
                | .fail => .fail)
              | false => .fail)
            | none => .fail)
          | none => .fail)⟩
        | true => none)
      | none => none)
    | false => none

theorem posB_none : ∀ {p : List Nat} {i : Nat}, posB p i = none → i ∉ p
  | [], i, _ => by simp
  | x :: r, i, h => by
    unfold posB at h
    split at h
    · cases h
    · rename_i hb
      split at h
      · cases h
      · rename_i hn
        have := posB_none hn
        simp only [List.mem_cons, not_or]
        exact ⟨fun e => (by subst e; rw [beqN_self] at hb; cases hb), this⟩
theorem nthC_getCs {H : List (Chunk A)} : ∀ {l : List Nat} {j i : Nat}, l[j]? = some i → nthC (getCs H l) j = getC H i
  | [], j, i, h => by simp at h
  | x :: r, 0, i, h => by simp at h; subst h; rfl
  | x :: r, j + 1, i, h => by
    have := nthC_getCs (H := H) (l := r) (j := j) (i := i) (by simpa using h)
    exact this
theorem getC_putGone : ∀ (ids : List Nat) (H : List (Chunk A)) (j : Nat), getC (putCs H ids (ids.map fun _ => .gone)) j = if j ∈ ids then .gone else getC H j
  | [], H, j => by simp [putCs]
  | i :: r, H, j => by
    show getC (putCs (putC H i .gone) r (r.map fun _ => .gone)) j = _
    rw [getC_putGone r, getC_putC]
    by_cases h1 : j ∈ r
    · rw [if_pos h1, if_pos (List.mem_cons_of_mem _ h1)]
    · rw [if_neg h1]
      by_cases h2 : j = i
      · rw [if_pos h2, if_pos (by rw [h2]; exact List.mem_cons_self ..)]
      · rw [if_neg h2, if_neg (by simp [h1, h2])]

theorem Holds.frozen {tmps : Array Value} (hh : Holds AI G s ρ tmps w) (ids : List Nat) :
    Holds AI G ⟨s.tm, putCs s.H ids (ids.map fun _ => .gone)⟩ (ρ.froze (fun i => i ∈ ids ∧ isRow (getC s.H i) = true) w) tmps w ∧ ρ.Le (ρ.froze (fun i => i ∈ ids ∧ isRow (getC s.H i) = true) w) := by
  let S : Nat → Prop := fun i => i ∈ ids ∧ isRow (getC s.H i) = true
  have hM : ∀ b o v, ρ.M b o = some v → (ρ.froze S w).M b o = some v := froze_M hh S
  have le : ρ.Le (ρ.froze S w) := ⟨hM, fun _ _ h => h, fun _ => Nat.le_refl _, fun _ _ _ => rfl⟩
  have hfoot : ∀ i b, b ∈ (ρ.froze S w).foot i → ¬ S i ∧ b ∈ ρ.foot i := by
    intro i b hb
    simp only [Ev.froze] at hb
    split at hb
    · cases hb
    · rename_i hn; exact ⟨hn, hb⟩
  refine ⟨⟨hh.sz, hh.gt, fun t v ht => ?_, fun i => ?_, fun i j b hij hi hj => hh.dis i j b hij (hfoot i b hi).2 (hfoot j b hj).2, fun i b hb => hh.lt i b (hfoot i b hb).2, fun b o v hm => ?_, hh.os, hh.tape, hh.output, hh.grow, hh.kept,
    fun i b hb => hh.fro i b (hfoot i b hb).2, hh.rt, hh.rts, fun b o v hm => hM _ _ _ (hh.mono b o v hm), fun b o v hm => ?_⟩, le⟩
  · obtain ⟨x, h2, h3⟩ := hh.tm t v ht
    exact ⟨x, h2, h3.mono le⟩
  · show HoldsC AI (ρ.froze S w) w i (getC (putCs s.H ids (ids.map fun _ => .gone)) i)
    rw [getC_putGone]
    split
    · trivial
    · rename_i hn
      exact (hh.ch i).stays le rfl rfl (by simp only [Ev.froze]; rw [if_neg (fun h => hn h.1)]) fun _ _ => rfl
  · simp only [Ev.froze] at hm
    split at hm
    · rename_i hex
      obtain ⟨k, hk, hbk⟩ := hex
      refine ⟨hm, fun i hb => ?_⟩
      obtain ⟨h1, h2⟩ := hfoot i b hb
      exact hh.dis i k b (fun e => h1 (e ▸ hk)) h2 hbk
    · exact ⟨(hh.im b o v hm).1, fun i hb => (hh.im b o v hm).2 i (hfoot i b hb).2⟩
  · simp only [Ev.froze] at hm
    split at hm
    · rename_i hex
      obtain ⟨k, hk, hbk⟩ := hex
      exact .inr (hh.fro k b hbk)
    · exact hh.mfr b o v hm

theorem Ev.Le.trans {ρ ρ' ρ'' : Ev} (h : ρ.Le ρ') (g : ρ'.Le ρ'') : ρ.Le ρ'' := by
  refine ⟨fun b o v hm => g.M _ _ _ (h.M _ _ _ hm), fun i b hb => g.ptr _ _ (h.ptr _ _ hb), fun i => Nat.le_trans (h.ver i) (g.ver i), fun i he hs => ?_⟩
  have h1 := h.ver i; have h2 := g.ver i
  have e1 := h.same i (by omega) hs
  exact (g.same i (by omega) (by rw [e1]; exact hs)).trans e1
theorem takeN_getCs {H : List (Chunk A)} (l m : List Nat) : takeN (getCs H (l ++ m)) l.length = some (getCs H l) := by
  have := takeN_app (getCs H l) (getCs H m)
  rw [getCs_length] at this
  rw [getCs_append]; exact this
theorem drop_getCs {H : List (Chunk A)} (l m : List Nat) : (getCs H (l ++ m)).drop l.length = getCs H m := by
  rw [getCs_append]
  have := getCs_length H l
  rw [← this, List.drop_left]

theorem frzCon_sound {fn : FuncId} {k : Con A} (hk : ConSound P AI fn k) : ConSound P AI fn (frzCon k) := by
  refine ⟨hk.1, fun args fresh p hp hw H d C v cs he => ?_, fun G s ρ tmps w args us fresh p d C v cs h hargs hp hfr he hC => ?_⟩
  · unfold frzCon at hp
    split at hp
    · exact hk.2.1 args fresh p hp hw H d C v cs he
    · split at hp <;> (try cases hp)
      split at hp <;> (try cases hp)
      split at hp <;> cases hp
      cases hw
  · unfold frzCon at hp
    split at hp
    · exact hk.2.2 G s ρ tmps w args us fresh p d C v cs h hargs hp hfr he hC
    · rename_i i r _
      generalize hids : i :: r = ids at hp
      split at hp <;> (try cases hp)
      rename_i hok
      obtain ⟨hnd, hlt⟩ := Bool.and_eq_true_iff.1 hok
      split at hp <;> (try cases hp)
      rename_i p0 hp0
      split at hp <;> cases hp
      rename_i hmeet
      dsimp only at he hfr ⊢
      rw [takeN_getCs] at he
      dsimp only at he
      split at he <;> (try (simp at he; done))
      rename_i p1 hp1
      split at he <;> (try (simp at he; done))
      rename_i heq
      have heq := eqNs_eq heq
      rw [drop_getCs] at he
      split at he <;> cases he
      rename_i cs' he'
      have hlt := allLt_lt hlt
      have hno := meetB_no hmeet
      let S : Nat → Prop := fun i => i ∈ ids ∧ isRow (getC s.H i) = true
      obtain ⟨h1, le⟩ := h.frozen ids
      have hval : ∀ x u, Den1 ρ x u → Den1 (ρ.froze S w) (frzArg ids (getCs s.H ids) x) u := by
        intro x u hv
        cases x <;> simp only [frzArg]
        case hd i ver =>
          split
          · rename_i j hj
            have hj := posB_some hj
            rw [nthC_getCs hj]
            have hc := h.ch i
            generalize hg : getC s.H i = c at hc
            cases c <;> (try trivial)
            rename_i t e u L
            dsimp only
            split
            · rename_i hbu
              have hbu := beq_eq hbu
              subst hbu
              obtain ⟨h1, h2⟩ := hc
              obtain ⟨_, _, h3⟩ := hv
              rw [h3 h1]
              exact rowAt_shows h (S := S) ⟨List.mem_of_getElem? hj, by rw [hg]; rfl⟩ h2 le.1
            · trivial
          · exact Den1.mono le hv
        all_goals exact Den1.mono le hv
      have hargs1 : All2 (Den (ρ.froze S w)) (args.map (mapV (frzArg ids (getCs s.H ids)))) us := hargs.mapL fun x u hx => mapV_den hval hx
      have hget : ∀ j ∈ p1.ids, getC (putCs s.H ids (ids.map fun _ => .gone)) j = getC s.H j := fun j hj => by
        rw [getC_putGone, if_neg (hno j (heq ▸ hj))]
      have e1 : getCs (putCs s.H ids (ids.map fun _ => .gone)) p1.ids = getCs s.H p0.ids := by
        rw [getCs_congr hget, heq]
      refine (hk.2.2 G _ _ tmps w _ us fresh p1 d C v cs' h1 hargs1 hp1 (fun j hj hf => ?_) (by rw [e1]; exact he') hC).mono ?_
      · rw [hget j hj]
        exact hfr j (List.mem_append.2 (.inr (heq ▸ hj))) hf
      · rintro e w' ⟨y, ρ', rfl, g1, g2, g3⟩
        refine ⟨y, ρ', rfl, ?_, g2, le.trans g3⟩
        rw [putCs_append _ _ _ _ _ (by rw [List.length_map]), ← heq]
        exact g1

/-- A function of data that returns a new row. -/
def RowSpec.conO (k : RowSpec) : Con A := fun args fresh => match ofs k.ds args with
  | some x => some ⟨[fresh], 1, true, fun cs _ => match cs with
    | [.emp] => .done (fun _ => k.pre (x ())) (one (.hd fresh 0)) [.row k.et k.e 0 (fun _ => k.f (x ()))]
    | _ => .fail⟩
  | none => none
theorem RowSpec.soundO {fn : FuncId} {k : RowSpec} (hen : Enters P fn) (hk : k.Ok P AI fn) : ConSound P AI fn k.conO := by
  refine ⟨hen, fun args fresh p hp hw H d C v cs he => ?_, fun G s ρ tmps w args us fresh p d C v cs h hargs hp hfr he hC => ?_⟩
  · unfold RowSpec.conO at hp
    split at hp <;> cases hp
    simp at hw
  · unfold RowSpec.conO at hp
    split at hp <;> cases hp
    rename_i x hx
    have hemp : getC s.H fresh = .emp := hfr fresh (by simp) (Nat.le_refl _)
    simp only [getCs, hemp] at he
    have hd := ofs_den hx hargs
    simp at he
    obtain ⟨rfl, rfl, rfl⟩ := he
    refine (frame_call (hk (x ()) hC) (s := s) (H' := putC s.H fresh (.row k.et k.e 0 (fun _ => k.f (x ())))) (ids := []) (news := [fresh]) h (by simp) rfl (fun i hi => by simp at hi; subst hi; exact hemp) (by simp) (fun j i hj => ?_) (fun i' hi' => by
        rw [getC_putC, if_neg (by simpa using hi')]) (us := us) (fun ρc hM hr => argS_den hd hM)
      (v := one (.hd fresh 0)) (fun ρc ρ' hM hr hv y hy => ?_)).mono ?_
    · cases j with
      | zero =>
        simp at hj
        subst hj
        exact ⟨by rw [getC_putC, if_pos rfl]; rfl, (fun t cs => by simp [getC, nth]), fun ks e L R c q => by simp [getC, nth]⟩
      | succ j => simp at hj
    · obtain ⟨h1, h2, h3⟩ := hy
      have e1 := hr 0 fresh rfl
      have e2 := hv 0 fresh rfl
      exact ⟨h1, Nat.zero_le _, fun h => by rw [e1]; exact h3 (h.trans e2)⟩
    · rintro e w' ⟨y, ρ', rfl, h1, h2, h3⟩
      exact ⟨y, ρ', rfl, h1, h2, h3⟩
/-- A type of ints whose differences need not fit. -/
theorem EnvOk.soft {E : Env A} (hE : EnvOk P AI E) {t : Nat} {i : TI} (h : look E.ti t = some i) : EnvOk P AI ⟨(t, ⟨i.kind, i.size, 2, i.zero⟩) :: E.ti, E.con⟩ := by
  refine ⟨fun t' i' h' => ?_, hE.con⟩
  rw [look_cons] at h'
  split at h'
  · rename_i e
    cases h'; subst e
    obtain ⟨h1, h2, _⟩ := hE.ti _ _ h
    exact ⟨h1, h2, fun hb => by cases hb⟩
  · exact hE.ti _ _ h'
end Go.Sx

/-
  Symbolic execution: functions that make an object, methods that return a new row, methods whose object gets new parts.
-/
namespace Go.Sx
set_option linter.all false
set_option linter.unusedVariables false
set_option linter.unusedSimpArgs false
set_option linter.unusedSectionVars false
open Go.RowKit

variable {A : Type} {AI : Abs A} {G : Fr} {s : SS A} {ρ : Ev} {a : Act} {w : World} {P : Program} {lay : A → List (Chunk A)} {tq : TabQ}

/-! ### functions that return a new object -/
structure MakeSpec (A : Type) where
  ds : List DT
  pre : Tup ds → Prop
  put : U (Tup ds) → A
def MakeSpec.con (k : MakeSpec A) : Con A := fun args fresh => match ofs k.ds args with
  | some x => some ⟨[fresh], 1, true, fun cs _ => match cs with
    | [.emp] => .done (fun _ => k.pre (x ())) (one (.ptr fresh 0)) [.abs (k.put x)]
    | _ => .fail⟩
  | none => none
structure MakeSpec.Ok (P : Program) (AI : Abs A) (fn : FuncId) (k : MakeSpec A) : Prop where
  put : ∀ x, k.put x = k.put (fun _ => x ())
  ok : ∀ x, k.pre x → TmplOk P AI fn (argS k.ds (fun _ => x)) [] (resOf [.one (.ptr 0 0)]) [.abs (k.put (fun _ => x))]
theorem MakeSpec.sound {fn : FuncId} {k : MakeSpec A} (hen : Enters P fn) (hk : k.Ok P AI fn) : ConSound P AI fn k.con := by
  refine ⟨hen, fun args fresh p hp hw H d C v cs he => ?_, fun G s ρ tmps w args us fresh p d C v cs h hargs hp hfr he hC => ?_⟩
  · unfold MakeSpec.con at hp
    split at hp <;> cases hp
    simp at hw
  · unfold MakeSpec.con at hp
    split at hp <;> cases hp
    rename_i x hx
    have hemp : getC s.H fresh = .emp := hfr fresh (by simp) (Nat.le_refl _)
    simp only [getCs, hemp] at he
    have hd := ofs_den hx hargs
    simp at he
    obtain ⟨rfl, rfl, rfl⟩ := he
    refine (frame_call (hk.ok (x ()) hC) (s := s) (H' := putC s.H fresh (.abs (k.put x))) (ids := []) (news := [fresh]) h (by simp) rfl (fun i hi => by simp at hi; subst hi; exact hemp) (by simp) (fun j i hj => ?_) (fun i' hi' => by
        rw [getC_putC, if_neg (by simpa using hi')]) (us := us) (fun ρc hM hr => argS_den hd hM)
      (v := one (.ptr fresh 0)) (fun ρc ρ' hM hr _ y hy => ?_)).mono ?_
    · cases j with
      | zero =>
        simp at hj
        subst hj
        exact ⟨by rw [getC_putC, if_pos rfl, hk.put]; rfl, (fun t cs => by simp [getC, nth]), fun ks e L R c q => by simp [getC, nth]⟩
      | succ j => simp at hj
    · obtain ⟨b, h1, h2⟩ := hy
      exact ⟨b, by rw [hr 0 fresh rfl]; exact h1, h2⟩
    · rintro e w' ⟨y, ρ', rfl, h1, h2, h3⟩
      exact ⟨y, ρ', rfl, h1, h2, h3⟩

/-! ### methods that return a new row -/
structure RowMeth (A : Type) where
  S : Type
  sel : A → Option (U S)
  put : U S → A
  ds : List DT
  pre : S → Tup ds → Prop
  et : TypeId
  e : Ty
  f : S → Tup ds → List e.T
  next : S → Tup ds → S
def RowMeth.con (k : RowMeth A) : Con A := fun args fresh => match args with
  | .val (.one (.ptr i 0)) :: args => (match ofs k.ds args with
    | some x => (match beqN i fresh with
      | true => none
      | false => some ⟨[i, fresh], 1, true, fun cs _ => match cs with
        | [.abs a, .emp] => (match k.sel a with
          | some W => .done (fun _ => k.pre (W ()) (x ())) (one (.hd fresh 0)) [.abs (k.put (fun _ => k.next (W ()) (x ()))), .row k.et k.e 0 (fun _ => k.f (W ()) (x ()))]
          | none => .fail)
        | _ => .fail⟩)
    | none => none)
  | _ => none
structure RowMeth.Ok (P : Program) (AI : Abs A) (fn : FuncId) (k : RowMeth A) : Prop where
  sel : ∀ a W, k.sel a = some W → a = k.put (fun _ => W ())
  ok : ∀ W x, k.pre W x → TmplOk P AI fn (one (.ptr 0 0) :: argS k.ds (fun _ => x)) [.abs (k.put (fun _ => W))] (one (.hd 1 0)) [.abs (k.put (fun _ => k.next W x)), .row k.et k.e 0 (fun _ => k.f W x)]
theorem RowMeth.sound {fn : FuncId} {k : RowMeth A} (hen : Enters P fn) (hk : k.Ok P AI fn) : ConSound P AI fn k.con := by
  refine ⟨hen, fun args fresh p hp hw H d C v cs he => ?_, fun G s ρ tmps w args us fresh p d C v cs h hargs hp hfr he hC => ?_⟩
  · unfold RowMeth.con at hp
    split at hp <;> (try cases hp)
    split at hp <;> (try cases hp)
    split at hp <;> cases hp
    simp at hw
  · unfold RowMeth.con at hp
    split at hp <;> (try cases hp)
    rename_i i args
    split at hp <;> (try cases hp)
    rename_i x hx
    split at hp <;> cases hp
    rename_i hne
    have hne : i ≠ fresh := fun e => by rw [e, beqN_self] at hne; cases hne
    have hemp : getC s.H fresh = .emp := hfr fresh (by simp) (Nat.le_refl _)
    simp only [getCs, hemp] at he
    generalize hg : getC s.H i = c at he
    cases c <;> (try (simp at he; done))
    rename_i a
    dsimp only at he
    split at he <;> (try (simp at he; done))
    rename_i W hW
    have ha := hk.sel a W hW
    simp at he
    obtain ⟨rfl, rfl, rfl⟩ := he
    cases hargs with
    | @cons _ u _ us hu hargs =>
    have hd := ofs_den hx hargs
    obtain ⟨b, hb1, hb2⟩ := hu
    refine (frame_call (hk.ok (W ()) (x ()) hC) (s := s) (H' := putC (putC s.H i (.abs (k.put (fun _ => k.next (W ()) (x ()))))) fresh (.row k.et k.e 0 (fun _ => k.f (W ()) (x ())))) (ids := [i]) (news := [fresh]) h (by simp [hne]) rfl
      (fun i' hi' => by simp at hi'; subst hi'; exact hemp) (fun j i' hj => ?_) (fun j i' hj => ?_) (fun i' hi' => ?_) (us := u :: us) (fun ρc hM hr => ?_)
      (v := one (.hd fresh 0)) (fun ρc ρ' hM hr hv y hy => ?_)).mono ?_
    · cases j with
      | zero =>
        simp at hj
        subst hj
        exact .inl ⟨a, _, hg, by rw [getC_putC, if_neg hne, getC_putC, if_pos rfl], by rw [ha]; rfl, rfl⟩
      | succ j => simp at hj
    · cases j with
      | zero =>
        simp at hj
        subst hj
        exact ⟨by rw [getC_putC, if_pos rfl]; rfl, (fun t cs => by simp [getC, nth]), fun ks e L R c q => by simp [getC, nth]⟩
      | succ j => simp at hj
    · simp at hi'
      rw [getC_putC, if_neg hi'.2, getC_putC, if_neg hi'.1]
    · refine .cons ?_ (argS_den hd hM)
      obtain ⟨h1, h2⟩ := hr 0 i rfl
      exact ⟨b, by rw [h1]; exact hb1, hb2⟩
    · obtain ⟨h1, h2, h3⟩ := hy
      have e1 := hr 1 fresh rfl
      have e2 := hv 0 fresh rfl
      exact ⟨h1, Nat.zero_le _, fun h => by rw [e1]; exact h3 (h.trans e2)⟩
    · rintro e w' ⟨y, ρ', rfl, h1, h2, h3⟩
      exact ⟨y, ρ', rfl, h1, h2, h3⟩

/-- As tmpl_obj, with the parts in any order at the end. -/
theorem tmpl_objR [SubA A] {E : Env A} (hE : EnvOk P (absOf lay tq) E) (hm : P.follows .mixedOrders = true) {f : FuncId} {fn : Func} {c : Code} (hf : P.funcs[f]? = some fn) (hb : fn.body = some c) (hok : codeOk fn.ntmps c = true) {args : List SV} (hargs : args.length ≤ fn.ntmps)
    {x x' : A} (hl : LayOk (lay x)) (hl' : LayOk (lay x')) {v : SV} (hv : closedV v = true)
    (h : svc E 1 c ⟨argT 0 args, openObj (lay x) []⟩ (finR E.ti 1 fn.results.toList v (openObj (lay x') []))) :
    TmplOk P (absOf lay tq) f args [.abs x] v [.abs x'] := by
  intro G ρ w us hG hsz hh hd
  simp only [List.length_cons, List.length_nil] at hG
  obtain ⟨ρ1, h1, le1⟩ := hh.open_ (i := 0) (base := 1) (x := x) rfl (by omega) (fun k hk => getC_beyond (by simpa using hk)) hl (H' := openObj (lay x) [])
    (fun j hj => by have := openObj_part (rest := []) (news := []) hj; simpa using this) (fun k hk => by
      have := openObj_other (rest := []) (news := []) hl.pos hk
      rw [List.append_nil] at this
      rw [this]
      split
      · rename_i hlt
        cases k with
        | zero => exact absurd rfl (hk 0 hl.pos)
        | succ k => rfl
      · rename_i hlt
        rw [getC_beyond (show ([] : List (Chunk A)).length ≤ _ by simp), getC_beyond (by simp; omega)])
  have hd1 := hd.mono fun _ _ => Den.mono le1
  refine calls_of_wp hf hb ?_
  have hlen := hd1.length
  have h2 := h1.enter hd1 (n := fn.ntmps) (by omega)
  refine svc_sound (AI := absOf lay tq) (G := { G with size := fn.ntmps }) hE hm (by simpa using hG) c hok _ _ _ _ w h ⟨rfl, ρ1, h2⟩ fun e s' hq => ?_
  refine finR_of (AI := absOf lay tq) (G := { G with size := fn.ntmps }) hE.ti (by simpa using hG) hq (R := fun e w' => ∃ y ρ', e = .returned y ∧ Holds (absOf lay tq) G ⟨[], [.abs x']⟩ ρ' #[] w' ∧ Den ρ' v y) fun y ρ' w' h3 h4 => ?_
  have e1 : ({ { G with size := fn.ntmps } with size := 0 } : Fr) = G := by cases G; simp at hsz; subst hsz; rfl
  rw [e1] at h3
  obtain ⟨ρ3, h5, h6, _⟩ := h3.close_obj (rest' := []) hl' rfl (by rw [hG]; simp)
  exact ⟨y, ρ3, rfl, h5, closedV_den h6 hv h4⟩
/-- As tmpl_of_body, with the parts in any order at the end. -/
theorem tmpl_bodyR [SubA A] {E : Env A} (hE : EnvOk P AI E) (hm : P.follows .mixedOrders = true) {f : FuncId} {fn : Func} {c : Code} (hf : P.funcs[f]? = some fn) (hb : fn.body = some c) (hok : codeOk fn.ntmps c = true) {args : List SV} (hargs : args.length ≤ fn.ntmps) {H0 : List (Chunk A)}
    {v : SV} {H1 : List (Chunk A)} (h : svc E H0.length c ⟨argT 0 args, H0⟩ (finR E.ti H0.length fn.results.toList v H1)) : TmplOk P AI f args H0 v H1 := by
  intro G ρ w us hG hsz hh hd
  refine calls_of_wp hf hb ?_
  have hlen := hd.length
  have h2 := hh.enter hd (n := fn.ntmps) (by omega)
  refine svc_sound (AI := AI) (G := { G with size := fn.ntmps }) hE hm (by simpa using hG) c hok _ _ _ _ w h ⟨rfl, ρ, h2⟩ fun e s' hq => ?_
  refine finR_of (AI := AI) (G := { G with size := fn.ntmps }) hE.ti (by simpa using hG) hq (R := fun e w' => ∃ y ρ', e = .returned y ∧ Holds AI G ⟨[], H1⟩ ρ' #[] w' ∧ Den ρ' v y) fun y ρ' w' h3 h4 => ?_
  have e1 : ({ { G with size := fn.ntmps } with size := 0 } : Fr) = G := by cases G; simp at hsz; subst hsz; rfl
  rw [e1] at h3
  exact ⟨y, ρ', rfl, h3, h4⟩
end Go.Sx

/-
  Symbolic execution: slices.Sort of a row of strings.
-/
namespace Go.Sx
set_option linter.all false
set_option linter.unusedVariables false
set_option linter.unusedSimpArgs false
set_option linter.unusedSectionVars false
open Go.RowKit Go.Proofs Go.Sort

variable {A : Type} {AI : Abs A} {P : Program}

abbrev u8s (l : List Int) : List UInt8 := l.map fun x => x.toNat.toUInt8
/-- Strings in ascending order. -/
def sortS (L : List (List Int)) : List (List Int) := L.mergeSort fun a b => decide (u8s a ≤ u8s b)
theorem sortS_perm (L : List (List Int)) : (sortS L).Perm L := List.mergeSort_perm _ _
theorem sortS_len (L : List (List Int)) : (sortS L).length = L.length := (sortS_perm L).length_eq
theorem sortS_map (L : List (List Int)) : (L.map u8s).mergeSort (fun x y => decide (x ≤ y)) = (sortS L).map u8s := by
  unfold sortS
  exact (List.map_mergeSort (f := u8s) (fun a _ b _ => rfl)).symm

theorem u8s_inj : ∀ {a b : List Int}, inBytes a → inBytes b → u8s a = u8s b → a = b
  | [], [], _, _, _ => rfl
  | [], _ :: _, _, _, h => by cases h
  | _ :: _, [], _, _, h => by cases h
  | x :: a, y :: b, ha, hb, h => by
    have h1 : x.toNat.toUInt8 = y.toNat.toUInt8 ∧ u8s a = u8s b := by simpa [u8s] using h
    have hx := ha x (List.mem_cons_self ..)
    have hy := hb y (List.mem_cons_self ..)
    have e : x = y := by
      have h2 := congrArg UInt8.toNat h1.1
      simp only [Nat.toUInt8, UInt8.toNat_ofNat'] at h2
      omega
    rw [e, u8s_inj (fun z hz => ha z (List.mem_cons_of_mem _ hz)) (fun z hz => hb z (List.mem_cons_of_mem _ hz)) h1.2]
theorem sortS_asc (L : List (List Int)) : (sortS L).Pairwise fun a b => u8s a ≤ u8s b := by
  unfold sortS
  have h := List.pairwise_mergeSort (le := fun a b : List Int => decide (u8s a ≤ u8s b)) (fun a b c h1 h2 => by
    simp only [decide_eq_true_eq] at h1 h2 ⊢
    exact List.le_trans h1 h2) (fun a b => by
    simp only [Bool.or_eq_true, decide_eq_true_eq]
    exact List.le_total _ _) L
  exact h.imp fun h => by simpa using h
theorem sortS_congr {L M : List (List Int)} (h : L.Perm M) (hb : ∀ x ∈ L, inBytes x) : sortS L = sortS M := by
  have hp : (sortS L).Perm (sortS M) := (sortS_perm L).trans (h.trans (sortS_perm M).symm)
  refine List.Perm.eq_of_pairwise (le := fun a b => u8s a ≤ u8s b) (fun a b ha hb2 h1 h2 => ?_) (sortS_asc L) (sortS_asc M) hp
  have ha := hb a ((sortS_perm L).subset ha)
  have hb3 := hb b (h.symm.subset ((sortS_perm M).subset hb2))
  exact u8s_inj ha hb3 (List.le_antisymm h1 h2)
theorem sortS_nil : sortS [] = [] := List.length_eq_zero_iff.1 (sortS_len [])

def sortStrCon : Con A := fun args _ => match args with
  | [.val (.one (.hd i ver))] => some ⟨[i], 0, true, fun cs _ => match cs with
      | [.row t .str ver' L] => (match beqN ver ver' with
        | true => .done (fun _ => (L ()).length ≤ 4194304) (.tup []) [.row t .str ver' (fun _ => sortS (L ()))]
        | false => .fail)
      | _ => .fail⟩
  | _ => none

theorem heap_putRow_other (enc : List UInt8 → Value) (w : World) {blk b : Nat} (off : Nat) (d : Array (List UInt8)) (h : b ≠ blk) : (putRow enc w blk off d).heap[b]? = w.heap[b]? := by
  simp only [putRow, mapBlock, Array.getElem?_modify]
  rw [if_neg (fun e => h e.symm)]

theorem sortStr_row {t : TypeId} {M : Mem} {w w' : World} {L : List (List Int)} {b off cap n : Nat} {os : Array Obj} (hb : b < w.heap.size) (hlen : L.length ≤ cap) (hcap : cap ≤ maxLen)
    (hc : ∀ j x, L[j]? = some x → CellsM M .str x (fun i => w.cell? ⟨b, off + j * 1 + i, none⟩)) (hf : ∀ j, j < cap * 1 → (w.cell? ⟨b, off + j, none⟩).isSome = true ∧ w.frozen? ⟨b, off + j, none⟩ = false)
    (hH : Go.Sort.Holds encStr w b off (L.map u8s).toArray) (hw : w' = grow (putRow encStr (Sort.ahead w n) b off ((L.map u8s).mergeSort fun x y => decide (x ≤ y)).toArray) os) :
    RowAt t M w' .str (sortS L) (.slice (some ⟨b, off, none⟩) (sortS L).length cap) [b] := by
  have hsz : ((L.map u8s).mergeSort fun x y => decide (x ≤ y)).toArray.size = (L.map u8s).toArray.size := by
    simp [List.length_mergeSort]
  have hcell : ∀ a : Addr, a.block < w.heap.size → w'.cell? a = (putRow encStr (Sort.ahead w n) b off ((L.map u8s).mergeSort fun x y => decide (x ≤ y)).toArray).cell? a := fun a ha => by
    rw [hw]; exact cell?_grow _ _ _ (by simpa using ha)
  have hfro : ∀ a : Addr, a.block < w.heap.size → w'.frozen? a = w.frozen? a := fun a ha => by
    rw [hw, frozen?_grow _ _ _ (by simpa using ha), frozen?_putRow]; rfl
  have hget : ∀ j, j < L.length → w'.cell? ⟨b, off + j, none⟩ = some (encStr (((sortS L).map u8s).toArray[j]!)) := fun j hj => by
    rw [hcell _ hb, cell?_putRow encStr (Sort.ahead w n) b off _ _ hH hsz j (by rw [hsz]; simpa using hj), sortS_map]
  refine .inr ⟨b, off, cap, rfl, rfl, by rw [sortS_len]; exact hlen, hcap, fun j x hj => ?_, fun j hj => ?_, fun he => by cases he⟩
  · have hjl : j < (sortS L).length := (List.getElem?_eq_some_iff.1 hj).1
    have := hget j (by rwa [sortS_len] at hjl)
    show w'.cell? ⟨b, off + j * 1 + 0, none⟩ = some (.string ⟨(u8s x).toArray⟩)
    rw [Nat.mul_one, Nat.add_zero, this]
    have e : ((sortS L).map u8s).toArray[j]! = u8s x := by
      rw [getElem!_pos _ j (by simpa using hjl)]
      have hx := (List.getElem?_eq_some_iff.1 hj).2
      simp [hx]
    rw [e]
  · have hj' : j < cap := by simpa [Ty.size] using hj
    have h0 := hf j (by omega)
    refine ⟨?_, by rw [hfro _ hb]; exact h0.2⟩
    by_cases c : j < L.length
    · rw [hget j c]; rfl
    · rw [hcell _ hb, cell?_putRow_other encStr _ _ _ _ _ (.inr (.inr (by
        show off + _ ≤ off + j
        have : ((L.map u8s).mergeSort fun x y => decide (x ≤ y)).toArray.size = L.length := by rw [hsz]; simp
        omega)))]
      exact h0.1

theorem sortStrCon_sound {f : FuncId} (enf : Enters P f)
    (hS : ∀ (blk off cap : Nat) (ss : List (List UInt8)) (w : World), Go.Sort.Holds encStr w blk off ss.toArray → blk < w.heap.size → ss.length < 4611686018427387904 →
      Calls P f #[.slice (some ⟨blk, off, none⟩) ss.length cap] w fun e w' => e = .returned (.tuple #[]) ∧ ∃ n os, w' = grow (putRow encStr (Sort.ahead w n) blk off (ss.mergeSort fun x y => decide (x ≤ y)).toArray) os)
    (hN : ∀ (p : Option Addr) (cap : Nat) (w : World), Calls P f #[.slice p 0 cap] w fun e w' => e = .returned (.tuple #[]) ∧ w' = w) :
    ConSound P AI f sortStrCon := by
  refine ⟨enf, fun args fresh p hp hw => ?_, fun G s ρ tmps w args us fresh p d C v cs h hargs hp hfr he hC => ?_⟩
  · unfold sortStrCon at hp
    split at hp
    · cases hp
      cases hw
    · cases hp
  · unfold sortStrCon at hp
    split at hp <;> (try (cases hp; done))
    rename_i i ver
    cases hp
    simp only [getCs] at he
    split at he <;> (try (cases he; done))
    rename_i t ver' L hcs
    split at he <;> cases he
    rename_i hvv
    have hvv : ver = ver' := beqN_iff.1 hvv
    subst hvv
    simp only [List.cons.injEq, and_true] at hcs
    have h1 := h.ch i
    rw [hcs] at h1
    obtain ⟨hver, hrow⟩ := h1
    cases hargs with
    | cons ha hnil =>
    cases hnil
    obtain ⟨⟨ao, l, c, rfl⟩, _, hroot⟩ := ha
    have hroot := hroot hver
    have fin : ∀ w' : World, (∀ b, b < w.heap.size → b ∉ ρ.foot i → w'.heap[b]? = w.heap[b]?) → w'.os = w.os → w'.tape = w.tape → w'.output = w.output → w.heap.size ≤ w'.heap.size →
        RowAt t ρ.M w' .str (sortS (L ())) (ρ.root i) (ρ.foot i) → ∃ y ρ', Ending.returned (.tuple #[]) = .returned y ∧ Holds AI G ⟨s.tm, putCs s.H [i] [.row t .str ver (fun _ => sortS (L ()))]⟩ ρ' tmps w' ∧ Den ρ' (.tup []) y ∧ ρ.Le ρ' := by
      intro w' hb hos htape hout hsize hR
      obtain ⟨h8, h9⟩ := h.upd1 i (ρ.root i) (ρ.ver i) (ρ.foot i) (.row t .str ver (fun _ => sortS (L ()))) w' (fun b hb => hb) (Nat.le_refl _) (fun _ _ => rfl) (fun b hb => ⟨.inl hb, Nat.lt_of_lt_of_le (h.lt i b hb) hsize⟩) hb hos htape hout hsize
        ⟨by simp [Ev.upd, hver], by
          have e3 : (ρ.upd i (ρ.root i) (ρ.ver i) (ρ.foot i)).root i = ρ.root i := by simp [Ev.upd]
          have e4 : (ρ.upd i (ρ.root i) (ρ.ver i) (ρ.foot i)).foot i = ρ.foot i := by simp [Ev.upd]
          rw [e3, e4]
          exact hR⟩
      exact ⟨_, _, rfl, h8, ⟨[], rfl, .nil⟩, h9⟩
    rcases hrow with ⟨⟨ao', hr⟩, hL, hF⟩ | ⟨b, off, cap, hr, hF, hlen, hcap, hcells, hfro, _⟩
    · rw [hr] at hroot
      cases hroot
      refine (hN _ _ w).mono ?_
      rintro e w' ⟨rfl, rfl⟩
      refine fin w' (fun _ _ _ => rfl) rfl rfl rfl (Nat.le_refl _) (.inl ⟨⟨_, hr⟩, ?_, hF⟩)
      rw [hL]; exact List.length_eq_zero_iff.1 (sortS_len [])
    · rw [hr] at hroot
      cases hroot
      have hbl : b < w.heap.size := h.lt i b (by rw [hF]; exact List.mem_singleton.2 rfl)
      have hH : Go.Sort.Holds encStr w b off ((L ()).map u8s).toArray := by
        intro j hj
        have hj : j < (L ()).length := by simpa using hj
        refine ⟨?_, (hfro j (by simp only [Ty.size]; omega)).2⟩
        have := hcells j ((L ())[j]) (List.getElem?_eq_getElem hj)
        have this : w.cell? ⟨b, off + j * 1 + 0, none⟩ = some (.string ⟨(u8s ((L ())[j])).toArray⟩) := this
        rw [Nat.mul_one, Nat.add_zero] at this
        rw [this]
        have e : (((L ()).map u8s).toArray)[j]! = u8s ((L ())[j]) := by
          rw [getElem!_pos _ j (by simpa using hj)]
          simp
        rw [e]
      have hc := hS b off c ((L ()).map u8s) w hH hbl (by rw [List.length_map]; have : (L ()).length ≤ 4194304 := hC; omega)
      rw [List.length_map] at hc
      refine hc.mono ?_
      rintro e w' ⟨rfl, n, os, hw'⟩
      refine fin w' (fun b' hb' hne => ?_) (by rw [hw']; rfl) (by rw [hw']; rfl) (by rw [hw']; rfl) (by rw [hw', size_grow, size_putRow]; exact Nat.le_add_right _ _) ?_
      · rw [hF] at hne
        rw [hw', heap_grow_old _ _ (by rw [size_putRow]; exact hb'), heap_putRow_other _ _ _ _ (by simpa using hne)]
        rfl
      · rw [hr, hF]
        have := sortStr_row (t := t) (M := ρ.M) (n := n) (os := os) hbl hlen hcap hcells hfro hH hw'
        rwa [sortS_len] at this

/-! ### functions from a string to a Bool that leave the world as it is -/
def strBoolCon (F : List Int → Bool) : Con A := fun args _ => match args with
  | [.val (.one (.str l))] => some ⟨[], 0, false, fun _ _ => .done tt (one (.sb (fun _ => F (l ())))) []⟩
  | _ => none
theorem strBool_sound {F : List Int → Bool} {f : FuncId} (enf : Enters P f) (hF : ∀ (l : List Int) (w : World), Calls P f #[.string ⟨(u8s l).toArray⟩] w fun e w' => e = .returned (.bool (F l)) ∧ w = w') : ConSound P AI f (strBoolCon F) := by
  refine ⟨enf, fun args fresh p hp hw H d C v cs he => ?_, fun G s ρ tmps w args us fresh p d C v cs h hargs hp hfr he hC => ?_⟩
  · unfold strBoolCon at hp
    split at hp
    · cases hp
      simp at he
      simp [getCs, he]
    · cases hp
  · unfold strBoolCon at hp
    split at hp <;> (try (cases hp; done))
    cases hp
    simp at he
    obtain ⟨rfl, rfl, rfl⟩ := he
    cases hargs with
    | cons ha hnil =>
    cases hnil
    have ha : _ = Value.string _ := ha
    subst ha
    refine (hF _ w).mono ?_
    rintro e w' ⟨rfl, rfl⟩
    exact ⟨_, ρ, rfl, h, rfl, Ev.Le.refl _⟩
end Go.Sx

/-
  Symbolic execution: (*strings.Builder).copyCheck; strconv.Itoa of small numbers.
-/
namespace Go.Sx
set_option linter.all false
set_option linter.unusedVariables false
set_option linter.unusedSimpArgs false
set_option linter.unusedSectionVars false
open Go.RowKit Go.Proofs
variable {A : Type} {AI : Abs A} {P : Program}

def copyCon (tB : TypeId) : Con A := fun args _ => match args with
  | [.val (.one (.ptr k 0))] => some ⟨[k], 0, true, fun cs _ => match cs with
      | [.cells t [.nilP, x]] => (match beqN t tB with | true => .done tt (.tup []) [.cells t [.ptr k 0, x]] | false => .fail)
      | [.cells t [.ptr j 0, x]] => (match beqN j k with | true => .done tt (.tup []) [.cells t [.ptr k 0, x]] | false => .fail)
      | _ => .fail⟩
  | _ => none

theorem copyCon_sound {tB : TypeId} {f : FuncId} (enf : Enters P f)
    (hF : ∀ (b : Nat) (w : World), w.cell? ⟨b, 0, none⟩ = some (.pointer none) → w.shape? b = some (tB, 2) → w.frozen? ⟨b, 0, none⟩ = false →
      Calls P f #[.pointer (some ⟨b, 0, none⟩)] w fun e w' => e = .returned (.tuple #[]) ∧ w' = w.setCell ⟨b, 0, none⟩ (.pointer (some ⟨b, 0, none⟩)))
    (hU : ∀ (b : Nat) (w : World), w.cell? ⟨b, 0, none⟩ = some (.pointer (some ⟨b, 0, none⟩)) → Calls P f #[.pointer (some ⟨b, 0, none⟩)] w fun e w' => e = .returned (.tuple #[]) ∧ w' = w) :
    ConSound P AI f (copyCon tB) := by
  refine ⟨enf, fun args fresh p hp hw => ?_, fun G s ρ tmps w args us fresh p d C v cs h hargs hp hfr he hC => ?_⟩
  · unfold copyCon at hp
    split at hp
    · cases hp; cases hw
    · cases hp
  · unfold copyCon at hp
    split at hp <;> (try (cases hp; done))
    rename_i k
    cases hp
    simp only [getCs] at he
    have h1 := h.ch k
    generalize hg : getC s.H k = c at he h1
    cases hargs with
    | cons ha hnil =>
    cases hnil
    obtain ⟨b, hr, rfl⟩ := ha
    split at he <;> (try (cases he; done))
    · rename_i t x hcc
      simp only [List.cons.injEq, and_true] at hcc
      subst hcc
      split at he <;> cases he
      rename_i ht
      have ht : t = tB := beqN_iff.1 ht
      subst ht
      obtain ⟨b', vs, h2, h3, h4, h5⟩ := h1
      rw [hr] at h2
      cases h2
      cases h5 with
      | cons h6 h7 =>
      cases h7 with
      | cons h8 h9 =>
      cases h9
      rename_i v0 v1
      have h6 : v0 = .pointer none := h6
      subst h6
      have hblt : b < w.heap.size := h.lt k b (by rw [h3]; simp)
      have hnew : (w.setCell ⟨b, 0, none⟩ (.pointer (some ⟨b, 0, none⟩))).heap[b]? = some (.cells [.pointer (some ⟨b, 0, none⟩), v1].toArray t (0, 0)) := by
        simp [World.setCell, Array.getElem?_modify, h4]
      refine (hF b w (by simp [World.cell?, h4]) (by simp [World.shape?, h4]) (by simp [World.frozen?, h4])).mono ?_
      rintro e w' ⟨rfl, rfl⟩
      obtain ⟨h10, h11⟩ := h.upd1 k (ρ.root k) (ρ.ver k) (ρ.foot k) (.cells t [.ptr k 0, x]) (w.setCell ⟨b, 0, none⟩ (.pointer (some ⟨b, 0, none⟩))) (fun b hb => hb) (Nat.le_refl _) (fun _ _ => rfl) (fun b' hb' => ⟨.inl hb', by have := h.lt k b' hb'; simpa [World.setCell] using this⟩)
        (fun b2 _ hn => Below.heap_setCell _ _ _ _ (fun e => hn (by rw [h3, e]; simp))) rfl rfl rfl (by simp [World.setCell])
        (by
          rw [upd_self]
          exact ⟨b, [.pointer (some ⟨b, 0, none⟩), v1], hr, h3, hnew, .cons ⟨b, hr, rfl⟩ (.cons h8 .nil)⟩)
      exact ⟨_, _, rfl, h10, ⟨[], rfl, .nil⟩, h11⟩
    · rename_i t j x hcc
      simp only [List.cons.injEq, and_true] at hcc
      subst hcc
      split at he <;> cases he
      rename_i hj
      have hj : j = k := beqN_iff.1 hj
      subst hj
      obtain ⟨b', vs, h2, h3, h4, h5⟩ := h1
      rw [hr] at h2
      cases h2
      cases h5 with
      | cons h6 h7 =>
      cases h7 with
      | cons h8 h9 =>
      cases h9
      rename_i v0 v1
      obtain ⟨b2, h6, rfl⟩ := h6
      rw [hr] at h6
      cases h6
      refine (hU b w (by simp [World.cell?, h4])).mono ?_
      rintro e w' ⟨rfl, rfl⟩
      refine ⟨_, ρ, rfl, h.congrH fun i => ?_, ⟨[], rfl, .nil⟩, Ev.Le.refl _⟩
      simp only [putCs, getC_putC]
      by_cases e1 : i = j
      · rw [if_pos e1, e1, hg]
      · rw [if_neg e1]

/-- A function from an integer to a string that leaves the world as it is. -/
def itoaCon (ok : Int → Prop) (F : Int → List Int) : Con A := fun args _ => match args with
  | [x] => (match ivalS x with
    | some (.i64, n) => some ⟨[], 0, false, fun _ _ => .done (fun _ => ok (n ())) (one (.str (fun _ => F (n ())))) []⟩
    | _ => none)
  | _ => none
theorem itoaCon_sound {ok : Int → Prop} {F : Int → List Int} {f : FuncId} (enf : Enters P f) (hF : ∀ (n : Int) (w : World), ok n → Calls P f #[.int .i64 n] w fun e w' => e = .returned (.string ⟨(u8s (F n)).toArray⟩) ∧ w = w') : ConSound P AI f (itoaCon ok F) := by
  refine ⟨enf, fun args fresh p hp hw H d C v cs he => ?_, fun G s ρ tmps w args us fresh p d C v cs h hargs hp hfr he hC => ?_⟩
  · unfold itoaCon at hp
    split at hp <;> (try (cases hp; done))
    split at hp <;> cases hp
    simp at he
    simp [getCs, he]
  · unfold itoaCon at hp
    split at hp <;> (try (cases hp; done))
    split at hp <;> cases hp
    rename_i n hn
    simp at he
    obtain ⟨rfl, rfl, rfl⟩ := he
    cases hargs with
    | cons ha hnil =>
    cases hnil
    obtain rfl := ivalS_den hn ha
    refine (hF _ w hC).mono ?_
    rintro e w' ⟨rfl, rfl⟩
    exact ⟨_, ρ, rfl, h, rfl, Ev.Le.refl _⟩
end Go.Sx

/-
  Symbolic execution: strconv.Itoa where its table is known.
-/
namespace Go.Sx
set_option linter.all false
set_option linter.unusedVariables false
set_option linter.unusedSimpArgs false
set_option linter.unusedSectionVars false
open Go.RowKit Go.Proofs Go.Sort
variable {A : Type} {AI : Abs A} {P : Program}

/-- A table of the program. -/
def tabOf (P : Program) (name : String) (k : IntKind) (zs : List Int) : TabQ :=
  ⟨P.globalNamed name, fun w => Lib.TabIs P w name k zs, fun {w w'} h ht => by
    unfold Lib.TabIs World.var? at ht ⊢
    cases hg : P.globalNamed name with
    | none => simp only [hg] at ht; cases ht
    | some g =>
      simp only [hg, Option.bind_some] at ht ⊢
      rw [h g hg]; exact ht⟩
theorem tabOf_T {P : Program} {name : String} {k : IntKind} {zs : List Int} {W : World} (h : Lib.TabIs P W name k zs) : (tabOf P name k zs).T W (fun _ => False) := by
  refine ⟨h, fun g hg => ⟨?_, fun h => h⟩⟩
  have hg : P.globalNamed name = some g := hg
  unfold Lib.TabIs World.var? at h
  rw [hg] at h
  simp only [Option.bind_some] at h
  cases e : W.heap[g]? with
  | none => rw [e] at h; cases h
  | some o => exact (Array.getElem?_eq_some_iff.1 e).1
theorem itoaCon_soundT {ok : Int → Prop} {F : Int → List Int} {f : FuncId} (enf : Enters P f) (hF : ∀ (n : Int) (w : World), ok n → AI.tq.ok w → Calls P f #[.int .i64 n] w fun e w' => e = .returned (.string ⟨(u8s (F n)).toArray⟩) ∧ ∃ k os, w' = grow (w.drewN k) os) : ConSound P AI f (itoaCon ok F) := by
  refine ⟨enf, fun args fresh p hp hw H d C v cs he => ?_, fun G s ρ tmps w args us fresh p d C v cs h hargs hp hfr he hC => ?_⟩
  · unfold itoaCon at hp
    split at hp <;> (try (cases hp; done))
    split at hp <;> cases hp
    simp at he
    simp [getCs, he]
  · unfold itoaCon at hp
    split at hp <;> (try (cases hp; done))
    split at hp <;> cases hp
    rename_i n hn
    simp at he
    obtain ⟨rfl, rfl, rfl⟩ := he
    cases hargs with
    | cons ha hnil =>
    cases hnil
    obtain rfl := ivalS_den hn ha
    refine (hF _ w hC h.tab).mono ?_
    rintro e w' ⟨rfl, k, os, rfl⟩
    refine ⟨_, ρ, rfl, h.grown (fun b hb => ?_) rfl rfl rfl ?_, rfl, Ev.Le.refl _⟩
    · show (w.heap ++ os)[b]? = w.heap[b]?
      exact Array.getElem?_append_left hb
    · show w.heap.size ≤ (w.heap ++ os).size
      rw [Array.size_append]; omega
end Go.Sx

/-
  Symbolic execution: slices.Sorted(maps.Keys(m)) at keys that are ints: a new row of the keys in ascending order.
-/
namespace Go.Sx
set_option linter.all false
set_option linter.unusedVariables false
set_option linter.unusedSimpArgs false
set_option linter.unusedSectionVars false
open Go.RowKit Go.Proofs Go.WideShapes Go.Maps

variable {A : Type} {AI : Abs A} {P : Program}

def insI (x : Int) : List Int → List Int
  | [] => [x]
  | y :: r => if x ≤ y then x :: y :: r else y :: insI x r
def sortI : List Int → List Int
  | [] => []
  | x :: r => insI x (sortI r)
def keysI {V : Type} (l : List (Int × V)) : List Int := l.map fun p => p.1
theorem insI_perm (x : Int) : ∀ l : List Int, (insI x l).Perm (x :: l)
  | [] => .refl _
  | y :: r => by
    unfold insI
    split
    · exact .refl _
    · exact ((insI_perm x r).cons y).trans (.swap x y r)
theorem sortI_perm : ∀ l : List Int, (sortI l).Perm l
  | [] => .refl _
  | x :: r => (insI_perm x _).trans ((sortI_perm r).cons x)
theorem insI_asc (x : Int) : ∀ l : List Int, l.Pairwise (· ≤ ·) → (insI x l).Pairwise (· ≤ ·)
  | [], _ => List.pairwise_singleton _ _
  | y :: r, h => by
    obtain ⟨h1, h2⟩ := List.pairwise_cons.1 h
    unfold insI
    split
    · rename_i hxy
      refine List.pairwise_cons.2 ⟨fun z hz => ?_, h⟩
      rcases List.mem_cons.1 hz with rfl | hz
      · exact hxy
      · exact Int.le_trans hxy (h1 z hz)
    · rename_i hxy
      refine List.pairwise_cons.2 ⟨fun z hz => ?_, insI_asc x r h2⟩
      rcases List.mem_cons.1 ((insI_perm x r).subset hz) with rfl | hz
      · omega
      · exact h1 z hz
theorem sortI_asc : ∀ l : List Int, (sortI l).Pairwise (· ≤ ·)
  | [] => .nil
  | x :: r => insI_asc x _ (sortI_asc r)
theorem asc_eq : ∀ {l m : List Int}, l.Perm m → l.Pairwise (· ≤ ·) → m.Pairwise (· ≤ ·) → l = m
  | [], m, h, _, _ => (List.Perm.nil_eq h)
  | a :: l, [], h, _, _ => absurd h.length_eq (by simp)
  | a :: l, b :: m, h, h1, h2 => by
    obtain ⟨p1, p2⟩ := List.pairwise_cons.1 h1
    obtain ⟨q1, q2⟩ := List.pairwise_cons.1 h2
    have e : a = b := by
      have ha : a ∈ b :: m := h.subset (List.mem_cons_self ..)
      have hb : b ∈ a :: l := h.symm.subset (List.mem_cons_self ..)
      rcases List.mem_cons.1 ha with e | ha
      · exact e
      rcases List.mem_cons.1 hb with e | hb
      · exact e.symm
      have := p1 b hb; have := q1 a ha; omega
    subst e
    rw [asc_eq ((List.perm_cons _).1 h) p2 q2]
theorem sortI_congr {l m : List Int} (h : l.Perm m) : sortI l = sortI m :=
  asc_eq ((sortI_perm l).trans (h.trans (sortI_perm m).symm)) (sortI_asc l) (sortI_asc m)
theorem mergeSort_eq (l : List Int) : (l.mergeSort fun x y => decide (x ≤ y)) = sortI l := by
  have h := List.pairwise_mergeSort (le := fun x y : Int => decide (x ≤ y)) (fun a b c h1 h2 => by simp at h1 h2 ⊢; omega) (fun a b => by simp; omega) l
  exact asc_eq ((List.mergeSort_perm _ _).trans (sortI_perm l).symm) (h.imp fun h => by simpa using h) (sortI_asc l)
theorem sortI_of {l : List Int} (h : l.Pairwise (· ≤ ·)) : sortI l = l := asc_eq (sortI_perm l) (sortI_asc l) h

def sortedCon (g : FuncId) (et : TypeId) (i : Nat) : Con A := fun args fresh => match args with
  | [.val (.fn f [.ptr k 0])] => (match beqN f g && !beqN k i && !beqN k fresh && !beqN i fresh with
    | true => some ⟨[k, i, fresh], 1, true, fun cs _ => match cs with
      | [.cells t [.mp i'], .map (.int .i64) e L, .emp] => (match beqN i i' with
        | true => .done (fun _ => (keysI (L ())).Nodup ∧ (∀ x ∈ keysI (L ()), inI64 x) ∧ (L ()).length ≤ 4194304) (one (.hd fresh 0)) [.cells t [.mp i'], .map (.int .i64) e L, .row et (.int .i64) 0 (fun _ => sortI (keysI (L ())))]
        | false => .fail)
      | _ => .fail⟩
    | false => none)
  | _ => none

theorem wf_i64 {n : Int} (hn : inI64 n) : (Lit.int .i64 n).wf = true := by
  have h1 : IntKind.i64.min = -9223372036854775808 := by rfl
  have h2 : IntKind.i64.max = 9223372036854775807 := by rfl
  simp only [Lit.wf, h1, h2, Bool.and_eq_true, decide_eq_true_eq]
  exact hn

/-- How an element is read: not at all. -/
def noR : Value → Option (DataW Unit × List MemPlace) := fun _ => some (.nil, [])
theorem rd_int {k : TypeId} (hk : P.underlying k = some (.int .i64)) {n : Int} (hn : inI64 n) {x : MapEntry} (hx : x.key = .int .i64 n) : Go.WideElems.rd P k noR x = some (.int .i64 n, .nil) := by
  unfold Go.WideElems.rd
  rw [hx, keyOf_int_mk hk (wf_i64 hn)]
  rfl

theorem mapAt_owns {M : Mem} {w : World} {b : Nat} {es : Array MapEntry} {clock : Nat} {e : Ty} {L : List (Int × e.T)} (hb : w.heap[b]? = some (.map es clock)) (hm : MapAt M (.int .i64) e L es.toList clock) {k : TypeId} (hk : P.underlying k = some (.int .i64))
    (hn : (keysI L).Nodup) (hi : ∀ x ∈ keysI L, inI64 x) (hl : L.length ≤ 4194304) :
    ∃ D0 : DataW Unit, w.ownsMap P k noR b L.length D0 ∧ (intKeys D0).Perm (keysI L) ∧ Maps.size D0 = L.length := by
  obtain ⟨h1, h2, h3⟩ := hm
  have hlen : L.length = es.size := by rw [h1.length]; simp
  have hkeys : ∀ (L : List (Int × e.T)) (l : List MapEntry), All2 (fun p (m : MapEntry) => m.key = (KT.int .i64).mk p.1 ∧ (KT.int .i64).ok p.1 ∧ ValIs M e p.2 m.val) L l → l.map (·.key) = (keysI L).map fun x => Value.int .i64 x := by
    intro L l h
    induction h with
    | nil => rfl
    | cons h _ ih => simp only [List.map_cons, keysI] at ih ⊢; rw [ih, h.1]; rfl
  have hk1 := hkeys L es.toList h1
  have hread : ∀ (L : List (Int × e.T)) (l : List MapEntry), All2 (fun p (m : MapEntry) => m.key = (KT.int .i64).mk p.1 ∧ (KT.int .i64).ok p.1 ∧ ValIs M e p.2 m.val) L l → (∀ x ∈ keysI L, inI64 x) → l.map (Go.WideElems.rg P k noR) = (keysI L).map fun x => ((.int .i64 x : Lit), (.nil : DataW Unit)) := by
    intro L l h
    induction h with
    | nil => intro _; rfl
    | cons h _ ih =>
      intro hi
      simp only [List.map_cons, keysI] at ih hi ⊢
      rw [ih fun x hx => hi x (List.mem_cons_of_mem _ hx)]
      congr 1
      unfold Go.WideElems.rg
      rw [rd_int hk (hi _ (List.mem_cons_self ..)) h.1]
      rfl
  have hr1 := hread L es.toList h1 hi
  have hst : Go.MapKept.Stamped es clock := by
    refine ⟨h3, h2.imp fun h => Nat.ne_of_lt h, ?_⟩
    rw [hk1]
    exact List.pairwise_map.2 (hn.imp fun hne he => hne (by simpa using he))
  refine ⟨_, ⟨es, clock, hb, ⟨by rw [← hlen]; exact Nat.le_trans hl (by decide), hst, fun x hx => ?_⟩, by omega, rfl⟩, ?_, ?_⟩
  · have : x.key ∈ es.toList.map (·.key) := List.mem_map_of_mem hx
    rw [hk1] at this
    obtain ⟨n, hn1, hn2⟩ := List.mem_map.1 this
    exact ⟨_, rd_int hk (hi n hn1) hn2.symm⟩
  · show (((es.toList.map (Go.WideElems.rg P k noR)).foldr DataW.insert []).map fun p => intOf p.1).Perm _
    refine ((sorted_perm _).map _).trans ?_
    rw [hr1, List.map_map]
    exact List.Perm.of_eq (List.map_id' _)
  · rw [Maps.size_eq, (sorted_perm _).length_eq, List.length_map]
    simpa using hlen.symm

theorem sortedCon_sound {ρ1 ρ2 : Shelf.Ren} (L7 : SlLaysZI.n10 P ρ1) (L6 : SlLaysZI.n6 P ρ2) (hsort : AnyZI.SortsIn P ρ2 Fence.wide 4) {f g : FuncId} (hf : ρ2.f 6 = f) (hg : ρ1.f 10 = g) (enf : Enters P f) (eng : Enters P g) (en9 : Enters P (ρ2.f 9)) (et : TypeId) (i : Nat) :
    ConSound P AI f (sortedCon g et i) := by
  subst hf hg
  refine ⟨enf, fun args fresh p hp hw => ?_, fun G s ρ tmps w args us fresh p d C v cs h hargs hp hfr he hC => ?_⟩
  · unfold sortedCon at hp
    split at hp
    · split at hp <;> cases hp
      cases hw
    · cases hp
  · unfold sortedCon at hp
    split at hp <;> (try (cases hp; done))
    rename_i f' k
    split at hp <;> cases hp
    rename_i hcond
    simp only [Bool.and_eq_true, beqN_iff, Bool.not_eq_true', beqN] at hcond
    obtain ⟨⟨⟨hfg, hki⟩, hkf⟩, hif⟩ := hcond
    have hfg : f' = ρ1.f 10 := by simpa using hfg
    have hki : k ≠ i := by simpa using hki
    have hkf : k ≠ fresh := by simpa using hkf
    have hif : i ≠ fresh := by simpa using hif
    subst hfg
    have hemp : getC s.H fresh = .emp := hfr fresh (by simp) (Nat.le_refl _)
    simp only [getCs] at he
    split at he <;> (try (cases he; done))
    rename_i t i' e L hcs
    split at he <;> cases he
    rename_i hii
    have hii : i = i' := beqN_iff.1 hii
    subst hii
    simp only [List.cons.injEq, and_true] at hcs
    obtain ⟨hck, hci, _⟩ := hcs
    obtain ⟨hn, hi, hl⟩ := hC
    have h1 := h.ch k
    have h2 := h.ch i
    rw [hck] at h1
    rw [hci] at h2
    obtain ⟨bk, vs, hr1, hf1, hb1, hd1⟩ := h1
    obtain ⟨b, es, clock, hr2, hf2, hb2, hm2⟩ := h2
    cases hd1 with
    | cons hd hnil =>
    cases hnil
    rename_i v0
    obtain ⟨b', hb', rfl⟩ := hd
    have : b' = b := by
      rw [hr2] at hb'
      simpa using hb'.symm
    subst this
    cases hargs with
    | cons ha hnil =>
    cases hnil
    obtain ⟨caps, rfl, hcaps⟩ := ha
    cases hcaps with
    | cons hc hnil =>
    cases hnil
    obtain ⟨bk', hbk', rfl⟩ := hc
    have : bk' = bk := by
      rw [hr1] at hbk'
      simpa using hbk'.symm
    subst this
    obtain ⟨D0, hown, hperm, hsize⟩ := mapAt_owns (P := P) (k := ρ1.t 26) hb2 hm2 L7.t26 hn hi hl
    have hlt : bk' < w.heap.size := by
      exact (Array.getElem?_eq_some_iff.1 hb1).1
    have hseq : SeqGives Fence.wide 2 P (ρ1.f 10) #[.pointer (some ⟨bk', 0, none⟩)] encZ (fun ss => ss.Perm (intKeys D0)) (Maps.size D0) w :=
      AnyZI.keys_gives L7 Fence.wide 2 trivial rfl (by omega) bk' b' _ D0 w hlt (by simp [World.cell?, hb1]) hown
    have cS := AnyZI.sorted_in L6 Fence.wide 5 trivial trivial trivial trivial rfl (by omega) hsort en9 (ρ1.f 10) #[.pointer (some ⟨bk', 0, none⟩)] trivial eng _ _ (by rw [hsize]; exact Nat.le_trans hl (by decide)) (by rw [hsize]; omega) w hseq
    refine ((callsIn_wide (n := 5)).1 cS).mono ?_
    rintro e1 w' ⟨y, ss, rfl, hS, hrow, _, hbel⟩
    have hsorted : ss.mergeSort (fun x y => decide (x ≤ y)) = sortI (keysI (L ())) := (mergeSort_eq ss).trans (sortI_congr (hS.trans hperm))
    have hlen : ss.length = (sortI (keysI (L ()))).length := by rw [← hsorted]; exact (List.mergeSort_perm _ _).length_eq.symm
    rw [hsorted, hlen] at hrow
    have hc := h.ch fresh
    rw [hemp] at hc
    obtain ⟨hc1, hc2, hc3⟩ := hc
    have hrowAt : ∃ F : List Nat, RowAt et ρ.M w' (.int .i64) (sortI (keysI (L ()))) y F ∧ (∀ x ∈ F, w.heap.size ≤ x ∧ x < w'.heap.size) ∧ ∃ ao l c, y = .slice ao l c := by
      obtain ⟨hr0, hr⟩ := hrow
      rcases hr with ⟨rfl, hz⟩ | ⟨gb, cap, cur, rfl, g1, g2, g3, g4, g5, g6⟩
      · exact ⟨[], .inl ⟨⟨_, rfl⟩, List.eq_nil_of_length_eq_zero hz, rfl⟩, fun x hx => (by cases hx), _, _, _, rfl⟩
      · refine ⟨[gb], .inr ⟨gb, 0, cap, rfl, rfl, g3, g4, fun j x hj => ?_, fun j hj => ?_, fun he => by cases he⟩, fun x hx => ?_, _, _, _, rfl⟩
        · show w'.cell? ⟨gb, 0 + j * 1 + 0, none⟩ = some (.int .i64 x)
          have hjl : j < (sortI (keysI (L ()))).length := (List.getElem?_eq_some_iff.1 hj).1
          have h3 : (cur.toList.take ((sortI (keysI (L ()))).length * 1))[j]? = some (encZ x) := by rw [g6, List.getElem?_map, hj]; rfl
          rw [List.getElem?_take_of_lt (by omega)] at h3
          simp only [World.cell?, g2]
          simpa [encZ] using h3
        · have hjc : j < cur.size := by rw [g5]; exact hj
          simp only [World.cell?, World.frozen?, g2]
          simp [hjc]
        · simp only [List.mem_singleton] at hx
          subst hx
          exact ⟨g1, (Array.getElem?_eq_some_iff.1 g2).1⟩
    obtain ⟨F, hF1, hF2, hF3⟩ := hrowAt
    obtain ⟨h8, h9⟩ := h.upd1 fresh y 0 F (.row et (.int .i64) 0 (fun _ => sortI (keysI (L ())))) w' (by rw [hc2]; simp) (by omega) (by rw [hc2]; simp) (fun b hb => ⟨.inr (hF2 b hb).1, (hF2 b hb).2⟩) (fun b hb _ => hbel.block b hb) hbel.os hbel.tape hbel.output hbel.size
      ⟨by simp [Ev.upd], by
        have e3 : (ρ.upd fresh y 0 F).root fresh = y := by simp [Ev.upd]
        have e4 : (ρ.upd fresh y 0 F).foot fresh = F := by simp [Ev.upd]
        rw [e3, e4]
        exact hF1⟩
    refine ⟨y, _, rfl, h8.congrH fun j => ?_, ⟨hF3, by simp [Ev.upd], fun _ => by simp [Ev.upd]⟩, h9⟩
    simp only [putCs, getC_putC]
    by_cases e1 : j = fresh
    · simp [e1]
    · simp only [e1, if_false]
      by_cases e2 : j = i
      · subst e2; simp [hci]
      · simp only [e2, if_false]
        by_cases e3 : j = k
        · subst e3; simp [hck]
        · simp [e3]
end Go.Sx

/-
  Symbolic execution: loops whose first round begins in a state of another form.
-/
namespace Go.Sx
set_option linter.all false
set_option linter.unusedVariables false
set_option linter.unusedSimpArgs false
set_option linter.unusedSectionVars false
open Go.RowKit
variable {A : Type} {AI : Abs A} {G : Fr} {s : SS A} {ρ : Ev} {a : Act} {w : World} {P : Program} {lay : A → List (Chunk A)} {tq : TabQ}

/-- What holds behind the first round. -/
structure LoopTail (A : Type) where
  X : Type
  inv : X → SS A
  m : X → Nat
def svc2 {A : Type} [SubA A] (E : Env A) (n0 : Nat) : Code → SS A → (XE → SS A → Prop) → Prop
  | .skip, s, Q => Q .normal s
  | .region _ ops draw, s, Q => (match draw with
    | true => sreg E ops.toList draw s (Q .normal) 24 ⟨[], []⟩
    | false => (match nextOf ops.toList with
      | some (t, d0, d1) => snext t d0 d1 s (Q .normal)
      | none => sreg E ops.toList draw s (Q .normal) 24 ⟨[], []⟩))
  | .seq a b, s, Q => svc2 E n0 a s fun e s => match e with
    | .normal => svc2 E n0 b s Q
    | .ret => Q .ret s
    | .exit id => Q (.exit id) s
  | .cond c x y, s, Q => (match evalOp s.tm c with
    | some (.val (.one (.lb true))) => svc2 E n0 x s Q
    | some (.val (.one (.lb false))) => svc2 E n0 y s Q
    | some (.val (.one (.sb g))) => (match c with
      | .tmp t => Both g (fun _ => svc2 E n0 x ⟨(t, one (.lb true)) :: s.tm, s.H⟩ Q) (fun _ => svc2 E n0 y ⟨(t, one (.lb false)) :: s.tm, s.H⟩ Q)
      | _ => Failed 3000)
    | some (.val (.one (.nb neg C))) => (match c with
      | .tmp t => Alt neg C (fun _ => svc2 E n0 x ⟨(t, one (.lb true)) :: s.tm, s.H⟩ Q) (fun _ => svc2 E n0 y ⟨(t, one (.lb false)) :: s.tm, s.H⟩ Q)
      | _ => Failed 3002)
    | _ => Failed 3001)
  | .block id c, s, Q => svc2 E n0 c s fun e s => match e with
    | .normal => Q .normal s
    | .ret => Q .ret s
    | .exit id' => (match beqN id id' with | true => Q .normal s | false => Q (.exit id') s)
  | .loop c, s, Q => ∃ (I : LoopInv A) (J : LoopTail A), Sub n0 s (I.inv I.x0) ∧ (∀ x, svc2 E n0 c (I.inv x) fun e s => match e with
    | .normal => ∃ y, J.m y < I.m x ∧ Sub n0 s (J.inv y)
    | .ret => Q .ret s
    | .exit id => Q (.exit id) s) ∧ ∀ x, svc2 E n0 c (J.inv x) fun e s => match e with
    | .normal => ∃ y, J.m y < J.m x ∧ Sub n0 s (J.inv y)
    | .ret => Q .ret s
    | .exit id => Q (.exit id) s
  | .exit id, s, Q => Q (.exit id) s
  | .ret, s, Q => Q .ret s
  | .scope c, s, Q => svc2 E n0 c s Q
  | _, _, _ => Failed 4000


theorem svc2_sound [SubA A] {E : Env A} (hE : EnvOk P AI E) (hm : P.follows .mixedOrders = true) {n0 : Nat} (hn0 : G.n0 = n0) : ∀ (c : Code), codeOk G.size c = true → ∀ (s : SS A) (Q : XE → SS A → Prop) (Qx : Exit → Act → World → Prop) (a : Act) (w : World),
    svc2 E n0 c s Q → Sat AI G s a w → (∀ e s', Q e s' → Then AI G s' (Qx e.out)) → c.wp P Qx a w := by
  have th : ∀ {s : SS A} {a : Act} {w : World} {K : Act → World → Prop}, Then AI G s K → Sat AI G s a w → K a w := fun h hs => h _ _ hs.1 hs.2
  intro c
  induction c with
  | skip => intro _ s Q Qx a w h hs hQ; exact wp_skip (th (hQ _ _ h) hs)
  | region id ops draw =>
    intro hok s Q Qx a w h hs hQ
    have hdst : ∀ o ∈ ops.toList, ∀ t, o.dst = some t → t < G.size := fun o ho t ht => by
      have h1 := Array.all_eq_true'.1 hok o (by simpa using ho)
      rw [ht] at h1
      exact leN h1
    simp only [svc2] at h
    split at h
    · exact sreg_sound hE hm hdst (fun s' hs' => hQ _ _ hs') 24 ⟨[], []⟩ h hs
    · split at h
      · rename_i t d0 d1 hn
        exact snext_sound hn hdst (fun s' hs' => hQ _ _ hs') h hs
      · exact sreg_sound hE hm hdst (fun s' hs' => hQ _ _ hs') 24 ⟨[], []⟩ h hs
  | seq x y ihx ihy =>
    intro hok s Q Qx a w h hs hQ
    obtain ⟨o1, o2⟩ := Bool.and_eq_true_iff.1 hok
    refine wp_seq (ihx o1 s _ _ a w h hs fun e s' hq => ?_)
    cases e with
    | normal => exact fun a' w' hd hh => ihy o2 s' Q Qx a' w' hq ⟨hd, hh⟩ hQ
    | ret => exact hQ .ret s' hq
    | exit id => exact hQ (.exit id) s' hq
  | cond c x y ihx ihy =>
    intro hok s Q Qx a w h hs hQ
    obtain ⟨o1, o2⟩ := Bool.and_eq_true_iff.1 hok
    obtain ⟨hd, ρ, hh⟩ := id hs
    simp only [svc2] at h
    split at h
    · rename_i hc; exact wp_cond_true (hh.eval hc) (ihx o1 s Q Qx a w h hs hQ)
    · rename_i hc; exact wp_cond_false (hh.eval hc) (ihy o2 s Q Qx a w h hs hQ)
    · rename_i g hc
      have hg := hh.eval hc
      split at h
      · rename_i t
        cases h with
        | mk h1 h2 =>
          cases hb : g () with
          | true => exact wp_cond_true (by rw [show a.eval (.tmp t) = .bool (g ()) from hg, hb]) (ihx o1 _ Q Qx a w (h1 hb) (hs.lb hc hb) hQ)
          | false => exact wp_cond_false (by rw [show a.eval (.tmp t) = .bool (g ()) from hg, hb]) (ihy o2 _ Q Qx a w (h2 hb) (hs.lb hc hb) hQ)
      · exact h.elim
    · rename_i neg C hc
      split at h
      · rename_i t
        cases h with
        | mk h1 h2 =>
          obtain ⟨b, e1, e2, e3⟩ := hs.nb hc
          cases b with
          | true => exact wp_cond_true e1 (ihx o1 _ Q Qx a w (h1 fun e => e2 (by rw [e]; rfl)) e3 hQ)
          | false => exact wp_cond_false e1 (ihy o2 _ Q Qx a w (h2 fun e => e2 (by rw [e]; rfl)) e3 hQ)
      · exact h.elim
    · exact h.elim
  | block id c ih =>
    intro hok s Q Qx a w h hs hQ
    refine wp_block (ih hok s _ _ a w h hs fun e s' hq => ?_)
    cases e with
    | normal => exact hQ .normal s' hq
    | ret => exact hQ .ret s' hq
    | exit id' =>
      dsimp only at hq
      split at hq
      · rename_i hb
        have hb := beq_eq hb
        subst hb
        have := hQ .normal s' hq
        intro a' w' hd hh
        simp only [XE.out, Exit.inBlock, if_pos]
        exact this a' w' hd hh
      · rename_i hb
        have hne : ¬ id' = id := by rintro rfl; simp at hb
        have := hQ (.exit id') s' hq
        intro a' w' hd hh
        simp only [XE.out, Exit.inBlock, if_neg hne]
        exact this a' w' hd hh
  | loop c ih =>
    intro hok s Q Qx a w h hs hQ
    obtain ⟨I, J, h0, h1, h2⟩ := h
    refine wp_loop_ghost (fun n a w => (∃ x, I.m x = n ∧ Sat AI G (I.inv x) a w) ∨ ∃ x, J.m x = n ∧ Sat AI G (J.inv x) a w) (I.m I.x0) (.inl ⟨I.x0, rfl, h0.sound hn0 hs⟩) fun n a w hx => ?_
    rcases hx with ⟨x, rfl, hx⟩ | ⟨x, rfl, hx⟩
    · refine ih hok (I.inv x) _ _ a w (h1 x) hx fun e s' hq => ?_
      cases e with
      | normal =>
        obtain ⟨y, h2, h3⟩ := hq
        exact fun a' w' hd hh => ⟨J.m y, h2, .inr ⟨y, rfl, h3.sound hn0 ⟨hd, hh⟩⟩⟩
      | ret => exact hQ .ret s' hq
      | exit id => exact hQ (.exit id) s' hq
    · refine ih hok (J.inv x) _ _ a w (h2 x) hx fun e s' hq => ?_
      cases e with
      | normal =>
        obtain ⟨y, h2, h3⟩ := hq
        exact fun a' w' hd hh => ⟨J.m y, h2, .inr ⟨y, rfl, h3.sound hn0 ⟨hd, hh⟩⟩⟩
      | ret => exact hQ .ret s' hq
      | exit id => exact hQ (.exit id) s' hq
  | exit id => intro _ s Q Qx a w h hs hQ; exact wp_exit (th (hQ _ _ h) hs)
  | ret => intro _ s Q Qx a w h hs hQ; exact wp_ret (th (hQ _ _ h) hs)
  | scope c ih =>
    intro hok s Q Qx a w h hs hQ
    refine wp_scope_straight (ih hok s Q _ a w h hs fun e s' hq => ?_)
    cases e <;> exact hQ _ s' hq
  | label l => intro _ s Q Qx a w h; exact h.elim
  | goto l => intro _ s Q Qx a w h; exact h.elim
  | refuse y => intro _ s Q Qx a w h; exact h.elim
  | rangeFunc f p x y _ _ => intro _ s Q Qx a w h; exact h.elim


theorem body_ok2 [SubA A] {E : Env A} (hE : EnvOk P AI E) (hm : P.follows .mixedOrders = true) {f : FuncId} {fn : Func} {c : Code} (hf : P.funcs[f]? = some fn) (hb : fn.body = some c) (hok : codeOk fn.ntmps c = true) {args : List SV} (hargs : args.length ≤ fn.ntmps) {H0 : List (Chunk A)} {n0 : Nat}
    {v : SV} {H1 : List (Chunk A)} (h : svc2 E n0 c ⟨argT 0 args, H0⟩ (finP E.ti n0 fn.results.toList v H1)) (hG : G.n0 = n0) (hsz : G.size = 0) {us : List Value} (hh : Holds AI G ⟨[], H0⟩ ρ #[] w) (hd : All2 (Den ρ) args us) :
    Calls P f us.toArray w fun e w' => ∃ y ρ', e = .returned y ∧ Holds AI G ⟨[], H1⟩ ρ' #[] w' ∧ Den ρ' v y := by
  refine calls_of_wp hf hb ?_
  have hlen := hd.length
  have h1 := hh.enter hd (n := fn.ntmps) (by omega)
  refine svc2_sound (AI := AI) (G := { G with size := fn.ntmps }) hE hm hG c hok _ _ _ _ w h ⟨rfl, ρ, h1⟩ fun e s' hq => ?_
  refine bodyPost_of (AI := AI) (G := { G with size := fn.ntmps }) hE.ti hG hq (R := fun e w' => ∃ y ρ', e = .returned y ∧ Holds AI G ⟨[], H1⟩ ρ' #[] w' ∧ Den ρ' v y) fun y ρ' w' h2 h3 => ⟨y, ρ', rfl, ?_, h3⟩
  have e1 : ({ { G with size := fn.ntmps } with size := 0 } : Fr) = G := by cases G; simp at hsz; subst hsz; rfl
  rw [e1] at h2
  exact h2

theorem tmpl_of_body2 [SubA A] {E : Env A} (hE : EnvOk P AI E) (hm : P.follows .mixedOrders = true) {f : FuncId} {fn : Func} {c : Code} (hf : P.funcs[f]? = some fn) (hb : fn.body = some c) (hok : codeOk fn.ntmps c = true) {args : List SV} (hargs : args.length ≤ fn.ntmps) {H0 : List (Chunk A)}
    {v : SV} {H1 : List (Chunk A)} (h : svc2 E H0.length c ⟨argT 0 args, H0⟩ (finP E.ti H0.length fn.results.toList v H1)) : TmplOk P AI f args H0 v H1 :=
  fun _ _ _ _ hG hsz hh hd => body_ok2 hE hm hf hb hok hargs h hG hsz hh hd

theorem tmpl_obj2 [SubA A] {E : Env A} (hE : EnvOk P (absOf lay tq) E) (hm : P.follows .mixedOrders = true) {f : FuncId} {fn : Func} {c : Code} (hf : P.funcs[f]? = some fn) (hb : fn.body = some c) (hok : codeOk fn.ntmps c = true) {args : List SV} (hargs : args.length ≤ fn.ntmps)
    {x x' : A} {rest rest' : List (Chunk A)} (hl : LayOk (lay x)) (hl' : LayOk (lay x')) (hrl : rest'.length = rest.length) (hflat : rest'.all flatC = true) {v : SV} (hv : closedV v = true)
    (h : svc2 E (rest.length + 1) c ⟨argT 0 args, openObj (lay x) rest⟩ (finP E.ti (rest.length + 1) fn.results.toList v (openObj (lay x') rest'))) :
    TmplOk P (absOf lay tq) f args (.abs x :: rest) v (.abs x' :: rest') := by
  intro G ρ w us hG hsz hh hd
  simp only [List.length_cons] at hG
  obtain ⟨ρ1, h1, le1⟩ := hh.open_ (i := 0) (base := rest.length + 1) (x := x) rfl (by omega) (fun k hk => getC_beyond (by simpa using hk)) hl (H' := openObj (lay x) rest)
    (fun j hj => by have := openObj_part (rest := rest) (news := []) hj; simpa using this) (fun k hk => by
      have := openObj_other (news := []) hl.pos hk
      rw [List.append_nil] at this
      rw [this]
      split
      · rename_i hlt
        cases k with
        | zero => exact absurd rfl (hk 0 hl.pos)
        | succ k => rfl
      · rename_i hlt
        rw [getC_beyond (show ([] : List (Chunk A)).length ≤ _ by simp), getC_beyond (by simp; omega)])
  refine (body_ok2 hE hm hf hb hok hargs h hG hsz h1 (hd.mono fun _ _ => Den.mono le1)).mono ?_
  rintro e w' ⟨y, ρ2, rfl, h2, h3⟩
  obtain ⟨ρ3, h4, h5, _⟩ := h2.close_obj hl' hflat (by omega)
  exact ⟨y, ρ3, rfl, h4, closedV_den h5 hv h3⟩

end Go.Sx

/-
  Symbolic execution: constructors that return an object and data.
-/
namespace Go.Sx
set_option linter.all false
set_option linter.unusedVariables false
set_option linter.unusedSimpArgs false
set_option linter.unusedSectionVars false
open Go.RowKit
variable {A : Type} {AI : Abs A} {P : Program}
structure MakeRSpec (A : Type) where
  ds : List DT
  pre : Tup ds → Prop
  rs : List DT
  f : Tup ds → Tup rs
  put : U (Tup ds) → A
def MakeRSpec.con (k : MakeRSpec A) : Con A := fun args fresh => match ofs k.ds args with
  | some x => some ⟨[fresh], 1, true, fun cs _ => match cs with
    | [.emp] => .done (fun _ => k.pre (x ())) (resOf (.one (.ptr fresh 0) :: svs k.rs (fun _ => k.f (x ())))) [.abs (k.put x)]
    | _ => .fail⟩
  | none => none
structure MakeRSpec.Ok (P : Program) (AI : Abs A) (fn : FuncId) (k : MakeRSpec A) : Prop where
  put : ∀ x, k.put x = k.put (fun _ => x ())
  ok : ∀ x, k.pre x → TmplOk P AI fn (argS k.ds (fun _ => x)) [] (resOf (.one (.ptr 0 0) :: svs k.rs (fun _ => k.f x))) [.abs (k.put (fun _ => x))]
theorem MakeRSpec.sound {fn : FuncId} {k : MakeRSpec A} (hen : Enters P fn) (hk : k.Ok P AI fn) : ConSound P AI fn k.con := by
  refine ⟨hen, fun args fresh p hp hw H d C v cs he => ?_, fun G s ρ tmps w args us fresh p d C v cs h hargs hp hfr he hC => ?_⟩
  · unfold MakeRSpec.con at hp
    split at hp <;> cases hp
    simp at hw
  · unfold MakeRSpec.con at hp
    split at hp <;> cases hp
    rename_i x hx
    have hemp : getC s.H fresh = .emp := hfr fresh (by simp) (Nat.le_refl _)
    simp only [getCs, hemp] at he
    have hd := ofs_den hx hargs
    simp at he
    obtain ⟨rfl, rfl, rfl⟩ := he
    refine (frame_call (hk.ok (x ()) hC) (s := s) (H' := putC s.H fresh (.abs (k.put x))) (ids := []) (news := [fresh]) h (by simp) rfl (fun i hi => by simp at hi; subst hi; exact hemp) (by simp) (fun j i hj => ?_) (fun i' hi' => by
        rw [getC_putC, if_neg (by simpa using hi')]) (us := us) (fun ρc hM hr => argS_den hd hM)
      (v := resOf (.one (.ptr fresh 0) :: svs k.rs (fun _ => k.f (x ())))) (fun ρc ρ' hM hr _ y hy => Den_ptr_cons (fun u hu => ?_) hM (svs_closed _ _) hy)).mono ?_
    · cases j with
      | zero =>
        simp at hj
        subst hj
        exact ⟨by rw [getC_putC, if_pos rfl, hk.put]; rfl, (fun t cs => by simp [getC, nth]), fun ks e L R c q => by simp [getC, nth]⟩
      | succ j => simp at hj
    · obtain ⟨b, h1, h2⟩ := hu
      exact ⟨b, by rw [hr 0 fresh rfl]; exact h1, h2⟩
    · rintro e w' ⟨y, ρ', rfl, h1, h2, h3⟩
      exact ⟨y, ρ', rfl, h1, h2, h3⟩
end Go.Sx

/-
  Symbolic execution: strings.Count of line ends.
-/
namespace Go.Sx
set_option linter.all false
set_option linter.unusedVariables false
set_option linter.unusedSimpArgs false
set_option linter.unusedSectionVars false
open Go.RowKit Go.Proofs
variable {A : Type} {AI : Abs A} {P : Program}
/-- strings.Count of line ends. -/
def countCon : Con A := fun args _ => match args with
  | [.val (.one (.str s)), .val (.one (.str t))] => some ⟨[], 0, false, fun _ _ => .done (fun _ => t () = [10]) (one (.int .i64 (fun _ => ((((s ()).map fun x => x.toNat.toUInt8).count 10 : Nat) : Int)))) []⟩
  | _ => none
theorem countCon_sound {f : FuncId} (enf : Enters P f) (hF : ∀ (s : ByteArray) (w : World), Calls P f #[.string s, .string ⟨#[10]⟩] w fun e w' => e = .returned (.int .i64 (s.data.toList.count 10 : Nat)) ∧ w' = w) : ConSound P AI f (countCon (A := A)) := by
  refine ⟨enf, fun args fresh p hp hw H d C v cs he => ?_, fun G s ρ tmps w args us fresh p d C v cs h hargs hp hfr he hC => ?_⟩
  · unfold countCon at hp
    split at hp <;> cases hp
    simp at he
    simp [getCs, he]
  · unfold countCon at hp
    split at hp <;> cases hp
    simp at he
    obtain ⟨rfl, rfl, rfl⟩ := he
    cases hargs with
    | cons ha hr =>
    cases hr with
    | cons hb hnil =>
    cases hnil
    obtain rfl := ha
    obtain rfl := hb
    have e : ∀ t : U (List Int), t () = [10] → Value.string ⟨((t ()).map fun x => x.toNat.toUInt8).toArray⟩ = .string ⟨#[10]⟩ := fun t h => by rw [h]; rfl
    have hC := e _ hC
    rw [hC]
    refine (hF _ w).mono ?_
    rintro e w' ⟨rfl, rfl⟩
    exact ⟨_, ρ, rfl, h, rfl, Ev.Le.refl _⟩
end Go.Sx
