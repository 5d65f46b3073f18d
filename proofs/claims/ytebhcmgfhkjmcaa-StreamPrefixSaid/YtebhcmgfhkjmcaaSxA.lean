/-
  Symbolic execution, meaning: what a symbolic value, a chunk and a state say of a world.
-/
import Derived.Test.YtebhcmgfhkjmcaaSxDefs
import Derived.Deep.AppendSrc
import Derived.Maps.OwnOps
import Derived.MapKept
import Derived.Maps.RangeRun
namespace Go.Sx
set_option linter.all false
set_option linter.unusedVariables false
set_option linter.unusedSimpArgs false
set_option linter.unusedSectionVars false
open Go.RowKit

/-- Pointwise. -/
inductive All2 {α β : Type} (R : α → β → Prop) : List α → List β → Prop
  | nil : All2 R [] []
  | cons {a b l m} (h : R a b) (t : All2 R l m) : All2 R (a :: l) (b :: m)

theorem All2.length {α β : Type} {R : α → β → Prop} {l : List α} {m : List β} (h : All2 R l m) : l.length = m.length := by
  induction h with
  | nil => rfl
  | cons _ _ ih => simp [ih]
theorem All2.mono {α β : Type} {R R' : α → β → Prop} {l : List α} {m : List β} (h : All2 R l m) (hr : ∀ a b, R a b → R' a b) : All2 R' l m := by
  induction h with
  | nil => exact .nil
  | cons h _ ih => exact .cons (hr _ _ h) ih
theorem All2.nth {α β : Type} {R : α → β → Prop} {l : List α} {m : List β} (h : All2 R l m) : ∀ {i a}, nth l i = some a → ∃ b, m[i]? = some b ∧ R a b := by
  induction h with
  | nil => intro i a h; cases h
  | cons h _ ih =>
    intro i a hi
    cases i with
    | zero => cases hi; exact ⟨_, rfl, h⟩
    | succ i => obtain ⟨b, hb, hr⟩ := ih (i := i) hi; exact ⟨b, by simpa using hb, hr⟩
theorem All2.append {α β : Type} {R : α → β → Prop} {l l' : List α} {m m' : List β} (h : All2 R l m) (h' : All2 R l' m') : All2 R (l ++ l') (m ++ m') := by
  induction h with
  | nil => exact h'
  | cons h _ ih => exact .cons h ih
theorem All2.takeN {α β : Type} {R : α → β → Prop} {l : List α} {m : List β} (h : All2 R l m) : ∀ {n l'}, takeN l n = some l' → All2 R l' (m.take n) ∧ l'.length = n := by
  induction h with
  | nil => intro n l' hn; cases n <;> simp [Sx.takeN] at hn; subst hn; exact ⟨.nil, rfl⟩
  | cons h _ ih =>
    intro n l' hn
    cases n with
    | zero => simp [Sx.takeN] at hn; subst hn; exact ⟨.nil, rfl⟩
    | succ n =>
      simp only [Sx.takeN] at hn
      split at hn
      · rename_i l2 h2
        cases hn
        obtain ⟨h3, h4⟩ := ih h2
        exact ⟨.cons h h3, by simp [h4]⟩
      · cases hn
theorem All2.cut {α β : Type} {R : α → β → Prop} {l : List α} {m : List β} (h : All2 R l m) : ∀ {o n l'}, cut l o n = some l' → All2 R l' ((m.drop o).take n) ∧ l'.length = n := by
  induction h with
  | nil => intro o n l' hn; cases o <;> simp [Sx.cut] at hn; simpa using All2.takeN (R := R) .nil hn
  | @cons a b l m h t ih =>
    intro o n l' hn
    cases o with
    | zero => simp only [Sx.cut] at hn; simpa using (All2.cons h t).takeN hn
    | succ o => simp only [Sx.cut] at hn; simpa using ih hn
def pasteV {α : Type} (m : List α) (o : Nat) (u : List α) : List α := m.take o ++ u ++ m.drop (o + u.length)
theorem All2.paste {α β : Type} {R : α → β → Prop} {l : List α} {m : List β} (h : All2 R l m) : ∀ {o vs us l'}, All2 R vs us → paste l o vs = some l' → All2 R l' (pasteV m o us) ∧ l'.length = l.length ∧ (vs ≠ [] → o + us.length ≤ m.length) := by
  induction h with
  | nil =>
    intro o vs us l' hv hn
    cases hv with
    | nil => simp [Sx.paste] at hn; subst hn; exact ⟨by simpa [pasteV] using All2.nil, rfl, by simp⟩
    | cons _ _ => cases o <;> simp [Sx.paste] at hn
  | @cons a b l m h t ih =>
    intro o vs us l' hv hn
    cases hv with
    | nil =>
      have : l' = a :: l := by cases o <;> simp [Sx.paste] at hn <;> exact hn.symm
      subst this
      exact ⟨by simpa [pasteV] using All2.cons h t, rfl, by simp⟩
    | @cons v u vs us hvu hvs =>
      cases o with
      | zero =>
        simp only [Sx.paste] at hn
        split at hn
        · rename_i l2 h2
          cases hn
          obtain ⟨h3, h4, h5⟩ := ih hvs h2
          refine ⟨by simpa [pasteV] using All2.cons hvu h3, by simp [h4], fun _ => ?_⟩
          by_cases hv0 : vs = []
          · subst hv0; cases hvs; simp
          · have := h5 hv0; simp at this ⊢; omega
        · cases hn
      | succ o =>
        simp only [Sx.paste] at hn
        split at hn
        · rename_i l2 h2
          cases hn
          obtain ⟨h3, h4, h5⟩ := ih (.cons hvu hvs) h2
          refine ⟨?_, by simp [h4], fun h0 => ?_⟩
          · have e : pasteV (b :: m) (o + 1) (u :: us) = b :: pasteV m o (u :: us) := by
              simp only [pasteV, List.take_succ_cons, List.cons_append, List.length_cons]; rw [show o + 1 + (us.length + 1) = (o + (us.length + 1)) + 1 by omega, List.drop_succ_cons]
            rw [e]; exact .cons h h3
          · have := h5 (by simp); simp at this ⊢; omega
        · cases hn

/-- Memory that stays as it is. -/
abbrev Mem := Nat → Nat → Option Value

/-- The bytes that a slice shows. -/
def ShowsB (M : Mem) (l : List Int) (v : Value) : Prop :=
  ∃ ao cap, v = .slice ao l.length cap ∧ l.length ≤ cap ∧ (0 < l.length → ∃ b off, ao = some ⟨b, off, none⟩ ∧ ∀ j x, l[j]? = some x → M b (off + j) = some (.int .u8 x))

/-- The cells of an element. -/
def CellsM (M : Mem) : (e : Ty) → e.T → (Nat → Option Value) → Prop
  | .int k, n, c => c 0 = some (.int k n)
  | .bool, b, c => c 0 = some (.bool b)
  | .bytes, l, c => ∃ v, c 0 = some v ∧ ShowsB M l v
  | .str, l, c => c 0 = some (.string ⟨(l.map fun x => x.toNat.toUInt8).toArray⟩)
  | .unit, _, _ => True
  | .pair a b, x, c => CellsM M a x.1 c ∧ CellsM M b x.2 (fun j => c (a.size + j))
  | .lst e, L, c => ∃ v, c 0 = some v ∧ ∃ ao cap, v = .slice ao (@List.length e.T L) cap ∧ @List.length e.T L ≤ cap ∧ (0 < @List.length e.T L → ∃ b off, ao = some ⟨b, off, none⟩ ∧ ∀ (j : Nat) (x : e.T), (show List e.T from L)[j]? = some x → CellsM M e x (fun i => M b (off + j * e.size + i)))

def ShowsM (M : Mem) (e : Ty) (L : List e.T) (v : Value) : Prop :=
  ∃ ao cap, v = .slice ao L.length cap ∧ L.length ≤ cap ∧ (0 < L.length → ∃ b off, ao = some ⟨b, off, none⟩ ∧ ∀ j x, L[j]? = some x → CellsM M e x (fun i => M b (off + j * e.size + i)))

theorem cellsM_lst {M : Mem} {e : Ty} {L : List e.T} {c : Nat → Option Value} : CellsM M (.lst e) L c ↔ ∃ v, c 0 = some v ∧ ShowsM M e L v := Iff.rfl
theorem showsB_iff {M : Mem} {l : List Int} {v : Value} : ShowsB M l v ↔ ShowsM M (.int .u8) l v := by
  simp [ShowsB, ShowsM, CellsM, Ty.size]

structure Ev where
  root : Nat → Value
  ver : Nat → Nat
  M : Mem
  foot : Nat → List Nat

/-- The slice v is the part lo, n of the slice r (elements of esz cells). -/
def VwAt (r : Value) (esz : Nat) (lo n : Int) (v : Value) : Prop :=
  ∃ ao len cap, r = .slice ao len cap ∧ 0 ≤ lo ∧ 0 ≤ n ∧ lo + n ≤ len ∧ len ≤ cap ∧ v = .slice (if cap = lo.toNat then ao else ao.map (·.add (lo.toNat * esz))) n.toNat (cap - lo.toNat)

def Den1 (ρ : Ev) : SV1 → Value → Prop
  | .int k n, v => v = .int k (n ())
  | .li k n, v => v = .int k n
  | .sb b, v => v = .bool (b ())
  | .lb b, v => v = .bool b
  | .str l, v => v = .string ⟨((l ()).map fun x => x.toNat.toUInt8).toArray⟩
  | .v x, v => v = x
  | .nilS, v => v = .slice none 0 0
  | .nilP, v => v = .pointer none
  | .ptr i off, v => ∃ b, ρ.root i = .pointer (some ⟨b, 0, none⟩) ∧ v = .pointer (some ⟨b, off, none⟩)
  | .ro e L, v => ShowsM ρ.M e (L ()) v
  | .hd i ver, v => (∃ ao l c, v = .slice ao l c) ∧ ver ≤ ρ.ver i ∧ (ver = ρ.ver i → v = ρ.root i)
  | .vw i ver esz lo n, v => (∃ ao l c, v = .slice ao l c) ∧ (0 ≤ n () → ∃ ao c, v = .slice ao (n ()).toNat c) ∧ ver ≤ ρ.ver i ∧ (ver = ρ.ver i → VwAt (ρ.root i) esz (lo ()) (n ()) v)
  | .ep i ver esz k off, v => ∃ p, v = .pointer (some p) ∧ ver ≤ ρ.ver i ∧ (ver = ρ.ver i → 0 ≤ k () ∧ ∃ b o len cap, ρ.root i = .slice (some ⟨b, o, none⟩) len cap ∧ p = ⟨b, o + (k ()).toNat * esz + off, none⟩)
  | .rp e L k off, v => ∃ b o, v = .pointer (some ⟨b, o + off, none⟩) ∧ 0 ≤ k () ∧ k () < (L ()).length ∧ ∀ x, (L ())[(k ()).toNat]? = some x → CellsM ρ.M e x (fun i => ρ.M b (o + i))
  | .mp i, v => ∃ b, ρ.root i = .pointer (some ⟨b, 0, none⟩) ∧ v = .map (some b)
  | .nb neg C, v => ∃ b, v = .bool b ∧ (b = !neg → C ())
  | .any, _ => True

def Den2 (ρ : Ev) : SV2 → Value → Prop
  | .one x, v => Den1 ρ x v
  | .agg l, v => ∃ vs, v = .agg vs.toArray ∧ All2 (Den1 ρ) l vs
  | .fn f caps, v => ∃ vs, v = .func (.func f) #[] vs.toArray ∧ All2 (Den1 ρ) caps vs

def Den (ρ : Ev) : SV → Value → Prop
  | .val x, v => Den2 ρ x v
  | .tup l, v => ∃ vs, v = .tuple vs.toArray ∧ All2 (Den2 ρ) l vs

/-- A row of elements that may be written to. -/
def RowAt (M : Mem) (w : World) (e : Ty) (L : List e.T) (r : Value) (F : List Nat) : Prop :=
  ((∃ ao, r = .slice ao 0 0) ∧ L = [] ∧ F = []) ∨
  ∃ b off cap, r = .slice (some ⟨b, off, none⟩) L.length cap ∧ F = [b] ∧ L.length ≤ cap ∧ cap ≤ maxLen ∧
    (∀ j x, L[j]? = some x → CellsM M e x (fun i => w.cell? ⟨b, off + j * e.size + i, none⟩)) ∧
    ∀ j, j < cap * e.size → (w.cell? ⟨b, off + j, none⟩).isSome = true ∧ w.frozen? ⟨b, off + j, none⟩ = false

def KT.mk : (k : KT) → k.T → Value
  | .int k, n => .int k n
  | .str, l => .string ⟨(l.map fun x => x.toNat.toUInt8).toArray⟩

/-- The value of an element of form e. -/
def ValIs (M : Mem) (e : Ty) (x : e.T) (v : Value) : Prop :=
  ∃ vs : List Value, vs.length = e.size ∧ CellsM M e x (fun j => vs[j]?) ∧ match e.agg with | true => v = .agg vs.toArray | false => vs = [v]

/-- A key that stands for itself. -/
def KT.ok : (k : KT) → k.T → Prop
  | .int _, _ => True
  | .str, l => ∀ x ∈ l, 0 ≤ x ∧ x < 256

/-- The entries of a map. -/
def MapAt (M : Mem) (ks : KT) (e : Ty) (L : List (ks.T × e.T)) (es : List MapEntry) (clock : Nat) : Prop :=
  All2 (fun p (m : MapEntry) => m.key = ks.mk p.1 ∧ ks.ok p.1 ∧ ValIs M e p.2 m.val) L es ∧ (es.map (·.born)).Pairwise (· < ·) ∧ ∀ m ∈ es, m.born < clock

def EntAt (M : Mem) (ks : KT) (e : Ty) (p : ks.T × e.T) (m : MapEntry) : Prop := m.key = ks.mk p.1 ∧ ks.ok p.1 ∧ ValIs M e p.2 m.val
/-- Block b is a map that the iterator in block r ranges over. -/
def RmapAt (M : Mem) (w : World) (ks : KT) (e : Ty) (L R : List (ks.T × e.T)) (c : Option (U (ks.T × e.T))) (b r : Nat) : Prop :=
  b ≠ r ∧ ∃ es clock since seen, w.heap[b]? = some (.map es clock) ∧ w.heap[r]? = some (.mapIter (some b) since seen clock) ∧ MapAt M ks e L es.toList clock ∧ (∀ m ∈ es.toList, m.born < since) ∧ since ≤ clock ∧
    All2 (EntAt M ks e) R (leftOf es seen).toList ∧ ∀ p, c = some p → ∃ m seen', m ∈ es.toList ∧ seen = Array.push seen' m.born ∧ EntAt M ks e (p ()) m

/-- What stands for the abstract objects. -/
structure Abs (A : Type) where
  I : A → Mem → Value → List Nat → World → Prop
  root : ∀ {a M r F w}, I a M r F w → ∃ b, r = .pointer (some ⟨b, 0, none⟩)
  stays : ∀ {a M M' r F w w'}, I a M r F w → (∀ b o v, M b o = some v → M' b o = some v) → (∀ b ∈ F, w'.heap[b]? = w.heap[b]?) → I a M' r F w'

def HoldsC {A : Type} (AI : Abs A) (ρ : Ev) (w : World) (i : Nat) : Chunk A → Prop
  | .emp => ρ.foot i = [] ∧ ρ.root i = .bool false ∧ ρ.ver i = 0
  | .gone => True
  | .cells t cs => ∃ b vs, ρ.root i = .pointer (some ⟨b, 0, none⟩) ∧ ρ.foot i = [b] ∧ w.heap[b]? = some (.cells vs.toArray t (0, 0)) ∧ All2 (Den1 ρ) cs vs
  | .row _ e ver L => ver = ρ.ver i ∧ RowAt ρ.M w e (L ()) (ρ.root i) (ρ.foot i)
  | .map ks e L => ∃ b es clock, ρ.root i = .pointer (some ⟨b, 0, none⟩) ∧ ρ.foot i = [b] ∧ w.heap[b]? = some (.map es clock) ∧ MapAt ρ.M ks e (L ()) es.toList clock
  | .rmap ks e L R c j => ∃ b r, ρ.root i = .pointer (some ⟨b, 0, none⟩) ∧ ρ.root j = .pointer (some ⟨r, 0, none⟩) ∧ ρ.foot i = [b, r] ∧ RmapAt ρ.M w ks e (L ()) (R ()) c b r
  | .itp _ => ρ.foot i = [] ∧ ∃ r, ρ.root i = .pointer (some ⟨r, 0, none⟩)
  | .abs a => AI.I a ρ.M (ρ.root i) (ρ.foot i) w

/-- The frame of a call: the world at its start, the blocks that it owns, the first chunks' pointers, the memory that stays. -/
structure Fr where
  w0 : World
  own : Nat → Prop
  n0 : Nat
  root0 : Nat → Value
  M0 : Mem
  size : Nat
  ver0 : Nat → Nat := fun _ => 0

structure Holds {A : Type} (AI : Abs A) (G : Fr) (s : SS A) (ρ : Ev) (tmps : Array Value) (w : World) : Prop where
  sz : tmps.size = G.size
  tm : ∀ t v, look s.tm t = some v → ∃ u, tmps[t]? = some u ∧ Den ρ v u
  ch : ∀ i, HoldsC AI ρ w i (getC s.H i)
  dis : ∀ i j b, i ≠ j → b ∈ ρ.foot i → b ∉ ρ.foot j
  lt : ∀ i b, b ∈ ρ.foot i → b < w.heap.size
  im : ∀ b o v, ρ.M b o = some v → w.cell? ⟨b, o, none⟩ = some v ∧ ∀ i, b ∉ ρ.foot i
  os : w.os = G.w0.os
  tape : w.tape = G.w0.tape
  output : w.output = G.w0.output
  grow : G.w0.heap.size ≤ w.heap.size
  kept : ∀ b, b < G.w0.heap.size → ¬ G.own b → w.heap[b]? = G.w0.heap[b]?
  fro : ∀ i b, b ∈ ρ.foot i → G.own b ∨ G.w0.heap.size ≤ b
  rt : ∀ i b, i < G.n0 → G.root0 i = .pointer (some ⟨b, 0, none⟩) → ρ.root i = .pointer (some ⟨b, 0, none⟩)
  rts : ∀ i, i < G.n0 → G.ver0 i ≤ ρ.ver i ∧ ∀ ao l c, G.root0 i = .slice ao l c → ρ.ver i = G.ver0 i → ρ.root i = .slice ao l c
  mono : ∀ b o v, G.M0 b o = some v → ρ.M b o = some v
  mfr : ∀ b o v, ρ.M b o = some v → G.M0 b o = some v ∨ G.own b ∨ G.w0.heap.size ≤ b

def Sat {A : Type} (AI : Abs A) (G : Fr) (s : SS A) (a : Act) (w : World) : Prop := a.defers = [] ∧ ∃ ρ, Holds AI G s ρ a.tmps w

end Go.Sx
