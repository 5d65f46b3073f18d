/-
  Symbolic execution: operations that write or make memory.
-/
import Derived.Test.YtebhcmgfhkjmcaaSxF
import Derived.Deep.AppendSrc
import Derived.OwnWalk
namespace Go.Sx
set_option linter.all false
set_option linter.unusedVariables false
set_option linter.unusedSimpArgs false
set_option linter.unusedSectionVars false
open Go.RowKit

variable {A : Type} {AI : Abs A} {G : Fr} {s : SS A} {ρ : Ev} {a : Act} {w : World} {P : Program}

def Ev.upd (ρ : Ev) (i : Nat) (r : Value) (v : Nat) (F : List Nat) : Ev :=
  { root := fun k => if k = i then r else ρ.root k, ver := fun k => if k = i then v else ρ.ver k, M := ρ.M, foot := fun k => if k = i then F else ρ.foot k }

theorem Holds.upd1 {tmps : Array Value} (h : Holds AI G s ρ tmps w) (i : Nat) (r : Value) (v : Nat) (F : List Nat) (c : Chunk A) (w' : World)
    (hr : ∀ b, ρ.root i = .pointer (some ⟨b, 0, none⟩) → r = .pointer (some ⟨b, 0, none⟩)) (hv : ρ.ver i ≤ v) (hs : ρ.ver i = v → (∃ ao l c, ρ.root i = .slice ao l c) → r = ρ.root i)
    (foot : ∀ b ∈ F, (b ∈ ρ.foot i ∨ w.heap.size ≤ b) ∧ b < w'.heap.size)
    (blocks : ∀ b, b < w.heap.size → b ∉ ρ.foot i → w'.heap[b]? = w.heap[b]?)
    (os : w'.os = w.os) (tape : w'.tape = w.tape) (output : w'.output = w.output) (size : w.heap.size ≤ w'.heap.size)
    (hc : HoldsC AI (ρ.upd i r v F) w' i c) : Holds AI G ⟨s.tm, putC s.H i c⟩ (ρ.upd i r v F) tmps w' ∧ ρ.Le (ρ.upd i r v F) := by
  have le : ρ.Le (ρ.upd i r v F) := by
    refine ⟨fun _ _ _ h => h, fun k b hk => ?_, fun k => ?_, fun k e hk => ?_⟩
    · simp only [Ev.upd]; split
      · rename_i e; subst e; exact hr b hk
      · exact hk
    · simp only [Ev.upd]; split
      · rename_i e; subst e; exact hv
      · exact Nat.le_refl _
    · simp only [Ev.upd] at e ⊢; split
      · rename_i e'; subst e'; rw [if_pos rfl] at e; exact hs e hk
      · rfl
  refine ⟨h.step (fun k => k = i) le rfl (fun k hk => ?_) (fun k hk b hb => ?_) (fun k j b hk hj hkj _ => ?_) (fun b hb hn => blocks b hb (hn i rfl)) os tape output size (fun k hk => ?_), le⟩
  · simp [Ev.upd, hk, getC_putC]
  · subst hk
    simp only [Ev.upd, if_pos] at hb
    obtain ⟨h1, h2⟩ := foot b hb
    exact ⟨h1.imp (fun h => ⟨k, rfl, h⟩) id, h2⟩
  · exact absurd (hk.trans hj.symm) hkj
  · subst hk
    rw [getC_putC, if_pos rfl]
    exact hc

/-- What an operation yields: a value, a new world in which the new chunks hold. -/
def Done (AI : Abs A) (G : Fr) (P : Program) (s : SS A) (a : Act) (w : World) (ρ : Ev) (x : Sem Value) (H' : List (Chunk A)) (v : SV) : Prop :=
  ∃ y ρ' w', x.run P w = .ok y w' ∧ Holds AI G ⟨s.tm, H'⟩ ρ' a.tmps w' ∧ Den ρ' v y ∧ ρ.Le ρ'

theorem Done.looks (h : Holds AI G s ρ a.tmps w) {p : Plan A} {cs : List (Chunk A)} {x : Sem Value} {v : SV} (hl : Looks s p cs) (hx : ∃ y, x.run P w = .ok y w ∧ Den ρ v y) :
    Done AI G P s a w ρ x (putCs s.H p.ids cs) v := by
  obtain ⟨y, h1, h2⟩ := hx
  refine ⟨y, ρ, w, h1, h.congrH fun i => ?_, h2, .refl _⟩
  rw [hl]; exact putCs_self _ _ _ (fun _ => rfl) i

theorem alloc_get (w : World) (o : Obj) : (w.alloc o).heap[w.heap.size]? = some o := by show (w.heap.push o)[w.heap.size]? = some o; simp
theorem alloc_lt (w : World) (o : Obj) {b : Nat} (hb : b < w.heap.size) : (w.alloc o).heap[b]? = w.heap[b]? := Below.heap_alloc w o b hb

/-- What is new stays as it is. -/
theorem Holds.more {tmps : Array Value} (h : Holds AI G s ρ tmps w) {w' : World} (old : ∀ b, b < w.heap.size → w'.heap[b]? = w.heap[b]?) (os : w'.os = w.os) (tape : w'.tape = w.tape) (output : w'.output = w.output) (size : w.heap.size ≤ w'.heap.size) :
    ∃ ρ' : Ev, Holds AI G s ρ' tmps w' ∧ ρ.Le ρ' ∧ ρ'.root = ρ.root ∧ ρ'.ver = ρ.ver ∧ ρ'.foot = ρ.foot ∧ ∀ b o v, w.heap.size ≤ b → w'.cell? ⟨b, o, none⟩ = some v → ρ'.M b o = some v := by
  have hM : ∀ b o v, ρ.M b o = some v → b < w.heap.size := fun b o v hm => World.block_lt_of_cell? w ⟨b, o, none⟩ (h.im b o v hm).1
  let ρ' : Ev := { ρ with M := fun b o => if w.heap.size ≤ b then w'.cell? ⟨b, o, none⟩ else ρ.M b o }
  have le : ρ.Le ρ' := ⟨fun b o v hm => by have := hM b o v hm; simp only [ρ']; rw [if_neg (by omega)]; exact hm, fun _ _ h => h, fun _ => Nat.le_refl _, fun _ _ _ => rfl⟩
  refine ⟨ρ', ⟨h.sz, fun t v ht => ?_, fun i => (h.ch i).stays le rfl rfl rfl fun b hb => old b (h.lt i b hb), h.dis, fun i b hb => Nat.lt_of_lt_of_le (h.lt i b hb) size, fun b o v hm => ?_, os.trans h.os, tape.trans h.tape, output.trans h.output, Nat.le_trans h.grow size,
    fun b hb hn => (old b (Nat.lt_of_lt_of_le hb h.grow)).trans (h.kept b hb hn), h.fro, h.rt, h.rts, fun b o v hm => le.M b o v (h.mono b o v hm), fun b o v hm => ?_⟩, le, rfl, rfl, rfl, fun b o v hb hc => by simp only [ρ']; rw [if_pos hb]; exact hc⟩
  · obtain ⟨u, h1, h2⟩ := h.tm t v ht; exact ⟨u, h1, h2.mono le⟩
  · simp only [ρ'] at hm
    split at hm
    · rename_i hb
      exact ⟨hm, fun i hi => by have := h.lt i b hi; omega⟩
    · have := hM b o v hm
      exact ⟨(cell_congr (old b this) o).trans (h.im b o v hm).1, (h.im b o v hm).2⟩
  · simp only [ρ'] at hm
    split at hm
    · rename_i hb; exact .inr (.inr (Nat.le_trans h.grow hb))
    · exact h.mfr b o v hm

/-- A new chunk of cells. -/
theorem Holds.alloc (h : Holds AI G s ρ a.tmps w) {i : Nat} (hi : getC s.H i = .emp) {t : TypeId} {cs : List SV1} {vs : List Value} (hd : All2 (Den1 ρ) cs vs) :
    ∃ ρ', Holds AI G ⟨s.tm, putC s.H i (.cells t cs)⟩ ρ' a.tmps (w.alloc (.cells vs.toArray t (0, 0))) ∧ Den ρ' (one (.ptr i 0)) (.pointer (some ⟨w.heap.size, 0, none⟩)) ∧ ρ.Le ρ' := by
  have hc := h.ch i
  rw [hi] at hc
  obtain ⟨h1, h2, h3⟩ := hc
  obtain ⟨h4, h5⟩ := h.upd1 i (.pointer (some ⟨w.heap.size, 0, none⟩)) 0 [w.heap.size] (.cells t cs) (w.alloc (.cells vs.toArray t (0, 0)))
    (by rw [h2]; simp) (by omega) (by rw [h2]; simp) (by simp) (fun b hb _ => alloc_lt w _ hb) rfl rfl rfl (by simp)
    (by
      refine ⟨w.heap.size, vs, by simp [Ev.upd], by simp [Ev.upd], alloc_get _ _, hd.mono fun _ _ hx => Den1.mono ?_ hx⟩
      refine ⟨fun _ _ _ h => h, fun k b hk => ?_, fun k => ?_, fun k e hk => ?_⟩
      · simp only [Ev.upd]; split
        · rename_i e; subst e; rw [h2] at hk; cases hk
        · exact hk
      · simp only [Ev.upd]; split
        · rename_i e; subst e; omega
        · exact Nat.le_refl _
      · simp only [Ev.upd]; split
        · rename_i e; subst e; rw [h2] at hk; obtain ⟨_, _, _, hk⟩ := hk; cases hk
        · rfl)
  exact ⟨_, h4, ⟨w.heap.size, by simp [Ev.upd], rfl⟩, h5⟩

theorem storable_one {x : SV1} {v : Value} (h : storable x = true) (hd : Den1 ρ x v) : v.oneCell' = true := by
  cases x <;> simp [storable] at h <;> simp only [Den1] at hd
  case ptr => obtain ⟨_, _, rfl⟩ := hd; rfl
  case mp => obtain ⟨_, _, rfl⟩ := hd; rfl
  case ro => obtain ⟨_, _, rfl, _⟩ := hd; rfl
  case hd => obtain ⟨⟨_, _, _, rfl⟩, _⟩ := hd; rfl
  case vw => obtain ⟨⟨_, _, _, rfl⟩, _⟩ := hd; rfl
  case ep => obtain ⟨_, rfl, _⟩ := hd; rfl
  case rp => obtain ⟨_, _, rfl, _⟩ := hd; rfl
  all_goals (subst hd; rfl)

theorem All2.storable {l : List SV1} {vs : List Value} (hd : All2 (Den1 ρ) l vs) (h : l.all Sx.storable = true) : ∀ v ∈ vs, v.oneCell' = true := by
  induction hd with
  | nil => simp
  | cons h1 _ ih =>
    simp only [List.all_cons, Bool.and_eq_true] at h
    intro v hv
    rcases List.mem_cons.1 hv with rfl | hv
    · exact storable_one h.1 h1
    · exact ih h.2 v hv

theorem cellsOf_den {v : SV} {l : List SV1} (h : cellsOf v = some l) {u : Value} (hu : Den ρ v u) (hs : l.all Sx.storable = true) : All2 (Den1 ρ) l u.cells.toList := by
  cases v with
  | tup l => cases h
  | val x =>
    cases x with
    | one x =>
      cases h
      simp only [List.all_cons, List.all_nil, Bool.and_true] at hs
      have := storable_one hs hu
      have e : u.cells = #[u] := by cases u <;> simp [Value.oneCell'] at this <;> rfl
      rw [e]; exact .cons hu .nil
    | agg l' => cases h; obtain ⟨vs, rfl, h2⟩ := hu; simpa [Value.cells] using h2
    | fn f l' => cases h

theorem All2.getElem {α β : Type} {R : α → β → Prop} {l : List α} {m : List β} (h : All2 R l m) {j : Nat} {b : β} (hb : m[j]? = some b) : ∃ a, l[j]? = some a ∧ R a b := by
  induction h generalizing j with
  | nil => simp at hb
  | cons h _ ih =>
    cases j with
    | zero => simp at hb; subst hb; exact ⟨_, rfl, h⟩
    | succ j => obtain ⟨a, h1, h2⟩ := ih (by simpa using hb); exact ⟨a, by simpa using h1, h2⟩

theorem store_ptr {t : TypeId} {i : TI} (hT : TIfact P t i) (h : Holds AI G s ρ a.tmps w) {k off : Nat} {ct : TypeId} {l l' vs : List SV1} {u v : Value} (hu : Den ρ (one (.ptr k off)) u) (hk : getC s.H k = .cells ct l)
    (hv : All2 (Den1 ρ) vs v.cells.toList) (hsz : vs.length = i.size) (hst : vs.all storable = true) (hp : paste l off vs = some l') :
    ∃ w', (Instr.storeAt t u v).run P w = .ok () w' ∧ Holds AI G ⟨s.tm, putC s.H k (.cells ct l')⟩ ρ a.tmps w' := by
  obtain ⟨b, h1, rfl⟩ := hu
  have hc := h.ch k
  rw [hk] at hc
  obtain ⟨b', us, h2, h3, h4, h5⟩ := hc
  rw [h1] at h2
  cases h2
  obtain ⟨h6, h7, h8⟩ := h5.paste hv hp
  have hlen : v.cells.toList.length = i.size := by rw [← hv.length, hsz]
  have hlen' : v.cells.size = i.size := by simpa using hlen
  by_cases h0 : vs = []
  · subst h0
    have e0 : v.cells.toList = [] := by generalize v.cells.toList = q at hv; cases hv; rfl
    have : l' = l := by cases l <;> cases off <;> simp [paste] at hp <;> first | exact hp.symm | exact hp
    subst this
    refine ⟨w, ?_, h.congrH fun j => ?_⟩
    · simp [Instr.storeAt, Instr.sureAddr, storeVar, hT.sizeOf, hlen', e0, storeCells]
    · rw [← hk, putC_self]
  · have h8 := h8 h0
    have hrun := run_storeCells_at (P := P) b off ct v.cells.toList 0 us.toArray w h4 (by simpa using h8) (hv.storable hst)
    simp only [Nat.add_zero] at hrun
    refine ⟨_, by simp [Instr.storeAt, Instr.sureAddr, storeVar, hT.sizeOf, hlen']; exact hrun, ?_⟩
    have hself : ρ.upd k (ρ.root k) (ρ.ver k) (ρ.foot k) = ρ := by
      cases ρ; simp only [Ev.upd, Ev.mk.injEq, true_and]
      exact ⟨by funext j; split <;> simp_all, by funext j; split <;> simp_all, by funext j; split <;> simp_all⟩
    have hblt : b < w.heap.size := h.lt k b (by simp [h3])
    have := (h.upd1 k (ρ.root k) (ρ.ver k) (ρ.foot k) (.cells ct l') (w.setRow b (us.toArray.toList.take off ++ v.cells.toList ++ us.toArray.toList.drop (off + v.cells.toList.length)).toArray)
      (fun _ h => h) (Nat.le_refl _) (fun _ _ => rfl) (fun b' hb' => ⟨.inl hb', by rw [setRow_size]; exact h.lt k b' hb'⟩)
      (fun b' hb' hn => setRow_other w b b' _ (fun e => hn (by rw [h3, e]; simp))) rfl rfl rfl (by simp)
      (by rw [hself]; exact ⟨b, _, h1, h3, setRow_heap w b _ _ ct (0, 0) h4, h6⟩)).1
    rwa [hself] at this

end Go.Sx
