/-
  Symbolic execution: what stays when the world takes a step.
-/
import Derived.Test.YtebhcmgfhkjmcaaSxB
namespace Go.Sx
set_option linter.all false
set_option linter.unusedVariables false
set_option linter.unusedSimpArgs false
set_option linter.unusedSectionVars false
open Go.RowKit

structure Ev.Le (ρ ρ' : Ev) : Prop where
  M : ∀ b o v, ρ.M b o = some v → ρ'.M b o = some v
  ptr : ∀ i b, ρ.root i = .pointer (some ⟨b, 0, none⟩) → ρ'.root i = .pointer (some ⟨b, 0, none⟩)
  ver : ∀ i, ρ.ver i ≤ ρ'.ver i
  same : ∀ i, ρ.ver i = ρ'.ver i → (∃ ao l c, ρ.root i = .slice ao l c) → ρ'.root i = ρ.root i

theorem Ev.Le.refl (ρ : Ev) : Ev.Le ρ ρ := ⟨fun _ _ _ h => h, fun _ _ h => h, fun _ => Nat.le_refl _, fun _ _ _ => rfl⟩

theorem Den1.mono {ρ ρ' : Ev} (le : ρ.Le ρ') {x : SV1} {v : Value} (h : Den1 ρ x v) : Den1 ρ' x v := by
  cases x <;> simp only [Den1] at h ⊢ <;> try exact h
  case ptr i off => obtain ⟨b, h1, h2⟩ := h; exact ⟨b, le.ptr i b h1, h2⟩
  case mp i => obtain ⟨b, h1, h2⟩ := h; exact ⟨b, le.ptr i b h1, h2⟩
  case ro e L => exact h.monoM le.M
  case hd i ver =>
    obtain ⟨h1, h2, h3⟩ := h
    refine ⟨h1, Nat.le_trans h2 (le.ver i), fun e => ?_⟩
    have e1 : ρ.ver i = ρ'.ver i := Nat.le_antisymm (le.ver i) (e ▸ h2)
    have e2 := h3 (by omega)
    rw [e2, le.same i e1 (by rw [← e2]; exact h1)]
  case vw i ver esz lo n =>
    obtain ⟨h1, h0, h2, h3⟩ := h
    refine ⟨h1, h0, Nat.le_trans h2 (le.ver i), fun e => ?_⟩
    have e1 : ρ.ver i = ρ'.ver i := Nat.le_antisymm (le.ver i) (e ▸ h2)
    have e2 := h3 (by omega)
    obtain ⟨ao, len, cap, e3, _⟩ := id e2
    rw [le.same i e1 ⟨_, _, _, e3⟩]; exact e2
  case ep i ver esz k off =>
    obtain ⟨p, h1, h2, h3⟩ := h
    refine ⟨p, h1, Nat.le_trans h2 (le.ver i), fun e => ?_⟩
    have e1 : ρ.ver i = ρ'.ver i := Nat.le_antisymm (le.ver i) (e ▸ h2)
    obtain ⟨h4, b, o, len, cap, e3, e4⟩ := h3 (by omega)
    exact ⟨h4, b, o, len, cap, by rw [le.same i e1 ⟨_, _, _, e3⟩]; exact e3, e4⟩
  case rp e L k off =>
    obtain ⟨b, o, h1, h2, h3, h4⟩ := h
    exact ⟨b, o, h1, h2, h3, fun x hx => CellsM.congr e (CellsM.mono le.M e (h4 x hx)) fun _ _ _ h => le.M _ _ _ h⟩
theorem Den2.mono {ρ ρ' : Ev} (le : ρ.Le ρ') {x : SV2} {v : Value} (h : Den2 ρ x v) : Den2 ρ' x v := by
  cases x with
  | one x => exact Den1.mono le h
  | agg l => obtain ⟨vs, h1, h2⟩ := h; exact ⟨vs, h1, h2.mono fun _ _ => Den1.mono le⟩
  | fn f l => obtain ⟨vs, h1, h2⟩ := h; exact ⟨vs, h1, h2.mono fun _ _ => Den1.mono le⟩
theorem Den.mono {ρ ρ' : Ev} (le : ρ.Le ρ') {x : SV} {v : Value} (h : Den ρ x v) : Den ρ' x v := by
  cases x with
  | val x => exact Den2.mono le h
  | tup l => obtain ⟨vs, h1, h2⟩ := h; exact ⟨vs, h1, h2.mono fun _ _ => Den2.mono le⟩

theorem cell_congr {w w' : World} {b : Nat} (h : w'.heap[b]? = w.heap[b]?) (o : Nat) : w'.cell? ⟨b, o, none⟩ = w.cell? ⟨b, o, none⟩ := World.cell?_of_block (w := w) h
theorem frozen_congr {w w' : World} {b : Nat} (h : w'.heap[b]? = w.heap[b]?) (o : Nat) : w'.frozen? ⟨b, o, none⟩ = w.frozen? ⟨b, o, none⟩ := World.frozen?_of_block (w := w) h

theorem RowAt.stays {M M' : Mem} {w w' : World} {e : Ty} {L : List e.T} {r : Value} {F : List Nat} (h : RowAt M w e L r F) (hm : ∀ b o v, M b o = some v → M' b o = some v) (hb : ∀ b ∈ F, w'.heap[b]? = w.heap[b]?) : RowAt M' w' e L r F := by
  rcases h with h | ⟨b, off, cap, rfl, rfl, h1, h2, h3, h4⟩
  · exact .inl h
  · have e := hb b (by simp)
    refine .inr ⟨b, off, cap, rfl, rfl, h1, h2, fun j x hj => ?_, fun j hj => ?_⟩
    · have := CellsM.mono hm _ (h3 j x hj)
      simpa only [cell_congr e] using this
    · rw [cell_congr e, frozen_congr e]; exact h4 j hj

theorem ValIs.mono {M M' : Mem} (hm : ∀ b o v, M b o = some v → M' b o = some v) {e : Ty} {x : e.T} {v : Value} (h : ValIs M e x v) : ValIs M' e x v := by
  obtain ⟨vs, h1, h2, h3⟩ := h; exact ⟨vs, h1, CellsM.mono hm e h2, h3⟩
theorem MapAt.mono {M M' : Mem} (hm : ∀ b o v, M b o = some v → M' b o = some v) {ks : KT} {e : Ty} {L : List (ks.T × e.T)} {es : List MapEntry} {clock : Nat} (h : MapAt M ks e L es clock) : MapAt M' ks e L es clock :=
  ⟨h.1.mono fun _ _ h => ⟨h.1, h.2.1, h.2.2.mono hm⟩, h.2⟩

theorem EntAt.mono {M M' : Mem} (hm : ∀ b o v, M b o = some v → M' b o = some v) {ks : KT} {e : Ty} {p : ks.T × e.T} {m : MapEntry} (h : EntAt M ks e p m) : EntAt M' ks e p m := ⟨h.1, h.2.1, h.2.2.mono hm⟩
theorem RmapAt.mono {M M' : Mem} (hm : ∀ b o v, M b o = some v → M' b o = some v) {w w' : World} {ks : KT} {e : Ty} {L R : List (ks.T × e.T)} {c : Option (U (ks.T × e.T))} {b r : Nat} (h : RmapAt M w ks e L R c b r) (h1 : w'.heap[b]? = w.heap[b]?) (h2 : w'.heap[r]? = w.heap[r]?) : RmapAt M' w' ks e L R c b r := by
  obtain ⟨h0, es, clock, since, seen, a1, a2, a3, a4, a5, a6, a7⟩ := h
  refine ⟨h0, es, clock, since, seen, h1.trans a1, h2.trans a2, a3.mono hm, a4, a5, a6.mono fun _ _ h => h.mono hm, fun p hp => ?_⟩
  obtain ⟨m, seen', b1, b2, b3⟩ := a7 p hp
  exact ⟨m, seen', b1, b2, b3.mono hm⟩

theorem HoldsC.stays {A : Type} {AI : Abs A} {ρ ρ' : Ev} {w w' : World} {i : Nat} {c : Chunk A} (h : HoldsC AI ρ w i c) (le : ρ.Le ρ')
    (hr : ρ'.root i = ρ.root i) (hv : ρ'.ver i = ρ.ver i) (hf : ρ'.foot i = ρ.foot i) (hb : ∀ b ∈ ρ.foot i, w'.heap[b]? = w.heap[b]?) : HoldsC AI ρ' w' i c := by
  cases c with
  | emp => simp only [HoldsC] at h ⊢; rw [hf, hr, hv]; exact h
  | gone => trivial
  | cells t cs =>
    obtain ⟨b, vs, h1, h2, h3, h4⟩ := h
    exact ⟨b, vs, hr.trans h1, hf.trans h2, (hb b (by simp [h2])).trans h3, h4.mono fun _ _ => Den1.mono le⟩
  | row t e ver L =>
    obtain ⟨h1, h2⟩ := h
    refine ⟨h1.trans hv.symm, ?_⟩
    rw [hr, hf]
    exact h2.stays le.M hb
  | map ks e L =>
    obtain ⟨b, es, clock, h1, h2, h3, h4⟩ := h
    exact ⟨b, es, clock, hr.trans h1, hf.trans h2, (hb b (by simp [h2])).trans h3, h4.mono le.M⟩
  | rmap ks e L R c j =>
    obtain ⟨b, r, h1, h2, h3, h4⟩ := h
    exact ⟨b, r, hr.trans h1, le.ptr j r h2, hf.trans h3, h4.mono le.M (hb b (by simp [h3])) (hb r (by simp [h3]))⟩
  | itp q => obtain ⟨h1, r, h2⟩ := h; exact ⟨hf.trans h1, r, hr.trans h2⟩
  | abs a =>
    simp only [HoldsC] at h ⊢
    rw [hr, hf]
    exact AI.stays h le.M hb

theorem Holds.step {A : Type} {AI : Abs A} {G : Fr} {s : SS A} {ρ ρ' : Ev} {tmps : Array Value} {w w' : World} {H' : List (Chunk A)} (h : Holds AI G s ρ tmps w) (S : Nat → Prop)
    (le : ρ.Le ρ') (hM : ρ'.M = ρ.M)
    (same : ∀ i, ¬ S i → ρ'.root i = ρ.root i ∧ ρ'.ver i = ρ.ver i ∧ ρ'.foot i = ρ.foot i ∧ getC H' i = getC s.H i)
    (foot : ∀ i, S i → ∀ b ∈ ρ'.foot i, ((∃ k, S k ∧ b ∈ ρ.foot k) ∨ w.heap.size ≤ b) ∧ b < w'.heap.size)
    (disS : ∀ i j b, S i → S j → i ≠ j → b ∈ ρ'.foot i → b ∉ ρ'.foot j)
    (blocks : ∀ b, b < w.heap.size → (∀ i, S i → b ∉ ρ.foot i) → w'.heap[b]? = w.heap[b]?)
    (os : w'.os = w.os) (tape : w'.tape = w.tape) (output : w'.output = w.output) (size : w.heap.size ≤ w'.heap.size)
    (chS : ∀ i, S i → HoldsC AI ρ' w' i (getC H' i)) : Holds AI G ⟨s.tm, H'⟩ ρ' tmps w' := by
  have hS : ∀ i, S i ∨ ¬ S i := fun i => Classical.em _
  have nodis : ∀ i j b, ¬ S i → S j → b ∈ ρ.foot i → b ∉ ρ'.foot j := by
    intro i j b hi hj hb hb'
    rcases (foot j hj b hb').1 with ⟨k, hk, hbk⟩ | hge
    · exact h.dis k i b (fun e => hi (e ▸ hk)) hbk hb
    · have := h.lt i b hb; omega
  have fblk : ∀ i, ¬ S i → ∀ b ∈ ρ.foot i, w'.heap[b]? = w.heap[b]? := fun i hi b hb => blocks b (h.lt i b hb) fun k hk hbk => h.dis k i b (fun e => hi (e ▸ hk)) hbk hb
  refine ⟨h.sz, fun t v ht => ?_, fun i => ?_, fun i j b hij hi hj => ?_, fun i b hb => ?_, fun b o v hm => ?_, os.trans h.os, tape.trans h.tape, output.trans h.output, Nat.le_trans h.grow size, fun b hb hn => ?_, fun i b hb => ?_, fun i b hi hb => le.ptr i b (h.rt i b hi hb), fun i hi => ?_, fun b o v hm => hM ▸ h.mono b o v hm, fun b o v hm => h.mfr b o v (hM ▸ hm)⟩
  · obtain ⟨u, h1, h2⟩ := h.tm t v ht; exact ⟨u, h1, h2.mono le⟩
  · rcases hS i with hi | hi
    · exact chS i hi
    · obtain ⟨e1, e2, e3, e4⟩ := same i hi
      show HoldsC AI ρ' w' i (getC H' i)
      rw [e4]
      exact (h.ch i).stays le e1 e2 e3 (fblk i hi)
  · rcases hS i with si | si <;> rcases hS j with sj | sj
    · exact disS i j b si sj hij hi hj
    · rw [(same j sj).2.2.1] at hj; exact nodis j i b sj si hj hi
    · rw [(same i si).2.2.1] at hi; exact nodis i j b si sj hi hj
    · rw [(same i si).2.2.1] at hi; rw [(same j sj).2.2.1] at hj; exact h.dis i j b hij hi hj
  · rcases hS i with si | si
    · exact (foot i si b hb).2
    · rw [(same i si).2.2.1] at hb; exact Nat.lt_of_lt_of_le (h.lt i b hb) size
  · rw [hM] at hm
    obtain ⟨h1, h2⟩ := h.im b o v hm
    have hlt : b < w.heap.size := World.block_lt_of_cell? w ⟨b, o, none⟩ h1
    refine ⟨(cell_congr (blocks b hlt fun k _ => h2 k) o).trans h1, fun i hb => ?_⟩
    rcases hS i with si | si
    · rcases (foot i si b hb).1 with ⟨k, _, hk⟩ | hge
      · exact h2 k hk
      · omega
    · rw [(same i si).2.2.1] at hb; exact h2 i hb
  · refine (blocks b (Nat.lt_of_lt_of_le hb h.grow) fun k hk hbk => ?_).trans (h.kept b hb hn)
    rcases h.fro k b hbk with h1 | h1
    · exact hn h1
    · omega
  · rcases hS i with si | si
    · rcases (foot i si b hb).1 with ⟨k, _, hk⟩ | hge
      · exact h.fro k b hk
      · exact .inr (Nat.le_trans h.grow hge)
    · rw [(same i si).2.2.1] at hb; exact h.fro i b hb
  · obtain ⟨hv0, hs⟩ := h.rts i hi
    refine ⟨Nat.le_trans hv0 (le.ver i), fun ao l c hb hv => ?_⟩
    have h0 : ρ.ver i = G.ver0 i := Nat.le_antisymm (hv ▸ le.ver i) hv0
    have h1 := hs ao l c hb h0
    rw [le.same i (by rw [h0, hv]) ⟨_, _, _, h1⟩]; exact h1

theorem Holds.congrH {A : Type} {AI : Abs A} {G : Fr} {s : SS A} {ρ : Ev} {tmps : Array Value} {w : World} {H' : List (Chunk A)} (h : Holds AI G s ρ tmps w) (e : ∀ i, getC H' i = getC s.H i) : Holds AI G ⟨s.tm, H'⟩ ρ tmps w :=
  ⟨h.sz, h.tm, fun i => by show HoldsC AI ρ w i (getC H' i); rw [e]; exact h.ch i, h.dis, h.lt, h.im, h.os, h.tape, h.output, h.grow, h.kept, h.fro, h.rt, h.rts, h.mono, h.mfr⟩

theorem getC_putC {A : Type} : ∀ (H : List (Chunk A)) (i j : Nat) (c : Chunk A), getC (putC H i c) j = if j = i then c else getC H j
  | [], 0, 0, c => rfl
  | [], 0, j + 1, c => by simp [getC, putC, nth]
  | [], i + 1, 0, c => by simp [getC, putC, nth]
  | [], i + 1, j + 1, c => by
    have := getC_putC [] i j c
    simp only [getC, putC, nth] at this ⊢
    simpa using this
  | x :: r, 0, 0, c => rfl
  | x :: r, 0, j + 1, c => by simp [getC, putC, nth]
  | x :: r, i + 1, 0, c => by simp [getC, putC, nth]
  | x :: r, i + 1, j + 1, c => by
    have := getC_putC r i j c
    simp only [getC, putC, nth] at this ⊢
    simpa using this

theorem putC_self {A : Type} (H : List (Chunk A)) (i j : Nat) : getC (putC H i (getC H i)) j = getC H j := by
  rw [getC_putC]; split
  · rename_i h; rw [h]
  · rfl
theorem putCs_self {A : Type} : ∀ (ids : List Nat) (H H0 : List (Chunk A)), (∀ j, getC H j = getC H0 j) → ∀ j, getC (putCs H ids (getCs H0 ids)) j = getC H0 j
  | [], _, _, h, j => by simpa [putCs, getCs] using h j
  | i :: r, H, H0, h, j => by
    simp only [putCs, getCs]
    exact putCs_self r (putC H i (getC H0 i)) H0 (fun k => by rw [← h i, putC_self, h k]) j

/-- A temporary is written. -/
theorem Holds.put {A : Type} {AI : Abs A} {G : Fr} {s : SS A} {ρ : Ev} {a : Act} {w : World} (h : Holds AI G s ρ a.tmps w) {dst : Option Tmp} {v : SV} {u : Value} (hd : ∀ t, dst = some t → t < G.size) (hv : Den ρ v u) :
    Holds AI G ⟨putT s.tm dst v, s.H⟩ ρ (a.put dst u).tmps w := by
  cases dst with
  | none => exact h
  | some t =>
    have hlt := hd t rfl
    refine ⟨by simp [Act.put, h.sz], fun k x hk => ?_, h.ch, h.dis, h.lt, h.im, h.os, h.tape, h.output, h.grow, h.kept, h.fro, h.rt, h.rts, h.mono, h.mfr⟩
    simp only [putT, look] at hk
    by_cases e : t = k
    · subst e
      simp at hk
      subst hk
      exact ⟨u, by simp [Act.put, h.sz, hlt], hv⟩
    · rw [show beqN t k = false by cases hb : beqN t k; rfl; exact absurd (beqN_iff.1 hb) e] at hk
      obtain ⟨y, h1, h2⟩ := h.tm k x hk
      exact ⟨y, by simp only [Act.put, Array.getElem?_setIfInBounds]; rw [if_neg e]; exact h1, h2⟩
theorem Act.put_defers' (a : Act) (dst : Option Tmp) (u : Value) : (a.put dst u).defers = a.defers := by cases dst <;> rfl

end Go.Sx
