/-
  Symbolic execution: abstract objects (opened and closed), a function's body, a contract in another state.
-/
import Derived.Test.YtebhcmgfhkjmcaaSxQ
namespace Go.Sx
set_option linter.all false
set_option linter.unusedVariables false
set_option linter.unusedSimpArgs false
set_option linter.unusedSectionVars false
open Go.RowKit

variable {A : Type} {G : Fr} {s : SS A} {ρ : Ev} {a : Act} {w : World} {P : Program}

/-! ### abstract objects: by the parts that they have -/
inductive AbsC (lay : A → List (Chunk A)) (w : World) : Ev → Nat → Chunk A → Prop
  | emp {ρ i} (h1 : ρ.foot i = []) (h2 : ρ.root i = .bool false) (h3 : ρ.ver i = 0) : AbsC lay w ρ i .emp
  | gone {ρ i} : AbsC lay w ρ i .gone
  | cells {ρ i t cs b vs} (h1 : ρ.root i = .pointer (some ⟨b, 0, none⟩)) (h2 : ρ.foot i = [b]) (h3 : w.heap[b]? = some (.cells vs t (0, 0))) (h4 : All2 (Den1 ρ) cs vs.toList) : AbsC lay w ρ i (.cells t cs)
  | row {ρ i t e ver L} (h1 : ver = ρ.ver i) (h2 : RowAt ρ.M w e (L ()) (ρ.root i) (ρ.foot i)) : AbsC lay w ρ i (.row t e ver L)
  | map {ρ i ks e L b es clock} (h1 : ρ.root i = .pointer (some ⟨b, 0, none⟩)) (h2 : ρ.foot i = [b]) (h3 : w.heap[b]? = some (.map es clock)) (h4 : MapAt ρ.M ks e (L ()) es.toList clock) : AbsC lay w ρ i (.map ks e L)
  | rmap {ρ i ks e L R c j b r} (h1 : ρ.root i = .pointer (some ⟨b, 0, none⟩)) (h2 : ρ.root j = .pointer (some ⟨r, 0, none⟩)) (h3 : ρ.foot i = [b, r]) (h4 : RmapAt ρ.M w ks e (L ()) (R ()) c b r) : AbsC lay w ρ i (.rmap ks e L R c j)
  | itp {ρ i q r} (h1 : ρ.foot i = []) (h2 : ρ.root i = .pointer (some ⟨r, 0, none⟩)) : AbsC lay w ρ i (.itp q)
  | abs {ρ i x} (ρ' : Ev) (hM : ρ'.M = ρ.M) (hr : ρ'.root 0 = ρ.root i) (hp : ∃ b, ρ.root i = .pointer (some ⟨b, 0, none⟩)) (hf : ∀ b, b ∈ ρ.foot i ↔ ∃ j, j < (lay x).length ∧ b ∈ ρ'.foot j)
      (hd : ∀ j k b, j < (lay x).length → k < (lay x).length → j ≠ k → b ∈ ρ'.foot j → b ∉ ρ'.foot k) (hc : ∀ j, j < (lay x).length → AbsC lay w ρ' j (getC (lay x) j)) : AbsC lay w ρ i (.abs x)

theorem AbsC.stays {lay : A → List (Chunk A)} {i : Nat} {c : Chunk A} (h : AbsC lay w ρ i c) : ∀ {M' : Mem} {w' : World}, (∀ b o v, ρ.M b o = some v → M' b o = some v) → (∀ b ∈ ρ.foot i, w'.heap[b]? = w.heap[b]?) → AbsC lay w' { ρ with M := M' } i c := by
  induction h with
  | emp h1 h2 h3 => intro M' w' _ _; exact .emp h1 h2 h3
  | gone => intro M' w' _ _; exact .gone
  | @cells ρ i t cs b vs h1 h2 h3 h4 =>
    intro M' w' hm hb
    refine .cells h1 h2 ((hb b (by simp [h2])).trans h3) (h4.mono fun x v hx => Den1.mono (ρ := ρ) (ρ' := { ρ with M := M' }) ⟨hm, fun _ _ h => h, fun _ => Nat.le_refl _, fun _ _ _ => rfl⟩ hx)
  | @row ρ i t e ver L h1 h2 => intro M' w' hm hb; exact .row h1 (h2.stays hm hb)
  | map h1 h2 h3 h4 => intro M' w' hm hb; exact .map h1 h2 ((hb _ (by simp [h2])).trans h3) (h4.mono hm)
  | rmap h1 h2 h3 h4 => intro M' w' hm hb; exact .rmap h1 h2 h3 (h4.mono hm (hb _ (by simp [h3])) (hb _ (by simp [h3])))
  | itp h1 h2 => intro M' w' hm hb; exact .itp h1 h2
  | @abs ρ i x ρ' hM hr hp hf hd hc ih =>
    intro M' w' hm hb
    refine .abs { ρ' with M := M' } rfl hr hp hf hd fun j hj => ?_
    exact ih j hj (fun b o v h => hm b o v (hM ▸ h)) fun b hb' => hb b ((hf b).2 ⟨j, hj, hb'⟩)

/-- The meaning of the objects with these parts. -/
def absOf (lay : A → List (Chunk A)) : Abs A where
  I x M r F w := ∃ ρ i, AbsC lay w ρ i (.abs x) ∧ ρ.M = M ∧ ρ.root i = r ∧ ρ.foot i = F
  root := by
    rintro x M r F w ⟨ρ, i, h, rfl, rfl, rfl⟩
    cases h with
    | abs ρ' hM hr hp => exact hp
  stays := by
    rintro x M M' r F w w' ⟨ρ, i, h, rfl, rfl, rfl⟩ hm hb
    exact ⟨{ ρ with M := M' }, i, h.stays hm hb, rfl, rfl, rfl⟩

variable {lay : A → List (Chunk A)}

theorem holdsC_of {i : Nat} {c : Chunk A} (h : AbsC lay w ρ i c) : HoldsC (absOf lay) ρ w i c := by
  cases h with
  | emp h1 h2 h3 => exact ⟨h1, h2, h3⟩
  | gone => trivial
  | @cells ρ i t cs b vs h1 h2 h3 h4 => exact ⟨b, vs.toList, h1, h2, by simpa using h3, h4⟩
  | row h1 h2 => exact ⟨h1, h2⟩
  | map h1 h2 h3 h4 => exact ⟨_, _, _, h1, h2, h3, h4⟩
  | rmap h1 h2 h3 h4 => exact ⟨_, _, h1, h2, h3, h4⟩
  | itp h1 h2 => exact ⟨h1, _, h2⟩
  | abs ρ' hM hr hp hf hd hc => exact ⟨ρ, i, .abs ρ' hM hr hp hf hd hc, rfl, rfl, rfl⟩
theorem of_holdsC {i : Nat} {c : Chunk A} (h : HoldsC (absOf lay) ρ w i c) : AbsC lay w ρ i c := by
  cases c with
  | emp => exact .emp h.1 h.2.1 h.2.2
  | gone => exact .gone
  | cells t cs => obtain ⟨b, vs, h1, h2, h3, h4⟩ := h; exact .cells (vs := vs.toArray) h1 h2 h3 (by simpa using h4)
  | row t e ver L => exact .row h.1 h.2
  | map ks e L => obtain ⟨b, es, clock, h1, h2, h3, h4⟩ := h; exact .map h1 h2 h3 h4
  | rmap ks e L R c j => obtain ⟨b, r, h1, h2, h3, h4⟩ := h; exact .rmap h1 h2 h3 h4
  | itp q => obtain ⟨h1, r, h2⟩ := h; exact .itp h1 h2
  | abs x =>
    obtain ⟨ρ2, i2, h1, h2, h3, h4⟩ := h
    cases h1 with
    | abs ρ' hM hr hp hf hd hc => exact .abs ρ' (hM.trans h2) (hr.trans h3) (h3 ▸ hp) (fun b => by rw [← h4]; exact hf b) hd hc

theorem den_local {ρ ρ2 : Ev} {f : Nat → Nat} {m : Nat} (hM : ρ2.M = ρ.M) (hr : ∀ j, j < m → ρ2.root (f j) = ρ.root j) (hv : ∀ j, 0 < j → j < m → ρ2.ver (f j) = ρ.ver j) {x : SV1} (hx : idsLt m x = true) {v : Value} :
    Den1 ρ2 (ren1 f x) v ↔ Den1 ρ x v := by
  have lt : ∀ {i : Nat}, bltN i m = true → i < m := fun h => leN h
  have pos : ∀ {i : Nat}, bltN 0 i = true → 0 < i := fun h => leN h
  cases x <;> simp only [ren1, Den1, hM]
  case ptr i o => rw [hr i (lt hx)]
  case mp i => rw [hr i (lt hx)]
  case hd i ver =>
    obtain ⟨h1, h2⟩ := Bool.and_eq_true_iff.1 hx
    rw [hr i (lt h2), hv i (pos h1) (lt h2)]
  case vw i ver esz lo n =>
    obtain ⟨h1, h2⟩ := Bool.and_eq_true_iff.1 hx
    rw [hr i (lt h2), hv i (pos h1) (lt h2)]
  case ep i ver esz k o =>
    obtain ⟨h1, h2⟩ := Bool.and_eq_true_iff.1 hx
    rw [hr i (lt h2), hv i (pos h1) (lt h2)]

theorem dens_local {ρ ρ2 : Ev} {f : Nat → Nat} {m : Nat} (hM : ρ2.M = ρ.M) (hr : ∀ j, j < m → ρ2.root (f j) = ρ.root j) (hv : ∀ j, 0 < j → j < m → ρ2.ver (f j) = ρ.ver j) : ∀ {l : List SV1} {vs : List Value}, l.all (idsLt m) = true →
    (All2 (Den1 ρ2) (l.map (ren1 f)) vs ↔ All2 (Den1 ρ) l vs)
  | [], vs, _ => ⟨fun h => by cases h; exact .nil, fun h => by cases h; exact .nil⟩
  | x :: l, vs, hx => by
    simp only [List.all_cons, Bool.and_eq_true] at hx
    constructor
    · intro h; cases h with | cons h1 h2 => exact .cons ((den_local hM hr hv hx.1).1 h1) ((dens_local hM hr hv hx.2).1 h2)
    · intro h; cases h with | cons h1 h2 => exact .cons ((den_local hM hr hv hx.1).2 h1) ((dens_local hM hr hv hx.2).2 h2)

/-- A part that is laid elsewhere. -/
theorem part_iff {ρ ρ2 : Ev} {f : Nat → Nat} {m j : Nat} (hM : ρ2.M = ρ.M) (hr : ∀ j, j < m → ρ2.root (f j) = ρ.root j) (hv : ∀ j, 0 < j → j < m → ρ2.ver (f j) = ρ.ver j) (hf : ρ2.foot (f j) = ρ.foot j) (hj : j < m) {c : Chunk A} (hc : idsLtC m c = true)
    (hrow : 0 < j ∨ ∃ t cs, c = .cells t cs) : HoldsC (absOf lay) ρ2 w (f j) (renC f c) ↔ HoldsC (absOf lay) ρ w j c := by
  cases c with
  | emp =>
    rcases hrow with h | ⟨_, _, h⟩
    · simp only [renC, HoldsC, hf, hr j hj, hv j h hj]
    · cases h
  | gone => exact Iff.rfl
  | cells t cs =>
    simp only [renC, HoldsC, hf, hr j hj]
    constructor
    · rintro ⟨b, vs, h1, h2, h3, h4⟩; exact ⟨b, vs, h1, h2, h3, (dens_local hM hr hv hc).1 h4⟩
    · rintro ⟨b, vs, h1, h2, h3, h4⟩; exact ⟨b, vs, h1, h2, h3, (dens_local hM hr hv hc).2 h4⟩
  | row t e ver L =>
    rcases hrow with h | ⟨_, _, h⟩
    · simp only [renC, HoldsC, hf, hr j hj, hv j h hj, hM]
    · cases h
  | map ks e L => simp only [renC, HoldsC, hf, hr j hj, hM]
  | rmap ks e L R c j' => cases hc
  | itp q => cases hc
  | abs x => simp only [renC, HoldsC, hf, hr j hj, hM]

/-- What is asked of the parts of an object. -/
structure LayOk (l : List (Chunk A)) : Prop where
  pos : 0 < l.length
  head : ∃ t cs, getC l 0 = .cells t cs
  ids : ∀ j, j < l.length → idsLtC l.length (getC l j) = true

theorem place_inj {i base : Nat} (h : i < base) {j k : Nat} (e : place i base j = place i base k) : j = k := by
  cases j <;> cases k <;> simp [place] at e <;> omega

/-- An object is opened. -/
theorem Holds.open_ {tmps : Array Value} (h : Holds (absOf lay) G s ρ tmps w) {i base : Nat} {x : A} (hi : getC s.H i = .abs x) (hib : i < base) (hbase : ∀ k, base ≤ k → getC s.H k = .emp) (hl : LayOk (lay x)) {H' : List (Chunk A)}
    (hH : ∀ j, j < (lay x).length → getC H' (place i base j) = renC (place i base) (getC (lay x) j)) (hH2 : ∀ k, (∀ j, j < (lay x).length → k ≠ place i base j) → getC H' k = getC s.H k) :
    ∃ ρ', Holds (absOf lay) G ⟨s.tm, H'⟩ ρ' tmps w ∧ ρ.Le ρ' := by
  have hc := of_holdsC (hi ▸ h.ch i)
  cases hc with
  | abs ρ1 hM hr hp hf hd hc =>
  let m := (lay x).length
  -- the part that is laid at k
  let loc : Nat → Nat := fun k => if k = i then 0 else k - base + 1
  have hloc : ∀ j, loc (place i base j) = j := by
    intro j
    cases j with
    | zero => simp [loc, place]
    | succ j => simp only [loc, place]; rw [if_neg (by omega)]; omega
  let S : Nat → Prop := fun k => ∃ j, j < m ∧ k = place i base j
  let ρ2 : Ev := { root := fun k => open Classical in if S k then ρ1.root (loc k) else ρ.root k, ver := fun k => open Classical in if S k ∧ k ≠ i then ρ1.ver (loc k) else ρ.ver k, M := ρ.M, foot := fun k => open Classical in if S k then ρ1.foot (loc k) else ρ.foot k }
  have hS : ∀ j, j < m → S (place i base j) := fun j hj => ⟨j, hj, rfl⟩
  have hSk : ∀ k, S k → k = i ∨ base ≤ k := by
    rintro k ⟨j, _, rfl⟩
    cases j with
    | zero => exact .inl rfl
    | succ j => exact .inr (by simp [place])
  have e1 : ∀ j, j < m → ρ2.root (place i base j) = ρ1.root j := fun j hj => by simp only [ρ2]; rw [if_pos (hS j hj), hloc]
  have e2 : ∀ j, 0 < j → j < m → ρ2.ver (place i base j) = ρ1.ver j := fun j h0 hj => by
    simp only [ρ2]
    rw [if_pos ⟨hS j hj, by cases j with
      | zero => omega
      | succ j => simp [place]; omega⟩, hloc]
  have e3 : ∀ j, j < m → ρ2.foot (place i base j) = ρ1.foot j := fun j hj => by simp only [ρ2]; rw [if_pos (hS j hj), hloc]
  have hroot : ρ2.root i = ρ.root i := by have := e1 0 hl.pos; simp only [place] at this; rw [this, hr]
  have hemp : ∀ k, S k → k ≠ i → ρ.foot k = [] ∧ ρ.root k = .bool false ∧ ρ.ver k = 0 := by
    intro k hk hne
    have := h.ch k
    rw [hbase k ((hSk k hk).resolve_left hne)] at this
    exact this
  have le : ρ.Le ρ2 := by
    refine ⟨fun _ _ _ h => h, fun k b hk => ?_, fun k => ?_, fun k _ hk => ?_⟩
    · by_cases hSs : S k
      · by_cases hki : k = i
        · subst hki; rw [hroot]; exact hk
        · rw [(hemp k hSs hki).2.1] at hk; cases hk
      · simp only [ρ2]; rw [if_neg hSs]; exact hk
    · simp only [ρ2]
      split
      · rename_i hk; rw [(hemp k hk.1 hk.2).2.2]; exact Nat.zero_le _
      · exact Nat.le_refl _
    · by_cases hSs : S k
      · by_cases hki : k = i
        · subst hki; exact hroot
        · rw [(hemp k hSs hki).2.1] at hk; obtain ⟨_, _, _, hk⟩ := hk; cases hk
      · simp only [ρ2]; rw [if_neg hSs]
  refine ⟨ρ2, h.step S le rfl (fun k hk => ?_) (fun k hk b hb => ?_) (fun k k' b hk hk' hne hb hb' => ?_) (fun _ _ _ => rfl) rfl rfl rfl (Nat.le_refl _) (fun k hk => ?_), le⟩
  · refine ⟨by simp only [ρ2]; rw [if_neg hk], by simp only [ρ2]; rw [if_neg (fun h => hk h.1)], by simp only [ρ2]; rw [if_neg hk], hH2 k fun j hj e => hk ⟨j, hj, e⟩⟩
  · obtain ⟨j, hj, rfl⟩ := hk
    rw [e3 j hj] at hb
    have hb' : b ∈ ρ.foot i := (hf b).2 ⟨j, hj, hb⟩
    exact ⟨.inl ⟨i, hS 0 hl.pos, hb'⟩, h.lt i b hb'⟩
  · obtain ⟨j, hj, rfl⟩ := hk
    obtain ⟨j', hj', rfl⟩ := hk'
    rw [e3 j hj] at hb
    rw [e3 j' hj'] at hb'
    exact hd j j' b hj hj' (fun e => hne (by rw [e])) hb hb'
  · obtain ⟨j, hj, rfl⟩ := hk
    rw [hH j hj]
    refine (part_iff (ρ := ρ1) (ρ2 := ρ2) (f := place i base) (m := m) hM.symm e1 e2 (e3 j hj) hj (hl.ids j hj) ?_).2 (holdsC_of (hc j hj))
    cases j with
    | zero => exact .inr hl.head
    | succ j => exact .inl (by omega)

/-- The parts are put together to the object. -/
theorem Holds.close_ {tmps : Array Value} (h : Holds (absOf lay) G s ρ tmps w) {i base : Nat} {x : A} (hib : i < base) (hl : LayOk (lay x)) (hH : ∀ j, j < (lay x).length → getC s.H (place i base j) = renC (place i base) (getC (lay x) j))
    {H' : List (Chunk A)} (h0 : getC H' i = .abs x) (h1 : ∀ j, 0 < j → j < (lay x).length → getC H' (place i base j) = .gone) (h2 : ∀ k, (∀ j, j < (lay x).length → k ≠ place i base j) → getC H' k = getC s.H k) :
    ∃ ρ', Holds (absOf lay) G ⟨s.tm, H'⟩ ρ' tmps w ∧ ρ'.root = ρ.root ∧ ρ'.ver = ρ.ver ∧ ρ'.M = ρ.M := by
  let m := (lay x).length
  let ρ1 : Ev := { root := fun j => ρ.root (place i base j), ver := fun j => ρ.ver (place i base j), M := ρ.M, foot := fun j => ρ.foot (place i base j) }
  let S : Nat → Prop := fun k => ∃ j, j < m ∧ k = place i base j
  have hS : ∀ j, j < m → S (place i base j) := fun j hj => ⟨j, hj, rfl⟩
  have hparts : ∀ j, j < m → HoldsC (absOf lay) ρ1 w j (getC (lay x) j) := fun j hj => by
    have := h.ch (place i base j)
    rw [hH j hj] at this
    refine (part_iff (ρ := ρ1) (ρ2 := ρ) (f := place i base) (m := m) rfl (fun _ _ => rfl) (fun _ _ _ => rfl) rfl hj (hl.ids j hj) ?_).1 this
    cases j with
    | zero => exact .inr hl.head
    | succ j => exact .inl (by omega)
  let all : List Nat := (List.range m).flatMap fun j => ρ.foot (place i base j)
  have hall : ∀ b, b ∈ all ↔ ∃ j, j < m ∧ b ∈ ρ.foot (place i base j) := by intro b; simp [all]
  let ρ2 : Ev := { root := ρ.root, ver := ρ.ver, M := ρ.M, foot := fun k => open Classical in if k = i then all else if S k then [] else ρ.foot k }
  have hfi : ρ2.foot i = all := by simp [ρ2]
  have hfn : ∀ k, S k → k ≠ i → ρ2.foot k = [] := fun k hk hne => by simp only [ρ2]; rw [if_neg hne, if_pos hk]
  have hSi : S i := hS 0 hl.pos
  obtain ⟨t, cs, hhead⟩ := hl.head
  have hptr : ∃ b, ρ.root i = .pointer (some ⟨b, 0, none⟩) := by
    have := hparts 0 hl.pos
    rw [hhead] at this
    obtain ⟨b, vs, h3, _⟩ := this
    exact ⟨b, h3⟩
  refine ⟨ρ2, h.step S ⟨fun _ _ _ h => h, fun _ _ h => h, fun _ => Nat.le_refl _, fun _ _ _ => rfl⟩ rfl (fun k hk => ?_) (fun k hk b hb => ?_) (fun k k' b hk hk' hne hb hb' => ?_) (fun _ _ _ => rfl) rfl rfl rfl (Nat.le_refl _) (fun k hk => ?_), rfl, rfl, rfl⟩
  · have hki : k ≠ i := by rintro rfl; exact hk hSi
    exact ⟨rfl, rfl, by simp only [ρ2]; rw [if_neg hki, if_neg hk], h2 k fun j hj e => hk ⟨j, hj, e⟩⟩
  · by_cases hki : k = i
    · subst hki
      rw [hfi] at hb
      obtain ⟨j, hj, hb⟩ := (hall b).1 hb
      exact ⟨.inl ⟨_, hS j hj, hb⟩, h.lt _ b hb⟩
    · rw [hfn k hk hki] at hb; cases hb
  · by_cases hki : k = i
    · by_cases hki' : k' = i
      · exact hne (hki.trans hki'.symm)
      · rw [hfn k' hk' hki'] at hb'; cases hb'
    · rw [hfn k hk hki] at hb; cases hb
  · by_cases hki : k = i
    · subst hki
      rw [h0]
      refine holdsC_of (.abs ρ1 rfl rfl hptr (fun b => by rw [hfi]; exact hall b) (fun j k' b hj hk' hne hb hb' => ?_) (fun j hj => of_holdsC (hparts j hj)))
      exact h.dis _ _ b (fun e => hne (place_inj hib e)) hb hb'
    · obtain ⟨j, hj, rfl⟩ := hk
      have hj0 : 0 < j := by
        rcases Nat.eq_zero_or_pos j with h0 | h0
        · subst h0; exact absurd rfl hki
        · exact h0
      rw [h1 j hj0 hj]
      trivial

end Go.Sx
