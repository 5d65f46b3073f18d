/-
  Symbolic execution: literals, make.
-/
import Derived.Test.YtebhcmgfhkjmcaaSxJ
namespace Go.Sx
set_option linter.all false
set_option linter.unusedVariables false
set_option linter.unusedSimpArgs false
set_option linter.unusedSectionVars false
open Go.RowKit

variable {A : Type} {AI : Abs A} {G : Fr} {s : SS A} {ρ : Ev} {a : Act} {w : World} {P : Program}

theorem foldl_set : ∀ (vs : List Value) (j off : Nat) (cs : Array Value), off + j + vs.length ≤ cs.size →
    ((vs.zipIdx j).foldl (fun cs (p : Value × Nat) => cs.setIfInBounds (off + p.2) p.1) cs).toList = pasteV cs.toList (off + j) vs ∧
    ((vs.zipIdx j).foldl (fun cs (p : Value × Nat) => cs.setIfInBounds (off + p.2) p.1) cs).size = cs.size
  | [], j, off, cs, _ => by simp [pasteV]
  | v :: r, j, off, cs, h => by
    simp only [List.length_cons] at h
    obtain ⟨h1, h2⟩ := foldl_set r (j + 1) off (cs.setIfInBounds (off + j) v) (by simp; omega)
    simp only [List.zipIdx_cons, List.foldl_cons]
    refine ⟨?_, by rw [h2]; simp⟩
    rw [h1]
    apply List.ext_getElem?
    intro k
    rw [pasteV_get _ _ _ (show off + (j + 1) + r.length ≤ (cs.setIfInBounds (off + j) v).toList.length by simp; omega), pasteV_get _ _ _ (show off + j + (v :: r).length ≤ cs.toList.length by simp; omega)]
    simp only [Array.toList_setIfInBounds, List.length_cons]
    rw [List.getElem?_set]
    by_cases hk : k = off + j
    · subst hk
      rw [if_neg (by omega), if_pos rfl, if_pos (by rw [Array.length_toList]; omega), if_pos (by omega)]
      simp
    · rw [if_neg (c := off + j = k) (by omega)]
      by_cases hk2 : off + j < k ∧ k < off + j + (r.length + 1)
      · rw [if_pos (by omega), if_pos (by omega), show k - (off + j) = (k - (off + (j + 1))) + 1 by omega, List.getElem?_cons_succ]
      · rw [if_neg (by omega), if_neg (by omega)]

theorem fill_one (place : Nat → Option (Nat × Nat)) (cells : Array Value) {i : Nat} {v : Value} {rest : List (Nat × Value)} {off : Nat} (hp : place i = some (off, v.cells.size)) (hfit : off + v.cells.size ≤ cells.size) :
    ∃ c' : Array Value, c'.toList = pasteV cells.toList off v.cells.toList ∧ Instr.fill place cells ((i, v) :: rest) = Instr.fill place c' rest := by
  have h := foldl_set v.cells.toList 0 off cells (by simpa using hfit)
  refine ⟨_, by simpa using h.1, ?_⟩
  simp only [Instr.fill, hp]
  rw [if_neg (by simp; omega)]
  congr 1
  rw [← Array.foldl_toList, Array.toList_zipIdx]

/-- The parts of a literal. -/
def PartsDen (ρ : Ev) : List (Nat × SV) → List (Nat × Value) → Prop := All2 fun p q => p.1 = q.1 ∧ Den ρ p.2 q.2

theorem build_cells {offs : List (Nat × Nat)} : ∀ {parts : List (Nat × SV)} {qs : List (Nat × Value)} {z l : List SV1} {cells : Array Value}, PartsDen ρ parts qs → buildCells offs z parts = some l → All2 (Den1 ρ) z cells.toList →
    ∃ c' : Array Value, Instr.fill (fun i => nth offs i) cells qs = some c' ∧ All2 (Den1 ρ) l c'.toList
  | [], _, z, l, cells, .nil, h, hz => by simp [buildCells] at h; subst h; exact ⟨cells, rfl, hz⟩
  | (f, v) :: r, _, z, l, cells, .cons (b := (f', u)) hd ht, h, hz => by
    obtain ⟨e, hd⟩ := hd
    dsimp only at e hd
    subst e
    simp only [buildCells] at h
    split at h
    · rename_i o sz ho
      split at h
      · rename_i vs hvs
        split at h
        · rename_i hb
          obtain ⟨hb, hb3⟩ := Bool.and_eq_true_iff.1 hb
          obtain ⟨hb1, hb2⟩ := Bool.and_eq_true_iff.1 hb
          have hb1 := beq_eq hb1
          have hb3 := leN hb3
          split at h
          · rename_i z' hz'
            have hv := cellsOf_den hvs hd hb2
            obtain ⟨h1, h2, h3⟩ := hz.paste hv hz'
            have hsz : u.cells.size = sz := by have := hv.length; simp at this; omega
            have h0 : vs ≠ [] := by rintro rfl; simp at hb1; omega
            have hfit := h3 h0
            obtain ⟨c2, h6, h7⟩ := fill_one (fun i => nth offs i) cells (i := f) (v := u) (rest := _) (by rw [ho, hsz]) (by simpa using hfit)
            rw [h7]
            exact build_cells ht h (by rw [h6]; exact h1)
          · cases h
        · cases h
      · cases h
    · cases h

theorem zero_den {vs : List Value} : All2 (Den1 ρ) (vs.map ofLit1) vs := All2.map _ Den1.ofLit1 _

theorem run_places : ∀ {offs : List (Nat × Nat)} {fs : List Field}, All2 (fun (p : Nat × Nat) (f : Field) => f.offset = p.1 ∧ ∃ g, P.info? f.type = some g ∧ g.size = p.2) offs fs →
    (fs.mapM fun f => (do pure (f.offset, ← Go.sizeOf f.type) : Go.Sem (Nat × Nat))).run P w = .ok offs w := by
  intro offs fs h
  induction h with
  | nil => simp
  | @cons p f _ _ h1 _ ih =>
    obtain ⟨e1, g, e2, e3⟩ := h1
    have hs : (Go.sizeOf f.type).run P w = .ok g.size w := by
      simp [Go.sizeOf, typeInfo, e2]
    rw [List.mapM_cons]
    simp only [Sem.run_bind, hs, Result.andThen, Sem.run_pure, ih, e1, e3]

theorem fill_mono {f g : Nat → Option (Nat × Nat)} (h : ∀ i x, f i = some x → g i = some x) : ∀ {qs : List (Nat × Value)} {cells c : Array Value}, Instr.fill f cells qs = some c → Instr.fill g cells qs = some c
  | [], _, _, e => e
  | (i, v) :: r, cells, c, e => by
    simp only [Instr.fill] at e ⊢
    cases hf : f i with
    | none => rw [hf] at e; cases e
    | some x =>
      obtain ⟨o, sz⟩ := x
      rw [hf] at e
      rw [h i _ hf]
      dsimp only at e ⊢
      split at e
      · cases e
      · rename_i hc
        rw [if_neg hc]
        exact fill_mono h e
theorem places_nth {z : Nat} : ∀ {n k i : Nat} {x : Nat × Nat}, nth (places z k n) i = some x → x = ((k + i) * z, z)
  | 0, _, _, _, h => by simp [places, nth] at h
  | n + 1, k, 0, x, h => by simp [places, nth] at h; rw [← h]; rfl
  | n + 1, k, i + 1, x, h => by
    have := places_nth (n := n) (k := k + 1) (i := i) h
    rw [this, show k + 1 + i = k + (i + 1) by omega]

theorem build_sound {t : TypeId} {i : TI} (hT : TIfact P t i) (hz : ∃ z, (Go.zeroValue t).run P w = .ok z w ∧ i.zero = z.cells.toList.map ofLit1) {parts : List (Nat × SV)} {qs : List (Nat × Value)} (hd : PartsDen ρ parts qs) {p : Plan A} {esz : Option Nat} (hsz : ∀ z, esz = some z → ∀ e, elemOfK i.kind = some e → (Go.sizeOf e).run P w = .ok z w) (hp : buildP i esz parts = some p) :
    ∃ C v, p = ⟨[], 0, false, fun _ _ => .done C v []⟩ ∧ (C () → ∃ y, (Instr.build t qs.toArray).run P w = .ok y w ∧ Den ρ v y) := by
  have hk := hT.kind
  unfold buildP at hp
  split at hp
  · rename_i offs ho
    rw [ho] at hk
    obtain ⟨fs, h1, h2⟩ := hk
    split at hp
    · rename_i l hl
      cases hp
      refine ⟨_, _, rfl, fun _ => ?_⟩
      obtain ⟨z, hz1, hz2⟩ := hz
      obtain ⟨c', h3, h4⟩ := build_cells (ρ := ρ) (cells := z.cells) hd hl (by rw [hz2]; exact zero_den)
      have h5 := run_places (P := P) (w := w) h2
      have h6 : (fun i => (offs.toArray)[i]?) = fun i => nth offs i := by
        funext i
        have key : ∀ (l : List (Nat × Nat)) i, l[i]? = nth l i := by
          intro l
          induction l with
          | nil => intro i; rfl
          | cons x r ih => intro i; cases i <;> simp [nth, ih]
        simpa using key offs i
      refine ⟨.agg c', ?_, c'.toList, by simp, h4⟩
      have h7 : (fs.mapM fun f => (do pure (f.offset, ← Go.sizeOf f.type) : Go.Sem (Nat × Nat))).run P w = .ok offs.toArray w := by
        rw [Array.mapM_eq_mapM_toList]
        show (List.toArray <$> _ : Go.Sem _).run P w = _
        rw [map_eq_pure_bind, Sem.run_bind, h5]
        rfl
      simp only [Instr.build, Sem.run_bind, hz1, Result.andThen, run_underlying h1, h7, h6, h3]
      rfl
    · cases hp
  · rename_i n el ho
    rw [ho] at hk
    obtain ⟨h1, _⟩ := hk
    split at hp
    · rename_i sz
      split at hp
      · rename_i l hl
        cases hp
        refine ⟨_, _, rfl, fun _ => ?_⟩
        obtain ⟨z, hz1, hz2⟩ := hz
        obtain ⟨c', h3, h4⟩ := build_cells (ρ := ρ) (cells := z.cells) hd hl (by rw [hz2]; exact zero_den)
        have h5 := hsz sz rfl el (by rw [ho]; rfl)
        have h6 : Instr.fill (fun i => some (i * sz, sz)) z.cells qs = some c' := fill_mono (fun i x hx => by
          have := places_nth hx
          rw [this, Nat.zero_add]) h3
        refine ⟨.agg c', ?_, c'.toList, by simp, h4⟩
        simp only [Instr.build, Sem.run_bind, hz1, Result.andThen, run_underlying h1, h5, h6]
        rfl
      · cases hp
    · cases hp
  · cases hp

theorem inOrder_den : ∀ {k : Nat} {parts : List (Nat × SV)} {qs : List (Nat × Value)} {vs : List SV}, PartsDen ρ parts qs → inOrder k parts = some vs →
    ∃ us, All2 (Den ρ) vs us ∧ qs = (us.zipIdx k).map fun p => (p.2, p.1)
  | k, _, _, vs, .nil, h => by simp [inOrder] at h; subst h; exact ⟨[], .nil, rfl⟩
  | k, (i, v) :: r, (i', u) :: qs, vs, .cons hd ht, h => by
    simp only [inOrder] at h
    split at h
    · rename_i hb
      have hb := beq_eq hb
      subst hb
      split at h
      · rename_i l hl
        cases h
        obtain ⟨us, h1, h2⟩ := inOrder_den ht hl
        obtain ⟨e, hd⟩ := hd
        dsimp only at e hd
        subst e
        exact ⟨u :: us, .cons hd h1, by simp [h2]⟩
      · cases h
    · cases h

theorem fill_slice {size : Nat} : ∀ {us : List Value} {k : Nat} {cells : Array Value}, (∀ u ∈ us, u.cells.size = size) → cells.size = (k + us.length) * size →
    ∃ c' : Array Value, Instr.fill (fun i => some (i * size, size)) cells ((us.zipIdx k).map fun p => (p.2, p.1)) = some c' ∧ c'.toList = cells.toList.take (k * size) ++ us.flatMap fun u => u.cells.toList
  | [], k, cells, _, hs => by
    refine ⟨cells, rfl, ?_⟩
    rw [List.take_of_length_le (by simp at hs ⊢; omega)]; simp
  | u :: r, k, cells, hu, hs => by
    have hu0 := hu u (by simp)
    have hmul : (k + (u :: r).length) * size = k * size + size + r.length * size := by simp [Nat.add_mul]; omega
    obtain ⟨c2, h1, h2⟩ := fill_one (fun i => some (i * size, size)) cells (i := k) (v := u) (rest := (r.zipIdx (k + 1)).map fun p => (p.2, p.1)) (off := k * size) (by rw [hu0]) (by omega)
    have hs2 : c2.size = cells.size := by
      have := congrArg List.length h1
      rw [pasteV_length _ _ _ (by simp; omega)] at this
      simpa using this
    obtain ⟨c', h3, h4⟩ := fill_slice (us := r) (k := k + 1) (cells := c2) (fun v hv => hu v (by simp [hv])) (by rw [hs2, hs]; congr 1; simp; omega)
    refine ⟨c', by simpa [h2] using h3, ?_⟩
    rw [h4, h1]
    have e1 : (k + 1) * size = k * size + u.cells.toList.length := by simp [Nat.add_mul, hu0]
    rw [e1]
    unfold pasteV
    have e2 : (cells.toList.take (k * size)).length = k * size := by rw [List.length_take]; simp; omega
    rw [List.append_assoc, List.take_append, e2, List.take_of_length_le (by omega), show k * size + u.cells.toList.length - k * size = u.cells.toList.length by omega]
    rw [List.take_append, List.take_of_length_le (Nat.le_refl _), Nat.sub_self, List.take_zero]
    simp

theorem encAll_den {e : Ty} : ∀ {vs : List SV} {us : List Value} {L : U (List e.T)}, All2 (Den ρ) vs us → encAll e vs = some L → RowList ρ.M e (L ()) (us.flatMap fun u => u.cells.toList) ∧ (L ()).length = us.length ∧ ∀ u ∈ us, u.cells.size = e.size
  | _, _, L, .nil, h => by simp [encAll] at h; subst h; exact ⟨⟨by simp, by simp, by simp⟩, rfl, by simp⟩
  | v :: vs, u :: us, L, .cons hd ht, h => by
    simp only [encAll] at h
    split at h
    · rename_i l hl
      split at h
      · rename_i hst
        split at h
        · rename_i y hy
          split at h
          · rename_i ys hys
            cases h
            obtain ⟨h1, h2, h3⟩ := encAll_den ht hys
            have hv := cellsOf_den hl hd hst
            obtain ⟨v1, v2, e1, e2, e3, e4⟩ := CellsM.enc e hy hv
            cases e4
            simp only [List.append_nil] at e1
            have hsz : u.cells.size = e.size := by have := congrArg List.length e1; simp at this; omega
            refine ⟨?_, by simp [h2], fun x hx => (List.mem_cons.1 hx).elim (fun e => e ▸ hsz) (h3 x)⟩
            have : RowList ρ.M e [y ()] u.cells.toList := ⟨by simp [hsz], hv.storable hst, fun j x hj => by
              cases j <;> simp at hj
              subst hj
              simp only [Nat.zero_mul, Nat.zero_add, e1]; exact e3⟩
            exact rowList_append this h1
          · cases h
        · cases h
      · cases h
    · cases h

theorem buildSlice_sound {t : TypeId} {i : TI} (hT : TIfact P t i) (h : Holds AI G s ρ a.tmps w) {n : Nat} {parts : List (Nat × SV)} {qs : List (Nat × Value)} (hd : PartsDen ρ parts qs) {fresh : Nat} {p : Plan A} (hp : buildSliceP i n parts fresh = some p)
    {d : List Bool} {C : U Prop} {r : SV} {cs : List (Chunk A)} (he : p.eff (getCs s.H p.ids) d = .done C r cs) (hC : C ()) :
    Done AI G P s a w ρ (Instr.buildSlice t n qs.toArray) (putCs s.H p.ids cs) r := by
  have hk := hT.kind
  unfold buildSliceP at hp
  split at hp
  · rename_i et e ho
    rw [ho] at hk
    obtain ⟨hu, g, hg1, hg2⟩ := hk
    obtain ⟨hsz, hpos, hby, _, z, hz, hz1, hz2⟩ := hg2 e rfl
    split at hp
    · rename_i vs hvs
      split at hp
      · rename_i hb
        have hb := beq_eq hb
        split at hp
        · rename_i L hL
          have hC0 : n * e.size ≤ 16777216 := by
            split at hp
            · cases hp
              simp only [getCs] at he
              split at he <;> cases he
              exact hC
            · cases hp; simp at he; obtain ⟨rfl, rfl, rfl⟩ := he; exact hC
          obtain ⟨us, h1, h2⟩ := inOrder_den hd hvs
          obtain ⟨h3, h4, h5⟩ := encAll_den h1 hL
          have hlen : us.length = n := by rw [← h1.length, hb]
          let c0 : Array Value := (Array.range (n * g.size)).map (z.cells[· % z.cells.size]!)
          obtain ⟨c', h6, h7⟩ := fill_slice (size := g.size) (us := us) (k := 0) (cells := c0) (fun u hu => by rw [h5 u hu, hsz]) (by simp [c0, hlen])
          have h8 : c' = (us.flatMap fun u => u.cells.toList).toArray := by apply Array.ext'; rw [h7]; simp
          have hrun : (Instr.buildSlice t n qs.toArray).run P w = .ok (.slice (some ⟨w.heap.size, 0, none⟩) n n) (w.alloc (.cells c' et)) := by
            have hC' : ¬ (16777216 < n * g.size) := by have hC' : n * e.size ≤ 16777216 := hC0; rw [hsz]; omega
            have hlet : (if n * g.size = 0 then pure #[] else (do pure (← Go.zeroValue et).cells) : Go.Sem (Array Value)).run P w = .ok (if n * g.size = 0 then #[] else z.cells) w := by
              split
              · rfl
              · simp [Go.zeroValue, typeInfo, hg1, hz]
            have hfill : Instr.fill (fun i => some (i * g.size, g.size)) ((Array.range (n * g.size)).map ((if n * g.size = 0 then #[] else z.cells)[· % (if n * g.size = 0 then #[] else z.cells).size]!)) qs = some c' := by
              rw [h2, ← h6]
              congr 1
              split
              · rename_i h0; simp [c0, h0]
              · rfl
            simp only [Instr.buildSlice, Sem.run_bind, run_underlying hu, Result.andThen]
            have hs : (Go.sizeOf et).run P w = .ok g.size w := by simp [Go.sizeOf, typeInfo, hg1]
            simp only [hs]
            rw [show (2 : Nat) ^ 24 = 16777216 from rfl, if_neg hC']
            have hzv : (Go.zeroValue et).run P w = .ok z w := by simp [Go.zeroValue, typeInfo, hg1, hz]
            by_cases h0 : n * g.size = 0
            · simp only [h0, if_true] at hfill ⊢
              simp only [Sem.run_bind, Sem.run_pure, Result.andThen, hfill]
              simp [newRow]
            · simp only [h0, if_false] at hfill ⊢
              simp only [Sem.run_bind, Sem.run_pure, Result.andThen, hzv, hfill]
              simp [newRow]
          have hrow := rowAt_new (w := w) h3 (rest := #[]) (cap := n) (by rw [h4, hlen]; exact Nat.le_refl _) (by
            have : n * 1 ≤ n * e.size := Nat.mul_le_mul_left _ (by omega)
            unfold maxLen; omega) (by rw [h4, hlen]; simp) et
          split at hp
          · cases hp
            simp only [getCs] at he
            have hc := h.ch fresh
            generalize hg : getC s.H fresh = c at he hc
            cases c <;> (try (simp at he; done))
            simp at he
            obtain ⟨rfl, rfl, rfl⟩ := he
            obtain ⟨hc1, hc2, hc3⟩ := hc
            obtain ⟨h9, h10⟩ := h.upd1 fresh (.slice (some ⟨w.heap.size, 0, none⟩) (L ()).length n) 0 [w.heap.size] (.row et e 0 L) (w.alloc (.cells c' et))
              (by rw [hc2]; simp) (by omega) (by rw [hc2]; simp) (fun b' hb' => by obtain rfl : b' = w.heap.size := (by simpa using hb'); exact ⟨.inr (Nat.le_refl _), by rw [World.size_alloc]; exact Nat.lt_succ_self _⟩) (fun b hb _ => alloc_lt w _ hb) rfl rfl rfl (by simp)
              (by
                refine ⟨by simp [Ev.upd], ?_⟩
                have e1 : (Ev.upd ρ fresh (.slice (some ⟨w.heap.size, 0, none⟩) (L ()).length n) 0 [w.heap.size]).root fresh = .slice (some ⟨w.heap.size, 0, none⟩) (L ()).length n := by simp [Ev.upd]
                have e2 : (Ev.upd ρ fresh (.slice (some ⟨w.heap.size, 0, none⟩) (L ()).length n) 0 [w.heap.size]).foot fresh = [w.heap.size] := by simp [Ev.upd]
                rw [e1, e2]
                show RowAt ρ.M _ _ _ _ _
                rw [h8]
                simpa using hrow)
            exact ⟨.slice (some ⟨w.heap.size, 0, none⟩) n n, _, _, hrun, h9, ⟨⟨_, _, _, rfl⟩, by simp [Ev.upd], fun _ => by simp [Ev.upd, h4, hlen]⟩, h10⟩
          · rename_i hz0
            have hz0 : n ≠ 0 := fun h0 => by rw [h0] at hz0; simp at hz0
            cases hp
            simp at he
            obtain ⟨rfl, rfl, rfl⟩ := he
            obtain ⟨ρ', h9, h10, h11, h12, h13, h14⟩ := h.more (w' := w.alloc (.cells c' et)) (fun b hb => alloc_lt w _ hb) rfl rfl rfl (by simp)
            refine ⟨_, ρ', _, hrun, h9, ?_, h10⟩
            rcases hrow with ⟨⟨_, hr⟩, _⟩ | ⟨b, off, cap, hr, _, h15, _, h16, _⟩
            · injection hr with q1 q2 q3
              exact absurd q3 hz0
            · cases hr
              refine ⟨_, n, by rw [h4, hlen], by rw [h4, hlen]; exact Nat.le_refl _, fun _ => ⟨w.heap.size, 0, rfl, fun j x hj => ?_⟩⟩
              refine CellsM.congr e (CellsM.mono h10.M e (h16 j x hj)) fun k v _ hv => ?_
              refine h14 _ _ _ (Nat.le_refl _) ?_
              rw [h8]
              simpa using hv
        · cases hp
      · cases hp
    · cases hp
  · cases hp

theorem madeCells_get (z : Array Value) (n k : Nat) : (madeCells z n)[k]? = if k < n then some (z[k % z.size]!) else none := by
  unfold madeCells
  rw [Array.getElem?_map]
  split
  · rename_i h; rw [Array.getElem?_range, if_pos h]; rfl
  · rename_i h; rw [Array.getElem?_range, if_neg h]; rfl
theorem flatten_get {α : Type} (l : List α) : ∀ (n k : Nat), k < n * l.length → (List.replicate n l).flatten[k]? = l[k % l.length]?
  | 0, k, h => by simp at h
  | n + 1, k, h => by
    rw [List.replicate_succ, List.flatten_cons]
    by_cases hk : k < l.length
    · rw [List.getElem?_append_left hk, Nat.mod_eq_of_lt hk]
    · rw [List.getElem?_append_right (by omega), flatten_get l n _ (by rw [Nat.add_mul] at h; omega)]
      congr 1
      exact (Nat.mod_eq_sub_mod (by omega)).symm
theorem madeCells_split (z : Array Value) {size : Nat} (hz : z.size = size) (hp : 0 < size) (l m : Nat) : madeCells z (l * size + m * size) = ((List.replicate l z.toList).flatten).toArray ++ madeCells z (m * size) := by
  have hlen : ((List.replicate l z.toList).flatten).length = l * size := by simp [hz]
  apply Array.ext_getElem?
  intro k
  rw [madeCells_get]
  by_cases hk : k < l * size
  · rw [if_pos (by omega), Array.getElem?_append_left (by simpa [hz] using hk)]
    have := flatten_get z.toList l k (by simpa [hz] using hk)
    rw [List.getElem?_toArray, this]
    have hm : k % z.size < z.size := Nat.mod_lt _ (by omega)
    simp [getElem!_pos, hm]
  · rw [Array.getElem?_append_right (by simp [hz]; omega), madeCells_get]
    have e1 : ((List.replicate l z.toList).flatten).toArray.size = l * size := by simpa using hlen
    rw [e1]
    by_cases hk2 : k < l * size + m * size
    · rw [if_pos hk2, if_pos (by omega)]
      congr 2
      rw [hz]
      conv => lhs; rw [show k = (k - l * size) + size * l by rw [Nat.mul_comm size l]; omega]
      exact Nat.add_mul_mod_self_left _ _ _
    · rw [if_neg hk2, if_neg (by omega)]

theorem makeSlice_sound {t : TypeId} {i : TI} (hT : TIfact P t i) (h : Holds AI G s ρ a.tmps w) {x y : SV} {u v : Value} (hx : Den ρ x u) (hy : Den ρ y v) {fresh : Nat} {p : Plan A} (hp : makeSliceP i x y fresh = some p)
    {d : List Bool} {C : U Prop} {r : SV} {cs : List (Chunk A)} (he : p.eff (getCs s.H p.ids) d = .done C r cs) (hC : C ()) :
    Done AI G P s a w ρ (Instr.makeSlice t u v) (putCs s.H p.ids cs) r := by
  have hk := hT.kind
  unfold makeSliceP at hp
  split at hp
  · rename_i et e ho
    rw [ho] at hk
    obtain ⟨hu, g, hg1, hg2⟩ := hk
    obtain ⟨hsz, hpos, hby, _, z, hz, hz1, hz2⟩ := hg2 e rfl
    split at hp
    · rename_i kl l hl
      split at hp
      · rename_i kc c hc'
        cases hp
        simp only [getCs] at he
        have hc := h.ch fresh
        generalize hg : getC s.H fresh = ch at he hc
        cases ch <;> (try (simp at he; done))
        simp at he
        obtain ⟨rfl, rfl, rfl⟩ := he
        obtain ⟨hc1, hc2, hc3⟩ := hc
        obtain ⟨c0, c1, c2⟩ := hC
        have c2 : c () ≤ 1099511627776 := c2
        have e1 := ivalS_den hl hx
        have e2 := ivalS_den hc' hy
        subst e1; subst e2
        have hb : (g.bytes : Int) * c () ≤ 281474976710656 := by
          have : (g.bytes : Int) * c () ≤ 128 * c () := Int.mul_le_mul_of_nonneg_right (by omega) (by omega)
          omega
        have hrun := run_make (P := P) w t et g z hu hg1 hz kl kc (l ()) (c ()) c0 c1 hb (by omega)
        have hlist : RowList ρ.M e (List.replicate (l ()).toNat e.dflt) ((madeCells z.cells (c ()).toNat.succ.pred).toList.take 0 ++ ((List.replicate (l ()).toNat z.cells.toList).flatten)) := by
          refine ⟨by simp [hz1], fun x hx => ?_, fun j x hj => ?_⟩
          · simp only [List.take_zero, List.nil_append, List.mem_flatten, List.mem_replicate] at hx
            obtain ⟨q, ⟨_, rfl⟩, hx⟩ := hx
            have hzc := hz2 ρ.M
            obtain ⟨vs, h3, h4⟩ := CellsM.dec (ρ := ρ) e (fun _ => e.dflt) _ hzc
            obtain ⟨k, hk1, hk2⟩ := List.getElem_of_mem hx
            have hlv : vs.length = e.size := by rw [← h3.length, dec_length]
            have hkv : k < vs.length := by rw [hlv, ← hz1]; simpa using hk1
            have := h4 k _ (List.getElem?_eq_getElem hkv)
            rw [List.getElem?_eq_getElem hk1, hk2] at this
            cases this
            exact dec_one e _ h3 _ (List.getElem_mem hkv)
          · obtain ⟨hj1, rfl⟩ := by simpa [List.getElem?_replicate] using hj
            refine CellsM.congr e (hz2 ρ.M) fun q v hq hv => ?_
            simp only [List.take_zero, List.nil_append]
            have hz1' : z.cells.toList.length = e.size := by simpa using hz1
            have key : ∀ (n j : Nat), j < n → (List.replicate n z.cells.toList).flatten[j * e.size + q]? = z.cells.toList[q]? := by
              intro n
              induction n with
              | zero => intro j hj; omega
              | succ n ih =>
                intro j hj
                rw [List.replicate_succ, List.flatten_cons]
                cases j with
                | zero => rw [List.getElem?_append_left (by omega)]; simp
                | succ j =>
                  rw [List.getElem?_append_right (by rw [hz1', Nat.add_mul]; omega), hz1', ← ih j (by omega)]
                  congr 1
                  rw [Nat.add_mul]; omega
            rw [key _ j (by omega)]; exact hv
        simp only [List.take_zero, List.nil_append] at hlist
        have hsplit : madeCells z.cells ((c ()).toNat * g.size) = ((List.replicate (l ()).toNat z.cells.toList).flatten).toArray ++ madeCells z.cells (((c ()).toNat - (l ()).toNat) * e.size) := by
          rw [hsz, show (c ()).toNat * e.size = (l ()).toNat * e.size + ((c ()).toNat - (l ()).toNat) * e.size by rw [← Nat.add_mul]; congr 1; omega]
          exact madeCells_split _ hz1 (by omega) _ _
        have hrow := rowAt_new (w := w) hlist (rest := madeCells z.cells (((c ()).toNat - (l ()).toNat) * e.size)) (cap := (c ()).toNat) (by simp; omega) (by unfold maxLen; omega) (by simp [madeCells]) et
        obtain ⟨h9, h10⟩ := h.upd1 fresh (.slice (some ⟨w.heap.size, 0, none⟩) (l ()).toNat (c ()).toNat) 0 [w.heap.size] (.row et e 0 (fun _ => List.replicate (l ()).toNat e.dflt)) (w.alloc (.cells (madeCells z.cells ((c ()).toNat * g.size)) et))
          (by rw [hc2]; simp) (by omega) (by rw [hc2]; simp) (fun b' hb' => by obtain rfl : b' = w.heap.size := (by simpa using hb'); exact ⟨.inr (Nat.le_refl _), by rw [World.size_alloc]; exact Nat.lt_succ_self _⟩) (fun b hb _ => alloc_lt w _ hb) rfl rfl rfl (by simp)
          (by
            refine ⟨by simp [Ev.upd], ?_⟩
            have e1 : (Ev.upd ρ fresh (.slice (some ⟨w.heap.size, 0, none⟩) (l ()).toNat (c ()).toNat) 0 [w.heap.size]).root fresh = .slice (some ⟨w.heap.size, 0, none⟩) (l ()).toNat (c ()).toNat := by simp [Ev.upd]
            have e2 : (Ev.upd ρ fresh (.slice (some ⟨w.heap.size, 0, none⟩) (l ()).toNat (c ()).toNat) 0 [w.heap.size]).foot fresh = [w.heap.size] := by simp [Ev.upd]
            rw [e1, e2, hsplit]
            show RowAt ρ.M _ _ _ _ _
            simpa using hrow)
        exact ⟨_, _, _, hrun, h9, ⟨⟨_, _, _, rfl⟩, by simp [Ev.upd], fun _ => by simp [Ev.upd]⟩, h10⟩
      · cases hp
    · cases hp
  · cases hp

end Go.Sx
