/-
  Symbolic execution: rows: a store to an element, append, literals, make.
-/
import Derived.Test.YtebhcmgfhkjmcaaSxG
namespace Go.Sx
set_option linter.all false
set_option linter.unusedVariables false
set_option linter.unusedSimpArgs false
set_option linter.unusedSectionVars false
open Go.RowKit

variable {A : Type} {AI : Abs A} {G : Fr} {s : SS A} {ρ : Ev} {a : Act} {w : World} {P : Program}

theorem setCells_other (b : Nat) : ∀ (vs : List Value) (o : Nat) (w : World) (k : Nat), k ≠ b → (w.setCells b o vs).heap[k]? = w.heap[k]?
  | [], _, _, _, _ => rfl
  | v :: r, o, w, k, h => by rw [World.setCells, setCells_other b r _ _ k h, Below.heap_setCell _ _ _ _ h]
theorem setCells_size (b : Nat) : ∀ (vs : List Value) (o : Nat) (w : World), (w.setCells b o vs).heap.size = w.heap.size
  | [], _, _ => rfl
  | v :: r, o, w => by rw [World.setCells, setCells_size b r]; simp [World.setCell]
theorem setCells_rest (b : Nat) : ∀ (vs : List Value) (o : Nat) (w : World), (w.setCells b o vs).os = w.os ∧ (w.setCells b o vs).tape = w.tape ∧ (w.setCells b o vs).output = w.output
  | [], _, _ => ⟨rfl, rfl, rfl⟩
  | v :: r, o, w => setCells_rest b r _ _

/-- One cell after vs has been written to o .. -/
theorem setCells_cell {b o : Nat} {vs : List Value} (h : ∀ j, j < vs.length → (w.cell? ⟨b, o + j, none⟩).isSome = true) (k : Nat) :
    (w.setCells b o vs).cell? ⟨b, k, none⟩ = if o ≤ k ∧ k < o + vs.length then vs[k - o]? else w.cell? ⟨b, k, none⟩ := by
  split
  · rename_i hk
    have h1 := World.cell?_setCells_in b vs o w h (k - o) (by omega)
    rw [show o + (k - o) = k by omega] at h1
    rw [h1, List.getElem?_eq_getElem (by omega)]
  · rename_i hk
    exact World.cell?_setCells_out b vs o w _ (fun _ _ => by simp; omega)

theorem dec_one {M : Ev} : ∀ (e : Ty) (x : U e.T) {vs : List Value}, All2 (Den1 M) (dec e x) vs → ∀ v ∈ vs, v.oneCell' = true
  | .int k, x, vs, h => by cases h with | cons h t => cases t; cases h; simp [Value.oneCell']
  | .bool, x, vs, h => by cases h with | cons h t => cases t; cases h; simp [Value.oneCell']
  | .bytes, x, vs, h => by cases h with | cons h t => cases t; obtain ⟨_, _, rfl, _⟩ := h; simp [Value.oneCell']
  | .str, x, vs, h => by cases h with | cons h t => cases t; cases h; simp [Value.oneCell']
  | .unit, x, vs, h => by cases h; simp
  | .lst e, x, vs, h => by cases h with | cons h t => cases t; obtain ⟨_, _, rfl, _⟩ := h; simp [Value.oneCell']
  | .pair a b, x, vs, h => by
    simp only [dec] at h
    have key : ∀ {l l' : List SV1} {vs : List Value}, All2 (Den1 M) (l ++ l') vs → ∃ u v, vs = u ++ v ∧ All2 (Den1 M) l u ∧ All2 (Den1 M) l' v := by
      intro l
      induction l with
      | nil => intro l' vs h; exact ⟨[], vs, rfl, .nil, h⟩
      | cons x r ih =>
        intro l' vs h
        cases h with
        | cons h t => obtain ⟨u, v, rfl, h1, h2⟩ := ih t; exact ⟨_ :: u, v, rfl, .cons h h1, h2⟩
    obtain ⟨u, v, rfl, h1, h2⟩ := key h
    intro y hy
    rcases List.mem_append.1 hy with hy | hy
    · exact dec_one a _ h1 y hy
    · exact dec_one b _ h2 y hy

/-- The cells of the elements, one behind the other. -/
def RowList (M : Mem) (e : Ty) (L : List e.T) (us : List Value) : Prop :=
  us.length = L.length * e.size ∧ (∀ u ∈ us, u.oneCell' = true) ∧ ∀ j x, L[j]? = some x → CellsM M e x (fun i => us[j * e.size + i]?)

theorem rowList_of {M : Mem} {e : Ty} : ∀ (L : List e.T) (c : Nat → Option Value), (∀ j x, L[j]? = some x → CellsM M e x (fun i => c (j * e.size + i))) → ∃ us, RowList M e L us ∧ ∀ (k : Nat) v, us[k]? = some v → c k = some v
  | [], c, h => ⟨[], ⟨by simp, by simp, by simp⟩, by simp⟩
  | x :: r, c, h => by
    obtain ⟨us, ⟨h1, h2, h3⟩, h4⟩ := rowList_of r (fun k => c (e.size + k)) (fun j y hj => by
      have := h (j + 1) y (by simpa using hj)
      refine CellsM.congr e this fun k v _ hv => ?_
      rw [← hv, show e.size + (j * e.size + k) = (j + 1) * e.size + k by rw [Nat.add_mul]; omega])
    have h0 := h 0 x rfl
    simp only [Nat.zero_mul, Nat.zero_add] at h0
    obtain ⟨vs, h5, h6⟩ := CellsM.dec (ρ := ⟨fun _ => undef, fun _ => 0, M, fun _ => []⟩) e (fun _ => x) _ h0
    have hl : vs.length = e.size := by rw [← h5.length, dec_length]
    refine ⟨vs ++ us, ⟨by simp [hl, h1, Nat.add_mul]; omega, fun u hu => ?_, fun j y hj => ?_⟩, fun k v hk => ?_⟩
    · rcases List.mem_append.1 hu with hu | hu
      · exact dec_one e _ h5 u hu
      · exact h2 u hu
    · cases j with
      | zero =>
        simp at hj
        subst hj
        refine CellsM.congr e h0 fun k v hk hv => ?_
        have hk' : k < vs.length := by omega
        have := h6 k _ (List.getElem?_eq_getElem hk')
        simp only [Nat.zero_mul, Nat.zero_add]
        rw [List.getElem?_append_left hk', List.getElem?_eq_getElem hk', ← this, hv]
      | succ j =>
        refine CellsM.congr e (h3 j y (by simpa using hj)) fun k v hk hv => ?_
        have e1 : (j + 1) * e.size + k = e.size + (j * e.size + k) := by rw [Nat.add_mul]; omega
        rw [e1, List.getElem?_append_right (by omega), ← hv, hl, show e.size + (j * e.size + k) - e.size = j * e.size + k by omega]
    · by_cases hk' : k < vs.length
      · rw [List.getElem?_append_left hk'] at hk; exact h6 k v hk
      · rw [List.getElem?_append_right (by omega)] at hk
        have := h4 _ _ hk
        rw [hl] at this
        simpa [show e.size + (k - e.size) = k by omega] using this

theorem rowList_append {M : Mem} {e : Ty} {L L' : List e.T} {us us' : List Value} (h : RowList M e L us) (h' : RowList M e L' us') : RowList M e (L ++ L') (us ++ us') := by
  obtain ⟨h1, h2, h3⟩ := h
  obtain ⟨h4, h5, h6⟩ := h'
  refine ⟨by simp [h1, h4, Nat.add_mul], fun u hu => (List.mem_append.1 hu).elim (h2 u) (h5 u), fun j x hj => ?_⟩
  by_cases hjl : j < L.length
  · rw [List.getElem?_append_left hjl] at hj
    refine CellsM.congr e (h3 j x hj) fun k v hk hv => ?_
    have : j * e.size + k < us.length := by
      rw [h1]
      have := Nat.mul_le_mul_right e.size (show j + 1 ≤ L.length by omega)
      rw [Nat.add_mul] at this; omega
    rw [List.getElem?_append_left this]; exact hv
  · rw [List.getElem?_append_right (by omega)] at hj
    refine CellsM.congr e (h6 _ x hj) fun k v hk hv => ?_
    have h7 : L.length * e.size ≤ j * e.size := Nat.mul_le_mul_right _ (by omega)
    rw [List.getElem?_append_right (by omega), h1, ← hv]
    congr 1
    rw [Nat.sub_mul]; omega

theorem firstCells_src {size : Nat} {tx e' : TypeId} (hk : P.underlying tx = some (.slice e')) {ao : Option Addr} {n cap : Nat} {news : List Value} (hl : news.length = n * size) (h1 : ∀ u ∈ news, u.oneCell' = true)
    (hc : 0 < n → ∃ b off, ao = some ⟨b, off, none⟩ ∧ ∀ (j : Nat) u, news[j]? = some u → w.cell? ⟨b, off + j, none⟩ = some u) : Go.Src P size tx (.slice ao n cap) n news w := by
  have hcells : ∀ w' : World, (∀ x, w'.cell? x = w.cell? x) → (Builtin.firstCells size n (.slice ao n cap)).run P w' = .ok news.toArray w' := by
    intro w' hw
    rcases Nat.eq_zero_or_pos n with h0 | h0
    · subst h0
      have : news = [] := by apply List.eq_nil_of_length_eq_zero; simpa using hl
      subst this
      cases ao with
      | none => exact run_firstCells_none w' _ _ _ _
      | some q => exact run_firstCells_some w' size 0 q 0 cap [] (by simp) (by simp)
    · obtain ⟨b, off, rfl, h2⟩ := hc h0
      exact run_firstCells_some w' size n ⟨b, off, none⟩ n cap news hl (fun j v hj => by rw [add_lit, hw]; exact h2 j v hj)
  exact ⟨.inl ⟨e', hk⟩, fun _ => rfl, hcells w fun _ => rfl, hcells w.drew fun _ => rfl, hl, h1⟩

def SrcDen (ρ : Ev) (u : Value) : Src → Prop
  | .nil => u = .slice none 0 0
  | .ro e L => ShowsM ρ.M e (L ()) u
  | .hd i ver => Den1 ρ (.hd i ver) u
  | .vw i ver esz lo n => Den1 ρ (.vw i ver esz lo n) u
  | .bad => True
theorem srcOf_den {y : SV} {u : Value} (hy : Den ρ y u) : SrcDen ρ u (srcOf y) := by
  unfold srcOf
  split <;> first | exact hy | trivial

/-- What the source of an append shows. -/
theorem Src.list_sound (h : Holds AI G s ρ a.tmps w) {src : Src} {u : Value} (hy : SrcDen ρ u src) {e : Ty} {M : U (List e.T)} {r : List (Chunk A)} (hr : getCs s.H src.ids = r) (hM : src.list e r = some M)
    {tx e' : TypeId} (hk : P.underlying tx = some (.slice e')) : ∃ news, RowList ρ.M e (M ()) news ∧ Go.Src P e.size tx u (M ()).length news w := by
  cases src
  case nil =>
    simp only [Src.ids, getCs] at hr
    subst hr
    simp only [Src.list, Option.some.injEq] at hM
    subst hM
    cases hy
    exact ⟨[], ⟨by simp, by simp, by simp⟩, firstCells_src hk (by simp) (by simp) (by simp)⟩
  case ro e2 L =>
    simp only [Src.ids, getCs] at hr
    subst hr
    simp only [Src.list] at hM
    split at hM <;> simp at hM
    rename_i f hf
    subst hM
    obtain ⟨rfl, hf2⟩ := castL_id hf
    have hf3 : f (L ()) = L () := hf2 _
    obtain ⟨ao, cap, rfl, h1, h2⟩ := hy
    rcases Nat.eq_zero_or_pos (L ()).length with h0 | h0
    · have e1 := List.eq_nil_of_length_eq_zero h0
      rw [hf3, e1]
      exact ⟨[], ⟨by simp, by simp, by simp⟩, firstCells_src hk (by simp) (by simp) (by simp)⟩
    · obtain ⟨b, off, rfl, h3⟩ := h2 h0
      obtain ⟨us, h4, h5⟩ := rowList_of (L ()) (fun k => ρ.M b (off + k)) (fun j x hj => by
        have := h3 j x hj
        simpa only [Nat.add_assoc] using this)
      rw [hf3]
      exact ⟨us, h4, firstCells_src hk h4.1 h4.2.1 fun _ => ⟨b, off, rfl, fun j u hu => (h.im _ _ _ (h5 j u hu)).1⟩⟩
  case hd i ver =>
    simp only [Src.ids, getCs] at hr
    subst hr
    have hc := h.ch i
    generalize getC s.H i = c at hc hM
    cases c <;> (try (simp [Src.list] at hM; done))
    rename_i rt e2 ver' L
    simp only [Src.list] at hM
    split at hM <;> (try (simp at hM; done))
    rename_i hb
    have hb := beq_eq hb
    subst hb
    split at hM <;> simp at hM
    rename_i f hf
    subst hM
    obtain ⟨rfl, hf2⟩ := castL_id hf
    have hf3 : f (L ()) = L () := hf2 _
    obtain ⟨h1, h2⟩ := hc
    obtain ⟨_, _, h3⟩ := hy
    have h3 := h3 h1
    rw [hf3]
    rcases h2 with ⟨⟨ao, h2⟩, h4, _⟩ | ⟨b, off, cap, h2, _, _, _, h4, _⟩
    · rw [h2] at h3
      subst h3
      rw [h4]
      exact ⟨[], ⟨by simp, by simp, by simp⟩, firstCells_src hk (by simp) (by simp) (by simp)⟩
    · rw [h2] at h3
      subst h3
      obtain ⟨us, h5, h6⟩ := rowList_of (L ()) (fun k => w.cell? ⟨b, off + k, none⟩) (fun j x hj => by
        have := h4 j x hj
        simpa only [Nat.add_assoc] using this)
      exact ⟨us, h5, firstCells_src hk h5.1 h5.2.1 fun _ => ⟨b, off, rfl, fun j u hu => h6 j u hu⟩⟩
  case vw i ver esz lo n =>
    simp only [Src.ids, getCs] at hr
    subst hr
    have hc := h.ch i
    generalize getC s.H i = c at hc hM
    cases c <;> (try (simp [Src.list] at hM; done))
    rename_i rt e2 ver' L
    simp only [Src.list] at hM
    split at hM <;> (try (simp at hM; done))
    rename_i hb
    obtain ⟨hb1, hb2⟩ := Bool.and_eq_true_iff.1 hb
    have hb1 := beq_eq hb1
    have hb2 := beq_eq hb2
    subst hb1; subst hb2
    split at hM <;> simp at hM
    rename_i f hf
    subst hM
    obtain ⟨rfl, hf2⟩ := castL_id hf
    rw [show f (List.take (n ()).toNat (List.drop (lo ()).toNat (L ()))) = List.take (n ()).toNat (List.drop (lo ()).toNat (L ())) from hf2 _]
    obtain ⟨h1, h2⟩ := hc
    obtain ⟨_, _, _, h3⟩ := hy
    obtain ⟨ao, len, cap, h4, h5, h6, h7, h8, rfl⟩ := h3 h1
    have hlen : ∀ q, ρ.root i = .slice q (L ()).length cap → (List.take (n ()).toNat (List.drop (lo ()).toNat (L ()))).length = (n ()).toNat := by
      intro q hq
      rw [h4] at hq
      cases hq
      rw [List.length_take, List.length_drop]; omega
    rcases h2 with ⟨⟨ao', h2⟩, h9, _⟩ | ⟨b, off, cap', h2, _, _, _, h9, _⟩
    · rw [h4] at h2
      cases h2
      rw [h9]
      have e1 : n () = 0 := by simp at h7; omega
      have e2 : (n ()).toNat = 0 := by omega
      rw [e2]
      simp only [List.drop_nil, List.take_nil, List.length_nil]
      exact ⟨[], ⟨by simp, by simp, by simp⟩, firstCells_src hk (by simp) (by simp) (by simp)⟩
    · rw [h4] at h2
      cases h2
      have hl := hlen _ h4
      obtain ⟨us, h10, h11⟩ := rowList_of (List.take (n ()).toNat (List.drop (lo ()).toNat (L ()))) (fun k => w.cell? ⟨b, off + (lo ()).toNat * e2.size + k, none⟩) (fun j x hj => by
        rw [List.getElem?_take] at hj
        split at hj
        · rw [List.getElem?_drop] at hj
          refine CellsM.congr _ (h9 _ x hj) fun k v _ hv => ?_
          rw [← hv]
          congr 2
          rw [Nat.add_mul]; omega
        · cases hj)
      rw [hl]
      refine ⟨us, h10, firstCells_src hk (by rw [h10.1, hl]) h10.2.1 fun hp => ⟨b, off + (lo ()).toNat * e2.size, ?_, fun j u hu => h11 j u hu⟩⟩
      rw [if_neg (by omega)]
      simp [add_lit]
  case bad =>
    simp [Src.list] at hM

end Go.Sx
