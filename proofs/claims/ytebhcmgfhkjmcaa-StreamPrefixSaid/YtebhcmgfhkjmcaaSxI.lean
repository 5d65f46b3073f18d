/-
  Symbolic execution: append, a store to an element, slice literals, make, struct literals.
-/
import Derived.Test.YtebhcmgfhkjmcaaSxH
namespace Go.Sx
set_option linter.all false
set_option linter.unusedVariables false
set_option linter.unusedSimpArgs false
set_option linter.unusedSectionVars false
open Go.RowKit

variable {A : Type} {AI : Abs A} {G : Fr} {s : SS A} {ρ : Ev} {a : Act} {w : World} {P : Program}

theorem size_zeroCells' (z : Array Value) (n : Nat) : (Builtin.zeroCells z n).size = n * z.size := by simp [Builtin.zeroCells]

/-- A row in a new block. -/
theorem rowAt_new {M : Mem} {e : Ty} {L : List e.T} {us : List Value} (h : RowList M e L us) {rest : Array Value} {cap : Nat} (hcap : L.length ≤ cap) (hmax : cap ≤ maxLen) (hr : rest.size = (cap - L.length) * e.size) (t : TypeId) :
    RowAt M (w.alloc (.cells (us.toArray ++ rest) t (0, 0))) e L (.slice (some ⟨w.heap.size, 0, none⟩) L.length cap) [w.heap.size] := by
  obtain ⟨h1, h2, h3⟩ := h
  have hcell : ∀ k, (w.alloc (.cells (us.toArray ++ rest) t (0, 0))).cell? ⟨w.heap.size, k, none⟩ = (us.toArray ++ rest)[k]? := fun k => World.cell?_alloc_new w _ t k
  refine .inr ⟨w.heap.size, 0, cap, rfl, rfl, hcap, hmax, fun j x hj => ?_, fun j hj => ⟨?_, World.frozen?_alloc_new w _ _ _⟩⟩
  · refine CellsM.congr e (h3 j x hj) fun k v hk hv => ?_
    rw [hcell, Nat.zero_add]
    have hlt := (List.getElem?_eq_some_iff.1 hv).1
    rw [Array.getElem?_append_left (by simpa using hlt)]
    simpa using hv
  · rw [hcell, Nat.zero_add, Array.getElem?_eq_getElem]
    · rfl
    · simp only [Array.size_append, List.size_toArray, hr, h1]
      rw [← Nat.add_mul]
      have : L.length + (cap - L.length) = cap := by omega
      rw [this]; exact hj

theorem Holds.drew {tmps : Array Value} (h : Holds AI G s ρ tmps w) : Holds AI G s ρ tmps w.drew :=
  ⟨h.sz, h.tm, fun i => (h.ch i).stays (.refl _) rfl rfl rfl fun _ _ => rfl, h.dis, h.lt, h.im, h.os, h.tape, h.output, h.grow, h.kept, h.fro, h.rt, h.rts, h.mono, h.mfr⟩

theorem append_sound {t tx : TypeId} {i : TI} (hT : TIfact P t i) {e' : TypeId} (hk : P.underlying tx = some (.slice e')) (h : Holds AI G s ρ a.tmps w) {x y : SV} {u v : Value} (hx : Den ρ x u) (hy : Den ρ y v) {fresh : Nat} {p : Plan A}
    (hp : appendP i x y fresh = some p) {d : List Bool} {C : U Prop} {r : SV} {cs : List (Chunk A)} (he : p.eff (getCs s.H p.ids) d = .done C r cs) (hC : C ()) (ty : TypeId) :
    Done AI G P s a w ρ (Builtin.append_ #[t, tx] ty #[u, v]) (putCs s.H p.ids cs) r := by
  have hkind := hT.kind
  unfold appendP appendQ at hp
  have hsrc := srcOf_den hy
  generalize srcOf y = src at hp hsrc
  split at hp
  · rename_i et0 e0 hki
    rw [hki] at hkind
    obtain ⟨hu, g, hg1, hg2⟩ := hkind
    obtain ⟨hsz, hpos, hby, _, z, hz, hz1, hz2⟩ := hg2 e0 rfl
    split at hp
    · rename_i i' ver
      split at hp
      · cases hp
      · rename_i hni
        cases hp
        simp only [getCs] at he
        have hc := h.ch i'
        generalize hg : getC s.H i' = c at he hc
        cases c <;> (try (simp at he; done))
        rename_i et e ver' L
        dsimp only at he
        split at he <;> (try (simp at he; done))
        rename_i hb
        obtain ⟨hb, hb3⟩ := Bool.and_eq_true_iff.1 hb
        obtain ⟨hb1, hb2⟩ := Bool.and_eq_true_iff.1 hb
        have hb1 := beq_eq hb1
        have hb2 := beq_eq hb2
        simp at hb3
        subst hb1; subst hb2; subst hb3
        split at he <;> (try (simp at he; done))
        rename_i M hM
        simp at he
        obtain ⟨rfl, rfl, rfl⟩ := he
        obtain ⟨news, hn1, hn2⟩ := Src.list_sound (P := P) h hsrc rfl hM hk
        obtain ⟨h1, h2⟩ := hc
        obtain ⟨_, hle, h3⟩ := hx
        have h3 := h3 h1
        subst h3
        have hput : ∀ c, ∀ j, getC (putCs s.H (i' :: src.ids) (c :: getCs s.H src.ids)) j = getC (putC s.H i' c) j := by
          intro c j
          simp only [putCs]
          have key : ∀ (ids : List Nat) (H : List (Chunk A)), (∀ k ∈ ids, k ≠ i') → (∀ j, j ≠ i' → getC H j = getC s.H j) → ∀ j, getC (putCs H ids (getCs s.H ids)) j = getC H j := by
            intro ids
            induction ids with
            | nil => intro H _ _ j; rfl
            | cons k ks ih =>
              intro H hk hH j
              simp only [putCs, getCs]
              have hk0 := hk k (by simp)
              rw [ih _ (fun m hm => hk m (by simp [hm])) (fun m hm => by
                rw [getC_putC]; split
                · rename_i e; rw [e]
                · exact hH m hm), getC_putC]
              split
              · rename_i e; subst e; exact (hH _ hk0).symm
              · rfl
          refine key _ _ (fun k hk e => ?_) (fun m hm => by rw [getC_putC, if_neg hm]) j
          subst e
          have : (src.ids.any (beqN k)) = true := List.any_eq_true.2 ⟨k, hk, by simp⟩
          rw [this] at hni
          cases hni
        have hlen : (L ()).length + (M ()).length ≤ 1099511627776 := hC
        have grow : ∀ (bs : Option Addr) (sc : Nat) (us : List Value), ρ.root i' = .slice bs (L ()).length sc → sc < (L ()).length + (M ()).length → RowList ρ.M e (L ()) us →
            (Builtin.firstCells g.size (L ()).length (.slice bs (L ()).length sc)).run P w.drew = .ok us.toArray w.drew →
            Done AI G P s a w ρ (Builtin.append_ #[t, tx] ty #[ρ.root i', v]) (putCs s.H (i' :: src.ids) (.row et e (ver + 1) (fun _ => L () ++ M ()) :: getCs s.H src.ids)) (one (.hd i' (ver + 1))) := by
          intro bs sc us hroot hgt hus hold
          have hrun := run_append_grow_src (P := P) w t tx ty et g z hu hg1 hz bs (L ()).length sc us hold v (M ()).length news (hsz ▸ hn2) hgt (by omega)
            (growslice_fits hgt (by have := Nat.mul_le_mul_left ((L ()).length + (M ()).length) hby; omega))
          have hge := grownCap_ge w ((L ()).length + (M ()).length) sc et
          have hcm := grownCap_le_maxLen w ((L ()).length + (M ()).length) sc et (by simp [maxLen]; omega)
          generalize grownCap w ((L ()).length + (M ()).length) sc et = cp at *
          have hrow := rowAt_new (w := w.drew) (rowList_append hus hn1) (rest := Builtin.zeroCells z.cells (cp - ((L ()).length + (M ()).length))) (cap := cp) (by simpa using hge) hcm (by rw [size_zeroCells', hz1]; simp) et
          obtain ⟨h4, h5⟩ := h.drew.upd1 i' (.slice (some ⟨w.heap.size, 0, none⟩) ((L ()).length + (M ()).length) cp) (ver + 1) [w.heap.size] (.row et e (ver + 1) (fun _ => L () ++ M ())) (w.drew.alloc (.cells ((us ++ news).toArray ++ Builtin.zeroCells z.cells (cp - ((L ()).length + (M ()).length))) et))
            (by rw [hroot]; simp) (by omega) (by omega) (fun b' hb' => by obtain rfl : b' = w.heap.size := (by simpa using hb'); exact ⟨.inr (Nat.le_refl _), by rw [World.size_alloc]; exact Nat.lt_succ_self _⟩) (fun b hb _ => alloc_lt w.drew _ hb) rfl rfl rfl (by simp)
            (by
              refine ⟨by simp [Ev.upd], ?_⟩
              have e1 : (Ev.upd ρ i' (.slice (some ⟨w.heap.size, 0, none⟩) ((L ()).length + (M ()).length) cp) (ver + 1) [w.heap.size]).root i' = .slice (some ⟨w.heap.size, 0, none⟩) ((L ()).length + (M ()).length) cp := by simp [Ev.upd]
              have e2 : (Ev.upd ρ i' (.slice (some ⟨w.heap.size, 0, none⟩) ((L ()).length + (M ()).length) cp) (ver + 1) [w.heap.size]).foot i' = [w.heap.size] := by simp [Ev.upd]
              rw [e1, e2]
              show RowAt ρ.M _ _ _ _ _
              simpa using hrow)
          rw [hroot]
          exact ⟨_, _, _, hrun, h4.congrH (hput _), ⟨⟨_, _, _, rfl⟩, by simp [Ev.upd], fun _ => by simp [Ev.upd]⟩, h5⟩
        rcases h2 with ⟨⟨ao, h2⟩, h4, h5⟩ | ⟨b, off, cap, h2, h5, hlc, hcm, h6, h7⟩
        · rcases Nat.eq_zero_or_pos (M ()).length with h0 | h0
          · have eM := List.eq_nil_of_length_eq_zero h0
            have e1 := hn2.cells
            have e2 : news = [] := by apply List.eq_nil_of_length_eq_zero; rw [hn1.1, h0]; simp
            obtain ⟨h8, h9⟩ := h.upd1 i' (.slice ao 0 0) (ver + 1) [] (.row et e (ver + 1) (fun _ => L () ++ M ())) w (by rw [h2]; simp) (by omega) (by omega) (by simp) (fun _ _ _ => rfl) rfl rfl rfl (Nat.le_refl _)
              ⟨by simp [Ev.upd], .inl ⟨by simp [Ev.upd], by simp [h4, eM], by simp [Ev.upd]⟩⟩
            rw [h2]
            refine ⟨.slice ao 0 0, _, w, ?_, h8.congrH (hput _), ⟨⟨_, _, _, rfl⟩, by simp [Ev.upd], fun _ => by simp [Ev.upd]⟩, h9⟩
            rw [e2, h0] at e1
            rcases hn2.kind with ⟨e3, hk3⟩ | hk3
            · cases ao <;> simp [Builtin.append_, run_underlying hu, run_underlying hk3, Go.sizeOf, typeInfo, hg1, hn2.len, h0, hsz, e1, storeCells]
            · rw [hk] at hk3; cases hk3
          · refine grow ao 0 [] (by rw [h2, h4]; rfl) (by rw [h4]; simpa using h0) (by rw [h4]; exact ⟨by simp, by simp, by simp⟩) ?_
            rw [h4]
            cases ao with
            | none => exact run_firstCells_none _ _ _ _ _
            | some q => exact run_firstCells_some _ _ 0 q _ _ [] (by simp) (by simp)
        · obtain ⟨us, hus, hus2⟩ := rowList_of (L ()) (fun k => w.cell? ⟨b, off + k, none⟩) (fun j x hj => by
            have := h6 j x hj
            simpa only [Nat.add_assoc] using this)
          by_cases hr : (L ()).length + (M ()).length ≤ cap
          · have hbnd : ∀ j, j < news.length → (L ()).length * e.size + j < cap * e.size := by
              intro j hj
              rw [hn1.1] at hj
              have := Nat.mul_le_mul_right e.size hr
              rw [Nat.add_mul] at this; omega
            have hsome : ∀ j, j < news.length → (w.cell? ⟨b, off + (L ()).length * e.size + j, none⟩).isSome = true := fun j hj => by
              have := (h7 _ (hbnd j hj)).1; simpa only [Nat.add_assoc] using this
            have hrun := run_append_room_src (P := P) w t tx ty et g hu hg1 b off (L ()).length cap v (M ()).length news (hsz ▸ hn2) hr (by rw [hsz]; exact hsome) (by
              rw [hsz]; exact fun j hj => by have := (h7 _ (hbnd j hj)).2; simpa only [Nat.add_assoc] using this)
            rw [hsz] at hrun
            have hlt : b < w.heap.size := h.lt i' b (by simp [h5])
            obtain ⟨h8, h9⟩ := h.upd1 i' (.slice (some ⟨b, off, none⟩) ((L ()).length + (M ()).length) cap) (ver + 1) [b] (.row et e (ver + 1) (fun _ => L () ++ M ())) (w.setCells b (off + (L ()).length * e.size) news)
              (by rw [h2]; simp) (by omega) (by omega) (fun b' hb' => ⟨.inl (by rw [h5]; exact hb'), by rw [setCells_size]; simp at hb'; omega⟩)
              (fun b' _ hn => setCells_other b _ _ _ _ (fun e => hn (by rw [h5, e]; simp))) (setCells_rest _ _ _ _).1 (setCells_rest _ _ _ _).2.1 (setCells_rest _ _ _ _).2.2 (by rw [setCells_size]; exact Nat.le_refl _)
              (by
                refine ⟨by simp [Ev.upd], .inr ⟨b, off, cap, by simp [Ev.upd], by simp [Ev.upd], by simpa using hr, hcm, fun j x hj => ?_, fun j hj => ⟨?_, ?_⟩⟩⟩
                · have hall := (rowList_append hus hn1).2.2 j x hj
                  refine CellsM.congr e hall fun k v _ hv => ?_
                  rw [setCells_cell hsome]
                  have hl0 := hus.1
                  split
                  · rename_i hin
                    rw [List.getElem?_append_right (by omega)] at hv
                    rw [← hv]; congr 1; omega
                  · rename_i hout
                    have hvl := (List.getElem?_eq_some_iff.1 hv).1
                    rw [List.length_append] at hvl
                    rw [List.getElem?_append_left (by omega)] at hv
                    have := hus2 _ _ hv
                    simpa only [Nat.add_assoc] using this
                · rw [setCells_cell hsome]
                  split
                  · rw [List.getElem?_eq_getElem (by omega)]; rfl
                  · exact (h7 j hj).1
                · rw [World.frozen?_setCells]; exact (h7 j hj).2)
            rw [h2]
            exact ⟨_, _, _, hrun, h8.congrH (hput _), ⟨⟨_, _, _, rfl⟩, by simp [Ev.upd], fun _ => by simp [Ev.upd]⟩, h9⟩
          · refine grow (some ⟨b, off, none⟩) cap us h2 (by omega) hus ?_
            exact run_firstCells_some w.drew _ _ _ _ _ us (by rw [hsz]; exact hus.1) fun j v hj => by rw [add_lit]; exact hus2 j v hj
    · split at hp
      · cases hp
      · rename_i hni
        cases hp
        simp only [getCs] at he
        have hc := h.ch fresh
        generalize hg : getC s.H fresh = c at he hc
        cases c <;> (try (simp at he; done))
        dsimp only at he
        split at he <;> (try (simp at he; done))
        rename_i M hM
        simp at he
        obtain ⟨rfl, rfl, rfl⟩ := he
        obtain ⟨news, hn1, hn2⟩ := Src.list_sound (P := P) h hsrc rfl hM hk
        obtain ⟨hc1, hc2, hc3⟩ := hc
        cases hx
        have hput : ∀ c, ∀ j, getC (putCs s.H (fresh :: src.ids) (c :: getCs s.H src.ids)) j = getC (putC s.H fresh c) j := by
          intro c j
          simp only [putCs]
          have key : ∀ (ids : List Nat) (H : List (Chunk A)), (∀ k ∈ ids, k ≠ fresh) → (∀ j, j ≠ fresh → getC H j = getC s.H j) → ∀ j, getC (putCs H ids (getCs s.H ids)) j = getC H j := by
            intro ids
            induction ids with
            | nil => intro H _ _ j; rfl
            | cons k ks ih =>
              intro H hk hH j
              simp only [putCs, getCs]
              have hk0 := hk k (by simp)
              rw [ih _ (fun m hm => hk m (by simp [hm])) (fun m hm => by
                rw [getC_putC]; split
                · rename_i e; rw [e]
                · exact hH m hm), getC_putC]
              split
              · rename_i e; subst e; exact (hH _ hk0).symm
              · rfl
          refine key _ _ (fun k hk e => ?_) (fun m hm => by rw [getC_putC, if_neg hm]) j
          subst e
          have : (src.ids.any (beqN k)) = true := List.any_eq_true.2 ⟨k, hk, by simp⟩
          rw [this] at hni
          cases hni
        have hlen : (M ()).length ≤ 1099511627776 := hC
        rcases Nat.eq_zero_or_pos (M ()).length with h0 | h0
        · have eM := List.eq_nil_of_length_eq_zero h0
          have e1 := hn2.cells
          have e2 : news = [] := by apply List.eq_nil_of_length_eq_zero; rw [hn1.1, h0]; simp
          obtain ⟨h8, h9⟩ := h.upd1 fresh (.slice none 0 0) 0 [] (.row et0 e0 0 M) w (by rw [hc2]; simp) (by omega) (by rw [hc2]; simp) (by simp) (fun _ _ _ => rfl) rfl rfl rfl (Nat.le_refl _)
            ⟨by simp [Ev.upd], .inl ⟨by simp [Ev.upd], eM, by simp [Ev.upd]⟩⟩
          refine ⟨.slice none 0 0, _, w, ?_, h8.congrH (hput _), ⟨⟨_, _, _, rfl⟩, by simp [Ev.upd], fun _ => by simp [Ev.upd]⟩, h9⟩
          rw [e2, h0] at e1
          simp [Builtin.append_, run_underlying hu, run_underlying hk, Go.sizeOf, typeInfo, hg1, hn2.len, h0, hsz, e1, storeCells]
        · have hrun := run_append_grow_src (P := P) w t tx ty et0 g z hu hg1 hz none 0 0 [] (run_firstCells_none _ _ _ _ _) v (M ()).length news (hsz ▸ hn2) (by omega) (by omega)
            (growslice_fits (by omega) (by have := Nat.mul_le_mul_left (0 + (M ()).length) hby; omega))
          simp only [Nat.zero_add, List.nil_append] at hrun
          have hge := grownCap_ge w (M ()).length 0 et0
          have hcm := grownCap_le_maxLen w (M ()).length 0 et0 (by simp [maxLen]; omega)
          generalize grownCap w (M ()).length 0 et0 = cp at *
          have hrow := rowAt_new (w := w.drew) hn1 (rest := Builtin.zeroCells z.cells (cp - (M ()).length)) (cap := cp) hge hcm (by rw [size_zeroCells', hz1]) et0
          obtain ⟨h4, h5⟩ := h.drew.upd1 fresh (.slice (some ⟨w.heap.size, 0, none⟩) (M ()).length cp) 0 [w.heap.size] (.row et0 e0 0 M) (w.drew.alloc (.cells (news.toArray ++ Builtin.zeroCells z.cells (cp - (M ()).length)) et0))
            (by rw [hc2]; simp) (by omega) (by rw [hc2]; simp) (fun b' hb' => by obtain rfl : b' = w.heap.size := (by simpa using hb'); exact ⟨.inr (Nat.le_refl _), by rw [World.size_alloc]; exact Nat.lt_succ_self _⟩) (fun b hb _ => alloc_lt w.drew _ hb) rfl rfl rfl (by simp)
            (by
              refine ⟨by simp [Ev.upd], ?_⟩
              have e1 : (Ev.upd ρ fresh (.slice (some ⟨w.heap.size, 0, none⟩) (M ()).length cp) 0 [w.heap.size]).root fresh = .slice (some ⟨w.heap.size, 0, none⟩) (M ()).length cp := by simp [Ev.upd]
              have e2 : (Ev.upd ρ fresh (.slice (some ⟨w.heap.size, 0, none⟩) (M ()).length cp) 0 [w.heap.size]).foot fresh = [w.heap.size] := by simp [Ev.upd]
              rw [e1, e2]
              show RowAt ρ.M _ _ _ _ _
              exact hrow)
          exact ⟨_, _, _, hrun, h4.congrH (hput _), ⟨⟨_, _, _, rfl⟩, by simp [Ev.upd], fun _ => by simp [Ev.upd]⟩, h5⟩
    · cases hp
  · cases hp

end Go.Sx
