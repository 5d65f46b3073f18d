/-
  Symbolic execution: operations that read memory, and addresses.
-/
import Derived.Test.YtebhcmgfhkjmcaaSxD
namespace Go.Sx
set_option linter.all false
set_option linter.unusedVariables false
set_option linter.unusedSimpArgs false
set_option linter.unusedSectionVars false
open Go.RowKit

variable {A : Type} {AI : Abs A} {G : Fr} {s : SS A} {ρ : Ev} {a : Act} {w : World} {P : Program}

theorem add_lit (b o n : Nat) : (⟨b, o, none⟩ : Addr).add n = ⟨b, o + n, none⟩ := by unfold Addr.add; split <;> simp_all

theorem run_loadAt_agg {t : TypeId} {i : TI} (hT : TIfact P t i) (hi : i.isAgg = true) {b off : Nat} {us : List Value} (hl : us.length = i.size) (hc : ∀ (j : Nat) v, us[j]? = some v → w.cell? ⟨b, off + j, none⟩ = some v) :
    (Instr.loadAt t (.pointer (some ⟨b, off, none⟩))).run P w = .ok (.agg us.toArray) w := by
  have h1 := run_loadCells_list (P := P) w ⟨b, off, none⟩ us (fun j v h => by rw [add_lit]; exact hc j v h)
  simp [Instr.loadAt, Instr.sureAddr, loadVar, hT.isAgg, hi, hT.sizeOf, ← hl, h1]
theorem run_loadAt_one {t : TypeId} {i : TI} (hT : TIfact P t i) (hi : i.isAgg = false) {b off : Nat} {u : Value} (hc : w.cell? ⟨b, off, none⟩ = some u) :
    (Instr.loadAt t (.pointer (some ⟨b, off, none⟩))).run P w = .ok u w := by
  simp [Instr.loadAt, Instr.sureAddr, loadVar, hT.isAgg, hi, run_load, hc]

theorem load_cells {t : TypeId} {i : TI} (hT : TIfact P t i) {l : List SV1} {us : List Value} {v : SV} (hl : us.length = i.size) (hd : All2 (Den1 ρ) l us) (hp : pack i l = some v) {b off : Nat}
    (hc : ∀ (j : Nat) v, us[j]? = some v → w.cell? ⟨b, off + j, none⟩ = some v) : ∃ y, (Instr.loadAt t (.pointer (some ⟨b, off, none⟩))).run P w = .ok y w ∧ Den ρ v y := by
  unfold pack at hp
  split at hp
  · rename_i hi
    cases hp
    exact ⟨_, run_loadAt_agg hT hi hl hc, us, rfl, hd⟩
  · rename_i hi
    split at hp
    · cases hp
      cases hd with
      | cons h t => cases t with
        | nil => exact ⟨_, run_loadAt_one hT hi (by simpa using hc 0 _ rfl), h⟩
    · cases hp

theorem load_part {t : TypeId} {i : TI} (hT : TIfact P t i) {l : List SV1} {us : List Value} {v : SV} (hd : All2 (Den1 ρ) l us) {o : Nat} (hp : partOf i l o = some v) {b off : Nat}
    (hc : ∀ (j : Nat) v, us[j]? = some v → w.cell? ⟨b, off + j, none⟩ = some v) : ∃ y, (Instr.loadAt t (.pointer (some ⟨b, off + o, none⟩))).run P w = .ok y w ∧ Den ρ v y := by
  unfold partOf at hp
  split at hp
  · rename_i l' hl'
    obtain ⟨h1, h2⟩ := hd.cut hl'
    refine load_cells hT (by rw [← h1.length, h2]) h1 hp fun j u hj => ?_
    rw [List.getElem?_take] at hj
    split at hj
    · rw [List.getElem?_drop] at hj
      rw [Nat.add_assoc]; exact hc _ _ hj
    · cases hj
  · cases hp

/-- A plan that only looks: what it leaves is what it found. -/
def Looks (s : SS A) (p : Plan A) (cs : List (Chunk A)) : Prop := cs = getCs s.H p.ids

theorem load_sound {t : TypeId} {i : TI} (hT : TIfact P t i) (h : Holds AI G s ρ a.tmps w) {x : SV} {u : Value} (hx : Den ρ x u) {p : Plan A} (hp : loadP i x = some p) {d : List Bool} {C : U Prop} {v : SV} {cs : List (Chunk A)}
    (he : p.eff (getCs s.H p.ids) d = .done C v cs) (hC : C ()) : Looks s p cs ∧ ∃ y, (Instr.loadAt t u).run P w = .ok y w ∧ Den ρ v y := by
  unfold loadP at hp
  split at hp
  · rename_i i' off
    cases hp
    simp only [getCs] at he
    have hc := h.ch i'
    generalize hg : getC s.H i' = c at he hc
    cases c <;> simp at he
    rename_i ct l
    split at he <;> simp at he
    rename_i v' hv'
    obtain ⟨rfl, rfl, rfl⟩ := he
    obtain ⟨b, vs, h1, h2, h3, h4⟩ := hc
    obtain ⟨b', h5, rfl⟩ := hx
    rw [h1] at h5
    cases h5
    refine ⟨by simp [Looks, getCs, hg], ?_⟩
    have := load_part (w := w) hT h4 hv' (b := b) (off := 0) (fun j v hj => by simp [World.cell?, h3, hj])
    simpa using this
  · rename_i e L k off
    split at hp <;> simp [pureP] at hp
    subst hp
    rename_i v' hv'
    simp at he
    obtain ⟨rfl, rfl, rfl⟩ := he
    obtain ⟨b, o, rfl, h1, h2, h3⟩ := hx
    refine ⟨by simp [Looks, getCs], ?_⟩
    have hk : (k ()).toNat < (L ()).length := by omega
    have hx := h3 _ (List.getElem?_eq_getElem hk)
    have hD : (L ()).getD (k ()).toNat e.dflt = (L ())[(k ()).toNat] := by simp [List.getD, List.getElem?_eq_getElem hk]
    obtain ⟨us, h4, h5⟩ := CellsM.dec (ρ := ρ) e (fun _ => (L ()).getD (k ()).toNat e.dflt) _ (by rw [hD]; exact hx)
    exact load_part hT h4 hv' fun j v hj => (h.im _ _ _ (h5 j v hj)).1
  · rename_i i' ver esz k off
    cases hp
    simp only [getCs] at he
    have hc := h.ch i'
    generalize hg : getC s.H i' = c at he hc
    cases c <;> simp at he
    rename_i rt e ver' L
    split at he <;> (try simp at he)
    rename_i hb
    obtain ⟨hb1, hb2⟩ := Bool.and_eq_true_iff.1 hb
    have hb1 := beq_eq hb1
    have hb2 := beq_eq hb2
    subst hb1; subst hb2
    split at he <;> simp at he
    rename_i v' hv'
    obtain ⟨rfl, rfl, rfl⟩ := he
    obtain ⟨p, rfl, -, h1⟩ := hx
    obtain ⟨h2, h3⟩ := hc
    obtain ⟨hk0, b, o, len, cap, h4, rfl⟩ := h1 h2
    refine ⟨by simp [Looks, getCs, hg], ?_⟩
    rcases h3 with ⟨_, h3, _⟩ | ⟨b', off', cap', h5, _, _, _, h6, _⟩
    · exfalso; have := hC.2; rw [h3] at this; simp at this; omega
    · rw [h4] at h5
      cases h5
      have hk : (k ()).toNat < (L ()).length := by have := hC.2; omega
      have hD : (L ()).getD (k ()).toNat e.dflt = (L ())[(k ()).toNat] := by simp [List.getD, List.getElem?_eq_getElem hk]
      obtain ⟨us, h7, h8⟩ := CellsM.dec (ρ := ρ) e (fun _ => (L ()).getD (k ()).toNat e.dflt) _ (by rw [hD]; exact h6 _ _ (List.getElem?_eq_getElem hk))
      exact load_part hT h7 hv' fun j v hj => h8 j v hj
  · cases hp

theorem field_sound {t : TypeId} {i : TI} (hT : TIfact P t i) {x : SV} {u : Value} (hx : Den ρ x u) {f : Nat} {p : Plan A} (hp : fieldP i x f = some p) :
    ∃ C v, p = ⟨[], 0, false, fun _ _ => .done C v []⟩ ∧ (C () → ∃ y, (Instr.fieldAt t u f).run P w = .ok y w ∧ Den ρ v y) := by
  have hk := hT.kind
  unfold fieldP at hp
  split at hp
  · rename_i offs ho
    rw [ho] at hk
    obtain ⟨fs, h1, h2⟩ := hk
    split at hp
    · rename_i o hn
      obtain ⟨fd, h3, rfl, g, h4, h5⟩ := h2.nth hn
      have h3 : fs[f]? = some fd := by simpa using h3
      have h5 : g.size ≠ 0 := by rw [h5]; simp
      have key : ∀ b off, (Instr.fieldAt t (.pointer (some ⟨b, off, none⟩)) f).run P w = .ok (.pointer (some ⟨b, off + fd.offset, none⟩)) w := by
        intro b off
        simp [Instr.fieldAt, run_underlying h1, h3, Instr.sureAddr, fieldPlace, Go.sizeOf, typeInfo, h4, h5, add_lit]
      split at hp
      · cases hp
        obtain ⟨b, e1, rfl⟩ := hx
        exact ⟨_, _, rfl, fun _ => ⟨_, key _ _, b, e1, rfl⟩⟩
      · cases hp
        obtain ⟨b, o', rfl, e1⟩ := hx
        exact ⟨_, _, rfl, fun _ => ⟨_, key _ _, b, o', by rw [Nat.add_assoc], e1⟩⟩
      · cases hp
        obtain ⟨q, rfl, e1, e2⟩ := hx
        rename_i i' ver esz k off
        refine ⟨_, _, rfl, fun _ => ?_⟩
        obtain ⟨b, o', sp⟩ := q
        cases sp with
        | none =>
          refine ⟨_, key _ _, _, rfl, e1, fun ev => ?_⟩
          obtain ⟨e3, b2, o2, len, cap, e4, e5⟩ := e2 ev
          cases e5
          exact ⟨e3, _, o2, len, cap, e4, by simp [Nat.add_assoc]⟩
        | some sp =>
          refine ⟨.pointer (some (Addr.add ⟨b, o', some sp⟩ fd.offset)), by simp [Instr.fieldAt, run_underlying h1, h3, Instr.sureAddr, fieldPlace, Go.sizeOf, typeInfo, h4, h5], _, rfl, e1, fun ev => ?_⟩
          obtain ⟨e3, b2, o2, len, cap, e4, e5⟩ := e2 ev
          cases e5
      · cases hp
    · cases hp
  · cases hp

theorem len_sound {x : SV} {u : Value} {t ty : TypeId} (h : Holds AI G s ρ a.tmps w) (hx : Den ρ x u) {p : Plan A} (hp : lenP x = some p) {d : List Bool} {C : U Prop} {v : SV} {cs : List (Chunk A)}
    (he : p.eff (getCs s.H p.ids) d = .done C v cs) (hC : C ()) (hS : (∃ l, u = .string l) → P.underlying t = some .string) (hL : (∃ ao l c, u = .slice ao l c) → ∃ e, P.underlying t = some (.slice e)) (hmp : (∃ b, u = .map b) → ∃ k e, P.underlying t = some (.map k e)) :
    Looks s p cs ∧ ∃ y, (Builtin.len_ #[t] ty #[u]).run P w = .ok y w ∧ Den ρ v y := by
  have key : ∀ ao l c, u = .slice ao l c → (Builtin.len_ #[t] ty #[u]).run P w = .ok (.int .i64 l) w := by
    rintro ao l c rfl
    obtain ⟨e, hu⟩ := hL ⟨_, _, _, rfl⟩
    simp [Builtin.len_, run_underlying hu, goInt]
  unfold lenP at hp
  split at hp
  · cases hp
    simp at he
    obtain ⟨rfl, rfl, rfl⟩ := he
    obtain ⟨ao, cap, rfl, _⟩ := hx
    exact ⟨rfl, _, key _ _ _ rfl, rfl⟩
  · cases hp
    simp at he
    obtain ⟨rfl, rfl, rfl⟩ := he
    cases hx
    exact ⟨rfl, _, key _ _ _ rfl, rfl⟩
  · cases hp
    simp at he
    obtain ⟨rfl, rfl, rfl⟩ := he
    cases hx
    refine ⟨rfl, ?_⟩
    have hu := hS ⟨_, rfl⟩
    exact ⟨_, by simp [Builtin.len_, run_underlying hu]; rfl, by simp [Den, Den2, one, Den1, goInt, ByteArray.size]⟩
  · cases hp
    simp at he
    obtain ⟨rfl, rfl, rfl⟩ := he
    obtain ⟨_, h0, _⟩ := hx
    obtain ⟨ao, c, rfl⟩ := h0 hC
    exact ⟨rfl, _, key _ _ _ rfl, by simp only [Den, Den2, one, Den1]; rw [Int.toNat_of_nonneg hC]⟩
  · rename_i i ver
    cases hp
    simp only [getCs] at he
    have hc := h.ch i
    generalize hg : getC s.H i = c at he hc
    cases c <;> simp at he
    rename_i rt e ver' L
    split at he <;> simp at he
    rename_i hb
    have hb := beq_eq hb
    subst hb
    obtain ⟨rfl, rfl, rfl⟩ := he
    obtain ⟨h1, h2⟩ := hc
    obtain ⟨_, _, h3⟩ := hx
    refine ⟨by simp [Looks, getCs, hg], ?_⟩
    have h3 := h3 h1
    rcases h2 with ⟨⟨ao, h2⟩, h4, _⟩ | ⟨b, off, cap, h2, _⟩
    · rw [h2] at h3
      exact ⟨_, key _ _ _ h3, by simp [Den, Den2, one, Den1, h4]⟩
    · rw [h2] at h3
      exact ⟨_, key _ _ _ h3, by simp [Den, Den2, one, Den1]⟩
  · rename_i i
    cases hp
    simp only [getCs] at he
    have hc := h.ch i
    generalize hg : getC s.H i = c at he hc
    cases c <;> (try (simp at he; done))
    rename_i ks e L
    simp at he
    obtain ⟨rfl, rfl, rfl⟩ := he
    obtain ⟨b, es, clock, h1, h2, h3, h4⟩ := hc
    obtain ⟨b', h5, rfl⟩ := hx
    rw [h1] at h5
    cases h5
    obtain ⟨k, e', hu⟩ := hmp ⟨_, rfl⟩
    refine ⟨by simp [Looks, getCs, hg], .int .i64 es.size, ?_, ?_⟩
    · simp [Builtin.len_, run_underlying hu, MapKept.run_getObj_map h3, goInt]
    · have := h4.1.length
      simp [Den, Den2, one, Den1, this]
  · cases hp

end Go.Sx
