/-
  Symbolic execution: a store to an element, slice literals, make, struct literals; all operations together.
-/
import Derived.Test.YtebhcmgfhkjmcaaSxI
namespace Go.Sx
set_option linter.all false
set_option linter.unusedVariables false
set_option linter.unusedSimpArgs false
set_option linter.unusedSectionVars false
open Go.RowKit

variable {A : Type} {AI : Abs A} {G : Fr} {s : SS A} {ρ : Ev} {a : Act} {w : World} {P : Program}

theorem pasteV_length {α : Type} (m : List α) (o : Nat) (u : List α) (h : o + u.length ≤ m.length) : (pasteV m o u).length = m.length := by
  simp [pasteV]; omega
theorem pasteV_get {α : Type} (m : List α) (o : Nat) (u : List α) (h : o + u.length ≤ m.length) (k : Nat) : (pasteV m o u)[k]? = if o ≤ k ∧ k < o + u.length then u[k - o]? else m[k]? := by
  unfold pasteV
  have hl : (m.take o).length = o := by rw [List.length_take]; omega
  by_cases h1 : k < o
  · rw [if_neg (by omega), List.append_assoc, List.getElem?_append_left (by omega), List.getElem?_take, if_pos h1]
  · rw [List.append_assoc, List.getElem?_append_right (by omega), hl]
    by_cases h2 : k < o + u.length
    · rw [if_pos ⟨by omega, h2⟩, List.getElem?_append_left (by omega)]
    · rw [if_neg (by omega), List.getElem?_append_right (by omega), List.getElem?_drop]
      congr 1; omega

theorem upd_self (ρ : Ev) (k : Nat) : ρ.upd k (ρ.root k) (ρ.ver k) (ρ.foot k) = ρ := by
  cases ρ; simp only [Ev.upd, Ev.mk.injEq, true_and]
  exact ⟨by funext j; split <;> simp_all, by funext j; split <;> simp_all, by funext j; split <;> simp_all⟩

theorem store_ep {t : TypeId} {i : TI} (hT : TIfact P t i) (h : Holds AI G s ρ a.tmps w) {k ver esz off : Nat} {n : U Int} {rt : TypeId} {e : Ty} {L : U (List e.T)} {l' vs : List SV1} {y : U e.T} {u v : Value} (hu : Den ρ (one (.ep k ver esz n off)) u) (hk : getC s.H k = .row rt e ver L) (hes : esz = e.size)
    (hv : All2 (Den1 ρ) vs v.cells.toList) (hsz : vs.length = i.size) (hst : vs.all storable = true) (hp : paste (dec e (fun _ => (L ()).getD (n ()).toNat e.dflt)) off vs = some l') (he : enc e l' = some (y, [])) (hn : 0 ≤ n () ∧ n () < (L ()).length) :
    ∃ w', (Instr.storeAt t u v).run P w = .ok () w' ∧ Holds AI G ⟨s.tm, putC s.H k (.row rt e ver (fun _ => (L ()).set (n ()).toNat (y ())))⟩ ρ a.tmps w' := by
  subst hes
  obtain ⟨p, rfl, hle, hp2⟩ := hu
  have hc := h.ch k
  rw [hk] at hc
  obtain ⟨h1, h2⟩ := hc
  obtain ⟨_, b, o, len, cap, h3, rfl⟩ := hp2 h1
  have hlen : v.cells.toList.length = i.size := by rw [← hv.length, hsz]
  have hlen' : v.cells.size = i.size := by simpa using hlen
  rcases h2 with ⟨_, h2, _⟩ | ⟨b', o', cap', h2, h4, h5, h6, h7, h8⟩
  · exfalso; have := hn.2; rw [h2] at this; simp at this; omega
  rw [h3] at h2
  cases h2
  have hkn : (n ()).toNat < (L ()).length := by omega
  have hD : (L ()).getD (n ()).toNat e.dflt = (L ())[(n ()).toNat] := by simp [List.getD, List.getElem?_eq_getElem hkn]
  have hold := h7 _ _ (List.getElem?_eq_getElem hkn)
  obtain ⟨us, h9, h10⟩ := CellsM.dec (ρ := ρ) e (fun _ => (L ()).getD (n ()).toNat e.dflt) _ (by rw [hD]; exact hold)
  have husl : us.length = e.size := by rw [← h9.length, dec_length]
  obtain ⟨h11, h12, h13⟩ := h9.paste hv hp
  obtain ⟨v1, v2, e1, e2, e3, e4⟩ := CellsM.enc e he h11
  cases e4
  simp only [List.append_nil] at e1
  have hfit : off + v.cells.toList.length ≤ us.length ∨ vs = [] := by
    by_cases h0 : vs = []
    · exact .inr h0
    · exact .inl (h13 h0)
  have hmul : (n ()).toNat * e.size + e.size ≤ cap * e.size := by
    have := Nat.mul_le_mul_right e.size (show (n ()).toNat + 1 ≤ cap by omega)
    rw [Nat.add_mul] at this; omega
  have hsome : ∀ j, j < v.cells.toList.length → (w.cell? ⟨b, o + (n ()).toNat * e.size + off + j, none⟩).isSome = true := by
    intro j hj
    rcases hfit with hf | hf
    · have := (h8 ((n ()).toNat * e.size + (off + j)) (by omega)).1
      simpa only [Nat.add_assoc] using this
    · subst hf; rw [← hv.length] at hj; simp at hj
  have hfree : ∀ j, j < v.cells.toList.length → w.frozen? ⟨b, o + (n ()).toNat * e.size + off + j, none⟩ = false := by
    intro j hj
    rcases hfit with hf | hf
    · have := (h8 ((n ()).toNat * e.size + (off + j)) (by omega)).2
      simpa only [Nat.add_assoc] using this
    · subst hf; rw [← hv.length] at hj; simp at hj
  have hrun := run_storeCells_cells (P := P) b (o + (n ()).toNat * e.size + off) v.cells.toList 0 w (by simpa using hsome) (by simpa using hfree) (hv.storable hst)
  simp only [Nat.add_zero] at hrun
  have hrun2 : (Instr.storeAt t (.pointer (some ⟨b, o + (n ()).toNat * e.size + off, none⟩)) v).run P w = .ok () (w.setCells b (o + (n ()).toNat * e.size + off) v.cells.toList) := by
    simp [Instr.storeAt, Instr.sureAddr, storeVar, hT.sizeOf, hlen']
    exact hrun
  refine ⟨_, hrun2, ?_⟩
  have := (h.upd1 k (ρ.root k) (ρ.ver k) (ρ.foot k) (.row rt e ver (fun _ => (L ()).set (n ()).toNat (y ()))) (w.setCells b (o + (n ()).toNat * e.size + off) v.cells.toList)
    (fun _ h => h) (Nat.le_refl _) (fun _ _ => rfl) (fun bb hbb => ⟨.inl hbb, by rw [setCells_size]; exact h.lt k bb hbb⟩)
    (fun b2 _ hn => setCells_other b _ _ _ _ (fun e => hn (by rw [h4, e]; simp))) (setCells_rest _ _ _ _).1 (setCells_rest _ _ _ _).2.1 (setCells_rest _ _ _ _).2.2 (by rw [setCells_size]; exact Nat.le_refl _)
    (by
      rw [upd_self]
      refine ⟨h1, .inr ⟨b, o, cap, by rw [h3]; simp, h4, by simpa using h5, h6, fun j x hj => ?_, fun j hj => ⟨?_, ?_⟩⟩⟩
      · rw [List.getElem?_set] at hj
        split at hj
        · rename_i hjn
          cases hj
          subst hjn
          refine CellsM.congr e e3 fun q z hq hz => ?_
          rw [setCells_cell hsome]
          rw [← e1] at hz
          rcases hfit with hf | hf
          · rw [pasteV_get _ _ _ hf] at hz
            split at hz
            · rename_i hin
              rw [if_pos (by omega), ← hz]; congr 1; omega
            · rename_i hout
              rw [if_neg (by omega)]
              have := h10 _ _ hz
              simpa only [Nat.add_assoc] using this
          · subst hf
            have e0 : v.cells.toList = [] := by generalize v.cells.toList = q at hv; cases hv; rfl
            rw [e0] at hz
            rw [if_neg (by rw [e0]; simp)]
            have := h10 _ _ (by simpa [pasteV] using hz)
            simpa only [Nat.add_assoc] using this
        · rename_i hjn
          refine CellsM.congr e (h7 j x hj) fun q z hq hz => ?_
          rw [setCells_cell hsome, if_neg ?_]
          · exact hz
          · intro hin
            rcases hfit with hf | hf
            · rcases Nat.lt_or_gt_of_ne hjn with hlt | hlt
              · have := Nat.mul_le_mul_right e.size (show (n ()).toNat + 1 ≤ j by omega)
                rw [Nat.add_mul] at this; omega
              · have := Nat.mul_le_mul_right e.size (show j + 1 ≤ (n ()).toNat by omega)
                rw [Nat.add_mul] at this; omega
            · subst hf
              have e0 : v.cells.toList = [] := by generalize v.cells.toList = q at hv; cases hv; rfl
              rw [e0] at hin; simp at hin; omega
      · rw [setCells_cell hsome]
        split
        · rw [List.getElem?_eq_getElem (by omega)]; rfl
        · exact (h8 j hj).1
      · rw [World.frozen?_setCells]; exact (h8 j hj).2)).1
  rwa [upd_self] at this

theorem storeQ_sound {t : TypeId} {i : TI} (hT : TIfact P t i) (h : Holds AI G s ρ a.tmps w) {x y : SV} {u v : Value} (hx : Den ρ x u) (hy : Den ρ y v) {p : Plan A} (hp : storeQ i x y = some p) {d : List Bool} {C : U Prop} {r : SV} {cs : List (Chunk A)}
    (he : p.eff (getCs s.H p.ids) d = .done C r cs) (hC : C ()) : ∃ w', (Instr.storeAt t u v).run P w = .ok () w' ∧ Holds AI G ⟨s.tm, putCs s.H p.ids cs⟩ ρ a.tmps w' ∧ r = one .any := by
  unfold storeQ at hp
  split at hp
  · cases hp
  · rename_i vs hvs
    split at hp
    · cases hp
    · rename_i hb
      obtain ⟨hb1, hb2⟩ := Bool.and_eq_true_iff.1 hb
      have hb1 := beq_eq hb1
      have hv := cellsOf_den hvs hy hb2
      split at hp
      · rename_i k off
        cases hp
        simp only [getCs] at he
        generalize hg : getC s.H k = c at he
        cases c <;> (try (simp at he; done))
        dsimp only at he
        split at he <;> (try (simp at he; done))
        rename_i l hl
        simp at he
        obtain ⟨rfl, rfl, rfl⟩ := he
        obtain ⟨w', h1, h2⟩ := store_ptr hT h hx hg hv hb1 hb2 hl
        exact ⟨w', h1, h2, rfl⟩
      · rename_i k ver esz n off
        cases hp
        simp only [getCs] at he
        generalize hg : getC s.H k = c at he
        cases c <;> (try (simp at he; done))
        dsimp only at he
        split at he <;> (try (simp at he; done))
        rename_i hbb
        obtain ⟨hb3, hb4⟩ := Bool.and_eq_true_iff.1 hbb
        have hb3 := beq_eq hb3
        have hb4 := beq_eq hb4
        subst hb3
        split at he <;> (try (simp at he; done))
        rename_i l hl
        split at he <;> (try (simp at he; done))
        rename_i y' hy'
        simp at he
        obtain ⟨rfl, rfl, rfl⟩ := he
        obtain ⟨w', h1, h2⟩ := store_ep hT h hx hg hb4 hv hb1 hb2 hl hy' hC
        exact ⟨w', h1, h2, rfl⟩
      · cases hp

/-- A part of a row, from now on the row. -/
theorem Holds.reroot {tmps : Array Value} (h : Holds AI G s ρ tmps w) {j ver : Nat} {rt : TypeId} {e : Ty} {L : U (List e.T)} (hj : getC s.H j = .row rt e ver L) {lo n : U Int} {v : Value} (hv : Den1 ρ (.vw j ver e.size lo n) v) :
    ∃ ρ', Holds AI G ⟨s.tm, putC s.H j (.row rt e (ver + 1) (fun _ => ((L ()).drop (lo ()).toNat).take (n ()).toNat))⟩ ρ' tmps w ∧ Den1 ρ' (.hd j (ver + 1)) v ∧ ρ.Le ρ' ∧ ρ'.root = (fun k => if k = j then v else ρ.root k) := by
  have hc := h.ch j
  rw [hj] at hc
  obtain ⟨h1, h2⟩ := hc
  obtain ⟨⟨ao0, l0, c0, rfl⟩, _, hle, h3⟩ := hv
  obtain ⟨ao, len, cap, h4, h5, h6, h7, h8, h9⟩ := h3 h1
  have hnp : ∀ b, ρ.root j ≠ .pointer b := by intro b; rw [h4]; simp
  rcases h2 with ⟨⟨ao1, h2⟩, hL, hF⟩ | ⟨b, off, cap', h2, hF, h10, h11, h12, h13⟩
  · rw [h4] at h2
    cases h2
    have e1 : (lo ()).toNat = 0 := by simp at h7; omega
    have e2 : (n ()).toNat = 0 := by simp at h7; omega
    rw [e1, e2] at h9
    simp at h9
    obtain ⟨rfl, rfl, rfl⟩ := h9
    obtain ⟨h14, h15⟩ := h.upd1 j (.slice ao0 0 0) (ver + 1) [] (.row rt e (ver + 1) (fun _ => ((L ()).drop (lo ()).toNat).take (n ()).toNat)) w (fun b hb => absurd hb (hnp _)) (by omega) (by omega) (by simp) (fun _ _ _ => rfl) rfl rfl rfl (Nat.le_refl _)
      ⟨by simp [Ev.upd], .inl ⟨by simp [Ev.upd], by simp [e2], by simp [Ev.upd]⟩⟩
    exact ⟨_, h14, ⟨⟨_, _, _, rfl⟩, by simp [Ev.upd], fun _ => by simp [Ev.upd]⟩, h15, by simp [Ev.upd]⟩
  · rw [h4] at h2
    cases h2
    have hblt : b < w.heap.size := h.lt j b (by simp [hF])
    have hlen : (((L ()).drop (lo ()).toNat).take (n ()).toNat).length = (n ()).toNat := by rw [List.length_take, List.length_drop]; omega
    have hrow : ∀ o2, (o2 = off + (lo ()).toNat * e.size ∨ cap - (lo ()).toNat = 0) → RowAt ρ.M w e (((L ()).drop (lo ()).toNat).take (n ()).toNat) (.slice (some ⟨b, o2, none⟩) (n ()).toNat (cap - (lo ()).toNat)) [b] := by
      intro o2 ho2
      refine .inr ⟨b, o2, cap - (lo ()).toNat, by rw [hlen], rfl, by rw [hlen]; omega, by omega, fun k x hk => ?_, fun k hk => ?_⟩
      · rw [List.getElem?_take] at hk
        split at hk
        · rename_i hkn
          rw [List.getElem?_drop] at hk
          rcases ho2 with rfl | h0
          · refine CellsM.congr e (h12 _ x hk) fun q z _ hz => ?_
            rw [← hz]
            congr 2
            rw [Nat.add_mul]; omega
          · omega
        · cases hk
      · rcases ho2 with rfl | h0
        · have := h13 ((lo ()).toNat * e.size + k) (by
            have h14 : (lo ()).toNat * e.size + (cap - (lo ()).toNat) * e.size = cap * e.size := by rw [← Nat.add_mul]; congr 1; omega
            omega)
          simpa only [Nat.add_assoc] using this
        · rw [h0] at hk; simp at hk
    have fin : ∀ o2, (o2 = off + (lo ()).toNat * e.size ∨ cap - (lo ()).toNat = 0) → Value.slice ao0 l0 c0 = .slice (some ⟨b, o2, none⟩) (n ()).toNat (cap - (lo ()).toNat) →
        ∃ ρ', Holds AI G ⟨s.tm, putC s.H j (.row rt e (ver + 1) (fun _ => ((L ()).drop (lo ()).toNat).take (n ()).toNat))⟩ ρ' tmps w ∧ Den1 ρ' (.hd j (ver + 1)) (.slice ao0 l0 c0) ∧ ρ.Le ρ' ∧ ρ'.root = (fun k => if k = j then .slice ao0 l0 c0 else ρ.root k) := by
      intro o2 ho2 he
      obtain ⟨h14, h15⟩ := h.upd1 j (.slice ao0 l0 c0) (ver + 1) [b] (.row rt e (ver + 1) (fun _ => ((L ()).drop (lo ()).toNat).take (n ()).toNat)) w (fun b hb => absurd hb (hnp _)) (by omega) (by omega)
        (fun b' hb' => ⟨.inl (by rw [hF]; exact hb'), by simp at hb'; omega⟩) (fun _ _ _ => rfl) rfl rfl rfl (Nat.le_refl _)
        ⟨by simp [Ev.upd], by simp only [Ev.upd, if_pos]; rw [he]; exact hrow o2 ho2⟩
      exact ⟨_, h14, ⟨⟨_, _, _, rfl⟩, by simp [Ev.upd], fun _ => by simp [Ev.upd]⟩, h15, by simp [Ev.upd]⟩
    by_cases hcl : cap = (lo ()).toNat
    · rw [if_pos hcl] at h9
      exact fin off (.inr (by omega)) h9
    · rw [if_neg hcl] at h9
      exact fin _ (.inl rfl) (by rw [h9]; simp [add_lit])

theorem store_sound {t : TypeId} {i : TI} (hT : TIfact P t i) (h : Holds AI G s ρ a.tmps w) {x y : SV} {u v : Value} (hx : Den ρ x u) (hy : Den ρ y v) {p : Plan A} (hp : storeP i x y = some p) {d : List Bool} {C : U Prop} {r : SV} {cs : List (Chunk A)}
    (he : p.eff (getCs s.H p.ids) d = .done C r cs) (hC : C ()) : ∃ ρ' w', (Instr.storeAt t u v).run P w = .ok () w' ∧ Holds AI G ⟨s.tm, putCs s.H p.ids cs⟩ ρ' a.tmps w' ∧ r = one .any := by
  unfold storeP at hp
  split at hp
  · obtain ⟨w', h1, h2, h3⟩ := storeQ_sound hT h hx hy hp he hC
    exact ⟨ρ, w', h1, h2, h3⟩
  · rename_i j ver esz lo n hvw
    split at hp <;> (try cases hp)
    rename_i i' off
    split at hp <;> cases hp
    rename_i hb
    obtain ⟨hb1, hb2⟩ := Bool.and_eq_true_iff.1 hb
    have hb1 := beq_eq hb1
    have hne : i' ≠ j := by rintro rfl; simp at hb2
    simp only [getCs] at he
    generalize hg : getC s.H i' = c at he
    generalize hg2 : getC s.H j = c2 at he
    cases c <;> (try (simp at he; done))
    cases c2 <;> (try (simp at he; done))
    rename_i ct l rt e ver' L
    dsimp only at he
    split at he <;> (try (simp at he; done))
    rename_i hbb
    obtain ⟨hb3, hb4⟩ := Bool.and_eq_true_iff.1 hbb
    have hb3 := beq_eq hb3
    have hb4 := beq_eq hb4
    subst hb3; subst hb4
    split at he <;> (try (simp at he; done))
    rename_i l' hl'
    simp at he
    obtain ⟨rfl, rfl, rfl⟩ := he
    have hyv : Den1 ρ (.vw j ver e.size lo n) v := by
      unfold viewOf at hvw
      split at hvw
      · cases hvw; exact hy
      · cases hvw
    obtain ⟨ρ', h1, h2, h3, h4⟩ := h.reroot hg2 hyv
    have hcell : v.cells.toList = [v] := by obtain ⟨⟨_, _, _, rfl⟩, _⟩ := h2; rfl
    have := store_ptr (P := P) (t := t) (i := i) (s := ⟨s.tm, putC s.H j _⟩) hT h1 (k := i') (off := off) (ct := ct) (l := l) (l' := l') (vs := [.hd j (ver + 1)]) (u := u) (v := v) (Den.mono h3 hx) (by rw [getC_putC, if_neg hne]; exact hg) (by rw [hcell]; exact .cons h2 .nil) (by simp [hb1]) rfl hl'
    obtain ⟨w', h5, h6⟩ := this
    refine ⟨ρ', w', h5, h6.congrH fun k => ?_, rfl⟩
    simp only [putCs, getC_putC]
    by_cases h7 : k = i'
    · subst h7; simp [hne]
    · simp [h7]

theorem allocP_sound (h : Holds AI G s ρ a.tmps w) {t : TypeId} {cs : List SV1} {vs : List Value} (hd : All2 (Den1 ρ) cs vs) {fresh : Nat} {p : Plan A} (hp : allocP t cs fresh = some p) {d : List Bool} {C : U Prop} {r : SV} {cs' : List (Chunk A)}
    (he : p.eff (getCs s.H p.ids) d = .done C r cs') : Done AI G P s a w ρ (do pure (.pointer (some (← newRow t vs.toArray)))) (putCs s.H p.ids cs') r := by
  cases hp
  simp only [getCs] at he
  generalize hg : getC s.H fresh = c at he
  cases c <;> (try (simp at he; done))
  simp at he
  obtain ⟨rfl, rfl, rfl⟩ := he
  obtain ⟨ρ', h1, h2, h3⟩ := h.alloc hg (t := t) hd
  exact ⟨_, ρ', _, by simp [newRow], h1, h2, h3⟩

end Go.Sx
