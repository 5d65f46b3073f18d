/-
  Symbolic execution (part 2).
-/
import Derived.Test.YtcaoldilmnpjoaaGreatEng1
import Derived.Lib.UnsafeStr
import Derived.MapKept
import Derived.Lib.ConvBytes
import Derived.StillTailTactics
/-
  Symbolic execution: a store to an element, slice literals, make, struct literals; all operations together.
-/
namespace Go.Sx
set_option linter.all false
open Go.RowKit

variable {A : Type} {AI : Abs A} {G : Fr} {s : SS A} {ρ : Ev} {a : Act} {w : World} {P : Program}

theorem pasteV_length {α : Type} (m : List α) (o : Nat) (u : List α) (h : o + u.length ≤ m.length) : (pasteV m o u).length = m.length := by
  simp [pasteV]; omega
theorem pasteV_get {α : Type} (m : List α) (o : Nat) (u : List α) (h : o + u.length ≤ m.length) (k : Nat) : (pasteV m o u)[k]? = if o ≤ k ∧ k < o + u.length then u[k - o]? else m[k]? := by
  unfold pasteV
  have hl : (m.take o).length = o := by rw [List.length_take]; omega
  by_cases h1 : k < o
  · rw [if_neg (by omega), List.append_assoc, List.getElem?_append_left (by omega), List.getElem?_take, if_pos h1]
  · rw [List.append_assoc, List.getElem?_append_right (by omega), hl]
    by_cases h2 : k < o + u.length
    · rw [if_pos ⟨by omega, h2⟩, List.getElem?_append_left (by omega)]
    · rw [if_neg (by omega), List.getElem?_append_right (by omega), List.getElem?_drop]
      congr 1; omega

theorem upd_self (ρ : Ev) (k : Nat) : ρ.upd k (ρ.root k) (ρ.ver k) (ρ.foot k) = ρ := by
  cases ρ; simp only [Ev.upd, Ev.mk.injEq, true_and]
  exact ⟨by funext j; split <;> simp_all, by funext j; split <;> simp_all, by funext j; split <;> simp_all⟩

theorem store_ep {t : TypeId} {i : TI} (hT : TIfact P t i) (h : Holds AI G s ρ a.tmps w) {k ver esz off : Nat} {n : U Int} {rt : TypeId} {e : Ty} {L : U (List e.T)} {l' vs : List SV1} {y : U e.T} {u v : Value} (hu : Den ρ (one (.ep k ver esz n off)) u) (hk : getC s.H k = .row rt e ver L) (hes : esz = e.size)
    (hv : All2 (Den1 ρ) vs v.cells.toList) (hsz : vs.length = i.size) (hst : vs.all storable = true) (hp : paste (dec e (fun _ => (L ()).getD (n ()).toNat e.dflt)) off vs = some l') (he : enc e l' = some (y, [])) (hn : 0 ≤ n () ∧ n () < (L ()).length) :
    ∃ w', (Instr.storeAt t u v).run P w = .ok () w' ∧ Holds AI G ⟨s.tm, putC s.H k (.row rt e ver (fun _ => (L ()).set (n ()).toNat (y ())))⟩ ρ a.tmps w' := by
  subst hes
  obtain ⟨p, rfl, hle, hp2⟩ := hu
  have hc := h.ch k
  rw [hk] at hc
  obtain ⟨h1, h2⟩ := hc
  obtain ⟨_, b, o, len, cap, h3, rfl⟩ := hp2 h1
  have hlen : v.cells.toList.length = i.size := by rw [← hv.length, hsz]
  have hlen' : v.cells.size = i.size := by simpa using hlen
  rcases h2 with ⟨_, h2, _⟩ | ⟨b', o', cap', h2, h4, h5, h6, h7, h8, h8s⟩
  · exfalso; have := hn.2; rw [h2] at this; simp at this; omega
  rw [h3] at h2
  cases h2
  have hkn : (n ()).toNat < (L ()).length := by omega
  have hD : (L ()).getD (n ()).toNat e.dflt = (L ())[(n ()).toNat] := by simp [List.getD, List.getElem?_eq_getElem hkn]
  have hold := h7 _ _ (List.getElem?_eq_getElem hkn)
  obtain ⟨us, h9, h10⟩ := CellsM.dec (ρ := ρ) e (fun _ => (L ()).getD (n ()).toNat e.dflt) _ (by rw [hD]; exact hold)
  have husl : us.length = e.size := by rw [← h9.length, dec_length]
  obtain ⟨h11, h12, h13⟩ := h9.paste hv hp
  obtain ⟨v1, v2, e1, e2, e3, e4⟩ := CellsM.enc e he h11
  cases e4
  simp only [List.append_nil] at e1
  have hfit : off + v.cells.toList.length ≤ us.length ∨ vs = [] := by
    by_cases h0 : vs = []
    · exact .inr h0
    · exact .inl (h13 h0)
  have hmul : (n ()).toNat * e.size + e.size ≤ cap * e.size := by
    have := Nat.mul_le_mul_right e.size (show (n ()).toNat + 1 ≤ cap by omega)
    rw [Nat.add_mul] at this; omega
  have hsome : ∀ j, j < v.cells.toList.length → (w.cell? ⟨b, o + (n ()).toNat * e.size + off + j, none⟩).isSome = true := by
    intro j hj
    rcases hfit with hf | hf
    · have := (h8 ((n ()).toNat * e.size + (off + j)) (by omega)).1
      simpa only [Nat.add_assoc] using this
    · subst hf; rw [← hv.length] at hj; simp at hj
  have hfree : ∀ j, j < v.cells.toList.length → w.frozen? ⟨b, o + (n ()).toNat * e.size + off + j, none⟩ = false := by
    intro j hj
    rcases hfit with hf | hf
    · have := (h8 ((n ()).toNat * e.size + (off + j)) (by omega)).2
      simpa only [Nat.add_assoc] using this
    · subst hf; rw [← hv.length] at hj; simp at hj
  have hrun := run_storeCells_cells (P := P) b (o + (n ()).toNat * e.size + off) v.cells.toList 0 w (by simpa using hsome) (by simpa using hfree) (hv.storable hst)
  simp only [Nat.add_zero] at hrun
  have hrun2 : (Instr.storeAt t (.pointer (some ⟨b, o + (n ()).toNat * e.size + off, none⟩)) v).run P w = .ok () (w.setCells b (o + (n ()).toNat * e.size + off) v.cells.toList) := by
    simp [Instr.storeAt, Instr.sureAddr, storeVar, hT.sizeOf, hlen']
    exact hrun
  refine ⟨_, hrun2, ?_⟩
  have := (h.upd1 k (ρ.root k) (ρ.ver k) (ρ.foot k) (.row rt e ver (fun _ => (L ()).set (n ()).toNat (y ()))) (w.setCells b (o + (n ()).toNat * e.size + off) v.cells.toList)
    (fun _ h => h) (Nat.le_refl _) (fun _ _ => rfl) (fun bb hbb => ⟨.inl hbb, by rw [setCells_size]; exact h.lt k bb hbb⟩)
    (fun b2 _ hn => setCells_other b _ _ _ _ (fun e => hn (by rw [h4, e]; simp))) (setCells_rest _ _ _ _).1 (setCells_rest _ _ _ _).2.1 (setCells_rest _ _ _ _).2.2 (by rw [setCells_size]; exact Nat.le_refl _)
    (by
      rw [upd_self]
      refine ⟨h1, .inr ⟨b, o, cap, by rw [h3]; simp, h4, by simpa using h5, h6, fun j x hj => ?_, fun j hj => ⟨?_, ?_⟩, h8s.stays (setCells_shape _ _ _ _ _)⟩⟩
      · rw [List.getElem?_set] at hj
        split at hj
        · rename_i hjn
          cases hj
          subst hjn
          refine CellsM.congr e e3 fun q z hq hz => ?_
          rw [setCells_cell hsome]
          rw [← e1] at hz
          rcases hfit with hf | hf
          · rw [pasteV_get _ _ _ hf] at hz
            split at hz
            · rename_i hin
              rw [if_pos (by omega), ← hz]; congr 1; omega
            · rename_i hout
              rw [if_neg (by omega)]
              have := h10 _ _ hz
              simpa only [Nat.add_assoc] using this
          · subst hf
            have e0 : v.cells.toList = [] := by generalize v.cells.toList = q at hv; cases hv; rfl
            rw [e0] at hz
            rw [if_neg (by rw [e0]; simp)]
            have := h10 _ _ (by simpa [pasteV] using hz)
            simpa only [Nat.add_assoc] using this
        · rename_i hjn
          refine CellsM.congr e (h7 j x hj) fun q z hq hz => ?_
          rw [setCells_cell hsome, if_neg ?_]
          · exact hz
          · intro hin
            rcases hfit with hf | hf
            · rcases Nat.lt_or_gt_of_ne hjn with hlt | hlt
              · have := Nat.mul_le_mul_right e.size (show (n ()).toNat + 1 ≤ j by omega)
                rw [Nat.add_mul] at this; omega
              · have := Nat.mul_le_mul_right e.size (show j + 1 ≤ (n ()).toNat by omega)
                rw [Nat.add_mul] at this; omega
            · subst hf
              have e0 : v.cells.toList = [] := by generalize v.cells.toList = q at hv; cases hv; rfl
              rw [e0] at hin; simp at hin; omega
      · rw [setCells_cell hsome]
        split
        · rw [List.getElem?_eq_getElem (by omega)]; rfl
        · exact (h8 j hj).1
      · rw [World.frozen?_setCells]; exact (h8 j hj).2)).1
  rwa [upd_self] at this

theorem storeQ_sound {t : TypeId} {i : TI} (hT : TIfact P t i) (h : Holds AI G s ρ a.tmps w) {x y : SV} {u v : Value} (hx : Den ρ x u) (hy : Den ρ y v) {p : Plan A} (hp : storeQ i x y = some p) {d : List Bool} {C : U Prop} {r : SV} {cs : List (Chunk A)}
    (he : p.eff (getCs s.H p.ids) d = .done C r cs) (hC : C ()) : ∃ w', (Instr.storeAt t u v).run P w = .ok () w' ∧ Holds AI G ⟨s.tm, putCs s.H p.ids cs⟩ ρ a.tmps w' ∧ r = one .any := by
  unfold storeQ at hp
  split at hp
  · cases hp
  · rename_i vs hvs
    split at hp
    · cases hp
    · rename_i hb
      obtain ⟨hb1, hb2⟩ := Bool.and_eq_true_iff.1 hb
      have hb1 := beq_eq hb1
      have hv := cellsOf_den hvs hy hb2
      split at hp
      · rename_i k off
        cases hp
        simp only [getCs] at he
        generalize hg : getC s.H k = c at he
        cases c <;> (try (simp at he; done))
        dsimp only at he
        split at he <;> (try (simp at he; done))
        rename_i l hl
        simp at he
        obtain ⟨rfl, rfl, rfl⟩ := he
        obtain ⟨w', h1, h2⟩ := store_ptr hT h hx hg hv hb1 hb2 hl
        exact ⟨w', h1, h2, rfl⟩
      · rename_i k ver esz n off
        cases hp
        simp only [getCs] at he
        generalize hg : getC s.H k = c at he
        cases c <;> (try (simp at he; done))
        dsimp only at he
        split at he <;> (try (simp at he; done))
        rename_i hbb
        obtain ⟨hb3, hb4⟩ := Bool.and_eq_true_iff.1 hbb
        have hb3 := beq_eq hb3
        have hb4 := beq_eq hb4
        subst hb3
        split at he <;> (try (simp at he; done))
        rename_i l hl
        split at he <;> (try (simp at he; done))
        rename_i y' hy'
        simp at he
        obtain ⟨rfl, rfl, rfl⟩ := he
        obtain ⟨w', h1, h2⟩ := store_ep hT h hx hg hb4 hv hb1 hb2 hl hy' hC
        exact ⟨w', h1, h2, rfl⟩
      · cases hp

/-- A part of a row, from now on the row. -/
theorem Holds.reroot {tmps : Array Value} (h : Holds AI G s ρ tmps w) {j ver : Nat} {rt : TypeId} {e : Ty} {L : U (List e.T)} (hj : getC s.H j = .row rt e ver L) {lo n : U Int} {v : Value} (hv : Den1 ρ (.vw j ver e.size lo n) v) :
    ∃ ρ', Holds AI G ⟨s.tm, putC s.H j (.row rt e (ver + 1) (fun _ => ((L ()).drop (lo ()).toNat).take (n ()).toNat))⟩ ρ' tmps w ∧ Den1 ρ' (.hd j (ver + 1)) v ∧ ρ.Le ρ' ∧ ρ'.root = (fun k => if k = j then v else ρ.root k) := by
  have hc := h.ch j
  rw [hj] at hc
  obtain ⟨h1, h2⟩ := hc
  obtain ⟨⟨ao0, l0, c0, rfl⟩, _, hle, h3⟩ := hv
  obtain ⟨ao, len, cap, h4, h5, h6, h7, h8, h9⟩ := h3 h1
  have hnp : ∀ b, ρ.root j ≠ .pointer b := by intro b; rw [h4]; simp
  rcases h2 with ⟨⟨ao1, h2⟩, hL, hF⟩ | ⟨b, off, cap', h2, hF, h10, h11, h12, h13, h13s⟩
  · rw [h4] at h2
    cases h2
    have e1 : (lo ()).toNat = 0 := by simp at h7; omega
    have e2 : (n ()).toNat = 0 := by simp at h7; omega
    rw [e1, e2] at h9
    simp at h9
    obtain ⟨rfl, rfl, rfl⟩ := h9
    obtain ⟨h14, h15⟩ := h.upd1 j (.slice ao0 0 0) (ver + 1) [] (.row rt e (ver + 1) (fun _ => ((L ()).drop (lo ()).toNat).take (n ()).toNat)) w (fun b hb => absurd hb (hnp _)) (by omega) (by omega) (by simp) (fun _ _ _ => rfl) rfl rfl rfl (Nat.le_refl _)
      ⟨by simp [Ev.upd], .inl ⟨by simp [Ev.upd], by simp [e2], by simp [Ev.upd]⟩⟩
    exact ⟨_, h14, ⟨⟨_, _, _, rfl⟩, by simp [Ev.upd], fun _ => by simp [Ev.upd]⟩, h15, by simp [Ev.upd]⟩
  · rw [h4] at h2
    cases h2
    have hblt : b < w.heap.size := h.lt j b (by simp [hF])
    have hlen : (((L ()).drop (lo ()).toNat).take (n ()).toNat).length = (n ()).toNat := by rw [List.length_take, List.length_drop]; omega
    have hrow : ∀ o2, (o2 = off + (lo ()).toNat * e.size ∨ cap - (lo ()).toNat = 0 ∧ o2 = off) → RowAt rt ρ.M w e (((L ()).drop (lo ()).toNat).take (n ()).toNat) (.slice (some ⟨b, o2, none⟩) (n ()).toNat (cap - (lo ()).toNat)) [b] := by
      intro o2 ho2
      refine .inr ⟨b, o2, cap - (lo ()).toNat, by rw [hlen], rfl, by rw [hlen]; omega, by omega, fun k x hk => ?_, fun k hk => ?_, fun he => ?_⟩
      · rw [List.getElem?_take] at hk
        split at hk
        · rename_i hkn
          rw [List.getElem?_drop] at hk
          rcases ho2 with rfl | h0
          · refine CellsM.congr e (h12 _ x hk) fun q z _ hz => ?_
            rw [← hz]
            congr 2
            rw [Nat.add_mul]; omega
          · omega
        · cases hk
      · rcases ho2 with rfl | h0
        · have := h13 ((lo ()).toNat * e.size + k) (by
            have h14 : (lo ()).toNat * e.size + (cap - (lo ()).toNat) * e.size = cap * e.size := by rw [← Nat.add_mul]; congr 1; omega
            omega)
          simpa only [Nat.add_assoc] using this
        · rw [h0.1] at hk; simp at hk
      · obtain ⟨m, hm1, hm2⟩ := h13s he
        refine ⟨m, hm1, ?_⟩
        subst he
        simp only [Ty.size] at ho2
        omega
    have fin : ∀ o2, (o2 = off + (lo ()).toNat * e.size ∨ cap - (lo ()).toNat = 0 ∧ o2 = off) → Value.slice ao0 l0 c0 = .slice (some ⟨b, o2, none⟩) (n ()).toNat (cap - (lo ()).toNat) →
        ∃ ρ', Holds AI G ⟨s.tm, putC s.H j (.row rt e (ver + 1) (fun _ => ((L ()).drop (lo ()).toNat).take (n ()).toNat))⟩ ρ' tmps w ∧ Den1 ρ' (.hd j (ver + 1)) (.slice ao0 l0 c0) ∧ ρ.Le ρ' ∧ ρ'.root = (fun k => if k = j then .slice ao0 l0 c0 else ρ.root k) := by
      intro o2 ho2 he
      obtain ⟨h14, h15⟩ := h.upd1 j (.slice ao0 l0 c0) (ver + 1) [b] (.row rt e (ver + 1) (fun _ => ((L ()).drop (lo ()).toNat).take (n ()).toNat)) w (fun b hb => absurd hb (hnp _)) (by omega) (by omega)
        (fun b' hb' => ⟨.inl (by rw [hF]; exact hb'), by simp at hb'; omega⟩) (fun _ _ _ => rfl) rfl rfl rfl (Nat.le_refl _)
        ⟨by simp [Ev.upd], by simp only [Ev.upd, if_pos]; rw [he]; exact hrow o2 ho2⟩
      exact ⟨_, h14, ⟨⟨_, _, _, rfl⟩, by simp [Ev.upd], fun _ => by simp [Ev.upd]⟩, h15, by simp [Ev.upd]⟩
    by_cases hcl : cap = (lo ()).toNat
    · rw [if_pos hcl] at h9
      exact fin off (.inr ⟨by omega, rfl⟩) h9
    · rw [if_neg hcl] at h9
      exact fin _ (.inl rfl) (by rw [h9]; simp [add_lit])

theorem store_sound {t : TypeId} {i : TI} (hT : TIfact P t i) (h : Holds AI G s ρ a.tmps w) {x y : SV} {u v : Value} (hx : Den ρ x u) (hy : Den ρ y v) {p : Plan A} (hp : storeP i x y = some p) {d : List Bool} {C : U Prop} {r : SV} {cs : List (Chunk A)}
    (he : p.eff (getCs s.H p.ids) d = .done C r cs) (hC : C ()) : ∃ ρ' w', (Instr.storeAt t u v).run P w = .ok () w' ∧ Holds AI G ⟨s.tm, putCs s.H p.ids cs⟩ ρ' a.tmps w' ∧ r = one .any := by
  unfold storeP at hp
  split at hp
  · split at hp
    · rename_i j ver hhd
      split at hp
      · rename_i i' hep
        have hyv : Den1 ρ (.hd j ver) v := by
          unfold hdOf at hhd
          split at hhd
          · cases hhd; exact hy
          · cases hhd
        unfold storeF at hp
        split at hp <;> cases hp
        rename_i hne0
        have hne : i' ≠ j := by rintro rfl; rw [beqN_self] at hne0; cases hne0
        simp only [getCs] at he
        generalize hg2 : getC s.H j = c2 at he
        cases c2 <;> (try (simp at he; done))
        rename_i rt e ver' L
        dsimp only at he
        split at he <;> (try (simp at he; done))
        rename_i hbu
        have hbu := beq_eq hbu
        subst hbu
        split at he <;> (try (simp at he; done))
        rename_i q hq
        split at he <;> (try (simp at he; done))
        rename_i C' r' c' hqe
        simp at he
        obtain ⟨rfl, rfl, rfl⟩ := he
        obtain ⟨h1, le⟩ := h.frozen1 j
        have hcj := h.ch j
        rw [hg2] at hcj
        obtain ⟨hv1, hv2⟩ := hcj
        have hy1 : Den (ρ.froze (fun i => i = j) w) (one (.ro e L)) v := by
          obtain ⟨_, _, h3⟩ := hyv
          rw [h3 hv1]
          exact rowAt_shows h (S := fun i => i = j) rfl hv2 le.1
        have hids : q.ids = [i'] := by
          unfold epOf at hep
          split at hep <;> cases hep
          unfold storeQ at hq
          split at hq <;> (try cases hq)
          split at hq <;> cases hq
          rfl
        have hgi : getCs (putC s.H j .gone) q.ids = [getC s.H i'] := by
          rw [hids]; simp only [getCs]; rw [getC_putC, if_neg hne]
        obtain ⟨w', k1, k2, k3⟩ := storeQ_sound hT h1 (hx.mono le) hy1 hq (by rw [hgi]; exact hqe) hC
        refine ⟨_, w', k1, k2.congrH fun k => ?_, k3⟩
        rw [hids]
        simp only [putCs, getC_putC]
        by_cases h7 : k = i'
        · subst h7; simp [hne]
        · simp [h7]
      · obtain ⟨w', h1, h2, h3⟩ := storeQ_sound hT h hx hy hp he hC
        exact ⟨ρ, w', h1, h2, h3⟩
    · obtain ⟨w', h1, h2, h3⟩ := storeQ_sound hT h hx hy hp he hC
      exact ⟨ρ, w', h1, h2, h3⟩
  · rename_i j ver esz lo n hvw
    split at hp <;> (try cases hp)
    rename_i i' off
    split at hp <;> cases hp
    rename_i hb
    obtain ⟨hb1, hb2⟩ := Bool.and_eq_true_iff.1 hb
    have hb1 := beq_eq hb1
    have hne : i' ≠ j := by rintro rfl; simp at hb2
    simp only [getCs] at he
    generalize hg : getC s.H i' = c at he
    generalize hg2 : getC s.H j = c2 at he
    cases c <;> (try (simp at he; done))
    cases c2 <;> (try (simp at he; done))
    rename_i ct l rt e ver' L
    dsimp only at he
    split at he <;> (try (simp at he; done))
    rename_i hbb
    obtain ⟨hb3, hb4⟩ := Bool.and_eq_true_iff.1 hbb
    have hb3 := beq_eq hb3
    have hb4 := beq_eq hb4
    subst hb3; subst hb4
    split at he <;> (try (simp at he; done))
    rename_i l' hl'
    simp at he
    obtain ⟨rfl, rfl, rfl⟩ := he
    have hyv : Den1 ρ (.vw j ver e.size lo n) v := by
      unfold viewOf at hvw
      split at hvw
      · cases hvw; exact hy
      · cases hvw
    obtain ⟨ρ', h1, h2, h3, h4⟩ := h.reroot hg2 hyv
    have hcell : v.cells.toList = [v] := by obtain ⟨⟨_, _, _, rfl⟩, _⟩ := h2; rfl
    have := store_ptr (P := P) (t := t) (i := i) (s := ⟨s.tm, putC s.H j _⟩) hT h1 (k := i') (off := off) (ct := ct) (l := l) (l' := l') (vs := [.hd j (ver + 1)]) (u := u) (v := v) (Den.mono h3 hx) (by rw [getC_putC, if_neg hne]; exact hg) (by rw [hcell]; exact .cons h2 .nil) (by simp [hb1]) rfl hl'
    obtain ⟨w', h5, h6⟩ := this
    refine ⟨ρ', w', h5, h6.congrH fun k => ?_, rfl⟩
    simp only [putCs, getC_putC]
    by_cases h7 : k = i'
    · subst h7; simp [hne]
    · simp [h7]

theorem allocP_sound (h : Holds AI G s ρ a.tmps w) {t : TypeId} {cs : List SV1} {vs : List Value} (hd : All2 (Den1 ρ) cs vs) {fresh : Nat} {p : Plan A} (hp : allocP t cs fresh = some p) {d : List Bool} {C : U Prop} {r : SV} {cs' : List (Chunk A)}
    (he : p.eff (getCs s.H p.ids) d = .done C r cs') : Done AI G P s a w ρ (do pure (.pointer (some (← newRow t vs.toArray)))) (putCs s.H p.ids cs') r := by
  cases hp
  simp only [getCs] at he
  generalize hg : getC s.H fresh = c at he
  cases c <;> (try (simp at he; done))
  simp at he
  obtain ⟨rfl, rfl, rfl⟩ := he
  obtain ⟨ρ', h1, h2, h3⟩ := h.alloc hg (t := t) hd
  exact ⟨_, ρ', _, by simp [newRow], h1, h2, h3⟩

end Go.Sx

/-
  Symbolic execution: literals, make.
-/
namespace Go.Sx
set_option linter.all false
open Go.RowKit

variable {A : Type} {AI : Abs A} {G : Fr} {s : SS A} {ρ : Ev} {a : Act} {w : World} {P : Program}

theorem foldl_set : ∀ (vs : List Value) (j off : Nat) (cs : Array Value), off + j + vs.length ≤ cs.size →
    ((vs.zipIdx j).foldl (fun cs (p : Value × Nat) => cs.setIfInBounds (off + p.2) p.1) cs).toList = pasteV cs.toList (off + j) vs ∧
    ((vs.zipIdx j).foldl (fun cs (p : Value × Nat) => cs.setIfInBounds (off + p.2) p.1) cs).size = cs.size
  | [], j, off, cs, _ => by simp [pasteV]
  | v :: r, j, off, cs, h => by
    simp only [List.length_cons] at h
    obtain ⟨h1, h2⟩ := foldl_set r (j + 1) off (cs.setIfInBounds (off + j) v) (by simp; omega)
    simp only [List.zipIdx_cons, List.foldl_cons]
    refine ⟨?_, by rw [h2]; simp⟩
    rw [h1]
    apply List.ext_getElem?
    intro k
    rw [pasteV_get _ _ _ (show off + (j + 1) + r.length ≤ (cs.setIfInBounds (off + j) v).toList.length by simp; omega), pasteV_get _ _ _ (show off + j + (v :: r).length ≤ cs.toList.length by simp; omega)]
    simp only [Array.toList_setIfInBounds, List.length_cons]
    rw [List.getElem?_set]
    by_cases hk : k = off + j
    · subst hk
      rw [if_neg (by omega), if_pos rfl, if_pos (by rw [Array.length_toList]; omega), if_pos (by omega)]
      simp
    · rw [if_neg (c := off + j = k) (by omega)]
      by_cases hk2 : off + j < k ∧ k < off + j + (r.length + 1)
      · rw [if_pos (by omega), if_pos (by omega), show k - (off + j) = (k - (off + (j + 1))) + 1 by omega, List.getElem?_cons_succ]
      · rw [if_neg (by omega), if_neg (by omega)]

theorem fill_one (place : Nat → Option (Nat × Nat)) (cells : Array Value) {i : Nat} {v : Value} {rest : List (Nat × Value)} {off : Nat} (hp : place i = some (off, v.cells.size)) (hfit : off + v.cells.size ≤ cells.size) :
    ∃ c' : Array Value, c'.toList = pasteV cells.toList off v.cells.toList ∧ Instr.fill place cells ((i, v) :: rest) = Instr.fill place c' rest := by
  have h := foldl_set v.cells.toList 0 off cells (by simpa using hfit)
  refine ⟨_, by simpa using h.1, ?_⟩
  simp only [Instr.fill, hp]
  rw [if_neg (by simp; omega)]
  congr 1
  rw [← Array.foldl_toList, Array.toList_zipIdx]

/-- The parts of a literal. -/
def PartsDen (ρ : Ev) : List (Nat × SV) → List (Nat × Value) → Prop := All2 fun p q => p.1 = q.1 ∧ Den ρ p.2 q.2

theorem build_cells {offs : List (Nat × Nat)} : ∀ {parts : List (Nat × SV)} {qs : List (Nat × Value)} {z l : List SV1} {cells : Array Value}, PartsDen ρ parts qs → buildCells offs z parts = some l → All2 (Den1 ρ) z cells.toList →
    ∃ c' : Array Value, Instr.fill (fun i => nth offs i) cells qs = some c' ∧ All2 (Den1 ρ) l c'.toList
  | [], _, z, l, cells, .nil, h, hz => by simp [buildCells] at h; subst h; exact ⟨cells, rfl, hz⟩
  | (f, v) :: r, _, z, l, cells, .cons (b := (f', u)) hd ht, h, hz => by
    obtain ⟨e, hd⟩ := hd
    dsimp only at e hd
    subst e
    simp only [buildCells] at h
    split at h
    · rename_i o sz ho
      split at h
      · rename_i vs hvs
        split at h
        · rename_i hb
          obtain ⟨hb, hb3⟩ := Bool.and_eq_true_iff.1 hb
          obtain ⟨hb1, hb2⟩ := Bool.and_eq_true_iff.1 hb
          have hb1 := beq_eq hb1
          have hb3 := leN hb3
          split at h
          · rename_i z' hz'
            have hv := cellsOf_den hvs hd hb2
            obtain ⟨h1, h2, h3⟩ := hz.paste hv hz'
            have hsz : u.cells.size = sz := by have := hv.length; simp at this; omega
            have h0 : vs ≠ [] := by rintro rfl; simp at hb1; omega
            have hfit := h3 h0
            obtain ⟨c2, h6, h7⟩ := fill_one (fun i => nth offs i) cells (i := f) (v := u) (rest := _) (by rw [ho, hsz]) (by simpa using hfit)
            rw [h7]
            exact build_cells ht h (by rw [h6]; exact h1)
          · cases h
        · cases h
      · cases h
    · cases h

theorem zero_den {vs : List Value} : All2 (Den1 ρ) (vs.map ofLit1) vs := All2.map _ Den1.ofLit1 _

theorem run_places : ∀ {offs : List (Nat × Nat)} {fs : List Field}, All2 (fun (p : Nat × Nat) (f : Field) => f.offset = p.1 ∧ ∃ g, P.info? f.type = some g ∧ g.size = p.2) offs fs →
    (fs.mapM fun f => (do pure (f.offset, ← Go.sizeOf f.type) : Go.Sem (Nat × Nat))).run P w = .ok offs w := by
  intro offs fs h
  induction h with
  | nil => simp
  | @cons p f _ _ h1 _ ih =>
    obtain ⟨e1, g, e2, e3⟩ := h1
    have hs : (Go.sizeOf f.type).run P w = .ok g.size w := by
      simp [Go.sizeOf, typeInfo, e2]
    rw [List.mapM_cons]
    simp only [Sem.run_bind, hs, Result.andThen, Sem.run_pure, ih, e1, e3]

theorem fill_mono {f g : Nat → Option (Nat × Nat)} (h : ∀ i x, f i = some x → g i = some x) : ∀ {qs : List (Nat × Value)} {cells c : Array Value}, Instr.fill f cells qs = some c → Instr.fill g cells qs = some c
  | [], _, _, e => e
  | (i, v) :: r, cells, c, e => by
    simp only [Instr.fill] at e ⊢
    cases hf : f i with
    | none => rw [hf] at e; cases e
    | some x =>
      obtain ⟨o, sz⟩ := x
      rw [hf] at e
      rw [h i _ hf]
      dsimp only at e ⊢
      split at e
      · cases e
      · rename_i hc
        rw [if_neg hc]
        exact fill_mono h e
theorem places_nth {z : Nat} : ∀ {n k i : Nat} {x : Nat × Nat}, nth (places z k n) i = some x → x = ((k + i) * z, z)
  | 0, _, _, _, h => by simp [places, nth] at h
  | n + 1, k, 0, x, h => by simp [places, nth] at h; rw [← h]; rfl
  | n + 1, k, i + 1, x, h => by
    have := places_nth (n := n) (k := k + 1) (i := i) h
    rw [this, show k + 1 + i = k + (i + 1) by omega]

theorem build_sound {t : TypeId} {i : TI} (hT : TIfact P t i) (hz : ∃ z, (Go.zeroValue t).run P w = .ok z w ∧ i.zero = z.cells.toList.map ofLit1) {parts : List (Nat × SV)} {qs : List (Nat × Value)} (hd : PartsDen ρ parts qs) {p : Plan A} {esz : Option Nat} (hsz : ∀ z, esz = some z → ∀ e, elemOfK i.kind = some e → (Go.sizeOf e).run P w = .ok z w) (hp : buildP i esz parts = some p) :
    ∃ C v, p = ⟨[], 0, false, fun _ _ => .done C v []⟩ ∧ (C () → ∃ y, (Instr.build t qs.toArray).run P w = .ok y w ∧ Den ρ v y) := by
  have hk := hT.kind
  unfold buildP at hp
  split at hp
  · rename_i offs ho
    rw [ho] at hk
    obtain ⟨fs, h1, h2⟩ := hk
    split at hp
    · rename_i l hl
      cases hp
      refine ⟨_, _, rfl, fun _ => ?_⟩
      obtain ⟨z, hz1, hz2⟩ := hz
      obtain ⟨c', h3, h4⟩ := build_cells (ρ := ρ) (cells := z.cells) hd hl (by rw [hz2]; exact zero_den)
      have h5 := run_places (P := P) (w := w) h2
      have h6 : (fun i => (offs.toArray)[i]?) = fun i => nth offs i := by
        funext i
        have key : ∀ (l : List (Nat × Nat)) i, l[i]? = nth l i := by
          intro l
          induction l with
          | nil => intro i; rfl
          | cons x r ih => intro i; cases i <;> simp [nth, ih]
        simpa using key offs i
      refine ⟨.agg c', ?_, c'.toList, by simp, h4⟩
      have h7 : (fs.mapM fun f => (do pure (f.offset, ← Go.sizeOf f.type) : Go.Sem (Nat × Nat))).run P w = .ok offs.toArray w := by
        rw [Array.mapM_eq_mapM_toList]
        show (List.toArray <$> _ : Go.Sem _).run P w = _
        rw [map_eq_pure_bind, Sem.run_bind, h5]
        rfl
      simp only [Instr.build, Sem.run_bind, hz1, Result.andThen, run_underlying h1, h7, h6, h3]
      rfl
    · cases hp
  · rename_i n el ho
    rw [ho] at hk
    obtain ⟨h1, _⟩ := hk
    split at hp
    · rename_i sz
      split at hp
      · rename_i l hl
        cases hp
        refine ⟨_, _, rfl, fun _ => ?_⟩
        obtain ⟨z, hz1, hz2⟩ := hz
        obtain ⟨c', h3, h4⟩ := build_cells (ρ := ρ) (cells := z.cells) hd hl (by rw [hz2]; exact zero_den)
        have h5 := hsz sz rfl el (by rw [ho]; rfl)
        have h6 : Instr.fill (fun i => some (i * sz, sz)) z.cells qs = some c' := fill_mono (fun i x hx => by
          have := places_nth hx
          rw [this, Nat.zero_add]) h3
        refine ⟨.agg c', ?_, c'.toList, by simp, h4⟩
        simp only [Instr.build, Sem.run_bind, hz1, Result.andThen, run_underlying h1, h5, h6]
        rfl
      · cases hp
    · cases hp
  · cases hp

theorem inOrder_den : ∀ {k : Nat} {parts : List (Nat × SV)} {qs : List (Nat × Value)} {vs : List SV}, PartsDen ρ parts qs → inOrder k parts = some vs →
    ∃ us, All2 (Den ρ) vs us ∧ qs = (us.zipIdx k).map fun p => (p.2, p.1)
  | k, _, _, vs, .nil, h => by simp [inOrder] at h; subst h; exact ⟨[], .nil, rfl⟩
  | k, (i, v) :: r, (i', u) :: qs, vs, .cons hd ht, h => by
    simp only [inOrder] at h
    split at h
    · rename_i hb
      have hb := beq_eq hb
      subst hb
      split at h
      · rename_i l hl
        cases h
        obtain ⟨us, h1, h2⟩ := inOrder_den ht hl
        obtain ⟨e, hd⟩ := hd
        dsimp only at e hd
        subst e
        exact ⟨u :: us, .cons hd h1, by simp [h2]⟩
      · cases h
    · cases h

theorem fill_slice {size : Nat} : ∀ {us : List Value} {k : Nat} {cells : Array Value}, (∀ u ∈ us, u.cells.size = size) → cells.size = (k + us.length) * size →
    ∃ c' : Array Value, Instr.fill (fun i => some (i * size, size)) cells ((us.zipIdx k).map fun p => (p.2, p.1)) = some c' ∧ c'.toList = cells.toList.take (k * size) ++ us.flatMap fun u => u.cells.toList
  | [], k, cells, _, hs => by
    refine ⟨cells, rfl, ?_⟩
    rw [List.take_of_length_le (by simp at hs ⊢; omega)]; simp
  | u :: r, k, cells, hu, hs => by
    have hu0 := hu u (by simp)
    have hmul : (k + (u :: r).length) * size = k * size + size + r.length * size := by simp [Nat.add_mul]; omega
    obtain ⟨c2, h1, h2⟩ := fill_one (fun i => some (i * size, size)) cells (i := k) (v := u) (rest := (r.zipIdx (k + 1)).map fun p => (p.2, p.1)) (off := k * size) (by rw [hu0]) (by omega)
    have hs2 : c2.size = cells.size := by
      have := congrArg List.length h1
      rw [pasteV_length _ _ _ (by simp; omega)] at this
      simpa using this
    obtain ⟨c', h3, h4⟩ := fill_slice (us := r) (k := k + 1) (cells := c2) (fun v hv => hu v (by simp [hv])) (by rw [hs2, hs]; congr 1; simp; omega)
    refine ⟨c', by simpa [h2] using h3, ?_⟩
    rw [h4, h1]
    have e1 : (k + 1) * size = k * size + u.cells.toList.length := by simp [Nat.add_mul, hu0]
    rw [e1]
    unfold pasteV
    have e2 : (cells.toList.take (k * size)).length = k * size := by rw [List.length_take]; simp; omega
    rw [List.append_assoc, List.take_append, e2, List.take_of_length_le (by omega), show k * size + u.cells.toList.length - k * size = u.cells.toList.length by omega]
    rw [List.take_append, List.take_of_length_le (Nat.le_refl _), Nat.sub_self, List.take_zero]
    simp

theorem encAll_den {e : Ty} : ∀ {vs : List SV} {us : List Value} {L : U (List e.T)}, All2 (Den ρ) vs us → encAll e vs = some L → RowList ρ.M e (L ()) (us.flatMap fun u => u.cells.toList) ∧ (L ()).length = us.length ∧ ∀ u ∈ us, u.cells.size = e.size
  | _, _, L, .nil, h => by simp [encAll] at h; subst h; exact ⟨⟨by simp, by simp, by simp⟩, rfl, by simp⟩
  | v :: vs, u :: us, L, .cons hd ht, h => by
    simp only [encAll] at h
    split at h
    · rename_i l hl
      split at h
      · rename_i hst
        split at h
        · rename_i y hy
          split at h
          · rename_i ys hys
            cases h
            obtain ⟨h1, h2, h3⟩ := encAll_den ht hys
            have hv := cellsOf_den hl hd hst
            obtain ⟨v1, v2, e1, e2, e3, e4⟩ := CellsM.enc e hy hv
            cases e4
            simp only [List.append_nil] at e1
            have hsz : u.cells.size = e.size := by have := congrArg List.length e1; simp at this; omega
            refine ⟨?_, by simp [h2], fun x hx => (List.mem_cons.1 hx).elim (fun e => e ▸ hsz) (h3 x)⟩
            have : RowList ρ.M e [y ()] u.cells.toList := ⟨by simp [hsz], hv.storable hst, fun j x hj => by
              cases j <;> simp at hj
              subst hj
              simp only [Nat.zero_mul, Nat.zero_add, e1]; exact e3⟩
            exact rowList_append this h1
          · cases h
        · cases h
      · cases h
    · cases h

theorem buildSlice_sound {t : TypeId} {i : TI} (hT : TIfact P t i) (h : Holds AI G s ρ a.tmps w) {n : Nat} {parts : List (Nat × SV)} {qs : List (Nat × Value)} (hd : PartsDen ρ parts qs) {fresh : Nat} {p : Plan A} (hp : buildSliceP i n parts fresh = some p)
    {d : List Bool} {C : U Prop} {r : SV} {cs : List (Chunk A)} (he : p.eff (getCs s.H p.ids) d = .done C r cs) (hC : C ()) :
    Done AI G P s a w ρ (Instr.buildSlice t n qs.toArray) (putCs s.H p.ids cs) r := by
  have hk := hT.kind
  unfold buildSliceP at hp
  split at hp
  · rename_i et e ho
    rw [ho] at hk
    obtain ⟨hu, g, hg1, hg2⟩ := hk
    obtain ⟨hsz, hpos, hby, _, z, hz, hz1, hz2⟩ := hg2 e rfl
    split at hp
    · rename_i vs hvs
      split at hp
      · rename_i hb
        have hb := beq_eq hb
        split at hp
        · rename_i L hL
          have hC0 : n * e.size ≤ 16777216 := by
            split at hp
            · cases hp
              simp only [getCs] at he
              split at he <;> cases he
              exact hC
            · cases hp; simp at he; obtain ⟨rfl, rfl, rfl⟩ := he; exact hC
          obtain ⟨us, h1, h2⟩ := inOrder_den hd hvs
          obtain ⟨h3, h4, h5⟩ := encAll_den h1 hL
          have hlen : us.length = n := by rw [← h1.length, hb]
          let c0 : Array Value := (Array.range (n * g.size)).map (z.cells[· % z.cells.size]!)
          obtain ⟨c', h6, h7⟩ := fill_slice (size := g.size) (us := us) (k := 0) (cells := c0) (fun u hu => by rw [h5 u hu, hsz]) (by simp [c0, hlen])
          have h8 : c' = (us.flatMap fun u => u.cells.toList).toArray := by apply Array.ext'; rw [h7]; simp
          have hrun : (Instr.buildSlice t n qs.toArray).run P w = .ok (.slice (some ⟨w.heap.size, 0, none⟩) n n) (w.alloc (.cells c' et)) := by
            have hC' : ¬ (16777216 < n * g.size) := by have hC' : n * e.size ≤ 16777216 := hC0; rw [hsz]; omega
            have hlet : (if n * g.size = 0 then pure #[] else (do pure (← Go.zeroValue et).cells) : Go.Sem (Array Value)).run P w = .ok (if n * g.size = 0 then #[] else z.cells) w := by
              split
              · rfl
              · simp [Go.zeroValue, typeInfo, hg1, hz]
            have hfill : Instr.fill (fun i => some (i * g.size, g.size)) ((Array.range (n * g.size)).map ((if n * g.size = 0 then #[] else z.cells)[· % (if n * g.size = 0 then #[] else z.cells).size]!)) qs = some c' := by
              rw [h2, ← h6]
              congr 1
              split
              · rename_i h0; simp [c0, h0]
              · rfl
            simp only [Instr.buildSlice, Sem.run_bind, run_underlying hu, Result.andThen]
            have hs : (Go.sizeOf et).run P w = .ok g.size w := by simp [Go.sizeOf, typeInfo, hg1]
            simp only [hs]
            rw [show (2 : Nat) ^ 24 = 16777216 from rfl, if_neg hC']
            have hzv : (Go.zeroValue et).run P w = .ok z w := by simp [Go.zeroValue, typeInfo, hg1, hz]
            by_cases h0 : n * g.size = 0
            · simp only [h0, if_true] at hfill ⊢
              simp only [Sem.run_bind, Sem.run_pure, Result.andThen, hfill]
              simp [newRow]
            · simp only [h0, if_false] at hfill ⊢
              simp only [Sem.run_bind, Sem.run_pure, Result.andThen, hzv, hfill]
              simp [newRow]
          have hrow := rowAt_new (w := w) h3 (rest := #[]) (cap := n) (by rw [h4, hlen]; exact Nat.le_refl _) (by
            have : n * 1 ≤ n * e.size := Nat.mul_le_mul_left _ (by omega)
            unfold maxLen; omega) (by rw [h4, hlen]; simp) et
          split at hp
          · cases hp
            simp only [getCs] at he
            have hc := h.ch fresh
            generalize hg : getC s.H fresh = c at he hc
            cases c <;> (try (simp at he; done))
            simp at he
            obtain ⟨rfl, rfl, rfl⟩ := he
            obtain ⟨hc1, hc2, hc3⟩ := hc
            obtain ⟨h9, h10⟩ := h.upd1 fresh (.slice (some ⟨w.heap.size, 0, none⟩) (L ()).length n) 0 [w.heap.size] (.row et e 0 L) (w.alloc (.cells c' et))
              (by rw [hc2]; simp) (by omega) (by rw [hc2]; simp) (fun b' hb' => by obtain rfl : b' = w.heap.size := (by simpa using hb'); exact ⟨.inr (Nat.le_refl _), by rw [World.size_alloc]; exact Nat.lt_succ_self _⟩) (fun b hb _ => alloc_lt w _ hb) rfl rfl rfl (by simp)
              (by
                refine ⟨by simp [Ev.upd], ?_⟩
                have e1 : (Ev.upd ρ fresh (.slice (some ⟨w.heap.size, 0, none⟩) (L ()).length n) 0 [w.heap.size]).root fresh = .slice (some ⟨w.heap.size, 0, none⟩) (L ()).length n := by simp [Ev.upd]
                have e2 : (Ev.upd ρ fresh (.slice (some ⟨w.heap.size, 0, none⟩) (L ()).length n) 0 [w.heap.size]).foot fresh = [w.heap.size] := by simp [Ev.upd]
                rw [e1, e2]
                show RowAt _ ρ.M _ _ _ _ _
                rw [h8]
                simpa using hrow)
            exact ⟨.slice (some ⟨w.heap.size, 0, none⟩) n n, _, _, hrun, h9, ⟨⟨_, _, _, rfl⟩, by simp [Ev.upd], fun _ => by simp [Ev.upd, h4, hlen]⟩, h10⟩
          · rename_i hz0
            have hz0 : n ≠ 0 := fun h0 => by rw [h0] at hz0; simp at hz0
            cases hp
            simp at he
            obtain ⟨rfl, rfl, rfl⟩ := he
            obtain ⟨ρ', h9, h10, h11, h12, h13, h14⟩ := h.more (w' := w.alloc (.cells c' et)) (fun b hb => alloc_lt w _ hb) rfl rfl rfl (by simp)
            refine ⟨_, ρ', _, hrun, h9, ?_, h10⟩
            rcases hrow with ⟨⟨_, hr⟩, _⟩ | ⟨b, off, cap, hr, _, h15, _, h16, _⟩
            · injection hr with q1 q2 q3
              exact absurd q3 hz0
            · cases hr
              refine ⟨_, n, by rw [h4, hlen], by rw [h4, hlen]; exact Nat.le_refl _, fun _ => ⟨w.heap.size, 0, rfl, fun j x hj => ?_⟩⟩
              refine CellsM.congr e (CellsM.mono h10.M e (h16 j x hj)) fun k v _ hv => ?_
              refine h14 _ _ _ (Nat.le_refl _) ?_
              rw [h8]
              simpa using hv
        · cases hp
      · cases hp
    · cases hp
  · cases hp

theorem madeCells_get (z : Array Value) (n k : Nat) : (madeCells z n)[k]? = if k < n then some (z[k % z.size]!) else none := by
  unfold madeCells
  rw [Array.getElem?_map]
  split
  · rename_i h; rw [Array.getElem?_range, if_pos h]; rfl
  · rename_i h; rw [Array.getElem?_range, if_neg h]; rfl
theorem flatten_get {α : Type} (l : List α) : ∀ (n k : Nat), k < n * l.length → (List.replicate n l).flatten[k]? = l[k % l.length]?
  | 0, k, h => by simp at h
  | n + 1, k, h => by
    rw [List.replicate_succ, List.flatten_cons]
    by_cases hk : k < l.length
    · rw [List.getElem?_append_left hk, Nat.mod_eq_of_lt hk]
    · rw [List.getElem?_append_right (by omega), flatten_get l n _ (by rw [Nat.add_mul] at h; omega)]
      congr 1
      exact (Nat.mod_eq_sub_mod (by omega)).symm
theorem madeCells_split (z : Array Value) {size : Nat} (hz : z.size = size) (hp : 0 < size) (l m : Nat) : madeCells z (l * size + m * size) = ((List.replicate l z.toList).flatten).toArray ++ madeCells z (m * size) := by
  have hlen : ((List.replicate l z.toList).flatten).length = l * size := by simp [hz]
  apply Array.ext_getElem?
  intro k
  rw [madeCells_get]
  by_cases hk : k < l * size
  · rw [if_pos (by omega), Array.getElem?_append_left (by simpa [hz] using hk)]
    have := flatten_get z.toList l k (by simpa [hz] using hk)
    rw [List.getElem?_toArray, this]
    have hm : k % z.size < z.size := Nat.mod_lt _ (by omega)
    simp [getElem!_pos, hm]
  · rw [Array.getElem?_append_right (by simp [hz]; omega), madeCells_get]
    have e1 : ((List.replicate l z.toList).flatten).toArray.size = l * size := by simpa using hlen
    rw [e1]
    by_cases hk2 : k < l * size + m * size
    · rw [if_pos hk2, if_pos (by omega)]
      congr 2
      rw [hz]
      conv => lhs; rw [show k = (k - l * size) + size * l by rw [Nat.mul_comm size l]; omega]
      exact Nat.add_mul_mod_self_left _ _ _
    · rw [if_neg hk2, if_neg (by omega)]

theorem makeSlice_sound {t : TypeId} {i : TI} (hT : TIfact P t i) (h : Holds AI G s ρ a.tmps w) {x y : SV} {u v : Value} (hx : Den ρ x u) (hy : Den ρ y v) {fresh : Nat} {p : Plan A} (hp : makeSliceP i x y fresh = some p)
    {d : List Bool} {C : U Prop} {r : SV} {cs : List (Chunk A)} (he : p.eff (getCs s.H p.ids) d = .done C r cs) (hC : C ()) :
    Done AI G P s a w ρ (Instr.makeSlice t u v) (putCs s.H p.ids cs) r := by
  have hk := hT.kind
  unfold makeSliceP at hp
  split at hp
  · rename_i et e ho
    rw [ho] at hk
    obtain ⟨hu, g, hg1, hg2⟩ := hk
    obtain ⟨hsz, hpos, hby, _, z, hz, hz1, hz2⟩ := hg2 e rfl
    split at hp
    · rename_i kl l hl
      split at hp
      · rename_i kc c hc'
        cases hp
        simp only [getCs] at he
        have hc := h.ch fresh
        generalize hg : getC s.H fresh = ch at he hc
        cases ch <;> (try (simp at he; done))
        simp at he
        obtain ⟨rfl, rfl, rfl⟩ := he
        obtain ⟨hc1, hc2, hc3⟩ := hc
        obtain ⟨c0, c1, c2⟩ := hC
        have c2 : c () ≤ 1099511627776 := c2
        have e1 := ivalS_den hl hx
        have e2 := ivalS_den hc' hy
        subst e1; subst e2
        have hb : (g.bytes : Int) * c () ≤ 281474976710656 := by
          have : (g.bytes : Int) * c () ≤ 128 * c () := Int.mul_le_mul_of_nonneg_right (by omega) (by omega)
          omega
        have hrun := run_make (P := P) w t et g z hu hg1 hz kl kc (l ()) (c ()) c0 c1 hb (by omega)
        have hlist : RowList ρ.M e (List.replicate (l ()).toNat e.dflt) ((madeCells z.cells (c ()).toNat.succ.pred).toList.take 0 ++ ((List.replicate (l ()).toNat z.cells.toList).flatten)) := by
          refine ⟨by simp [hz1], fun x hx => ?_, fun j x hj => ?_⟩
          · simp only [List.take_zero, List.nil_append, List.mem_flatten, List.mem_replicate] at hx
            obtain ⟨q, ⟨_, rfl⟩, hx⟩ := hx
            have hzc := hz2 ρ.M
            obtain ⟨vs, h3, h4⟩ := CellsM.dec (ρ := ρ) e (fun _ => e.dflt) _ hzc
            obtain ⟨k, hk1, hk2⟩ := List.getElem_of_mem hx
            have hlv : vs.length = e.size := by rw [← h3.length, dec_length]
            have hkv : k < vs.length := by rw [hlv, ← hz1]; simpa using hk1
            have := h4 k _ (List.getElem?_eq_getElem hkv)
            rw [List.getElem?_eq_getElem hk1, hk2] at this
            cases this
            exact dec_one e _ h3 _ (List.getElem_mem hkv)
          · obtain ⟨hj1, rfl⟩ := by simpa [List.getElem?_replicate] using hj
            refine CellsM.congr e (hz2 ρ.M) fun q v hq hv => ?_
            simp only [List.take_zero, List.nil_append]
            have hz1' : z.cells.toList.length = e.size := by simpa using hz1
            have key : ∀ (n j : Nat), j < n → (List.replicate n z.cells.toList).flatten[j * e.size + q]? = z.cells.toList[q]? := by
              intro n
              induction n with
              | zero => intro j hj; omega
              | succ n ih =>
                intro j hj
                rw [List.replicate_succ, List.flatten_cons]
                cases j with
                | zero => rw [List.getElem?_append_left (by omega)]; simp
                | succ j =>
                  rw [List.getElem?_append_right (by rw [hz1', Nat.add_mul]; omega), hz1', ← ih j (by omega)]
                  congr 1
                  rw [Nat.add_mul]; omega
            rw [key _ j (by omega)]; exact hv
        simp only [List.take_zero, List.nil_append] at hlist
        have hsplit : madeCells z.cells ((c ()).toNat * g.size) = ((List.replicate (l ()).toNat z.cells.toList).flatten).toArray ++ madeCells z.cells (((c ()).toNat - (l ()).toNat) * e.size) := by
          rw [hsz, show (c ()).toNat * e.size = (l ()).toNat * e.size + ((c ()).toNat - (l ()).toNat) * e.size by rw [← Nat.add_mul]; congr 1; omega]
          exact madeCells_split _ hz1 (by omega) _ _
        have hrow := rowAt_new (w := w) hlist (rest := madeCells z.cells (((c ()).toNat - (l ()).toNat) * e.size)) (cap := (c ()).toNat) (by simp; omega) (by unfold maxLen; omega) (by simp [madeCells]) et
        obtain ⟨h9, h10⟩ := h.upd1 fresh (.slice (some ⟨w.heap.size, 0, none⟩) (l ()).toNat (c ()).toNat) 0 [w.heap.size] (.row et e 0 (fun _ => List.replicate (l ()).toNat e.dflt)) (w.alloc (.cells (madeCells z.cells ((c ()).toNat * g.size)) et))
          (by rw [hc2]; simp) (by omega) (by rw [hc2]; simp) (fun b' hb' => by obtain rfl : b' = w.heap.size := (by simpa using hb'); exact ⟨.inr (Nat.le_refl _), by rw [World.size_alloc]; exact Nat.lt_succ_self _⟩) (fun b hb _ => alloc_lt w _ hb) rfl rfl rfl (by simp)
          (by
            refine ⟨by simp [Ev.upd], ?_⟩
            have e1 : (Ev.upd ρ fresh (.slice (some ⟨w.heap.size, 0, none⟩) (l ()).toNat (c ()).toNat) 0 [w.heap.size]).root fresh = .slice (some ⟨w.heap.size, 0, none⟩) (l ()).toNat (c ()).toNat := by simp [Ev.upd]
            have e2 : (Ev.upd ρ fresh (.slice (some ⟨w.heap.size, 0, none⟩) (l ()).toNat (c ()).toNat) 0 [w.heap.size]).foot fresh = [w.heap.size] := by simp [Ev.upd]
            rw [e1, e2, hsplit]
            show RowAt _ ρ.M _ _ _ _ _
            simpa using hrow)
        exact ⟨_, _, _, hrun, h9, ⟨⟨_, _, _, rfl⟩, by simp [Ev.upd], fun _ => by simp [Ev.upd]⟩, h10⟩
      · cases hp
    · cases hp
  · cases hp

end Go.Sx

/-
  Symbolic execution: maps; the bytes of a string; s[:0:0].
-/
namespace Go.Sx
set_option linter.all false
open Go.RowKit Go.MapKept

variable {A : Type} {AI : Abs A} {G : Fr} {s : SS A} {ρ : Ev} {a : Act} {w : World} {P : Program}

theorem find_at {K V : Type} [DecidableEq K] {mk : K → Value} {ok : K → Prop} {R : V → Value → Prop} {d : TypeDesc} (hs : ∀ x y, ok x → ok y → Instr.sameNow d (mk x) (mk y) = some (decide (x = y))) {k : K} (hk : ok k) :
    ∀ {L : List (K × V)} {es : List MapEntry} (i : Nat), All2 (fun p (m : MapEntry) => m.key = mk p.1 ∧ ok p.1 ∧ R p.2 m.val) L es →
      (Instr.findNow d (mk k) es i = some none ∧ getA L k = none ∧ (∀ y, putA L k y = L ++ [(k, y)]) ∧ delA L k = L) ∨
      ∃ j v m, es[j]? = some m ∧ L[j]? = some (k, v) ∧ R v m.val ∧ m.key = mk k ∧ Instr.findNow d (mk k) es i = some (some (i + j, m.val)) ∧ getA L k = some v ∧ (∀ y, putA L k y = L.set j (k, y)) ∧ delA L k = L.eraseIdx j
  | [], es, i, h => by cases h; exact .inl ⟨rfl, rfl, fun _ => rfl, rfl⟩
  | (c, v) :: L, es, i, h => by
    cases h with
    | @cons _ m _ es h1 h2 =>
      obtain ⟨h3, h4, h5⟩ := h1
      have h6 := hs k c hk h4
      by_cases e : c = k
      · subst e
        exact .inr ⟨0, v, m, rfl, rfl, h5, h3, by simp [Instr.findNow, h3, h6], by simp [getA], fun y => by simp [putA], by simp [delA]⟩
      · have h7 : Instr.findNow d (mk k) (m :: es) i = Instr.findNow d (mk k) es (i + 1) := by
          simp [Instr.findNow, h3, h6, show ¬ k = c from fun q => e q.symm]
        rcases find_at hs hk (i + 1) h2 with ⟨h8, h9, h10, h11⟩ | ⟨j, u, m', h8, h9, h10, h11, h12, h13, h14, h15⟩
        · exact .inl ⟨h7.trans h8, by simp [getA, e, h9], fun y => by simp [putA, e, h10], by simp [delA, e, h11]⟩
        · exact .inr ⟨j + 1, u, m', by simpa using h8, by simpa using h9, h10, h11, by rw [h7, h12]; congr 3; omega, by simp [getA, e, h13], fun y => by simp [putA, e, h14], by simp [delA, e, h15]⟩

theorem keyCs_of : ∀ (e : Ty) {x : e.T} {M : Mem} {c : Nat → Option Value}, e.keyF = true → CellsM M e x c → (e.keyCs x).length = e.size ∧ ∀ j v, (e.keyCs x)[j]? = some v → c j = some v
  | .int k, x, M, c, _, h => ⟨rfl, fun j v hj => by cases j with
    | zero => cases hj; exact h
    | succ j => simp [Ty.keyCs] at hj⟩
  | .bool, x, M, c, _, h => ⟨rfl, fun j v hj => by cases j with
    | zero => cases hj; exact h
    | succ j => simp [Ty.keyCs] at hj⟩
  | .pair a b, x, M, c, hf, h => by
    simp only [Ty.keyF, Bool.and_eq_true] at hf
    obtain ⟨h1, h2⟩ := keyCs_of a hf.1 h.1
    obtain ⟨h3, h4⟩ := keyCs_of b hf.2 h.2
    refine ⟨by simp [Ty.keyCs, Ty.size, h1, h3], fun j v hj => ?_⟩
    simp only [Ty.keyCs] at hj
    by_cases hl : j < (a.keyCs x.1).length
    · rw [List.getElem?_append_left hl] at hj; exact h2 j v hj
    · rw [List.getElem?_append_right (by omega)] at hj
      have := h4 _ v hj
      try dsimp only at this
      rwa [show a.size + (j - (a.keyCs x.1).length) = j by omega] at this
  | .bytes, _, _, _, hf, _ => by cases hf
  | .str, _, _, _, hf, _ => by cases hf
  | .unit, _, _, _, hf, _ => by cases hf
  | .lst _, _, _, _, hf, _ => by cases hf
theorem keyCs_den {ρ : Ev} : ∀ (e : Ty) (x : U e.T), e.keyF = true → All2 (Den1 ρ) (dec e x) (e.keyCs (x ()))
  | .int k, x, _ => .cons rfl .nil
  | .bool, x, _ => .cons rfl .nil
  | .pair a b, x, hf => by
    simp only [Ty.keyF, Bool.and_eq_true] at hf
    exact (keyCs_den a (fun _ => (x ()).1) hf.1).append (keyCs_den b (fun _ => (x ()).2) hf.2)
  | .bytes, _, hf => by cases hf
  | .str, _, hf => by cases hf
  | .unit, _, hf => by cases hf
  | .lst _, _, hf => by cases hf
theorem find_asking {V : Type} {R : V → Value → Prop} {kt : TypeId} {e : Ty} (hk : AggKey P kt e) {k : e.T} (hok : e.keyIn k) :
    ∀ {L : List (e.T × V)} {es : List MapEntry} (i : Nat), All2 (fun p (m : MapEntry) => m.key = .agg (e.keyCs p.1).toArray ∧ e.keyIn p.1 ∧ R p.2 m.val) L es →
      ((∀ w, (Instr.findAsking kt (.agg (e.keyCs k).toArray) es i).run P w = .ok none w) ∧ @getA e.T V e.dec L k = none ∧ (∀ y, @putA e.T V e.dec L k y = L ++ [(k, y)]) ∧ @delA e.T V e.dec L k = L) ∨
      ∃ j v m, es[j]? = some m ∧ L[j]? = some (k, v) ∧ R v m.val ∧ m.key = .agg (e.keyCs k).toArray ∧ (∀ w, (Instr.findAsking kt (.agg (e.keyCs k).toArray) es i).run P w = .ok (some (i + j, m.val)) w) ∧ @getA e.T V e.dec L k = some v ∧ (∀ y, @putA e.T V e.dec L k y = L.set j (k, y)) ∧ @delA e.T V e.dec L k = L.eraseIdx j
  | [], es, i, h => by cases h; exact .inl ⟨fun w => by simp [Instr.findAsking], rfl, fun _ => rfl, rfl⟩
  | (c, v) :: L, es, i, h => by
    letI := e.dec
    cases h with
    | @cons _ m _ es h1 h2 =>
      obtain ⟨h3, h4, h5⟩ := h1
      have h6 := hk.2.1 k c hok h4
      by_cases e1 : c = k
      · subst e1
        exact .inr ⟨0, v, m, rfl, rfl, h5, h3, fun w => by simp [Instr.findAsking, h3, h6, Result.andThen], by simp [getA], fun y => by simp [putA], by simp [delA]⟩
      · have h7 : ∀ w, (Instr.findAsking kt (.agg (e.keyCs k).toArray) (m :: es) i).run P w = (Instr.findAsking kt (.agg (e.keyCs k).toArray) es (i + 1)).run P w := fun w => by
          simp [Instr.findAsking, h3, h6, Result.andThen, show ¬ k = c from fun q => e1 q.symm]
        rcases find_asking hk hok (i + 1) h2 with ⟨h8, h9, h10, h11⟩ | ⟨j, u, m', h8, h9, h10, h11, h12, h13, h14, h15⟩
        · exact .inl ⟨fun w => (h7 w).trans (h8 w), by simp [getA, e1, h9], fun y => by simp [putA, e1, h10], by simp [delA, e1, h11]⟩
        · exact .inr ⟨j + 1, u, m', by simpa using h8, by simpa using h9, h10, h11, fun w => by rw [h7, h12]; congr 3; omega, by simp [getA, e1, h13], fun y => by simp [putA, e1, h14], by simp [delA, e1, h15]⟩

/-- The same, for a map's keys. -/
theorem find_key {M : Mem} {kt : TypeId} {ks : KT} (hk : KeyOk P kt ks) {e : Ty} {L : List (ks.T × e.T)} {es : List MapEntry} {clock : Nat} (h : MapAt M ks e L es clock) {k : ks.T} (hok : ks.ok k) :
    (∀ em w, (Instr.checkKey em 10000 kt (ks.mk k)).run P w = .ok () w) ∧ (∀ w, (Instr.keyThatStays (ks.mk k) (ks.mk k)).run P w = .ok (ks.mk k) w) ∧
      (((∀ w, (Instr.findKey kt (ks.mk k) es).run P w = .ok none w) ∧ getM ks L k = none ∧ (∀ y, putM ks L k y = L ++ [(k, y)]) ∧ delM ks L k = L) ∨
      ∃ j v m, es[j]? = some m ∧ L[j]? = some (k, v) ∧ ValIs M e v m.val ∧ m.key = ks.mk k ∧ (∀ w, (Instr.findKey kt (ks.mk k) es).run P w = .ok (some (j, m.val)) w) ∧ getM ks L k = some v ∧ (∀ y, putM ks L k y = L.set j (k, y)) ∧ delM ks L k = L.eraseIdx j) := by
  have fin : ∀ {d : TypeDesc}, P.underlying kt = some d → IsKey d (ks.mk k) → ((Instr.findNow d (ks.mk k) es 0 = some none ∧ getM ks L k = none ∧ (∀ y, putM ks L k y = L ++ [(k, y)]) ∧ delM ks L k = L) ∨
      ∃ j v m, es[j]? = some m ∧ L[j]? = some (k, v) ∧ ValIs M e v m.val ∧ m.key = ks.mk k ∧ Instr.findNow d (ks.mk k) es 0 = some (some (j, m.val)) ∧ getM ks L k = some v ∧ (∀ y, putM ks L k y = L.set j (k, y)) ∧ delM ks L k = L.eraseIdx j) →
      (∀ em w, (Instr.checkKey em 10000 kt (ks.mk k)).run P w = .ok () w) ∧ (∀ w, (Instr.keyThatStays (ks.mk k) (ks.mk k)).run P w = .ok (ks.mk k) w) ∧
      (((∀ w, (Instr.findKey kt (ks.mk k) es).run P w = .ok none w) ∧ getM ks L k = none ∧ (∀ y, putM ks L k y = L ++ [(k, y)]) ∧ delM ks L k = L) ∨
      ∃ j v m, es[j]? = some m ∧ L[j]? = some (k, v) ∧ ValIs M e v m.val ∧ m.key = ks.mk k ∧ (∀ w, (Instr.findKey kt (ks.mk k) es).run P w = .ok (some (j, m.val)) w) ∧ getM ks L k = some v ∧ (∀ y, putM ks L k y = L.set j (k, y)) ∧ delM ks L k = L.eraseIdx j) := fun hd hi hf =>
    ⟨fun em w => run_checkKey hd hi em 9999, fun w => run_keyThatStays hi, hf.imp (fun ⟨h1, h2⟩ => ⟨fun w => run_findKey hd h1, h2⟩) fun ⟨j, v, m, h1, h2, h3, h4, h5, h6⟩ => ⟨j, v, m, h1, h2, h3, h4, fun w => run_findKey hd h5, h6⟩⟩
  cases ks with
  | int kk =>
    refine fin (d := .int kk) hk (by simp [KT.mk, IsKey]) ?_
    have := find_at (K := Int) (mk := fun n => .int kk n) (ok := fun _ => True) (R := ValIs M e) (d := .int kk) (fun x y _ _ => by simp [Instr.sameNow]; rfl) (k := k) trivial 0 h.1
    simpa [KT.mk, getM, putM, delM] using this
  | str =>
    refine fin (d := .string) hk (by simp [KT.mk, IsKey]) ?_
    have := find_at (K := List Int) (mk := fun l => .string ⟨(l.map fun (x : Int) => x.toNat.toUInt8).toArray⟩) (ok := fun l => ∀ x ∈ l, 0 ≤ x ∧ x < 256) (R := ValIs M e) (d := .string) (fun x y hx hy => by
      have := str_eq hx hy
      simp only [Instr.sameNow, Option.some.injEq]
      rw [← this, Bool.eq_iff_iff, bytes_beq]
      simp [Nat.toUInt8]) (k := k) hok 0 h.1
    simpa [KT.mk, getM, putM, delM] using this
  | agg e0 =>
    have hk : AggKey P kt e0 := hk
    have hok : e0.keyF = true ∧ e0.keyIn k := hok
    refine ⟨fun em w => hk.2.2.1 k hok.2 em w, fun w => hk.2.2.2 k hok.2 w, ?_⟩
    have := find_asking (R := ValIs M e) hk hok.2 0 (h.1.mono fun a b ⟨h1, h2, h3⟩ => ⟨h1, h2.2, h3⟩)
    rcases this with ⟨h1, h2, h3, h4⟩ | ⟨j, v, m, h1, h2, h3, h4, h5, h6, h7, h8⟩
    · exact .inl ⟨fun w => (Go.run_findKey_eq w hk.1 _ _).trans (h1 w), h2, h3, h4⟩
    · exact .inr ⟨j, v, m, h1, h2, h3, h4, fun w => by rw [Nat.zero_add] at h5; exact (Go.run_findKey_eq w hk.1 _ _).trans (h5 w), h6, h7, h8⟩

theorem keyV_den {ks : KT} {x : SV} {C : U Prop} {k : U ks.T} (h : keyV ks x = some (C, k)) (hC : C ()) {u : Value} (hu : Den ρ x u) : u = ks.mk (k ()) ∧ ks.ok (k ()) := by
  unfold keyV at h
  split at h
  · split at h <;> simp at h
    rename_i hk
    simp at hk
    subst hk
    obtain ⟨rfl, rfl⟩ := h
    exact ⟨hu, trivial⟩
  · split at h <;> simp at h
    rename_i hk
    simp at hk
    subst hk
    obtain ⟨rfl, rfl⟩ := h
    exact ⟨hu, trivial⟩
  · simp at h
    obtain ⟨rfl, rfl⟩ := h
    exact ⟨hu, hC⟩
  · rename_i e l
    split at h <;> (try (cases h; done))
    rename_i hf
    split at h <;> simp at h
    rename_i y hy
    obtain ⟨rfl, rfl⟩ := h
    obtain ⟨vs, rfl, hvs⟩ := hu
    obtain ⟨v1, v2, e1, l1, c1, d1⟩ := CellsM.enc e hy hvs
    cases d1
    simp at e1
    subst e1
    obtain ⟨h1, h2⟩ := keyCs_of e hf c1
    refine ⟨?_, hf, hC⟩
    have : vs = e.keyCs (y ()) := by
      apply List.ext_getElem (by rw [l1, h1])
      intro j hj hj'
      have := h2 j _ (List.getElem?_eq_getElem hj')
      rw [List.getElem?_eq_getElem hj] at this
      exact Option.some.inj this
    rw [this]; rfl
  · cases h

theorem elV_den {e : Ty} {x : U e.T} {y : SV2} (h : elV e x = some y) {v : Value} (hv : ValIs ρ.M e (x ()) v) : Den2 ρ y v := by
  obtain ⟨vs, h1, h2, h3⟩ := hv
  obtain ⟨us, h4, h5⟩ := CellsM.dec (ρ := ρ) e x _ h2
  have hl : us.length = vs.length := by rw [h1, ← h4.length, dec_length]
  have e1 : us = vs := by
    apply List.ext_getElem hl
    intro i hi hi'
    have := h5 i _ (List.getElem?_eq_getElem hi)
    simp only [List.getElem?_eq_getElem hi', Option.some.injEq] at this
    exact this.symm
  subst e1
  unfold elV at h
  split at h
  · rename_i hg
    cases h
    rw [hg] at h3
    exact ⟨us, h3, h4⟩
  · rename_i hg
    rw [hg] at h3
    simp only [] at h3
    split at h
    · rename_i z hz
      cases h
      rw [hz, h3] at h4
      cases h4 with | cons h6 _ => exact h6
    · cases h

theorem makeMap_sound {t : TypeId} {i : TI} (h : Holds AI G s ρ a.tmps w) {fresh : Nat} {p : Plan A} (hp : makeMapP i fresh = some p) {d : List Bool} {C : U Prop} {r : SV} {cs : List (Chunk A)}
    (he : p.eff (getCs s.H p.ids) d = .done C r cs) : Done AI G P s a w ρ (Instr.makeMap t none) (putCs s.H p.ids cs) r := by
  unfold makeMapP at hp
  split at hp <;> cases hp
  rename_i ks e _
  simp only [getCs] at he
  have hc := h.ch fresh
  generalize hg : getC s.H fresh = c at he hc
  cases c <;> (try (simp at he; done))
  simp at he
  obtain ⟨rfl, rfl, rfl⟩ := he
  obtain ⟨hc1, hc2, hc3⟩ := hc
  obtain ⟨h4, h5⟩ := h.upd1 fresh (.pointer (some ⟨w.heap.size, 0, none⟩)) 0 [w.heap.size] (.map ks e (fun _ => [])) (w.alloc (.map #[] 0))
    (by rw [hc2]; simp) (by omega) (by rw [hc2]; simp) (fun b' hb' => by obtain rfl : b' = w.heap.size := (by simpa using hb'); exact ⟨.inr (Nat.le_refl _), by rw [World.size_alloc]; exact Nat.lt_succ_self _⟩) (fun b hb _ => alloc_lt w _ hb) rfl rfl rfl (by simp)
    ⟨w.heap.size, #[], 0, by simp [Ev.upd], by simp [Ev.upd], alloc_get w _, .nil, by simp, by simp⟩
  exact ⟨.map (some w.heap.size), _, _, by simp [Instr.makeMap, Result.andThen], h4, ⟨_, by simp [Ev.upd], rfl⟩, h5⟩

theorem lookup_sound {t : TypeId} {i : TI} (hT : TIfact P t i) (h : Holds AI G s ρ a.tmps w) {x ix : SV} {u v : Value} (hx : Den ρ x u) (hix : Den ρ ix v) {ok : Bool} {p : Plan A} (hp : lookupP i x ix ok = some p) {d : List Bool} {C : U Prop} {r : SV} {cs : List (Chunk A)}
    (he : p.eff (getCs s.H p.ids) d = .done C r cs) (hC : C ()) : Looks s p cs ∧ ∃ y, (Instr.lookup t u v ok).run P w = .ok y w ∧ Den ρ r y := by
  have hk := hT.kind
  unfold lookupP at hp
  split at hp <;> cases hp
  rename_i kt et ks0 e0 i' hik
  rw [hik] at hk
  obtain ⟨hu, hk2⟩ := hk
  simp only [getCs] at he
  have hc := h.ch i'
  generalize hg : getC s.H i' = c at he hc
  cases c <;> (try (simp at he; done))
  rename_i ks e L
  dsimp only at he
  split at he <;> (try (simp at he; done))
  rename_i hb
  obtain ⟨hb1, hb2⟩ := Bool.and_eq_true_iff.1 hb
  simp at hb1 hb2
  subst hb1; subst hb2
  split at he <;> (try (simp at he; done))
  rename_i C' k hkv
  split at he <;> (try (simp at he; done))
  rename_i y hy
  simp at he
  obtain ⟨rfl, rfl, rfl⟩ := he
  obtain ⟨rfl, hok⟩ := keyV_den hkv hC hix
  obtain ⟨b, es, clock, h1, h2, h3, h4⟩ := hc
  obtain ⟨b', h5, rfl⟩ := hx
  rw [h1] at h5
  cases h5
  obtain ⟨hkey, g, z, hg1, hz, hz2⟩ := hk2 _ _ rfl
  obtain ⟨hck, hd2, hd3⟩ := find_key hkey h4 hok
  refine ⟨by simp [Looks, getCs, hg], ?_⟩
  have fin : ∀ (val : Value) (c : Bool), ValIs ρ.M e ((getM ks (L ()) (k ())).getD e.dflt) val → (getM ks (L ()) (k ())).isSome = c → Den ρ (match ok with | true => .tup [y, .one (.sb (fun _ => (getM ks (L ()) (k ())).isSome))] | false => .val y) (if ok then .tuple #[val, .bool c] else val) := by
    intro val c hval hc
    have := elV_den (ρ := ρ) hy hval
    cases ok with
    | true => exact ⟨[val, .bool c], rfl, .cons this (.cons (by rw [← hc]; rfl) .nil)⟩
    | false => exact this
  rcases hd3 with ⟨hn, hgn, _⟩ | ⟨j, vv, m, _, _, hval, _, hn, hgn, _⟩
  · refine ⟨_, ?_, fin z false (by rw [hgn]; exact hz2 _) (by rw [hgn]; rfl)⟩
    simp [Instr.lookup, run_underlying hu, MapKept.run_getObj_map h3, hck, hn, Go.zeroValue, typeInfo, hg1, hz, Result.andThen]
  · refine ⟨_, ?_, fin m.val true (by rw [hgn]; exact hval) (by rw [hgn]; rfl)⟩
    simp [Instr.lookup, run_underlying hu, MapKept.run_getObj_map h3, hck, hn, Result.andThen]

theorem All2.set {α β : Type} {R : α → β → Prop} {l : List α} {m : List β} (h : All2 R l m) {x : α} {y : β} (hxy : R x y) : ∀ j, All2 R (l.set j x) (m.set j y) := by
  induction h with
  | nil => intro j; simpa using All2.nil
  | cons h1 h2 ih =>
    intro j
    cases j with
    | zero => exact .cons hxy h2
    | succ j => exact .cons h1 (ih j)
theorem All2.erase {α β : Type} {R : α → β → Prop} {l : List α} {m : List β} (h : All2 R l m) : ∀ j, All2 R (l.eraseIdx j) (m.eraseIdx j) := by
  induction h with
  | nil => intro j; simpa using All2.nil
  | cons h1 h2 ih =>
    intro j
    cases j with
    | zero => exact h2
    | succ j => exact .cons h1 (ih j)

theorem velt_den {e : Ty} {x : SV} {y : U e.T} (h : velt e x = some y) (ha : aggV x = e.agg) {u : Value} (hu : Den ρ x u) : ValIs ρ.M e (y ()) u := by
  unfold velt at h
  split at h <;> (try cases h)
  rename_i l hl
  split at h <;> (try cases h)
  rename_i hst
  split at h <;> cases h
  rename_i hen
  have hd := cellsOf_den hl hu hst
  obtain ⟨v1, v2, e1, e2, e3, e4⟩ := CellsM.enc e hen hd
  cases e4
  simp only [List.append_nil] at e1
  refine ⟨v1, e2, e3, ?_⟩
  unfold cellsOf at hl
  split at hl
  · cases hl
    simp only [aggV] at ha
    rw [← ha]
    have h1 := hd.storable hst
    have hu1 : u.cells = #[u] := by
      rename_i x1
      simp only [List.all_cons, List.all_nil, Bool.and_true] at hst
      have := storable_one hst (show Den1 ρ x1 u from hu)
      cases u <;> simp_all [Value.oneCell', Value.cells]
    rw [hu1] at e1
    simpa using e1.symm
  · cases hl
    simp only [aggV] at ha
    rw [← ha]
    obtain ⟨vs, rfl, h2⟩ := hu
    simp only [Value.cells] at e1
    simpa using e1
  · split at hl <;> cases hl
    simp only [aggV] at ha
    rw [← ha]
    obtain ⟨vs, rfl, h2⟩ := hu
    exact e1.symm
  · cases hl

/-- The map is another one. -/
theorem Holds.turn {tmps : Array Value} (h : Holds AI G s ρ tmps w) {i : Nat} {ks : KT} {e : Ty} {L L' : U (List (ks.T × e.T))} (hi : getC s.H i = .map ks e L) {b : Nat} {es es' : Array MapEntry} {clock clock' : Nat} (h1 : ρ.root i = .pointer (some ⟨b, 0, none⟩)) (h2 : ρ.foot i = [b])
    (h3 : w.heap[b]? = some (.map es clock)) (h4 : MapAt ρ.M ks e (L' ()) es'.toList clock') :
    ∃ ρ', Holds AI G ⟨s.tm, putC s.H i (.map ks e L')⟩ ρ' tmps { w with heap := w.heap.setIfInBounds b (.map es' clock') } ∧ ρ.Le ρ' := by
  have hlt : b < w.heap.size := h.lt i b (by simp [h2])
  obtain ⟨h5, h6⟩ := h.upd1 i (ρ.root i) (ρ.ver i) (ρ.foot i) (.map ks e L') { w with heap := w.heap.setIfInBounds b (.map es' clock') } (fun _ h => h) (Nat.le_refl _) (fun _ _ => rfl) (fun bb hbb => ⟨.inl hbb, by simpa using h.lt i bb hbb⟩)
    (fun b2 _ hn => by
      have : b ≠ b2 := fun e => hn (by rw [h2, e]; simp)
      simp [this]) rfl rfl rfl (by simp) ⟨b, es', clock', by simp [Ev.upd, h1], by simp [Ev.upd, h2], by simp [hlt], h4⟩
  exact ⟨_, h5, h6⟩

theorem mapUpdate_sound {t : TypeId} {i : TI} (hT : TIfact P t i) (h : Holds AI G s ρ a.tmps w) {x ix y : SV} {u v z : Value} (hx : Den ρ x u) (hix : Den ρ ix v) (hy : Den ρ y z) {p : Plan A} (hp : mapUpdateP i x ix y = some p) {d : List Bool} {C : U Prop} {r : SV} {cs : List (Chunk A)}
    (he : p.eff (getCs s.H p.ids) d = .done C r cs) (hC : C ()) : ∃ ρ' w', (Instr.mapUpdate t u v z).run P w = .ok () w' ∧ Holds AI G ⟨s.tm, putCs s.H p.ids cs⟩ ρ' a.tmps w' ∧ r = one .any := by
  have hk := hT.kind
  unfold mapUpdateP at hp
  split at hp <;> cases hp
  rename_i kt et ks0 e0 i' hik
  rw [hik] at hk
  obtain ⟨hu, hk2⟩ := hk
  simp only [getCs] at he
  have hc := h.ch i'
  generalize hg : getC s.H i' = c at he hc
  cases c <;> (try (simp at he; done))
  rename_i ks e L
  dsimp only at he
  split at he <;> (try (simp at he; done))
  rename_i hb
  obtain ⟨hb, hb3⟩ := Bool.and_eq_true_iff.1 hb
  obtain ⟨hb1, hb2⟩ := Bool.and_eq_true_iff.1 hb
  simp at hb1 hb2 hb3
  subst hb1; subst hb2
  split at he <;> (try (simp at he; done))
  rename_i C' k hkv
  split at he <;> (try (simp at he; done))
  rename_i yy hyy
  simp at he
  obtain ⟨rfl, rfl, rfl⟩ := he
  obtain ⟨rfl, hok⟩ := keyV_den hkv hC hix
  obtain ⟨b, es, clock, h1, h2, h3, h4⟩ := hc
  obtain ⟨b', h5, rfl⟩ := hx
  rw [h1] at h5
  cases h5
  obtain ⟨hkey, -⟩ := hk2 _ _ rfl
  obtain ⟨hck, hd2, hd3⟩ := find_key hkey h4 hok
  have hval := velt_den (ρ := ρ) hyy hb3 hy
  rcases hd3 with ⟨hn, _, hput, _⟩ | ⟨j, vv, m, hm, hL, _, hmk, hn, _, hput, _⟩
  · obtain ⟨ρ', h6, h7⟩ := h.turn (L' := fun _ => putM ks (L ()) (k ()) (yy ())) hg h1 h2 h3 (es' := es.push ⟨ks.mk (k ()), z, clock⟩) (clock' := clock + 1) (by
      rw [hput]
      refine ⟨?_, ?_, ?_⟩
      · rw [Array.toList_push]; exact h4.1.append (.cons ⟨rfl, hok, hval⟩ .nil)
      · rw [Array.toList_push, List.map_append, List.pairwise_append]
        refine ⟨h4.2.1, by simp, fun a ha b hb => ?_⟩
        simp only [List.map_cons, List.map_nil, List.mem_singleton] at hb
        subst hb
        obtain ⟨m, hm, rfl⟩ := List.mem_map.1 ha
        exact h4.2.2 m hm
      · intro m hm
        rw [Array.toList_push, List.mem_append] at hm
        rcases hm with hm | hm
        · have := h4.2.2 m hm; omega
        · simp at hm; subst hm; simp)
    refine ⟨ρ', _, ?_, h6, rfl⟩
    simp [Instr.mapUpdate, run_underlying hu, MapKept.run_getObj_map h3, hck, hn, run_setObj_map _ h3, Result.andThen]
  · have hmj : es[j]? = some m := by simpa using hm
    obtain ⟨ρ', h6, h7⟩ := h.turn (L' := fun _ => putM ks (L ()) (k ()) (yy ())) hg h1 h2 h3 (es' := es.modify j fun e => { e with key := ks.mk (k ()), val := z }) (clock' := clock) (by
      rw [hput]
      have e1 : (es.modify j fun e => { e with key := ks.mk (k ()), val := z }).toList = es.toList.set j ⟨ks.mk (k ()), z, m.born⟩ := by
        apply List.ext_getElem?
        intro q
        rw [Array.getElem?_toList, Array.getElem?_modify, List.getElem?_set, Array.getElem?_toList]
        split
        · rename_i hq
          subst hq
          rw [hmj]
          have := (Array.getElem?_eq_some_iff.1 hmj).1
          simp [this]
        · rfl
      rw [e1]
      refine ⟨h4.1.set ⟨rfl, hok, hval⟩ j, ?_, ?_⟩
      · rw [List.map_set]
        have : (es.toList.map (·.born)).set j m.born = es.toList.map (·.born) := by
          apply List.ext_getElem?
          intro q
          rw [List.getElem?_set]
          split
          · rename_i hq
            subst hq
            have hlt := (Array.getElem?_eq_some_iff.1 hmj).1
            rw [List.getElem?_map, hm, if_pos (by simpa using hlt)]
            rfl
          · rfl
        rw [this]; exact h4.2.1
      · intro q hq
        rcases List.mem_or_eq_of_mem_set hq with hq | rfl
        · exact h4.2.2 q hq
        · exact h4.2.2 m (List.mem_of_getElem? hm))
    refine ⟨ρ', _, ?_, h6, rfl⟩
    have hst : ∀ q, (Instr.keyThatStays (ks.mk (k ())) (ks.mk (k ()))).run P q = .ok (ks.mk (k ())) q := hd2
    simp [Instr.mapUpdate, run_underlying hu, MapKept.run_getObj_map h3, hck, hn, hmj, hmk, hst, run_setObj_map _ h3, Result.andThen]

theorem delete_sound {t k2 ty : TypeId} {i : TI} (hT : TIfact P t i) (h : Holds AI G s ρ a.tmps w) {x ix : SV} {u v : Value} (hx : Den ρ x u) (hix : Den ρ ix v) {p : Plan A} (hp : deleteP i x ix = some p) {d : List Bool} {C : U Prop} {r : SV} {cs : List (Chunk A)}
    (he : p.eff (getCs s.H p.ids) d = .done C r cs) (hC : C ()) : Done AI G P s a w ρ (Builtin.delete_ #[t, k2] ty #[u, v]) (putCs s.H p.ids cs) r := by
  have hk := hT.kind
  unfold deleteP at hp
  split at hp <;> cases hp
  rename_i kt et ks0 e0 i' hik
  rw [hik] at hk
  obtain ⟨hu, hk2⟩ := hk
  simp only [getCs] at he
  have hc := h.ch i'
  generalize hg : getC s.H i' = c at he hc
  cases c <;> (try (simp at he; done))
  rename_i ks e L
  dsimp only at he
  split at he <;> (try (simp at he; done))
  rename_i hb1
  simp at hb1
  subst hb1
  split at he <;> (try (simp at he; done))
  rename_i C' k hkv
  simp at he
  obtain ⟨rfl, rfl, rfl⟩ := he
  obtain ⟨rfl, hok⟩ := keyV_den hkv hC hix
  obtain ⟨b, es, clock, h1, h2, h3, h4⟩ := hc
  obtain ⟨b', h5, rfl⟩ := hx
  rw [h1] at h5
  cases h5
  obtain ⟨hkey, -⟩ := hk2 _ _ rfl
  obtain ⟨hck, hd2, hd3⟩ := find_key hkey h4 hok
  rcases hd3 with ⟨hn, _, _, hdel⟩ | ⟨j, vv, m, hm, hL, _, hmk, hn, _, _, hdel⟩
  · obtain ⟨ρ', h6, h7⟩ := h.turn (L' := fun _ => delM ks (L ()) (k ())) hg h1 h2 h3 (es' := es) (clock' := clock) (by rw [hdel]; exact h4)
    refine ⟨.tuple #[], ρ', _, ?_, h6, ⟨[], rfl, .nil⟩, h7⟩
    simp [Builtin.delete_, run_underlying hu, MapKept.run_getObj_map h3, hck, hn, run_setObj_map _ h3, Result.andThen]
  · obtain ⟨ρ', h6, h7⟩ := h.turn (L' := fun _ => delM ks (L ()) (k ())) hg h1 h2 h3 (es' := es.eraseIdxIfInBounds j) (clock' := clock) (by
      rw [hdel]
      have e1 : (es.eraseIdxIfInBounds j).toList = es.toList.eraseIdx j := by simp
      rw [e1]
      exact ⟨h4.1.erase j, h4.2.1.sublist ((List.eraseIdx_sublist _ _).map _), fun q hq => h4.2.2 q (List.mem_of_mem_eraseIdx hq)⟩)
    refine ⟨.tuple #[], ρ', _, ?_, h6, ⟨[], rfl, .nil⟩, h7⟩
    simp [Builtin.delete_, run_underlying hu, MapKept.run_getObj_map h3, hck, hn, run_setObj_map _ h3, Result.andThen]

/-! ### the bytes of a string -/
theorem convNew_sound {ts td : TypeId} {j : TI} (hS : P.underlying ts = some .string) (hT : TIfact P td j) (h : Holds AI G s ρ a.tmps w) {x : SV} {u : Value} (hx : Den ρ x u) {p : Plan A} (hp : convNew j x = some p) {d : List Bool} {C : U Prop} {v : SV} {cs : List (Chunk A)}
    (he : p.eff (getCs s.H p.ids) d = .done C v cs) (hC : C ()) : Done AI G P s a w ρ (convert ts td u) (putCs s.H p.ids cs) v := by
  have hk := hT.kind
  unfold convNew at hp
  split at hp <;> cases hp
  rename_i et l hj
  rw [hj] at hk
  obtain ⟨hu, g, hg1, hg2⟩ := hk
  obtain ⟨_, _, _, h8, _⟩ := hg2 _ rfl
  have h8 := h8 _ rfl
  simp at he
  obtain ⟨rfl, rfl, rfl⟩ := he
  obtain ⟨hC, hlen⟩ := hC
  cases hx
  let bs : ByteArray := ⟨((l ()).map fun x => x.toNat.toUInt8).toArray⟩
  have hsz : bs.size = (l ()).length := by simp [bs, ByteArray.size]
  have hrun := Lib.run_convert_string_bytes (P := P) w ts td et bs hS hu h8
  have hge := grownCap_ge w bs.size 0 et
  obtain ⟨ρ', h1, h2, h3, h4, h5, h6⟩ := h.more (w' := Lib.bytesWorld w et bs) (fun b hb => Lib.bytesWorld_at_old w et bs b hb) (by rfl) (by rfl) (by rfl)
    (by rw [Lib.bytesWorld_size]; omega)
  refine ⟨_, ρ', _, hrun, h1, ?_, h2⟩
  refine ⟨_, _, by rw [hsz], hsz ▸ hge, fun _ => ⟨w.heap.size, 0, rfl, fun i x hi => ?_⟩⟩
  have hil := (List.getElem?_eq_some_iff.1 hi).1
  have hc := Lib.bytesWorld_cell w et bs i (by rw [hsz]; exact hil)
  have hxx := hC x (List.mem_of_getElem? hi)
  have e1 : ((bs.data.toList.getD i 0).toNat : Int) = x := by
    simp only [bs, List.getD, List.getElem?_map, hi, Option.map_some, Option.getD_some]
    simp [Nat.toUInt8]
    omega
  rw [e1] at hc
  exact h6 _ _ _ (Nat.le_refl _) (by simpa [Ty.size] using hc)

/-! ### the bytes of a literal, seen as a slice of bytes -/
theorem run_conv_same {t e : TypeId} (ht : P.underlying t = some (.slice e)) (he : P.underlying e = some (.int .u8)) (w : World) (b off l c : Nat) :
    ∃ w', (convert t t (.slice (some ⟨b, off, none⟩) l c)).run P w = .ok (.slice (some ⟨b, off, none⟩) l c) w' ∧ w'.os = w.os ∧ w'.tape = w.tape ∧ w'.output = w.output ∧ w'.heap.size = w.heap.size ∧
      (∀ k, k ≠ b → w'.heap[k]? = w.heap[k]?) ∧ ∀ q, w'.cell? q = w.cell? q := by
  cases hs : w.shape? b with
  | none => exact ⟨w, by simp [convert, run_underlying ht, run_underlying he, markStringish, hs], rfl, rfl, rfl, rfl, fun _ _ => rfl, fun _ => rfl⟩
  | some p =>
    obtain ⟨t', n⟩ := p
    refine ⟨w.freeze ⟨b, n, none⟩ 1, by simp [convert, run_underlying ht, run_underlying he, markStringish, hs], ?_⟩
    unfold World.freeze
    rw [if_neg (by decide)]
    refine ⟨rfl, rfl, rfl, by simp, fun k hk => ?_, fun q => ?_⟩
    · simp only [Array.getElem?_modify, if_neg (fun h => hk (Eq.symm h))]
    · unfold World.cell?
      simp only [Array.getElem?_modify]
      by_cases hb : b = q.block
      · rw [if_pos hb]
        cases hg : w.heap[q.block]? with
        | none => simp
        | some o => cases o <;> simp
      · rw [if_neg hb]

theorem convRow_sound {ts : TypeId} {j : TI} (hT : TIfact P ts j) (h : Holds AI G s ρ a.tmps w) {x : SV} {u : Value} (hx : Den ρ x u) {p : Plan A} (hp : convRow j x = some p) {d : List Bool} {C : U Prop} {v : SV} {cs : List (Chunk A)}
    (he : p.eff (getCs s.H p.ids) d = .done C v cs) (hC : C ()) : Done AI G P s a w ρ (convert ts ts u) (putCs s.H p.ids cs) v := by
  have hk := hT.kind
  unfold convRow at hp
  split at hp <;> cases hp
  rename_i et i ver hj
  rw [hj] at hk
  obtain ⟨hu, g, hg1, hg2⟩ := hk
  obtain ⟨_, _, _, h8, _⟩ := hg2 _ rfl
  have h8 := h8 _ rfl
  simp only [getCs] at he
  have hc := h.ch i
  generalize hg : getC s.H i = c at he hc
  cases c <;> (try (simp at he; done))
  rename_i t e ver' L
  dsimp only at he
  split at he <;> cases he
  rename_i hb
  have hb := beq_eq hb
  subst hb
  obtain ⟨hv, hr⟩ := hc
  obtain ⟨_, _, hx⟩ := hx
  have hx := hx hv
  subst hx
  have hC : 0 < (L ()).length := hC
  rcases hr with ⟨_, hL, _⟩ | ⟨b, off, cap, hroot, hF, hcap, _, hcells, _⟩
  · rw [hL] at hC; simp at hC
  obtain ⟨w', hrun, hos, htape, hout, hsize, hheap, hcell⟩ := run_conv_same hu h8 w b off (L ()).length cap
  let ρ' : Ev := { root := ρ.root, ver := ρ.ver, M := fun q o => if q = b then w.cell? ⟨q, o, none⟩ else ρ.M q o, foot := fun k => if k = i then [] else ρ.foot k }
  have hbi : b ∈ ρ.foot i := by rw [hF]; simp
  have hM : ∀ q o v, ρ.M q o = some v → ρ'.M q o = some v := by
    intro q o v hm
    have hne : q ≠ b := fun e => (h.im q o v hm).2 i (e ▸ hbi)
    show (if q = b then _ else _) = _
    rw [if_neg hne]; exact hm
  have le : ρ.Le ρ' := ⟨hM, fun _ _ h => h, fun _ => Nat.le_refl _, fun _ _ _ => rfl⟩
  have hfoot : ∀ k q, q ∈ ρ'.foot k → k ≠ i ∧ q ∈ ρ.foot k := by
    intro k q hq
    by_cases e : k = i
    · simp [ρ', e] at hq
    · refine ⟨e, ?_⟩
      simpa [ρ', e] using hq
  have hnb : ∀ k q, q ∈ ρ'.foot k → q ≠ b := fun k q hq e => h.dis k i q (hfoot k q hq).1 (hfoot k q hq).2 (e ▸ hbi)
  refine ⟨ρ.root i, ρ', w', by rw [hroot]; exact hrun, ⟨h.sz, h.gt, fun t v ht => ?_, fun k => ?_, fun k m q hkm hk hm => h.dis k m q hkm (hfoot k q hk).2 (hfoot m q hm).2, fun k q hq => by rw [hsize]; exact h.lt k q (hfoot k q hq).2, fun q o v hm => ?_,
    hos.trans h.os, htape.trans h.tape, hout.trans h.output, by rw [hsize]; exact h.grow, fun q hq ho => ?_, fun k q hq => h.fro k q (hfoot k q hq).2, h.rt, h.rts, fun q o v hm => hM _ _ _ (h.mono q o v hm), fun q o v hm => ?_⟩, ?_, le⟩
  · obtain ⟨y, h1, h2⟩ := h.tm t v ht
    exact ⟨y, h1, h2.mono le⟩
  · show HoldsC AI ρ' w' k (getC (putC s.H i .gone) k)
    rw [getC_putC]
    split
    · trivial
    · rename_i hki
      refine (h.ch k).stays le rfl rfl (by simp only [ρ', if_neg (fun e => hki e)]) fun q hq => hheap q ?_
      intro e
      exact h.dis k i q hki hq (e ▸ hbi)
  · have hm2 : (if q = b then w.cell? ⟨q, o, none⟩ else ρ.M q o) = some v := hm
    by_cases e : q = b
    · rw [if_pos e] at hm2
      exact ⟨by rw [hcell]; exact hm2, fun k hq => hnb k q hq e⟩
    · rw [if_neg e] at hm2
      exact ⟨by rw [hcell]; exact (h.im q o v hm2).1, fun k hq => (h.im q o v hm2).2 k (hfoot k q hq).2⟩
  · by_cases e : q = b
    · subst e
      rcases h.fro i q hbi with h1 | h1
      · exact absurd h1 ho
      · omega
    · rw [hheap q e]; exact h.kept q hq ho
  · have hm2 : (if q = b then w.cell? ⟨q, o, none⟩ else ρ.M q o) = some v := hm
    by_cases e : q = b
    · exact .inr (h.fro i q (e ▸ hbi))
    · rw [if_neg e] at hm2; exact h.mfr q o v hm2
  · rw [hroot]
    refine ⟨_, cap, rfl, hcap, fun _ => ⟨b, off, rfl, fun j x hj => ?_⟩⟩
    refine CellsM.congr e (CellsM.mono hM e (hcells j x hj)) fun k v _ hv => ?_
    show (if b = b then w.cell? ⟨b, off + j * e.size + k, none⟩ else _) = _
    rw [if_pos rfl]; exact hv

theorem srcOk_str {i j : TI} {x : SV} {p : Plan A} (h : convNew j x = some p) (hs : srcOk i x = true) : i.kind = .str := by
  unfold convNew at h
  split at h <;> cases h
  unfold srcOk at hs
  split at hs <;> simp_all

/-! ### s[:0:0] -/
theorem sliceZ_sound {t : TypeId} {i : TI} (hT : TIfact P t i) (h : Holds AI G s ρ a.tmps w) {x : SV} {lo hi mx : Option SV} {u : Value} {lv hv mv : Option Value}
    (hx : Den ρ x u) (d1 : OptDen ρ lo lv) (d2 : OptDen ρ hi hv) (d3 : OptDen ρ mx mv) {fresh : Nat} {p : Plan A} (hp : sliceZ i x lo hi mx fresh = some p) {d : List Bool} {C : U Prop} {v : SV} {cs : List (Chunk A)}
    (he : p.eff (getCs s.H p.ids) d = .done C v cs) : Done AI G P s a w ρ (Instr.sliceAt t u lv hv mv) (putCs s.H p.ids cs) v := by
  have hk := hT.kind
  unfold sliceZ at hp
  split at hp <;> (try cases hp)
  rename_i et e ho
  rw [ho] at hk
  obtain ⟨hu, g, hg1, hg2⟩ := hk
  split at hp <;> cases hp
  rename_i hb
  obtain ⟨hb, hb4⟩ := Bool.and_eq_true_iff.1 hb
  obtain ⟨hb, hb3⟩ := Bool.and_eq_true_iff.1 hb
  obtain ⟨hb1, hb2⟩ := Bool.and_eq_true_iff.1 hb
  obtain ⟨ao, len, cap, rfl⟩ : ∃ ao l c, u = .slice ao l c := by
    unfold isSlice at hb1
    split at hb1
    · obtain ⟨ao, c, e, _⟩ := hx; exact ⟨_, _, _, e⟩
    · exact ⟨_, _, _, hx⟩
    · exact hx.1
    · exact hx.1
    · cases hb1
  have zero : ∀ {o : Option SV} {ov : Option Value}, isZero o = true → OptDen ρ o ov → ∃ k, ov = some (.int k 0) := by
    intro o ov hz hd
    unfold isZero at hz
    split at hz
    · cases ov with
      | none => cases hd
      | some z => exact ⟨_, congrArg some hd⟩
    · cases hz
  obtain ⟨k1, rfl⟩ := zero hb2 d2
  obtain ⟨k2, rfl⟩ := zero hb3 d3
  have : lv = none := by
    cases lo with
    | some _ => cases hb4
    | none => cases lv with
      | none => rfl
      | some _ => cases d1
  subst this
  simp only [getCs] at he
  have hc := h.ch fresh
  generalize hg : getC s.H fresh = c at he hc
  cases c <;> (try (simp at he; done))
  simp at he
  obtain ⟨rfl, rfl, rfl⟩ := he
  obtain ⟨hc1, hc2, hc3⟩ := hc
  have hrun : ∃ ao', (Instr.sliceAt t (.slice ao len cap) none (some (.int k1 0)) (some (.int k2 0))).run P w = .ok (.slice ao' 0 0) w := by
    have hs : (Go.sizeOf et).run P w = .ok g.size w := by simp [Go.sizeOf, typeInfo, hg1]
    have e1 := fun y c => run_sliceBound (P := P) (w := w) k1 (n := 0) (y := y) c (by omega) (by omega)
    have e2 := fun y c => run_sliceBound (P := P) (w := w) k2 (n := 0) (y := y) c (by omega) (by omega)
    exact ⟨_, by simp [Instr.sliceAt, Instr.slice, run_underlying hu, Instr.sliceBounds, e1, e2, hs]; rfl⟩
  obtain ⟨ao', hrun⟩ := hrun
  obtain ⟨h9, h10⟩ := h.upd1 fresh (.slice ao' 0 0) 0 [] (.row et e 0 (fun _ => [])) w
    (by rw [hc2]; simp) (by omega) (by rw [hc2]; simp) (by simp) (fun _ _ _ => rfl) rfl rfl rfl (Nat.le_refl _)
    ⟨by simp [Ev.upd], .inl ⟨⟨ao', by simp [Ev.upd]⟩, rfl, by simp [Ev.upd]⟩⟩
  exact ⟨_, _, _, hrun, h9, ⟨⟨_, _, _, rfl⟩, by simp [Ev.upd], fun _ => by simp [Ev.upd]⟩, h10⟩

/-! ### a slice compared with nil -/
theorem run_eqGuard (op : BinOp) (t : TypeId) (x y : Operand) {u v : Value} (h1 : u ≠ .nilIface) (h2 : ∀ c, u ≠ .agg c) : (eqGuard op t x y u v).run P w = .ok () w := by
  unfold eqGuard
  cases u <;> first
    | exact absurd rfl h1
    | exact absurd rfl (h2 _)
    | (simp only []; split <;> rfl)

theorem eql_nil {t e : TypeId} (hu : P.underlying t = some (.slice e)) (d : Nat) (ao : Option Addr) (l c : Nat) : (Op.equalIn (d + 1) t (.slice ao l c) (.slice none 0 0)).run P w = .ok ao.isNone w := by
  cases ao <;> simp [Op.equalIn, run_underlying hu]

theorem eqCs_den : ∀ {l m : List SV1} {g : U Bool} {vs us : List Value}, eqCs l m = some g → All2 (Den1 ρ) l vs → All2 (Den1 ρ) m us → All2 (fun v u => ∃ k a b, v = .int k a ∧ u = .int k b) vs us ∧ eqVs vs us = g ()
  | [], [], g, vs, us, h, hv, hu => by
    cases h; cases hv; cases hu
    exact ⟨.nil, rfl⟩
  | x :: l, y :: m, g, vs, us, h, hv, hu => by
    simp only [eqCs] at h
    split at h <;> (try cases h)
    rename_i k a ha
    split at h <;> (try cases h)
    rename_i k' b hb
    split at h <;> (try cases h)
    rename_i hk
    have hk : k = k' := of_decide_eq_true hk
    subst hk
    split at h <;> cases h
    rename_i r hr
    cases hv with
    | cons hx hv =>
    cases hu with
    | cons hy hu =>
    obtain rfl := ival_den ha hx
    obtain rfl := ival_den hb hy
    obtain ⟨h1, h2⟩ := eqCs_den hr hv hu
    refine ⟨.cons ⟨k, _, _, rfl, rfl⟩ h1, ?_⟩
    simp only [eqVs, h2]
    congr 1
  | [], _ :: _, _, _, _, h, _, _ => by simp [eqCs] at h
  | _ :: _, [], _, _, _, h, _, _ => by simp [eqCs] at h
theorem aggCmp_sound {t : TypeId} {i : TI} (hT : TIfact P t i) {op : BinOp} {v u : SV} {y : SV1} (h : aggCmp op i v u = some y) (x x' : Operand) {p q : Value} (hp : Den ρ v p) (hq : Den ρ u q) :
    ∃ r, (do eqGuard op t x x' p q; binOp op t p q : Go.Sem Value).run P w = .ok r w ∧ Den ρ (one y) r := by
  unfold aggCmp at h
  split at h <;> (try cases h)
  rename_i hb
  obtain ⟨k1, k2⟩ := hT.eq (beqN_iff.1 hb)
  split at h <;> (try cases h)
  rename_i l m
  split at h <;> (try cases h)
  rename_i hl
  have hl := beqN_iff.1 hl
  split at h <;> (try cases h)
  rename_i g hg
  obtain ⟨vs, rfl, h1⟩ := hp
  obtain ⟨us, rfl, h2⟩ := hq
  obtain ⟨h3, h4⟩ := eqCs_den hg h1 h2
  have k3 := k2 w vs us (by rw [← h1.length]; exact hl) h3
  rw [h4] at k3
  split at h <;> cases h
  · refine ⟨.bool (g ()), ?_, rfl⟩
    rw [Sem.run_bind, run_eqGuard_agg w _ t x x' _ _ k1]
    simp only [Result.andThen, run_eql_struct, k3]
  · refine ⟨.bool (!g ()), ?_, rfl⟩
    rw [Sem.run_bind, run_eqGuard_agg w _ t x x' _ _ k1]
    simp only [Result.andThen, run_neq_struct, k3]
theorem eql_mapnil {t k e : TypeId} (hu : P.underlying t = some (.map k e)) (d : Nat) (b : Nat) : (Op.equalIn (d + 1) t (.map (some b)) (.map none)).run P w = .ok false w := by
  simp [Op.equalIn, run_underlying hu]
theorem nilCmp_sound {t : TypeId} {i : TI} (hT : TIfact P t i) {op : BinOp} {v u : SV} {y : SV1} (h : nilCmp op i v u = some y) (x x' : Operand) (yt : TypeId) {p q : Value} (hp : Den ρ v p) (hq : Den ρ u q) :
    ∃ r, (do eqGuard op t x x' p q; binOp op t p q : Go.Sem Value).run P w = .ok r w ∧ Den ρ (one y) r := by
  have hk := hT.kind
  unfold nilCmp at h
  split at h
  · rename_i km em tym hki
    rw [hki] at hk
    have hu := hk.1
    have key : ∀ (neg : Bool), mapNil neg v u = some y → ∃ b, p = .map (some b) ∧ q = .map none ∧ y = .lb neg := by
      intro neg h
      unfold mapNil at h
      split at h <;> cases h
      obtain ⟨b, _, rfl⟩ := hp
      have hq : q = .map none := hq
      exact ⟨b, rfl, hq, rfl⟩
    split at h
    · obtain ⟨b, rfl, rfl, rfl⟩ := key false h
      refine ⟨.bool false, ?_, rfl⟩
      rw [Sem.run_bind, run_eqGuard _ _ _ _ (by simp) (by simp)]
      simp only [Result.andThen, binOp, Op.equal, Op.maxDepth, Sem.run_bind, eql_mapnil hu 9999]
      rfl
    · obtain ⟨b, rfl, rfl, rfl⟩ := key true h
      refine ⟨.bool true, ?_, rfl⟩
      rw [Sem.run_bind, run_eqGuard _ _ _ _ (by simp) (by simp)]
      simp only [Result.andThen, binOp, Op.equal, Op.maxDepth, Sem.run_bind, eql_mapnil hu 9999]
      rfl
    · cases h
  rotate_left 1
  · exact aggCmp_sound hT h x x' hp hq
  rename_i e ty hki
  rw [hki] at hk
  obtain ⟨hu, _⟩ := hk
  have key : ∀ (neg : Bool), nilOf neg v u = some y → ∃ ao l c, p = .slice ao l c ∧ q = .slice none 0 0 ∧ Den1 ρ y (.bool (ao.isNone != neg)) := by
    intro neg h
    unfold nilOf at h
    split at h <;> cases h
    · exact ⟨none, 0, 0, hp, hq, by cases neg <;> rfl⟩
    · rename_i e' L
      obtain ⟨ao, c, rfl, _, h2⟩ := hp
      refine ⟨ao, _, c, rfl, hq, _, rfl, fun hb => ?_⟩
      have hn : ao = none := by cases ao <;> cases neg <;> simp_all
      subst hn
      rcases Nat.eq_zero_or_pos (L ()).length with h0 | h0
      · exact List.eq_nil_of_length_eq_zero h0
      · obtain ⟨b, off, h3, _⟩ := h2 h0; cases h3
    · obtain ⟨⟨ao, l, c, rfl⟩, _⟩ := hp
      exact ⟨ao, l, c, rfl, hq, _, rfl, fun _ => trivial⟩
    · obtain ⟨⟨ao, l, c, rfl⟩, _⟩ := hp
      exact ⟨ao, l, c, rfl, hq, _, rfl, fun _ => trivial⟩
  split at h
  · obtain ⟨ao, l, c, rfl, rfl, hd⟩ := key false h
    refine ⟨_, ?_, hd⟩
    rw [Sem.run_bind, run_eqGuard _ _ _ _ (by simp) (by simp)]
    simp only [Result.andThen, binOp, Op.equal, Op.maxDepth, Sem.run_bind, eql_nil hu 9999]
    cases ao <;> rfl
  · obtain ⟨ao, l, c, rfl, rfl, hd⟩ := key true h
    refine ⟨_, ?_, hd⟩
    rw [Sem.run_bind, run_eqGuard _ _ _ _ (by simp) (by simp)]
    simp only [Result.andThen, binOp, Op.equal, Op.maxDepth, Sem.run_bind, eql_nil hu 9999]
    cases ao <;> rfl
  · cases h

/-! ### ranging over a map -/
theorem getC_getCs {H : List (Chunk A)} : ∀ {n i j : Nat}, j < n → getC (getCs H (upTo i n)) j = getC H (i + j)
  | 0, i, j, h => by omega
  | n + 1, i, 0, h => rfl
  | n + 1, i, j + 1, h => by
    have := getC_getCs (H := H) (n := n) (i := i + 1) (j := j) (by omega)
    rw [show i + (j + 1) = i + 1 + j by omega, ← this]; rfl

theorem range_sound {t : TypeId} {i : TI} (hT : TIfact P t i) (h : Holds AI G s ρ a.tmps w) {x : SV} {u : Value} (hx : Den ρ x u) {fresh : Nat} {p : Plan A} (hp : rangeP i x fresh = some p) {d : List Bool} {C : U Prop} {rr : SV} {cs : List (Chunk A)}
    (he : p.eff (getCs s.H p.ids) d = .done C rr cs) : Done AI G P s a w ρ (Instr.range t u) (putCs s.H p.ids cs) rr := by
  have hk := hT.kind
  unfold rangeP at hp
  split at hp <;> cases hp
  rename_i kt et kk i' hik
  rw [hik] at hk
  obtain ⟨hu, -⟩ := hk
  simp only [getCs] at he
  have hc := h.ch i'
  have hf := h.ch fresh
  generalize hg : getC s.H i' = c at he hc
  generalize hgf : getC s.H fresh = cf at he hf
  cases c <;> (try (simp at he; done))
  cases cf <;> (try (simp at he; done))
  rename_i ks e L
  simp at he
  obtain ⟨rfl, rfl, rfl⟩ := he
  obtain ⟨b, hb1, hb2⟩ := hx
  subst hb2
  obtain ⟨b', es, clock, h1, h2, h3, h4⟩ := hc
  obtain ⟨f1, f2, f3⟩ := hf
  have : b' = b := by rw [hb1] at h1; cases h1; rfl
  subst this
  have hne : i' ≠ fresh := fun e => by rw [e, hgf] at hg; cases hg
  have hlt : b' < w.heap.size := h.lt i' b' (by simp [h2])
  let r := w.heap.size
  let ρ' : Ev := { root := fun k => if k = fresh then .pointer (some ⟨r, 0, none⟩) else ρ.root k, ver := ρ.ver, M := ρ.M, foot := fun k => if k = i' then [b', r] else ρ.foot k }
  have le : ρ.Le ρ' := by
    refine ⟨fun _ _ _ h => h, fun k b hk => ?_, fun k => Nat.le_refl _, fun k e hk => ?_⟩
    · simp only [ρ']; split
      · rename_i e; subst e; rw [f2] at hk; cases hk
      · exact hk
    · simp only [ρ']; split
      · rename_i e; subst e; obtain ⟨_, _, _, hk⟩ := hk; rw [f2] at hk; cases hk
      · rfl
  have hH : ∀ k, getC (putCs s.H [i', fresh] [.rmap ks e L L none fresh, .itp i']) k = if k = fresh then .itp i' else if k = i' then .rmap ks e L L none fresh else getC s.H k := fun k => by
    simp only [putCs, getC_putC]
  have hst := h.step (ρ' := ρ') (w' := w.alloc (.mapIter (some b') clock #[] clock)) (H' := putCs s.H [i', fresh] [.rmap ks e L L none fresh, .itp i']) (fun k => k = i' ∨ k = fresh) le rfl
    (fun k hk => by
      have n1 : k ≠ i' := fun e => hk (.inl e)
      have n2 : k ≠ fresh := fun e => hk (.inr e)
      refine ⟨by simp only [ρ', if_neg n2], rfl, by simp only [ρ', if_neg n1], ?_⟩
      rw [hH, if_neg n2, if_neg n1])
    (fun k hk bb hbb => by
      simp only [ρ'] at hbb
      split at hbb
      · rename_i e
        rcases List.mem_cons.1 hbb with rfl | hbb
        · exact ⟨.inl ⟨i', .inl rfl, by rw [h2]; simp⟩, by rw [World.size_alloc]; omega⟩
        · obtain rfl : bb = r := by simpa using hbb
          exact ⟨.inr (Nat.le_refl _), by rw [World.size_alloc]; exact Nat.lt_succ_self _⟩
      · rename_i n1
        rcases hk with hk | hk
        · exact absurd hk n1
        · subst hk; rw [f1] at hbb; cases hbb)
    (fun k q bb hk hq hkq hbb hbq => by
      simp only [ρ'] at hbb hbq
      rcases hk with rfl | rfl <;> rcases hq with rfl | rfl
      · exact hkq rfl
      · rw [if_neg (fun e => hne e.symm), f1] at hbq; cases hbq
      · rw [if_neg (fun e => hne e.symm), f1] at hbb; cases hbb
      · exact hkq rfl)
    (fun bb hbb _ => alloc_lt w _ hbb) rfl rfl rfl (by rw [World.size_alloc]; omega)
    (fun k hk => by
      rw [hH]
      split
      · rename_i e
        subst e
        exact ⟨by simp only [ρ']; rw [if_neg (fun e => hne e.symm)]; exact f1, r, by simp only [ρ', if_pos]⟩
      · rename_i n2
        rcases hk with hk | hk
        · subst hk
          rw [if_pos rfl]
          refine ⟨b', r, by simp only [ρ', if_neg n2]; exact hb1, by simp only [ρ', if_pos], by simp only [ρ', if_pos], by omega, es, clock, clock, #[], (alloc_lt w _ hlt).trans h3, alloc_get w _, h4, h4.2.2, Nat.le_refl _, ?_, fun _ e => by cases e⟩
          have : (leftOf es #[]).toList = es.toList := by simp [leftOf]
          rw [this]
          exact h4.1
        · exact absurd hk n2)
  exact ⟨_, ρ', _, run_range_map w t kt et b' es clock hu h3, hst, ⟨r, by simp only [ρ', if_pos], rfl⟩, le⟩

theorem entry_sound (h : Holds AI G s ρ a.tmps w) {x : SV} {u : Value} (hx : Den ρ x u) {fresh : Nat} {p : Plan A} (hp : entryP x fresh = some p) {d : List Bool} {C : U Prop} {rr : SV} {cs : List (Chunk A)}
    (he : p.eff (getCs s.H p.ids) d = .done C rr cs) : Looks s p cs ∧ ∃ y, (Instr.entry u).run P w = .ok y w ∧ Den ρ rr y := by
  unfold entryP at hp
  split at hp <;> cases hp
  rename_i j
  dsimp only at he
  split at he <;> (try (simp at he; done))
  rename_i i' hj
  split at he <;> (try (simp at he; done))
  rename_i ks e L R p j' hi
  split at he <;> (try (simp at he; done))
  rename_i hb
  simp only [Bool.and_eq_true] at hb
  obtain ⟨⟨hjj, hi'⟩, hj'⟩ := hb
  have hjj := beq_eq hjj
  subst hjj
  have hi' : i' < fresh := leN hi'
  have hj' : j < fresh := leN hj'
  split at he <;> (try (simp at he; done))
  rename_i v hv
  simp at he
  obtain ⟨rfl, rfl, rfl⟩ := he
  refine ⟨rfl, ?_⟩
  have hi : getC s.H i' = .rmap ks e L R (some p) j := by
    have := getC_getCs (H := s.H) (n := fresh) (i := 0) (j := i') hi'
    rw [Nat.zero_add] at this
    rw [← this]; exact hi
  have hc := h.ch i'
  rw [hi] at hc
  obtain ⟨b, r, h1, h2, h3, h4, es, clock, since, seen, a1, a2, a3, a4, a5, a6, a7⟩ := hc
  obtain ⟨m, seen', b1, b2, b3⟩ := a7 p rfl
  obtain ⟨r', e1, e2⟩ := hx
  have : r' = r := by rw [h2] at e1; cases e1; rfl
  subst this
  subst e2
  subst b2
  have hn : (es.toList.map (·.born)).Nodup := a3.2.1.imp fun h => Nat.ne_of_lt h
  refine ⟨_, run_entry_at w r' b since seen' es clock m a2 a1 b1 hn, [m.key, m.val], rfl, .cons ?_ (.cons (elV_den hv b3.2.2) .nil)⟩
  rw [b3.1]
  cases ks with
  | int k => rfl
  | str => rfl
  | agg e2 => exact ⟨_, rfl, keyCs_den e2 _ b3.2.1.1⟩

/-! ### unsafe.SliceData, unsafe.String -/
theorem sliceData_sound (h : Holds AI G s ρ a.tmps w) {x : SV} {u : Value} (hx : Den ρ x u) {p : Plan A} (hp : sliceDataP x = some p) {d : List Bool} {C : U Prop} {r : SV} {cs : List (Chunk A)}
    (he : p.eff (getCs s.H p.ids) d = .done C r cs) (hC : C ()) (ats : Array TypeId) (ty : TypeId) : Looks s p cs ∧ ∃ y, (Builtin.unsafeSliceData_ ats ty #[u]).run P w = .ok y w ∧ Den ρ r y := by
  unfold sliceDataP at hp
  split at hp <;> cases hp
  · simp at he
    obtain ⟨rfl, rfl, rfl⟩ := he
    cases hx
    exact ⟨rfl, _, rfl, rfl⟩
  · rename_i i ver
    simp only [getCs] at he
    have hc := h.ch i
    generalize hg : getC s.H i = c at he hc
    cases c <;> (try (simp at he; done))
    rename_i rt e ver' L
    dsimp only at he
    split at he <;> (try (simp at he; done))
    rename_i hb
    have hb := beq_eq hb
    subst hb
    simp at he
    obtain ⟨rfl, rfl, rfl⟩ := he
    have hC : 0 < (L ()).length := hC
    obtain ⟨h1, h2⟩ := hc
    obtain ⟨_, hle, h3⟩ := hx
    have h3 := h3 h1
    rcases h2 with ⟨_, h4, _⟩ | ⟨b, off, cap, h4, h5, h6, _⟩
    · rw [h4] at hC; simp at hC
    · rw [h4] at h3
      subst h3
      exact ⟨by simp [Looks, getCs, hg], _, Go.Lib.run_unsafeSliceData_row w ats ty ⟨b, off, none⟩ _ cap (by omega), _, rfl, hle, fun _ => ⟨Int.le_refl _, b, off, _, cap, h4, by simp⟩⟩
theorem liesAt_off {e : TypeId} (hc : P.cellsOf e = 1) (count off n : Nat) (hn : off + n ≤ count) : liesAt P P.depth e count off e n = true := by
  have hd : P.depth = (2 * (P.types.size + Made.depth) + 1) + 1 := rfl
  rw [hd]
  simp only [liesAt, Bool.or_eq_true]
  left
  rw [hd]
  simp [Go.rowAt, hc, hn, sameLayout, Nat.mod_one]
theorem run_unsafeString_off (w : World) (pt it ty e : TypeId) (hp : P.underlying pt = some (.pointer e)) (hc : P.cellsOf e = 1) (g off cells : Nat) (hsh : w.shape? g = some (e, cells)) (l : List UInt8) (h0 : l ≠ []) (hn : off + l.length ≤ cells) (h63 : l.length ≤ 9223372036854775807)
    (hcell : ∀ j x, l[j]? = some x → w.cell? ((⟨g, off, none⟩ : Addr).add j) = some (.int .u8 x.toNat)) (k : IntKind) :
    (Builtin.unsafeString_ #[pt, it] ty #[.pointer (some ⟨g, off, none⟩), .int k l.length]).run P w = .ok (.string ⟨l.toArray⟩) (w.freeze ⟨g, off, none⟩ l.length) := by
  have hl : l.length ≠ 0 := by simpa using h0
  have hlb := Go.Lib.run_loadBytes (P := P) w l ⟨g, off, none⟩ .empty hcell
  have hlies := liesAt_off (P := P) hc (cells / P.cellsOf e) off l.length (by rw [hc]; simpa using hn)
  have h63' : ¬ (9223372036854775807 : Int) < (l.length : Int) := by omega
  have hdef : Builtin.unsafeString_ #[pt, it] ty #[.pointer (some ⟨g, off, none⟩), .int k l.length] =
      (do
        let n ← asInt (.int k l.length)
        if n < 0 then runtimePanic (.error "unsafe.String: len out of range")
        if n > IntKind.i64.max then unsupported (.unsafePointer "String: a length above the largest int")
        if n = 0 then pure (.string .empty)
        else if ← variablesAt ⟨g, off, none⟩ (← elemOf pt) n.toNat then do
          let s ← loadBytes ⟨g, off, none⟩ .empty n.toNat
          Go.freeze ⟨g, off, none⟩ n.toNat
          pure (.string s)
        else unsupported (.unsafePointer "String: not so many bytes at ptr")) := rfl
  rw [hdef]
  have hmax : IntKind.i64.max = 9223372036854775807 := rfl
  have hneg : ¬ (l.length : Int) < 0 := by omega
  simp [asInt, asIntOf, hmax, h63', hneg, hl, variablesAt, hsh, elemOf, run_underlying hp, hlies, hlb]
theorem freeze_other (w : World) (a : Addr) (n k : Nat) (hk : k ≠ a.block) : (w.freeze a n).heap[k]? = w.heap[k]? := by
  unfold World.freeze
  split
  · rfl
  · simp only [Array.getElem?_modify]
    rw [if_neg (fun e => hk e.symm)]
theorem freeze_rest (w : World) (a : Addr) (n : Nat) : (w.freeze a n).os = w.os ∧ (w.freeze a n).tape = w.tape ∧ (w.freeze a n).output = w.output ∧ (w.freeze a n).heap.size = w.heap.size := by
  unfold World.freeze
  split
  · exact ⟨rfl, rfl, rfl, rfl⟩
  · exact ⟨rfl, rfl, rfl, by simp⟩
theorem unsafeStr_sound {ti : List (Nat × TI)} (hti : TIok P ti) {pt it : TypeId} {i : TI} (hT : TIfact P pt i) (h : Holds AI G s ρ a.tmps w) {x y : SV} {u v : Value} (hx : Den ρ x u) (hy : Den ρ y v) {p : Plan A} (hp : unsafeStrP ti i x y = some p) {d : List Bool} {C : U Prop} {r : SV} {cs : List (Chunk A)}
    (he : p.eff (getCs s.H p.ids) d = .done C r cs) (hC : C ()) (ty : TypeId) : Done AI G P s a w ρ (Builtin.unsafeString_ #[pt, it] ty #[u, v]) (putCs s.H p.ids cs) r := by
  have hkk := hT.kind
  unfold unsafeStrP at hp
  split at hp <;> (try (cases hp; done))
  rename_i e hik
  rw [hik] at hkk
  split at hp <;> (try (cases hp; done))
  rename_i ie hie
  split at hp <;> (try (cases hp; done))
  rename_i kk k hsz hk
  obtain rfl := ivalS_den hk hy
  have hce : P.cellsOf e = 1 := by
    obtain ⟨f, f1, f2, _⟩ := (hti e ie hie).info
    simp [Program.cellsOf, f1, f2, beq_eq hsz]
  split at hp <;> cases hp
  · simp at he
    obtain ⟨rfl, rfl, rfl⟩ := he
    have hC : k () = 0 := hC
    cases hx
    refine Done.looks h (p := ⟨[], 0, false, fun _ _ => .done (fun _ => k () = 0) (one (.str (fun _ => []))) []⟩) rfl ⟨.string ⟨#[]⟩, ?_, rfl⟩
    rw [hC]
    exact Go.Lib.run_unsafeString_none w pt it ty none
  · rename_i j ver q
    simp only [getCs] at he
    have hc := h.ch j
    generalize hg : getC s.H j = c at he hc
    split at he <;> (try (simp at he; done))
    rename_i rt ver' L hcc
    simp at hcc
    subst hcc
    split at he <;> (try (simp at he; done))
    rename_i hb
    obtain ⟨hb1, hb2⟩ := Bool.and_eq_true_iff.1 hb
    have hb1 := beq_eq hb1
    have hb2 := beq_eq hb2
    subst hb1; subst hb2
    simp at he
    obtain ⟨rfl, rfl, rfl⟩ := he
    obtain ⟨hq, hkl, hpos, hmx, hby⟩ : q () = 0 ∧ k () = (L ()).length ∧ 0 < (L ()).length ∧ (L ()).length ≤ maxRow ∧ ∀ y ∈ L (), 0 ≤ y ∧ y < 256 := hC
    obtain ⟨h1, h2⟩ := hc
    obtain ⟨pp, rfl, hle, h3⟩ := hx
    obtain ⟨_, b', o', len', cap', h4, rfl⟩ := h3 h1
    rcases h2 with ⟨_, h5, _⟩ | ⟨b, off, cap, h5, h6, h7, h8, h9, h10, h11⟩
    · rw [h5] at hpos; simp at hpos
    · rw [h4] at h5
      cases h5
      obtain ⟨n, hs1, hs2⟩ := h11 rfl
      have hl : (((L ()).map fun x => x.toNat.toUInt8).length : Int) = k () := by rw [List.length_map, hkl]
      have hrun := run_unsafeString_off (P := P) w pt it ty rt hkk hce b' o' n hs1 ((L ()).map fun x => x.toNat.toUInt8) (by intro e; have := congrArg List.length e; rw [List.length_map] at this; simp at this; rw [this] at hpos; simp at hpos) (by rw [List.length_map]; omega) (by rw [List.length_map]; unfold maxRow at hmx; omega)
        (fun i x hi => by
          rw [List.getElem?_map] at hi
          cases hLi : (L ())[i]? with
          | none => rw [hLi] at hi; cases hi
          | some z =>
            rw [hLi] at hi
            cases hi
            have := h9 i z hLi
            have this : w.cell? ⟨b', o' + i * 1 + 0, none⟩ = some (.int .u8 z) := this
            obtain ⟨hz1, hz2⟩ := hby z (List.mem_of_getElem? hLi)
            have hz1 : @LE.le Int _ 0 z := hz1
            have hz2 : @LT.lt Int _ z 256 := hz2
            rw [add_lit]
            rw [show o' + i = o' + i * 1 + 0 by omega, this]
            congr 2
            simp only [Nat.toUInt8, UInt8.toNat_ofNat']
            omega) kk
      rw [hl, List.length_map] at hrun
      obtain ⟨fr1, fr2, fr3, fr4⟩ := freeze_rest w ⟨b', o', none⟩ (L ()).length
      obtain ⟨h12, h13⟩ := h.upd1 j (ρ.root j) (ρ.ver j) (ρ.foot j) .gone (w.freeze ⟨b', o', none⟩ (L ()).length) (fun b hb => hb) (Nat.le_refl _) (fun _ _ => rfl) (fun b hb => ⟨.inl hb, by rw [fr4]; exact h.lt j b hb⟩)
        (fun b2 _ hn => freeze_other w _ _ _ (fun e => hn (by rw [h6, e]; simp))) fr1 fr2 fr3 (by rw [fr4]; exact Nat.le_refl _) trivial
      refine ⟨Value.string ⟨((L ()).map fun x => x.toNat.toUInt8).toArray⟩, ρ.upd j (ρ.root j) (ρ.ver j) (ρ.foot j), w.freeze ⟨b', o', none⟩ (L ()).length, ?_, h12.congrH fun _ => rfl, ?_, h13⟩
      · rw [hq]
        simpa using hrun
      · show Value.string _ = Value.string _
        rfl

end Go.Sx

/-
  Symbolic execution: one operation does what its plan says.
-/
namespace Go.Sx
set_option linter.all false
open Go.RowKit

variable {A : Type} {AI : Abs A} {G : Fr} {s : SS A} {ρ : Ev} {a : Act} {w : World} {P : Program}

/-- Function f does what the contract k says. -/
def ConSound (P : Program) (AI : Abs A) (f : FuncId) (k : Con A) : Prop :=
  (∀ args w, (callFunc f args).run P w = .ok (.enter f args) w) ∧
  (∀ args fresh p, k args fresh = some p → p.w = false → ∀ (H : List (Chunk A)) d C v cs, p.eff (getCs H p.ids) d = .done C v cs → cs = getCs H p.ids) ∧
  ∀ (G : Fr) (s : SS A) (ρ : Ev) (tmps : Array Value) (w : World) (args : List SV) (us : List Value) (fresh : Nat) (p : Plan A) (d : List Bool) (C : U Prop) (v : SV) (cs : List (Chunk A)),
    Holds AI G s ρ tmps w → All2 (Den ρ) args us → k args fresh = some p → (∀ i ∈ p.ids, fresh ≤ i → getC s.H i = .emp) → p.eff (getCs s.H p.ids) d = .done C v cs → C () →
    Calls P f us.toArray w fun e w' => ∃ y ρ', e = .returned y ∧ Holds AI G ⟨s.tm, putCs s.H p.ids cs⟩ ρ' tmps w' ∧ Den ρ' v y ∧ ρ.Le ρ'

structure EnvOk (P : Program) (AI : Abs A) (E : Env A) : Prop where
  ti : TIok P E.ti
  con : ∀ f k, look E.con f = some k → ConSound P AI f k

/-- What is wanted behind an operation. -/
def Then (AI : Abs A) (G : Fr) (s' : SS A) (K : Act → World → Prop) : Prop := ∀ a' w', a'.defers = [] → (∃ ρ', Holds AI G s' ρ' a'.tmps w') → K a' w'

theorem wp_of_run {o : Oper} (x : Go.Sem Value) (hx : execOp a.eval o = (do pure (.value (← x)))) (hdf : a.defers = []) {H' : List (Chunk A)} {v : SV} (hd : Done AI G P s a w ρ x H' v) (hdst : ∀ t, o.dst = some t → t < G.size)
    {K : Act → World → Prop} {Q : Exit → Act → World → Prop} (hK : Then AI G ⟨putT s.tm o.dst v, H'⟩ K) : o.wp P a w K Q := by
  obtain ⟨y, ρ', w', h1, h2, h3, h4⟩ := hd
  unfold Oper.wp
  rw [hx, Sem.run_bind, h1]
  simp only [Result.andThen, Sem.run_pure, Oper.upon_value]
  exact hK _ _ (by rw [Act.put_defers', hdf]) ⟨ρ', (h2.put hdst h3)⟩

theorem Done.pure_ (h : Holds AI G s ρ a.tmps w) {x : Go.Sem Value} {C : U Prop} {v : SV} {p : Plan A} (hp : p = ⟨[], 0, false, fun _ _ => .done C v []⟩) {d : List Bool} {C' : U Prop} {v' : SV} {cs : List (Chunk A)} (he : p.eff (getCs s.H p.ids) d = .done C' v' cs) (hC : C' ())
    (hx : C () → ∃ y, x.run P w = .ok y w ∧ Den ρ v y) : Done AI G P s a w ρ x (putCs s.H p.ids cs) v' := by
  subst hp
  simp at he
  obtain ⟨rfl, rfl, rfl⟩ := he
  obtain ⟨y, h1, h2⟩ := hx hC
  exact ⟨y, ρ, w, h1, h, h2, .refl _⟩

theorem optDen (h : Holds AI G s ρ a.tmps w) {x : Option Operand} {v : Option SV} (hx : evalOpt s.tm x = some v) : OptDen ρ v (x.map a.eval) := by
  cases x with
  | none => cases hx; trivial
  | some x =>
    simp only [evalOpt] at hx
    split at hx
    · rename_i u hu; cases hx; exact h.eval hu
    · cases hx

theorem partsDen (h : Holds AI G s ρ a.tmps w) : ∀ {l : List (Nat × Operand)} {ps : List (Nat × SV)}, argParts s.tm l = some ps → PartsDen ρ ps (l.map fun p => (p.1, a.eval p.2))
  | [], _, hp => by simp [argParts] at hp; subst hp; exact .nil
  | (i, x) :: r, _, hp => by
    simp only [argParts] at hp
    split at hp
    · rename_i v hv
      split at hp
      · rename_i l hl
        cases hp
        exact .cons ⟨rfl, h.eval hv⟩ (partsDen h hl)
      · cases hp
    · cases hp

theorem binOk_den {i : TI} {t : TypeId} (hT : TIfact P t i) {x : SV} (h : binOk i x = true) {u : Value} (hu : Den ρ x u) :
    (∀ b, u = .bool b → P.underlying t = some .bool) ∧ (∀ b, u = .pointer b → ∃ e, P.underlying t = some (.pointer e)) ∧ u ≠ .nilIface ∧ ∀ c, u ≠ .agg c := by
  have hk := hT.kind
  unfold binOk at h
  split at h
  · cases hu; simp
  · cases hu; simp
  · cases hu; simp
  · split at h
    · rename_i hi; rw [hi] at hk; cases hu; exact ⟨fun _ _ => hk, by simp, by simp, by simp⟩
    · cases h
  · split at h
    · rename_i hi; rw [hi] at hk; cases hu; exact ⟨fun _ _ => hk, by simp, by simp, by simp⟩
    · cases h
  · split at h
    · rename_i hi; rw [hi] at hk; obtain ⟨b, _, rfl⟩ := hu; exact ⟨by simp, fun _ _ => ⟨_, hk⟩, by simp, by simp⟩
    · cases h
  · split at h
    · rename_i hi; rw [hi] at hk; cases hu; exact ⟨by simp, fun _ _ => ⟨_, hk⟩, by simp, by simp⟩
    · cases h
  · cases h

theorem PO.of_plan {q : Option (Plan A)} {p : Plan A} (h : PO.of q = .plan p) : q = some p := by
  cases q with
  | none => cases h
  | some p' => cases h; rfl

theorem szOf_run {E : Env A} (hE : EnvOk P AI E) {k : TK} {z : Nat} (hz : szOf E.ti k = some z) : ∀ e, elemOfK k = some e → (Go.sizeOf e).run P w = .ok z w := by
  intro e he
  cases k <;> simp [elemOfK] at he <;> subst he <;> simp only [szOf] at hz <;> split at hz <;> simp at hz <;> subst hz <;> rename_i i hi <;> exact (hE.ti _ i hi).sizeOf w

end Go.Sx

/-
  Symbolic execution: all operations.
-/
namespace Go.Sx
set_option linter.all false
open Go.RowKit

variable {A : Type} {AI : Abs A} {G : Fr} {s : SS A} {ρ : Ev} {a : Act} {w : World} {P : Program}

theorem exec_call_builtin {o : Oper} {b : Builtin} {xs : Array Operand} {ats : Array TypeId} (ho : o.op = .call { callee := .builtin b, args := xs, argTypes := ats }) :
    execOp a.eval o = builtin b ats o.type (xs.map fun | .const _ => true | _ => false) (xs.map a.eval) := by
  obtain ⟨dst, op, ty, pos, after, guard⟩ := o
  dsimp only at ho
  subst ho
  rfl

theorem map_eval_toArray (xs : Array Operand) : xs.map a.eval = (xs.toList.map a.eval).toArray := by apply Array.ext'; simp
theorem map_parts_toArray (xs : Array (Nat × Operand)) : xs.map (fun (i, x) => (i, a.eval x)) = (xs.toList.map fun p => (p.1, a.eval p.2)).toArray := by apply Array.ext'; simp

theorem All2.one {α β : Type} {R : α → β → Prop} {x : α} {us : List β} (h : All2 R [x] us) : ∃ a, us = [a] ∧ R x a := by
  cases h with | cons h1 h => cases h; exact ⟨_, rfl, h1⟩

theorem unsafe_sound {ti : List (Nat × TI)} (hti : TIok P ti) (h : Holds AI G s ρ a.tmps w) {b : Builtin} {args : List SV} {us : List Value} {ats : Array TypeId} (hds : All2 (Den ρ) args us) {p : Plan A} (hp : unsafeP ti b args ats.toList = some p) {d : List Bool} {C : U Prop} {r : SV} {cs : List (Chunk A)}
    (he : p.eff (getCs s.H p.ids) d = .done C r cs) (hC : C ()) (ty : TypeId) : (b = .unsafeSliceData ∧ Done AI G P s a w ρ (Builtin.unsafeSliceData_ ats ty us.toArray) (putCs s.H p.ids cs) r) ∨ (b = .unsafeString ∧ Done AI G P s a w ρ (Builtin.unsafeString_ ats ty us.toArray) (putCs s.H p.ids cs) r) := by
  cases b <;> (try (cases hp; done))
  · left
    refine ⟨rfl, ?_⟩
    rcases args with _ | ⟨x, _ | ⟨y, r⟩⟩ <;> (try (cases hp; done))
    have hp : sliceDataP x = some p := hp
    obtain ⟨u, rfl, hd⟩ := hds.one
    obtain ⟨h1, h2⟩ := sliceData_sound (P := P) h hd hp he hC ats ty
    exact Done.looks h h1 h2
  · right
    refine ⟨rfl, ?_⟩
    rcases args with _ | ⟨x, _ | ⟨y, _ | ⟨z, r⟩⟩⟩ <;> (try (cases hp; done))
    have hp : (match ats.toList with | [pt, _] => (match look ti pt with | some i => unsafeStrP ti i x y | none => none) | _ => none) = some p := hp
    rcases hats : ats.toList with _ | ⟨pt, _ | ⟨it, _ | ⟨z, r⟩⟩⟩ <;> (rw [hats] at hp) <;> (try (cases hp; done))
    have hp : (match look ti pt with | some i => unsafeStrP ti i x y | none => none) = some p := hp
    split at hp <;> (try (cases hp; done))
    rename_i i hi
    obtain ⟨u1, u2, rfl, hd1, hd2⟩ := hds.two
    have : ats = #[pt, it] := by apply Array.ext'; simpa using hats
    rw [this]
    exact unsafeStr_sound hti (hti pt i hi) h hd1 hd2 hp he hC ty

theorem sop0_sound {E : Env A} (hE : EnvOk P AI E) (h : Holds AI G s ρ a.tmps w) (hdf : a.defers = []) {o : Oper} {fresh : Nat} {p : Plan A} (hp : sop0 E s.tm fresh o.op = .plan p) (hfr : ∀ i ∈ p.ids, fresh ≤ i → getC s.H i = .emp) {d : List Bool} {C : U Prop} {v : SV} {cs : List (Chunk A)}
    (he : p.eff (getCs s.H p.ids) d = .done C v cs) (hC : C ()) (hdst : ∀ t, o.dst = some t → t < G.size) {K : Act → World → Prop} {Q : Exit → Act → World → Prop}
    (hK : Then AI G ⟨putT s.tm o.dst v, putCs s.H p.ids cs⟩ K) : o.wp P a w K Q := by
  have unit : ∀ (x : Go.Sem Unit) (hx : execOp a.eval o = (do x; pure .skip)) (ρ2 : Ev) (w' : World) (hr : x.run P w = .ok () w') (h2 : Holds AI G ⟨s.tm, putCs s.H p.ids cs⟩ ρ2 a.tmps w') (hv : v = one .any), o.wp P a w K Q := by
    intro x hx ρ2 w' hr h2 hv
    unfold Oper.wp
    rw [hx, Sem.run_bind, hr]
    simp only [Result.andThen, Sem.run_pure, Oper.upon_skip]
    subst hv
    exact hK _ _ (by rw [Act.put_defers', hdf]) ⟨ρ2, h2.put hdst (by trivial)⟩
  cases hop : o.op <;> rw [hop] at hp <;> simp only [sop0, reduceCtorEq] at hp
  case move x =>
    split at hp <;> (try cases hp)
    rename_i u hu
    refine wp_of_run (pure (a.eval x)) ?_ hdf (Done.pure_ h rfl he hC fun _ => ⟨_, rfl, h.eval hu⟩) hdst hK
    unfold execOp; rw [hop]; rfl
  case assign x =>
    split at hp <;> (try cases hp)
    rename_i u hu
    refine wp_of_run (pure (a.eval x)) ?_ hdf (Done.pure_ h rfl he hC fun _ => ⟨_, rfl, h.eval hu⟩) hdst hK
    unfold execOp; rw [hop]; rfl
  case pick c x y =>
    split at hp
    · rename_i hc
      split at hp <;> (try cases hp)
      rename_i u hu
      have e1 : a.eval c = .bool true := h.eval hc
      refine wp_of_run (do pure (if ← asBool (a.eval c) then a.eval x else a.eval y)) ?_ hdf (Done.pure_ h rfl he hC fun _ => ⟨a.eval x, by simp [e1, asBool], h.eval hu⟩) hdst hK
      unfold execOp; rw [hop]; simp
    · rename_i hc
      split at hp <;> (try cases hp)
      rename_i u hu
      have e1 : a.eval c = .bool false := h.eval hc
      refine wp_of_run (do pure (if ← asBool (a.eval c) then a.eval x else a.eval y)) ?_ hdf (Done.pure_ h rfl he hC fun _ => ⟨a.eval y, by simp [e1, asBool], h.eval hu⟩) hdst hK
      unfold execOp; rw [hop]; simp
    · split at hp <;> cases hp
    · cases hp
  case load t x =>
    split at hp <;> (try cases hp)
    rename_i i hi
    split at hp <;> (try cases hp)
    rename_i u hu
    obtain ⟨h1, h2⟩ := load_sound (hE.ti t i hi) h (h.eval hu) (PO.of_plan hp) he hC
    refine wp_of_run (Instr.loadAt t (a.eval x)) ?_ hdf (Done.looks h h1 h2) hdst hK
    unfold execOp; rw [hop]
  case store t x y =>
    split at hp <;> (try cases hp)
    rename_i i hi
    split at hp <;> (try cases hp)
    rename_i u hu
    split at hp <;> (try cases hp)
    rename_i u' hu'
    obtain ⟨ρ2, w', h1, h2, h3⟩ := store_sound (hE.ti t i hi) h (h.eval hu) (h.eval hu') (PO.of_plan hp) he hC
    refine unit (Instr.storeAt t (a.eval x) (a.eval y)) ?_ ρ2 w' h1 h2 h3
    unfold execOp; rw [hop]
  case nilCheck x =>
    have key : ∀ q, a.eval x = .pointer (some q) → execOp a.eval o = (do pure (.value (← (pure (.pointer (some q)) : Go.Sem Value)))) := by
      intro q hq
      unfold execOp; rw [hop]; simp only [hq]; rfl
    split at hp
    · rename_i i off hx
      have hd := h.eval hx
      obtain ⟨b, h1, h2⟩ := id hd
      exact wp_of_run _ (key _ h2) hdf (Done.pure_ h (PO.of_plan hp |> Option.some.inj |>.symm) he hC fun _ => ⟨_, rfl, h2 ▸ hd⟩) hdst hK
    · rename_i hx
      have hd := h.eval hx
      obtain ⟨b, o', h2, _⟩ := id hd
      exact wp_of_run _ (key _ h2) hdf (Done.pure_ h (PO.of_plan hp |> Option.some.inj |>.symm) he hC fun _ => ⟨_, rfl, h2 ▸ hd⟩) hdst hK
    · rename_i hx
      have hd := h.eval hx
      obtain ⟨q, h2, _⟩ := id hd
      exact wp_of_run _ (key _ h2) hdf (Done.pure_ h (PO.of_plan hp |> Option.some.inj |>.symm) he hC fun _ => ⟨_, rfl, h2 ▸ hd⟩) hdst hK
    · cases hp
  case binOp op t x y yt =>
    split at hp <;> (try cases hp)
    rename_i i hi
    split at hp <;> (try cases hp)
    rename_i u hu
    split at hp <;> (try cases hp)
    rename_i u' hu'
    split at hp
    · rename_i yy hny
      refine wp_of_run (do eqGuard op t x y (a.eval x) (a.eval y); binOp op t (a.eval x) (a.eval y)) ?_ hdf (Done.pure_ h (PO.of_plan hp |> Option.some.inj |>.symm) he hC fun _ => ?_) hdst hK
      · unfold execOp; rw [hop]
      · exact nilCmp_sound (hE.ti t i hi) hny x y yt (h.eval hu) (h.eval hu')
    split at hp <;> (try cases hp)
    rename_i hb
    obtain ⟨hb1, hb2⟩ := Bool.and_eq_true_iff.1 hb
    obtain ⟨k1, k2, k3, k4⟩ := binOk_den (hE.ti t i hi) hb1 (h.eval hu)
    have hp := PO.of_plan hp
    have hcase : binopP op u u' = some p ∨ (op = .sub ∧ ∃ m n, ivalS u = some (.i64, m) ∧ ivalS u' = some (.i64, n) ∧ p = ⟨[], 0, false, fun _ ds => match ds with
          | [] => .need (fun _ => decide (-9223372036854775808 ≤ m () - n () ∧ m () - n () ≤ 9223372036854775807))
          | true :: _ => .done (fun _ => -9223372036854775808 ≤ m () - n () ∧ m () - n () ≤ 9223372036854775807) (one (.int .i64 (fun _ => m () - n ()))) []
          | false :: _ => .done tt (one .any) []⟩) := by
      unfold softP at hp
      split at hp
      · split at hp
        · split at hp
          · rename_i m hm
            split at hp
            · rename_i n hn; cases hp; exact .inr ⟨rfl, m, n, hm, hn, rfl⟩
            · exact .inl hp
          · exact .inl hp
        · exact .inl hp
      · exact .inl hp
    clear hp
    rcases hcase with hp2 | ⟨hsub, m, n, hm, hn, hp2⟩
    case inr =>
      subst hsub; subst hp2
      have e1 := ivalS_den hm (h.eval hu)
      have e2 := ivalS_den hn (h.eval hu')
      refine wp_of_run (do eqGuard .sub t x y (a.eval x) (a.eval y); binOp .sub t (a.eval x) (a.eval y)) (ρ := ρ) ?_ hdf ?_ hdst hK
      · unfold execOp; rw [hop]
      · have hrun : (do eqGuard .sub t x y (a.eval x) (a.eval y); binOp .sub t (a.eval x) (a.eval y) : Go.Sem Value).run P w = .ok (.int .i64 (IntKind.i64.wrap (m () - n ()))) w := by
          rw [Sem.run_bind, run_eqGuard _ _ _ _ k3 k4, e1, e2]
          simp [Result.andThen, binOp, Op.intArith]
        dsimp only at he
        split at he <;> cases he
        · refine ⟨_, ρ, w, hrun, h, ?_, .refl _⟩
          exact fit_den (ρ := ρ) (k := .i64) (n := fun _ => m () - n ()) rfl hC
        · exact ⟨_, ρ, w, hrun, h, trivial, .refl _⟩
    have hp := hp2
    clear hp2
    unfold binopP at hp
    split at hp <;> (try cases hp)
    rename_i sx sy
    split at hp <;> (try cases hp)
    rename_i C' v' hbo
    refine wp_of_run (do eqGuard op t x y (a.eval x) (a.eval y); binOp op t (a.eval x) (a.eval y)) ?_ hdf (Done.pure_ h rfl he hC fun hC' => ?_) hdst hK
    · unfold execOp; rw [hop]
    · obtain ⟨r, hr1, hr2⟩ := binop1_sound (w := w) (P := P) hbo hC' t (h.eval hu) (h.eval hu') (fun b _ hb _ => k1 b hb) (fun b _ hb _ => k2 b hb)
      exact ⟨r, by rw [Sem.run_bind, run_eqGuard _ _ _ _ k3 k4]; exact hr1, hr2⟩
  case unOp op t x =>
    split at hp <;> (try cases hp)
    rename_i u hu
    obtain ⟨C', v', h1, h2⟩ := unop_sound (w := w) (P := P) (PO.of_plan hp) (h.eval hu)
    refine wp_of_run (Op.unary op (a.eval x)) ?_ hdf (Done.pure_ h h1 he hC h2) hdst hK
    unfold execOp; rw [hop]
  case convert src dst x =>
    split at hp <;> (try cases hp)
    rename_i i hi
    split at hp <;> (try cases hp)
    rename_i j hj
    split at hp <;> (try cases hp)
    rename_i u hu
    split at hp <;> (try cases hp)
    rename_i hs
    have hd := h.eval hu
    have hS := hE.ti src i hi
    have hk := hS.kind
    split at hp
    · rename_i p' hcn
      cases PO.of_plan hp
      split at hcn <;> (try cases hcn)
      rename_i hsd
      have hsd := beq_eq hsd
      subst hsd
      refine wp_of_run (convert src src (a.eval x)) ?_ hdf (convRow_sound (hE.ti src j hj) h hd hcn he hC) hdst hK
      unfold execOp; rw [hop]
    rename_i hcr0
    clear hcr0
    split at hp
    · rename_i p' hcn
      cases PO.of_plan hp
      have hstr : P.underlying src = some .string := by
        rw [srcOk_str hcn hs] at hk; exact hk
      refine wp_of_run (convert src dst (a.eval x)) ?_ hdf (convNew_sound hstr (hE.ti dst j hj) h hd hcn he hC) hdst hK
      unfold execOp; rw [hop]
    rename_i hcn0
    clear hcn0
    obtain ⟨h1, h2⟩ := convert_sound hS (hE.ti dst j hj) h hd (PO.of_plan hp) he hC
      (by
        rintro ⟨ao, l, c, e⟩
        unfold srcOk at hs
        split at hs
        · rw [show a.eval x = _ from hd] at e; cases e
        · rw [show a.eval x = _ from hd] at e; cases e
        · rw [show a.eval x = _ from hd] at e; cases e
        · rename_i hik; rw [hik] at hk; obtain ⟨hu1, g, hg, hg2⟩ := hk; obtain ⟨_, _, _, h8, _⟩ := hg2 _ rfl; exact ⟨_, hu1, h8 _ rfl⟩
        · rename_i hik; rw [hik] at hk; obtain ⟨hu1, g, hg, hg2⟩ := hk; obtain ⟨_, _, _, h8, _⟩ := hg2 _ rfl; exact ⟨_, hu1, h8 _ rfl⟩
        · rename_i hik; rw [hik] at hk; obtain ⟨hu1, g, hg, hg2⟩ := hk; obtain ⟨_, _, _, h8, _⟩ := hg2 _ rfl; exact ⟨_, hu1, h8 _ rfl⟩
        · rename_i hik; rw [hik] at hk; obtain ⟨hu1, g, hg, hg2⟩ := hk; obtain ⟨_, _, _, h8, _⟩ := hg2 _ rfl; exact ⟨_, hu1, h8 _ rfl⟩
        · cases hs)
      (by
        rintro ⟨k, n, e⟩
        unfold srcOk at hs
        split at hs
        · rename_i hik; rw [hik] at hk; exact ⟨_, hk⟩
        · rename_i hik; rw [hik] at hk; exact ⟨_, hk⟩
        · rw [show a.eval x = _ from hd] at e; cases e
        · obtain ⟨ao, cap, e2, _⟩ := hd; rw [e2] at e; cases e
        · rw [show a.eval x = _ from hd] at e; cases e
        · obtain ⟨⟨_, _, _, e2⟩, _⟩ := hd; rw [e2] at e; cases e
        · obtain ⟨⟨_, _, _, e2⟩, _⟩ := hd; rw [e2] at e; cases e
        · cases hs)
      (by
        rintro ⟨l, e⟩
        unfold srcOk at hs
        split at hs
        · rw [show a.eval x = _ from hd] at e; cases e
        · rw [show a.eval x = _ from hd] at e; cases e
        · rename_i hik; rw [hik] at hk; exact hk
        · obtain ⟨ao, cap, e2, _⟩ := hd; rw [e2] at e; cases e
        · rw [show a.eval x = _ from hd] at e; cases e
        · obtain ⟨⟨_, _, _, e2⟩, _⟩ := hd; rw [e2] at e; cases e
        · obtain ⟨⟨_, _, _, e2⟩, _⟩ := hd; rw [e2] at e; cases e
        · cases hs)
    refine wp_of_run (convert src dst (a.eval x)) ?_ hdf (Done.looks h h1 h2) hdst hK
    unfold execOp; rw [hop]
  case slice t x lo hi mx =>
    split at hp <;> (try cases hp)
    rename_i i hi'
    split at hp <;> (try cases hp)
    rename_i u hu
    split at hp <;> (try cases hp)
    rename_i l hl
    split at hp <;> (try cases hp)
    rename_i l2 hl2
    split at hp <;> (try cases hp)
    rename_i m hm
    split at hp
    rotate_left
    · refine wp_of_run (Instr.sliceAt t (a.eval x) (lo.map a.eval) (hi.map a.eval) (mx.map a.eval)) ?_ hdf (sliceZ_sound (hE.ti t i hi') h (h.eval hu) (optDen h hl) (optDen h hl2) (optDen h hm) (PO.of_plan hp) he) hdst hK
      unfold execOp; rw [hop]
    split at hp <;> (try cases hp)
    rename_i z hzz
    have hz := szOf_run (w := w) hE hzz
    obtain ⟨h1, h2⟩ := slice_sound (hE.ti t i hi') h hz (h.eval hu) (optDen h hl) (optDen h hl2) (optDen h hm) (PO.of_plan hp) he hC
    refine wp_of_run (Instr.sliceAt t (a.eval x) (lo.map a.eval) (hi.map a.eval) (mx.map a.eval)) ?_ hdf (Done.looks h h1 h2) hdst hK
    unfold execOp; rw [hop]
  case fieldAddr t x f =>
    split at hp <;> (try cases hp)
    rename_i i hi
    split at hp <;> (try cases hp)
    rename_i u hu
    obtain ⟨C', v', h1, h2⟩ := field_sound (w := w) (hE.ti t i hi) (h.eval hu) (PO.of_plan hp)
    refine wp_of_run (Instr.fieldAt t (a.eval x) f) ?_ hdf (Done.pure_ h h1 he hC h2) hdst hK
    unfold execOp; rw [hop]
  case indexAddr t x ix =>
    split at hp <;> (try cases hp)
    rename_i i hi
    split at hp <;> (try cases hp)
    rename_i u hu
    split at hp <;> (try cases hp)
    rename_i u' hu'
    split at hp <;> (try cases hp)
    rename_i z hzz
    have hz := szOf_run (w := w) hE hzz
    obtain ⟨h1, h2⟩ := index_sound (hE.ti t i hi) h hz (h.eval hu) (h.eval hu') (PO.of_plan hp) he hC
    refine wp_of_run (Instr.indexAt t (a.eval x) (a.eval ix)) ?_ hdf (Done.looks h h1 h2) hdst hK
    unfold execOp; rw [hop]
  case index t x ix =>
    split at hp <;> (try cases hp)
    rename_i i hi
    split at hp <;> (try cases hp)
    rename_i u hu
    split at hp <;> (try cases hp)
    rename_i u' hu'
    obtain ⟨h1, h2⟩ := idxVal_sound hE.ti (hE.ti t i hi) h (h.eval hu) (h.eval hu') (PO.of_plan hp) he hC
    refine wp_of_run (Instr.index t (a.eval x) (a.eval ix)) ?_ hdf (Done.looks h h1 h2) hdst hK
    unfold execOp; rw [hop]
  case extract x n =>
    split at hp <;> (try cases hp)
    rename_i l hl
    split at hp <;> (try cases hp)
    rename_i u hu
    obtain ⟨vs, e1, h1⟩ := h.eval hl
    obtain ⟨y, h2, h3⟩ := h1.nth hu
    refine wp_of_run (Instr.extract (a.eval x) n) ?_ hdf (Done.pure_ h rfl he hC fun _ => ⟨y, ?_, (show Den ρ (.val u) y from h3)⟩) hdst hK
    · unfold execOp; rw [hop]
    · rw [e1]; simp [Instr.extract, h2]
  case alloc t =>
    split at hp <;> (try cases hp)
    rename_i i hi
    obtain ⟨f, f1, f2, z, f4, f5⟩ := (hE.ti t i hi).info
    have hd := allocP_sound (P := P) h (t := t) (cs := i.zero) (vs := z.cells.toList) (by rw [f5]; exact zero_den) rfl he
    refine wp_of_run (ρ := ρ) (Instr.alloc t true (.tuple #[])) ?_ hdf ?_ hdst hK
    · unfold execOp; rw [hop]
    · obtain ⟨y, ρ', w', h1, h2⟩ := hd
      refine ⟨y, ρ', w', ?_, h2⟩
      rw [← h1]
      simp [Instr.alloc, Go.zeroValue, typeInfo, f1, f4, newVar]
  case box t x =>
    split at hp <;> (try cases hp)
    rename_i u hu
    split at hp <;> (try cases hp)
    rename_i l hl
    split at hp <;> (try cases hp)
    rename_i hst
    have hd := allocP_sound (P := P) h (t := t) (cellsOf_den hl (h.eval hu) hst) rfl he
    refine wp_of_run (ρ := ρ) (Instr.box t (a.eval x)) ?_ hdf ?_ hdst hK
    · unfold execOp; rw [hop]
    · simpa [Instr.box, newVar] using hd
  case build t parts =>
    split at hp <;> (try cases hp)
    rename_i i hi
    split at hp <;> (try cases hp)
    rename_i ps hps
    obtain ⟨f, f1, f2, z, f4, f5⟩ := (hE.ti t i hi).info
    obtain ⟨C', v', h1, h2⟩ := build_sound (w := w) (hE.ti t i hi) ⟨z, by simp [Go.zeroValue, typeInfo, f1, f4], f5⟩ (partsDen h hps) (fun z hz => szOf_run (w := w) hE hz) (PO.of_plan hp)
    refine wp_of_run (Instr.build t (parts.map fun (i, x) => (i, a.eval x))) ?_ hdf (Done.pure_ h h1 he hC ?_) hdst hK
    · unfold execOp; rw [hop]
    · intro hC'; obtain ⟨y, h3, h4⟩ := h2 hC'; exact ⟨y, by rw [map_parts_toArray]; exact h3, h4⟩
  case buildSlice t n parts =>
    split at hp <;> (try cases hp)
    rename_i i hi
    split at hp <;> (try cases hp)
    rename_i ps hps
    have hd := buildSlice_sound (hE.ti t i hi) h (partsDen h hps) (PO.of_plan hp) he hC
    refine wp_of_run (Instr.buildSlice t n (parts.map fun (i, x) => (i, a.eval x))) ?_ hdf (by rw [map_parts_toArray]; exact hd) hdst hK
    unfold execOp; rw [hop]
  case makeSlice t x y =>
    split at hp <;> (try cases hp)
    rename_i i hi
    split at hp <;> (try cases hp)
    rename_i u hu
    split at hp <;> (try cases hp)
    rename_i u' hu'
    have hd := makeSlice_sound (hE.ti t i hi) h (h.eval hu) (h.eval hu') (PO.of_plan hp) he hC
    refine wp_of_run (Instr.makeSlice t (a.eval x) (a.eval y)) ?_ hdf hd hdst hK
    unfold execOp; rw [hop]
  case makeMap t r =>
    cases r <;> simp only [sop0, reduceCtorEq] at hp
    split at hp <;> (try cases hp)
    rename_i i hi
    refine wp_of_run (Instr.makeMap t none) ?_ hdf (makeMap_sound (t := t) h (PO.of_plan hp) he) hdst hK
    unfold execOp; rw [hop]; rfl
  case lookup t x ix ok =>
    split at hp <;> (try cases hp)
    rename_i i hi
    split at hp <;> (try cases hp)
    rename_i u hu
    split at hp <;> (try cases hp)
    rename_i u' hu'
    obtain ⟨h1, h2⟩ := lookup_sound (hE.ti t i hi) h (h.eval hu) (h.eval hu') (PO.of_plan hp) he hC
    refine wp_of_run (Instr.lookup t (a.eval x) (a.eval ix) ok) ?_ hdf (Done.looks h h1 h2) hdst hK
    unfold execOp; rw [hop]
  case mapUpdate t x ix y =>
    split at hp <;> (try cases hp)
    rename_i i hi
    split at hp <;> (try cases hp)
    rename_i u hu
    split at hp <;> (try cases hp)
    rename_i u' hu'
    split at hp <;> (try cases hp)
    rename_i u2 hu2
    obtain ⟨ρ2, w', h1, h2, h3⟩ := mapUpdate_sound (hE.ti t i hi) h (h.eval hu) (h.eval hu') (h.eval hu2) (PO.of_plan hp) he hC
    refine unit (Instr.mapUpdate t (a.eval x) (a.eval ix) (a.eval y)) ?_ ρ2 w' h1 h2 h3
    unfold execOp; rw [hop]
  case makeFunc f first caps =>
    cases f <;> simp only [sop0, reduceCtorEq] at hp
    rename_i f
    split at hp <;> (try cases hp)
    rename_i vs hf hvs
    split at hp <;> (try cases hp)
    rename_i l hl
    have hcaps : ∀ {vs : List SV} {us : List Value} {l : List SV1}, All2 (Den ρ) vs us → capsOf vs = some l → All2 (Den1 ρ) l us := by
      intro vs
      induction vs with
      | nil => intro us l h1 h2; cases h1; simp [capsOf] at h2; subst h2; exact .nil
      | cons x r ih =>
        intro us l h1 h2
        cases h1 with
        | cons hx hr =>
          simp only [capsOf] at h2
          split at h2
          · rename_i y hy
            split at h2
            · rename_i l' hl'
              simp at h2
              subst h2
              refine .cons ?_ (ih hr hl')
              unfold cellOf at hy
              split at hy
              · cases hy; exact hx
              · cases hy
            · cases h2
          · cases h2
    have h1 := hcaps (h.evals hvs) hl
    refine wp_of_run (Instr.makeFunc (.func f) (first.map a.eval) (caps.map a.eval)) ?_ hdf (Done.pure_ h rfl he hC fun _ => ⟨_, rfl, caps.toList.map a.eval, ?_, h1⟩) hdst hK
    · unfold execOp; rw [hop]
    · have e1 : first = #[] := by apply Array.ext'; simpa using hf
      rw [e1, map_eval_toArray caps]; simp
  case range t x =>
    split at hp <;> (try cases hp)
    rename_i i hi
    split at hp <;> (try cases hp)
    rename_i u hu
    refine wp_of_run (Instr.range t (a.eval x)) ?_ hdf (range_sound (hE.ti t i hi) h (h.eval hu) (PO.of_plan hp) he) hdst hK
    unfold execOp; rw [hop]
  case entry x =>
    split at hp <;> (try cases hp)
    rename_i u hu
    obtain ⟨h1, h2⟩ := entry_sound (P := P) (w := w) h (h.eval hu) (PO.of_plan hp) he
    refine wp_of_run (Instr.entry (a.eval x)) ?_ hdf (Done.looks h h1 h2) hdst hK
    unfold execOp; rw [hop]
  case call c =>
    have hp := PO.of_plan hp
    unfold callP at hp
    split at hp <;> (try cases hp)
    rename_i args hargs
    have hds := h.evals hargs
    obtain ⟨callee, xs, ats⟩ := c
    dsimp only at hp hargs hds
    cases callee with
    | invoke r m => cases hp
    | builtin b =>
      dsimp only at hp
      have hex := exec_call_builtin (a := a) hop
      rw [map_eval_toArray] at hex
      generalize xs.toList.map a.eval = us at hex hds
      split at hp
      · rename_i x t hats _
        split at hp <;> (try cases hp)
        rename_i i hi
        split at hp <;> (try cases hp)
        rename_i hl
        have hkk := (hE.ti t i hi).kind
        obtain ⟨u, rfl, hd⟩ := hds.one
        obtain ⟨h1, h2⟩ := len_sound (P := P) (t := t) (ty := o.type) h hd hp he hC
          (by
            rintro ⟨l, e⟩
            unfold lenOk at hl
            split at hl
            · rename_i hik; rw [hik] at hkk; exact hkk
            · obtain ⟨_, _, e2, _⟩ := hd; rw [e2] at e; cases e
            · rw [show u = _ from hd] at e; cases e
            · obtain ⟨⟨_, _, _, e2⟩, _⟩ := hd; rw [e2] at e; cases e
            · obtain ⟨⟨_, _, _, e2⟩, _⟩ := hd; rw [e2] at e; cases e
            · obtain ⟨_, _, e2⟩ := hd; rw [e2] at e; cases e
            · cases hl)
          (by
            rintro ⟨ao, l, c, e⟩
            unfold lenOk at hl
            split at hl
            · rw [show u = _ from hd] at e; cases e
            · rename_i hik; rw [hik] at hkk; exact ⟨_, hkk.1⟩
            · rename_i hik; rw [hik] at hkk; exact ⟨_, hkk.1⟩
            · rename_i hik; rw [hik] at hkk; exact ⟨_, hkk.1⟩
            · rename_i hik; rw [hik] at hkk; exact ⟨_, hkk.1⟩
            · obtain ⟨_, _, e2⟩ := hd; rw [e2] at e; cases e
            · cases hl)
          (by
            rintro ⟨b, e⟩
            unfold lenOk at hl
            split at hl
            · rw [show u = _ from hd] at e; cases e
            · obtain ⟨_, _, e2, _⟩ := hd; rw [e2] at e; cases e
            · rw [show u = _ from hd] at e; cases e
            · obtain ⟨⟨_, _, _, e2⟩, _⟩ := hd; rw [e2] at e; cases e
            · obtain ⟨⟨_, _, _, e2⟩, _⟩ := hd; rw [e2] at e; cases e
            · rename_i hik; rw [hik] at hkk; exact ⟨_, _, hkk.1⟩
            · cases hl)
        refine wp_of_run (Builtin.len_ #[t] o.type #[u]) ?_ hdf (Done.looks h h1 h2) hdst hK
        rw [hex]
        have : ats = #[t] := by apply Array.ext'; simpa using hats
        rw [this]; rfl
      · rename_i x y t t2 hats _
        split at hp <;> (try cases hp)
        rename_i i hi
        obtain ⟨u1, u2, rfl, hd1, hd2⟩ := hds.two
        refine wp_of_run (Builtin.delete_ #[t, t2] o.type #[u1, u2]) ?_ hdf (delete_sound (hE.ti t i hi) h hd1 hd2 hp he hC) hdst hK
        rw [hex]
        have : ats = #[t, t2] := by apply Array.ext'; simpa using hats
        rw [this]; rfl
      · obtain ⟨C', v', h1, h2⟩ := minmax_sound (w := w) (P := P) hds hp ats o.type
        refine wp_of_run (Builtin.max_ ats o.type us.toArray) ?_ hdf (Done.pure_ h h1 he hC h2) hdst hK
        rw [hex]; rfl
      · obtain ⟨C', v', h1, h2⟩ := minmax_sound (w := w) (P := P) hds hp ats o.type
        refine wp_of_run (Builtin.min_ ats o.type us.toArray) ?_ hdf (Done.pure_ h h1 he hC h2) hdst hK
        rw [hex]; rfl
      · rename_i x y t t2 hats _
        split at hp <;> (try cases hp)
        rename_i i hi
        split at hp <;> (try cases hp)
        rename_i j hj
        split at hp <;> (try cases hp)
        rename_i hjk
        have hkk := (hE.ti t2 j hj).kind
        obtain ⟨u1, u2, rfl, hd1, hd2⟩ := hds.two
        have hd := append_sound (hE.ti t i hi) h (appendOk_kind hjk hkk) hd1 hd2 hp he hC o.type
        refine wp_of_run (Builtin.append_ #[t, t2] o.type #[u1, u2]) ?_ hdf hd hdst hK
        rw [hex]
        have : ats = #[t, t2] := by apply Array.ext'; simpa using hats
        rw [this]; rfl
      · rcases unsafe_sound hE.ti h hds hp he hC o.type with ⟨rfl, hD⟩ | ⟨rfl, hD⟩
        · refine wp_of_run _ ?_ hdf hD hdst hK
          rw [hex]; rfl
        · refine wp_of_run _ ?_ hdf hD hdst hK
          rw [hex]; rfl
    | value f =>
      dsimp only at hp
      have fin : ∀ (g : FuncId) (k : Con A) (cargs : List SV) (vs : List Value), look E.con g = some k → a.eval f = .func (.func g) #[] vs.toArray → All2 (Den ρ) cargs (xs.toList.map a.eval ++ vs) → k cargs fresh = some p → Oper.wp P o a w K Q := by
        intro g k cargs vs hk e1 hall hp
        obtain ⟨h1, _, h2⟩ := hE.con g k hk
        have hcall := h2 G s ρ a.tmps w _ _ fresh p d C v cs h hall hp hfr he hC
        have hrun : (execOp a.eval o).run P w = .ok (.enter g (xs.toList.map a.eval ++ vs).toArray) w := by
          have e2 : (xs.toList.map a.eval ++ vs).toArray = xs.map a.eval ++ vs.toArray := by apply Array.ext'; simp
          unfold execOp
          rw [hop]
          simp [resolve, Deferred.ofValue, e1, Go.invoke]
          rw [h1]
          simp
        unfold Oper.wp
        rw [hrun, Oper.upon_enter]
        refine hcall.mono ?_
        rintro e w' ⟨y, ρ', rfl, h4, h5, h6⟩
        exact hK _ _ (by rw [Act.put_defers', hdf]) ⟨ρ', h4.put hdst h5⟩
      split at hp
      · rename_i g caps hg
        split at hp <;> (try cases hp)
        rename_i k hk
        obtain ⟨vs, e1, h3⟩ := h.eval hg
        refine fin g k _ vs hk e1 (hds.append ?_) hp
        clear hk hp e1 hg fin
        induction h3 with
        | nil => exact .nil
        | cons hx _ ih => exact .cons hx ih
      · rename_i g ids hg
        split at hp <;> (try cases hp)
        rename_i k hk
        obtain ⟨vs, e1, h3⟩ := h.eval hg
        refine fin g k _ vs hk e1 (hds.append ?_) hp
        clear hk hp e1 hg fin
        induction h3 with
        | nil => exact .nil
        | cons hx _ ih => obtain ⟨b, h4, h5⟩ := hx; exact .cons ⟨b, h4, h5⟩ ih
      · cases hp

end Go.Sx

/-
  Symbolic execution: what an operation's plan depends on; what it leaves alone.
-/
namespace Go.Sx
set_option linter.all false
open Go.RowKit

variable {A : Type} {AI : Abs A} {G : Fr} {s : SS A} {ρ : Ev} {a : Act} {w : World} {P : Program}

theorem evalOp_congr {tm tm' : List (Nat × SV)} {x : Operand} (h : ∀ t, x = .tmp t → look tm t = look tm' t) : evalOp tm x = evalOp tm' x := by
  cases x <;> simp only [evalOp]
  exact h _ rfl
theorem evalOps_congr {tm tm' : List (Nat × SV)} : ∀ {xs : List Operand}, (∀ t, .tmp t ∈ xs → look tm t = look tm' t) → evalOps tm xs = evalOps tm' xs
  | [], _ => rfl
  | x :: r, h => by
    have h1 : evalOp tm x = evalOp tm' x := evalOp_congr fun t e => h t (by simp [e])
    have h2 : evalOps tm r = evalOps tm' r := evalOps_congr fun t e => h t (by simp [e])
    simp only [evalOps, h1, h2]
theorem argParts_congr {tm tm' : List (Nat × SV)} : ∀ {xs : List (Nat × Operand)}, (∀ t, .tmp t ∈ xs.map (·.2) → look tm t = look tm' t) → argParts tm xs = argParts tm' xs
  | [], _ => rfl
  | (i, x) :: r, h => by
    have h1 : evalOp tm x = evalOp tm' x := evalOp_congr fun t e => h t (by simp [e])
    have h2 : argParts tm r = argParts tm' r := argParts_congr fun t e => h t (by simp at e ⊢; exact .inr e)
    simp only [argParts, h1, h2]
theorem evalOpt_congr {tm tm' : List (Nat × SV)} {x : Option Operand} (h : ∀ t, x = some (.tmp t) → look tm t = look tm' t) : evalOpt tm x = evalOpt tm' x := by
  cases x with
  | none => rfl
  | some x => simp only [evalOpt, evalOp_congr (tm := tm) (tm' := tm') (x := x) fun t e => h t (by rw [e])]

theorem sop0_congr {E : Env A} {tm tm' : List (Nat × SV)} {fresh : Nat} {o : Op} (h : ∀ t, .tmp t ∈ o.operands → look tm t = look tm' t) : sop0 E tm fresh o = sop0 E tm' fresh o := by
  have e1 : ∀ x ∈ o.operands, evalOp tm x = evalOp tm' x := fun x hx => evalOp_congr fun t e => h t (e ▸ hx)
  cases o <;> simp only [sop0] <;> simp only [Op.operands] at h e1
  case move x => rw [e1 x (by simp)]
  case assign x => rw [e1 x (by simp)]
  case pick c x y => rw [e1 c (by simp), e1 x (by simp), e1 y (by simp)]
  case load t x => rw [e1 x (by simp)]
  case store t x y => rw [e1 x (by simp), e1 y (by simp)]
  case nilCheck x => rw [e1 x (by simp)]
  case binOp op t x y yt => rw [e1 x (by simp), e1 y (by simp)]
  case unOp op t x => rw [e1 x (by simp)]
  case convert s d x => rw [e1 x (by simp)]
  case slice t x lo hi mx =>
    rw [e1 x (by simp), evalOpt_congr (tm := tm) (tm' := tm') (x := lo) fun t e => h t (by simp [e]), evalOpt_congr (tm := tm) (tm' := tm') (x := hi) fun t e => h t (by simp [e]), evalOpt_congr (tm := tm) (tm' := tm') (x := mx) fun t e => h t (by simp [e])]
  case fieldAddr t x f => rw [e1 x (by simp)]
  case indexAddr t x i => rw [e1 x (by simp), e1 i (by simp)]
  case index t x i => rw [e1 x (by simp), e1 i (by simp)]
  case extract x n => rw [e1 x (by simp)]
  case box t x => rw [e1 x (by simp)]
  case build t ps => rw [argParts_congr (tm := tm) (tm' := tm') fun t e => h t (by simpa using e)]
  case buildSlice t n ps => rw [argParts_congr (tm := tm) (tm' := tm') fun t e => h t (by simpa using e)]
  case makeSlice t x y => rw [e1 x (by simp), e1 y (by simp)]
  case makeMap t r => cases r <;> rfl
  case lookup t x ix ok => rw [e1 x (by simp), e1 ix (by simp)]
  case range t x => rw [e1 x (by simp)]
  case entry x => rw [e1 x (by simp)]
  case mapUpdate t x ix y => rw [e1 x (by simp), e1 ix (by simp), e1 y (by simp)]
  case makeFunc f first caps =>
    cases f <;> simp only [sop0]
    rw [evalOps_congr (tm := tm) (tm' := tm') fun t e => h t (by simp at e ⊢; exact .inr e)]
  case call c =>
    congr 1
    unfold callP
    obtain ⟨callee, xs, ats⟩ := c
    have h1 : evalOps tm xs.toList = evalOps tm' xs.toList := evalOps_congr fun t e => h t (by simp [Call.operands]; exact .inr (by simpa using e))
    rw [h1]
    cases callee with
    | value f => dsimp only; rw [show evalOp tm f = evalOp tm' f from evalOp_congr fun t e => h t (by simp [Call.operands, e])]
    | invoke r m => rfl
    | builtin b => rfl

/-- A plan that does not write leaves what it found. -/
def NoWrite (p : Plan A) : Prop := p.w = false → ∀ (H : List (Chunk A)) d C v cs, p.eff (getCs H p.ids) d = .done C v cs → cs = getCs H p.ids

theorem noWrite_pure {C : U Prop} {v : SV} {p : Plan A} (h : pureP C v = some p) : NoWrite p := by
  cases h; intro _ H d C v cs h; simp at h; simp [getCs, h]
theorem noWrite_w {p : Plan A} (h : p.w = true) : NoWrite p := fun e => by rw [h] at e; cases e

theorem noWrite_load {t : TI} {x : SV} {p : Plan A} (h : loadP t x = some p) : NoWrite p := by
  unfold loadP at h
  split at h
  · cases h
    intro _ H d C v cs he
    simp only [getCs] at he ⊢
    split at he <;> (try cases he)
    rename_i heq
    split at he <;> cases he
    exact heq.symm
  · split at h <;> (try cases h)
    intro _ H d C v cs he; simp at he; simp [getCs, he]
  · cases h
    intro _ H d C v cs he
    simp only [getCs] at he ⊢
    split at he <;> (try cases he)
    rename_i heq
    split at he <;> (try cases he)
    split at he <;> cases he
    exact heq.symm
  · cases h
theorem noWrite_len {x : SV} {p : Plan A} (h : lenP x = some p) : NoWrite p := by
  unfold lenP at h
  split at h <;> (try cases h)
  any_goals (intro _ H d C v cs he; simp at he; simp [getCs, he]; done)
  all_goals
    intro _ H d C v cs he
    simp only [getCs] at he ⊢
    split at he <;> (try cases he)
    rename_i heq
    first
      | exact heq.symm
      | (split at he <;> cases he; exact heq.symm)
theorem noWrite_index {t : TI} {z : Nat} {x ix : SV} {p : Plan A} (h : indexP t z x ix = some p) : NoWrite p := by
  unfold indexP at h
  split at h
  · split at h
    rotate_left 1
    · split at h <;> cases h
      rename_i n _ k _
      intro _ H d C v cs he
      have main : ∀ (l j : Nat) (ds : List Bool), arrEff (A := A) x z k l j ds = .done C v cs → cs = [] := by
        intro l
        induction l with
        | zero => intro j ds h; simp [arrEff] at h
        | succ l ih =>
          intro j ds h
          cases l with
          | zero =>
            simp only [arrEff] at h
            split at h
            · simp at h; exact h.2.2
            · cases h
          | succ l =>
            cases ds with
            | nil => simp [arrEff] at h
            | cons b ds =>
              cases b with
              | true =>
                simp only [arrEff] at h
                split at h
                · simp at h; exact h.2.2
                · cases h
              | false =>
                simp only [arrEff] at h
                exact ih (j + 1) ds h
      exact main _ _ _ he
    split at h <;> (try cases h)
    split at h <;> (try cases h)
    all_goals (intro _ H d C v cs he; simp at he; simp [getCs, he])
  · split at h <;> (try cases h)
    split at h <;> (try cases h)
    · split at h <;> (try cases h)
      intro _ H d C v cs he; simp at he; simp [getCs, he]
    · intro _ H d C v cs he
      simp only [getCs] at he ⊢
      split at he <;> (try cases he)
      rename_i heq
      split at he <;> cases he
      exact heq.symm
  · cases h
theorem noWrite_slice {t : TI} {z : Nat} {x : SV} {lo hi mx : Option SV} {p : Plan A} (h : sliceP t z x lo hi mx = some p) : NoWrite p := by
  unfold sliceP at h
  split at h <;> (try cases h)
  split at h <;> (try cases h)
  split at h <;> (try cases h)
  split at h <;> (try cases h)
  · split at h <;> (try cases h)
    intro _ H d C v cs he; simp at he; simp [getCs, he]
  · intro _ H d C v cs he
    simp only [getCs] at he ⊢
    split at he <;> (try cases he)
    rename_i heq
    split at he <;> cases he
    exact heq.symm
theorem noWrite_field {t : TI} {x : SV} {f : Nat} {p : Plan A} (h : fieldP t x f = some p) : NoWrite p := by
  unfold fieldP at h
  split at h <;> (try cases h)
  split at h <;> (try cases h)
  split at h <;> (try cases h)
  all_goals (intro _ H d C v cs he; simp at he; simp [getCs, he])
theorem noWrite_bin {op : BinOp} {x y : SV} {p : Plan A} (h : binopP op x y = some p) : NoWrite p := by
  unfold binopP at h
  split at h <;> (try cases h)
  split at h <;> (try cases h)
  intro _ H d C v cs he; simp at he; simp [getCs, he]
theorem noWrite_un {op : UnOp} {x : SV} {p : Plan A} (h : unopP op x = some p) : NoWrite p := by
  unfold unopP at h
  split at h <;> (try cases h)
  all_goals (intro _ H d C v cs he; simp at he; simp [getCs, he])
theorem noWrite_build {t : TI} {z : Option Nat} {l : List (Nat × SV)} {p : Plan A} (h : buildP t z l = some p) : NoWrite p := by
  unfold buildP at h
  split at h <;> (try cases h)
  · split at h <;> (try cases h)
    intro _ H d C v cs he; simp at he; simp [getCs, he]
  · split at h <;> (try cases h)
    split at h <;> (try cases h)
    intro _ H d C v cs he; simp at he; simp [getCs, he]
theorem noWrite_minmax {b : Bool} {l : List SV} {p : Plan A} (h : minmaxP b l = some p) : NoWrite p := by
  unfold minmaxP at h
  split at h
  · split at h <;> (try cases h)
    split at h <;> (try cases h)
    split at h <;> (try cases h)
    intro _ H d C v cs he; simp at he; simp [getCs, he]
  · split at h <;> (try cases h)
    split at h <;> (try cases h)
    split at h <;> (try cases h)
    split at h <;> (try cases h)
    split at h <;> (try cases h)
    intro _ H d C v cs he; simp at he; simp [getCs, he]
  · cases h
theorem noWrite_conv {i j : TI} {x : SV} {p : Plan A} (h : convertP i j x = some p) : NoWrite p := by
  unfold convertP at h
  split at h
  all_goals try cases h
  any_goals (intro _ H d C v cs he; simp at he; simp [getCs, he]; done)
  all_goals
    intro _ H d C v cs he
    simp only [getCs] at he ⊢
    split at he <;> (try cases he)
    rename_i heq
    split at he <;> cases he
    exact heq.symm
theorem noWrite_convNew {j : TI} {x : SV} {p : Plan A} (h : convNew j x = some p) : NoWrite p := by
  unfold convNew at h
  split at h <;> cases h
  intro _ H d C v cs he; simp at he; simp [getCs, he]
theorem noWrite_lookup {t : TI} {x ix : SV} {ok : Bool} {p : Plan A} (h : lookupP t x ix ok = some p) : NoWrite p := by
  unfold lookupP at h
  split at h <;> cases h
  intro _ H d C v cs he
  simp only [getCs] at he ⊢
  split at he <;> (try cases he)
  rename_i heq
  split at he <;> (try cases he)
  split at he <;> (try cases he)
  split at he <;> cases he
  exact heq.symm

theorem softP_cases {i : TI} {op : BinOp} {v u : SV} {q p : Option (Plan A)} (h : softP i op v u q = p) : q = p ∨ (op = .sub ∧ ∃ a b, ivalS v = some (.i64, a) ∧ ivalS u = some (.i64, b) ∧ p = some ⟨[], 0, false, fun _ ds => match ds with
          | [] => .need (fun _ => decide (-9223372036854775808 ≤ a () - b () ∧ a () - b () ≤ 9223372036854775807))
          | true :: _ => .done (fun _ => -9223372036854775808 ≤ a () - b () ∧ a () - b () ≤ 9223372036854775807) (one (.int .i64 (fun _ => a () - b ()))) []
          | false :: _ => .done tt (one .any) []⟩) := by
  unfold softP at h
  split at h
  · split at h
    · split at h
      · rename_i a ha
        split at h
        · rename_i b hb; exact .inr ⟨rfl, a, b, ha, hb, h.symm⟩
        · exact .inl h
      · exact .inl h
    · exact .inl h
  · exact .inl h
theorem noWrite_unsafe {ti : List (Nat × TI)} {b : Builtin} {args : List SV} {ts : List TypeId} {p : Plan A} (h : unsafeP ti b args ts = some p) : NoWrite p := by
  unfold unsafeP at h
  split at h
  · split at h <;> (try (cases h; done))
    unfold sliceDataP at h
    split at h <;> cases h
    · intro _ H d C v cs he; simp at he; simp [getCs, he]
    · intro _ H d C v cs he
      simp only [getCs] at he ⊢
      split at he <;> (try (simp at he; done))
      rename_i hcc
      split at he <;> (try (simp at he; done))
      simp at he
      rw [← he.2.2]
      exact hcc.symm
  · split at h <;> (try (cases h; done))
    split at h <;> (try (cases h; done))
    split at h <;> (try (cases h; done))
    unfold unsafeStrP at h
    split at h <;> (try (cases h; done))
    split at h <;> (try (cases h; done))
    split at h <;> (try (cases h; done))
    split at h <;> cases h
    · intro _ H d C v cs he; simp at he; simp [getCs, he]
    · exact noWrite_w rfl
  · cases h

theorem noWrite_idxVal {ti : List (Nat × TI)} {t : TI} {x ix : SV} {p : Plan A} (h : idxValP ti t x ix = some p) : NoWrite p := by
  unfold idxValP at h
  split at h <;> (try (cases h; done))
  split at h <;> (try (cases h; done))
  split at h <;> (try (cases h; done))
  split at h
  · split at h <;> (try (cases h; done))
    split at h <;> (try (cases h; done))
    exact noWrite_pure h
  · split at h <;> cases h
    intro _ H d C v cs he
    have main : ∀ (ie : TI) (l : List SV1) (k : U Int) (q j : Nat) (ds : List Bool), idxEff (A := A) ie l k q j ds = .done C v cs → cs = [] := by
      intro ie l k q
      induction q with
      | zero => intro j ds h; simp [idxEff] at h
      | succ q ih =>
        intro j ds h
        cases q with
        | zero =>
          simp only [idxEff] at h
          split at h
          · simp at h; exact h.2.2
          · cases h
        | succ q =>
          cases ds with
          | nil => simp [idxEff] at h
          | cons b ds =>
            cases b with
            | true =>
              simp only [idxEff] at h
              split at h
              · simp at h; exact h.2.2
              · cases h
            | false =>
              simp only [idxEff] at h
              exact ih (j + 1) ds h
    exact main _ _ _ _ 0 d he

theorem sop0_noWrite {E : Env A} (hE : EnvOk P AI E) {tm : List (Nat × SV)} {fresh : Nat} {o : Op} {p : Plan A} (h : sop0 E tm fresh o = .plan p) : NoWrite p := by
  cases o <;> simp only [sop0, reduceCtorEq] at h
  case load t x => split at h <;> (try cases h); split at h <;> (try cases h); exact noWrite_load (PO.of_plan h)
  case store t x y =>
    split at h <;> (try cases h)
    split at h <;> (try cases h)
    split at h <;> (try cases h)
    have h := PO.of_plan h
    unfold storeP at h
    split at h
    · split at h
      · split at h
        · unfold storeF at h
          split at h <;> cases h
          exact noWrite_w rfl
        · unfold storeQ at h
          split at h <;> (try cases h)
          split at h <;> (try cases h)
          split at h <;> cases h <;> exact noWrite_w rfl
      · unfold storeQ at h
        split at h <;> (try cases h)
        split at h <;> (try cases h)
        split at h <;> cases h <;> exact noWrite_w rfl
    · split at h <;> (try cases h)
      split at h <;> cases h
      exact noWrite_w rfl
  case convert s d x =>
    split at h <;> (try cases h)
    split at h <;> (try cases h)
    split at h <;> (try cases h)
    split at h <;> (try cases h)
    split at h
    · rename_i hc
      cases PO.of_plan h
      split at hc <;> (try cases hc)
      unfold convRow at hc
      split at hc <;> cases hc
      exact noWrite_w rfl
    split at h
    · rename_i hc; cases PO.of_plan h; exact noWrite_convNew hc
    · exact noWrite_conv (PO.of_plan h)
  case slice t x lo hi mx =>
    split at h <;> (try cases h)
    split at h <;> (try cases h)
    split at h <;> (try cases h)
    split at h <;> (try cases h)
    split at h <;> (try cases h)
    split at h
    · split at h <;> (try cases h)
      exact noWrite_slice (PO.of_plan h)
    · have h := PO.of_plan h
      unfold sliceZ at h
      split at h <;> (try cases h)
      split at h <;> cases h
      exact noWrite_w rfl
  case fieldAddr t x f => split at h <;> (try cases h); split at h <;> (try cases h); exact noWrite_field (PO.of_plan h)
  case indexAddr t x i =>
    split at h <;> (try cases h)
    split at h <;> (try cases h)
    split at h <;> (try cases h)
    split at h <;> (try cases h)
    exact noWrite_index (PO.of_plan h)
  case binOp op t x y yt =>
    split at h <;> (try cases h)
    split at h <;> (try cases h)
    split at h <;> (try cases h)
    split at h
    · exact noWrite_pure (PO.of_plan h)
    · split at h <;> (try cases h)
      rcases softP_cases (PO.of_plan h) with h | ⟨_, a, b, _, _, h⟩
      · exact noWrite_bin h
      · cases h
        intro _ H d C v cs he
        simp only [getCs] at he ⊢
        split at he <;> (try cases he) <;> rfl
  case unOp op t x => split at h <;> (try cases h); exact noWrite_un (PO.of_plan h)
  case build t ps => split at h <;> (try cases h); split at h <;> (try cases h); exact noWrite_build (PO.of_plan h)
  case buildSlice t n ps =>
    split at h <;> (try cases h)
    split at h <;> (try cases h)
    have h := PO.of_plan h
    unfold buildSliceP at h
    split at h <;> (try cases h)
    split at h <;> (try cases h)
    split at h <;> (try cases h)
    split at h <;> (try cases h)
    split at h
    · cases h; exact noWrite_w rfl
    · exact noWrite_pure h
  case makeMap t r =>
    cases r <;> simp only [sop0, reduceCtorEq] at h
    split at h <;> (try cases h)
    have h := PO.of_plan h
    unfold makeMapP at h
    split at h <;> cases h
    exact noWrite_w rfl
  case range t x =>
    split at h <;> (try cases h)
    split at h <;> (try cases h)
    have h := PO.of_plan h
    unfold rangeP at h
    split at h <;> cases h
    exact noWrite_w rfl
  case entry x =>
    split at h <;> (try cases h)
    have h := PO.of_plan h
    unfold entryP at h
    split at h <;> cases h
    intro _ H d C v cs he
    dsimp only at he
    split at he <;> (try (simp at he; done))
    split at he <;> (try (simp at he; done))
    split at he <;> (try (simp at he; done))
    split at he <;> (try (simp at he; done))
    simp at he
    exact he.2.2.symm
  case index t x ix =>
    split at h <;> (try cases h)
    split at h <;> (try cases h)
    split at h <;> (try cases h)
    exact noWrite_idxVal (PO.of_plan h)
  case lookup t x ix ok =>
    split at h <;> (try cases h)
    split at h <;> (try cases h)
    split at h <;> (try cases h)
    exact noWrite_lookup (PO.of_plan h)
  case mapUpdate t x ix y =>
    split at h <;> (try cases h)
    split at h <;> (try cases h)
    split at h <;> (try cases h)
    split at h <;> (try cases h)
    have h := PO.of_plan h
    unfold mapUpdateP at h
    split at h <;> cases h
    exact noWrite_w rfl
  case makeSlice t x y =>
    split at h <;> (try cases h)
    split at h <;> (try cases h)
    split at h <;> (try cases h)
    have h := PO.of_plan h
    unfold makeSliceP at h
    split at h <;> (try cases h)
    split at h <;> (try cases h)
    split at h <;> (try cases h)
    exact noWrite_w rfl
  case makeFunc f first caps =>
    cases f <;> simp only [sop0, reduceCtorEq] at h
    split at h <;> (try cases h)
    split at h <;> (try cases h)
    intro _ H d C v cs he; simp at he; simp [getCs, he]
  case call c =>
    have h := PO.of_plan h
    unfold callP at h
    split at h <;> (try cases h)
    split at h
    · split at h <;> (try cases h)
      · split at h <;> (try cases h)
        split at h <;> (try cases h)
        exact noWrite_len h
      · split at h <;> (try cases h)
        unfold deleteP at h
        split at h <;> cases h
        exact noWrite_w rfl
      · exact noWrite_minmax h
      · exact noWrite_minmax h
      · split at h <;> (try cases h)
        split at h <;> (try cases h)
        split at h <;> (try cases h)
        unfold appendP appendQ at h
        split at h <;> (try cases h)
        split at h <;> (try cases h)
        · split at h <;> cases h; exact noWrite_w rfl
        · split at h <;> cases h; exact noWrite_w rfl
      · exact noWrite_unsafe h
    · split at h
      · split at h <;> (try cases h)
        rename_i k hk
        exact (hE.con _ k hk).2.1 _ _ _ h
      · split at h <;> (try cases h)
        rename_i k hk
        exact (hE.con _ k hk).2.1 _ _ _ h
      · cases h
    · cases h
  case alloc t => split at h <;> cases h; exact noWrite_w rfl
  case box t x =>
    split at h <;> (try cases h)
    split at h <;> (try cases h)
    split at h <;> cases h
    exact noWrite_w rfl
  all_goals
    repeat' (first | exact noWrite_pure (PO.of_plan h) | (split at h))
  all_goals cases h

/-- An append's plan writes to its first chunk alone. -/
def HeadW (p : Plan A) : Prop := ∀ (H : List (Chunk A)) d C v cs, p.eff (getCs H p.ids) d = .done C v cs → ∃ i r c, p.ids = i :: r ∧ i ∉ r ∧ cs = c :: getCs H r
theorem headW_append {t : TI} {x : SV} {src : Src} {fresh : Nat} {p : Plan A} (h : appendQ t x src fresh = some p) : HeadW p := by
  unfold appendQ at h
  split at h <;> (try cases h)
  split at h <;> (try cases h)
  · split at h <;> cases h
    rename_i i ver _ hn
    intro H d C v cs he
    dsimp only [getCs] at he
    split at he <;> (try (cases he; done))
    rename_i hcs
    simp only [List.cons.injEq] at hcs
    split at he <;> (try (cases he; done))
    split at he <;> cases he
    refine ⟨i, src.ids, _, rfl, fun hi => ?_, congrArg (List.cons _) hcs.2.symm⟩
    have : src.ids.any (beqN i) = true := List.any_eq_true.2 ⟨i, hi, beqN_self⟩
    rw [this] at hn; cases hn
  · split at h <;> cases h
    rename_i hn
    intro H d C v cs he
    dsimp only [getCs] at he
    split at he <;> (try (cases he; done))
    rename_i hcs
    simp only [List.cons.injEq] at hcs
    split at he <;> cases he
    refine ⟨fresh, src.ids, _, rfl, fun hi => ?_, congrArg (List.cons _) hcs.2.symm⟩
    have : src.ids.any (beqN fresh) = true := List.any_eq_true.2 ⟨fresh, hi, beqN_self⟩
    rw [this] at hn; cases hn
theorem sop0_head {E : Env A} {tm : List (Nat × SV)} {fresh : Nat} {o : Op} {p : Plan A} (ha : isApp o = true) (h : sop0 E tm fresh o = .plan p) : HeadW p := by
  cases o <;> (try (cases ha; done))
  rename_i c
  obtain ⟨callee, args, argTypes⟩ := c
  cases callee <;> (try (cases ha; done))
  rename_i b
  simp only [isApp] at ha
  cases b <;> (try (cases ha; done))
  simp only [sop0] at h
  have h := PO.of_plan h
  unfold callP at h
  split at h <;> (try cases h)
  dsimp only at h
  split at h <;> (try contradiction)
  · split at h <;> (try cases h)
    split at h <;> (try cases h)
    split at h <;> (try cases h)
    exact headW_append h
end Go.Sx

/-
  Symbolic execution: lists and maps whose elements own their rows of ints.
-/
namespace Go.Sx
set_option linter.all false
open Go.RowKit Go.MapKept

variable {A : Type} {AI : Abs A} {G : Fr} {s : SS A} {ρ : Ev} {a : Act} {w : World} {P : Program}

/-- Two chunks change. -/
theorem Holds.two {tmps : Array Value} (h : Holds AI G s ρ tmps w) {ρ' : Ev} {w' : World} {i j : Nat} (hij : i ≠ j) {ci cj : Chunk A} (le : ρ.Le ρ') (hM : ρ'.M = ρ.M)
    (same : ∀ k, k ≠ i → k ≠ j → ρ'.root k = ρ.root k ∧ ρ'.ver k = ρ.ver k ∧ ρ'.foot k = ρ.foot k)
    (fi : ∀ b ∈ ρ'.foot i, (b ∈ ρ.foot i ∨ b ∈ ρ.foot j ∨ w.heap.size ≤ b) ∧ b < w'.heap.size)
    (fj : ∀ b ∈ ρ'.foot j, (b ∈ ρ.foot i ∨ b ∈ ρ.foot j ∨ w.heap.size ≤ b) ∧ b < w'.heap.size)
    (dis : ∀ b ∈ ρ'.foot i, b ∉ ρ'.foot j)
    (blocks : ∀ b, b < w.heap.size → b ∉ ρ.foot i → b ∉ ρ.foot j → w'.heap[b]? = w.heap[b]?)
    (os : w'.os = w.os) (tape : w'.tape = w.tape) (output : w'.output = w.output) (size : w.heap.size ≤ w'.heap.size)
    (hi : HoldsC AI ρ' w' i ci) (hj : HoldsC AI ρ' w' j cj) : Holds AI G ⟨s.tm, putCs s.H [i, j] [ci, cj]⟩ ρ' tmps w' := by
  refine h.step (fun k => k = i ∨ k = j) le hM (fun k hk => ?_) (fun k hk b hb => ?_) (fun k l b hk hl hkl h1 h2 => ?_) (fun b hb hn => blocks b hb (hn i (.inl rfl)) (hn j (.inr rfl))) os tape output size (fun k hk => ?_)
  · have h1 : k ≠ i := fun e => hk (.inl e)
    have h2 : k ≠ j := fun e => hk (.inr e)
    obtain ⟨e1, e2, e3⟩ := same k h1 h2
    exact ⟨e1, e2, e3, by simp [putCs, getC_putC, h1, h2]⟩
  · have key : ∀ b, (b ∈ ρ.foot i ∨ b ∈ ρ.foot j ∨ w.heap.size ≤ b) → (∃ k, (k = i ∨ k = j) ∧ b ∈ ρ.foot k) ∨ w.heap.size ≤ b := by
      rintro b (h1 | h1 | h1)
      · exact .inl ⟨i, .inl rfl, h1⟩
      · exact .inl ⟨j, .inr rfl, h1⟩
      · exact .inr h1
    rcases hk with rfl | rfl
    · exact ⟨key b (fi b hb).1, (fi b hb).2⟩
    · exact ⟨key b (fj b hb).1, (fj b hb).2⟩
  · rcases hk with rfl | rfl <;> rcases hl with rfl | rfl
    · exact hkl rfl
    · exact dis b h1 h2
    · exact dis b h2 h1
    · exact hkl rfl
  · show HoldsC AI ρ' w' k (getC (putCs s.H [i, j] [ci, cj]) k)
    rcases hk with rfl | rfl
    · simpa [putCs, getC_putC, hij] using hi
    · simpa [putCs, getC_putC] using hj

theorem rowAt_slice {t : TypeId} {M : Mem} {e : Ty} {L : List e.T} {r : Value} {F : List Nat} (h : RowAt t M w e L r F) : ∃ ao l c, r = .slice ao l c := by
  rcases h with ⟨⟨ao, rfl⟩, _⟩ | ⟨b, off, cap, rfl, _⟩
  · exact ⟨_, _, _, rfl⟩
  · exact ⟨_, _, _, rfl⟩

def blkF (b : Nat) (n : Nat) (blk : Nat → List Nat) : List Nat := b :: (List.range n).flatMap blk
theorem blkF_mem {b n : Nat} {blk : Nat → List Nat} (z : Nat) : z ∈ blkF b n blk ↔ z = b ∨ ∃ m, m < n ∧ z ∈ blk m := by
  simp [blkF, List.mem_flatMap]

/-! ### the rows that slots own -/
theorem RowsAt.take {tb : TypeId} {L : List (List Int)} {b : Nat} {F : List Nat} {hdr : Nat → Option Value} (hs : RowsAt tb ρ w L none b F hdr) {q : Nat} {x : List Int} (hq : L[q]? = some x) :
    ∃ v B F', hdr q = some v ∧ RowAt tb ρ.M w (.int .i64) x v B ∧ (∀ z ∈ B, z ∈ F ∧ z ∉ F') ∧ (∀ z ∈ F', z ∈ F) ∧
      ∀ (ρ' : Ev) (j : Nat), ρ'.M = ρ.M → Den1 ρ' (.hd j 0) v → RowsAt tb ρ' w L (some (q, j)) b F' hdr := by
  obtain ⟨blk, h4, h5, h6, h7⟩ := hs
  have hlt := (List.getElem?_eq_some_iff.1 hq).1
  obtain ⟨v, c1, hr⟩ := h7 q x hq
  let blk' : Nat → List Nat := fun m => if m = q then [] else blk m
  have hsub : ∀ m z, z ∈ blk' m → m ≠ q ∧ z ∈ blk m := by
    intro m z hz
    simp only [blk'] at hz
    split at hz
    · cases hz
    · rename_i hne; exact ⟨hne, hz⟩
  refine ⟨v, blk q, blkF b L.length blk', c1, hr, fun z hz => ⟨(h4 z).2 (.inr ⟨q, hlt, hz⟩), fun hz' => ?_⟩, fun z hz => ?_, fun ρ' j hM hd => ⟨blk', blkF_mem, fun m hm hb => h5 m hm (hsub m b hb).2, fun m m' z hm hm' hne hz hz' => h6 m m' z hm hm' hne (hsub m z hz).2 (hsub m' z hz').2, fun m y hy => ⟨fun e => ?_, fun e => ?_⟩⟩⟩
  · rcases (blkF_mem z).1 hz' with rfl | ⟨m, hm, hz2⟩
    · exact h5 q hlt hz
    · exact h6 m q z hm hlt (hsub m z hz2).1 (hsub m z hz2).2 hz
  · rcases (blkF_mem z).1 hz with rfl | ⟨m, hm, hz2⟩
    · exact (h4 _).2 (.inl rfl)
    · exact (h4 z).2 (.inr ⟨m, hm, (hsub m z hz2).2⟩)
  · subst e
    exact ⟨⟨v, c1, hd⟩, by simp [blk']⟩
  · obtain ⟨u, h1, h2⟩ := h7 m y hy
    simp only [blk']
    rw [if_neg e]
    exact ⟨u, h1, by rw [hM]; exact h2⟩

theorem RowsAt.put {tb : TypeId} {L : List (List Int)} {q j : Nat} {b : Nat} {F : List Nat} {hdr hdr' : Nat → Option Value} (hs : RowsAt tb ρ w L (some (q, j)) b F hdr) (hq : q < L.length) {D : List Int} {v : Value} {B : List Nat} {ρ' : Ev} {w' : World} (hM : ρ'.M = ρ.M)
    (hr : RowAt tb ρ.M w' (.int .i64) D v B) (hB : ∀ z ∈ B, z ∉ F) (hw : ∀ z ∈ F, z ≠ b → w'.heap[z]? = w.heap[z]?) (hh : hdr' q = some v) (hh2 : ∀ n, n ≠ q → n < L.length → hdr' n = hdr n) :
    ∃ F', (∀ z ∈ F', z ∈ F ∨ z ∈ B) ∧ RowsAt tb ρ' w' (L.set q D) none b F' hdr' := by
  obtain ⟨blk, h4, h5, h6, h7⟩ := hs
  let blk' : Nat → List Nat := fun m => if m = q then B else blk m
  have hsub : ∀ m z, z ∈ blk' m → (m = q ∧ z ∈ B) ∨ (m ≠ q ∧ z ∈ blk m) := by
    intro m z hz
    simp only [blk'] at hz
    split at hz
    · rename_i e; exact .inl ⟨e, hz⟩
    · rename_i e; exact .inr ⟨e, hz⟩
  have hbF : b ∈ F := (h4 b).2 (.inl rfl)
  refine ⟨blkF b L.length blk', fun z hz => ?_, blk', fun z => by rw [List.length_set]; exact blkF_mem z, fun m hm hb => ?_, fun m m' z hm hm' hne hz hz' => ?_, fun m y hy => ?_⟩
  · rcases (blkF_mem z).1 hz with rfl | ⟨m, hm, hz2⟩
    · exact .inl hbF
    · rcases hsub m z hz2 with ⟨_, h1⟩ | ⟨_, h1⟩
      · exact .inr h1
      · exact .inl ((h4 z).2 (.inr ⟨m, hm, h1⟩))
  · rw [List.length_set] at hm
    rcases hsub m b hb with ⟨_, h1⟩ | ⟨_, h1⟩
    · exact hB b h1 hbF
    · exact h5 m hm h1
  · rw [List.length_set] at hm hm'
    rcases hsub m z hz with ⟨e, hz⟩ | ⟨e, hz⟩ <;> rcases hsub m' z hz' with ⟨e', hz'⟩ | ⟨e', hz'⟩
    · exact hne (e.trans e'.symm)
    · exact hB z hz ((h4 z).2 (.inr ⟨m', hm', hz'⟩))
    · exact hB z hz' ((h4 z).2 (.inr ⟨m, hm, hz⟩))
    · exact h6 m m' z hm hm' hne hz hz'
  · rw [List.getElem?_set] at hy
    split at hy
    · rename_i e
      subst e
      try rw [if_pos hq] at hy
      cases hy
      refine ⟨v, hh, ?_⟩
      simp only [blk', if_pos]
      rw [hM]; exact hr
    · rename_i e
      have hm := (List.getElem?_eq_some_iff.1 hy).1
      obtain ⟨u, h1, h2⟩ := (h7 m y hy).2 (Ne.symm e)
      simp only [blk']
      rw [if_neg (Ne.symm e)]
      refine ⟨u, (hh2 m (Ne.symm e) hm).trans h1, ?_⟩
      rw [hM]
      exact h2.stays (fun _ _ _ h => h) fun z hz => hw z ((h4 z).2 (.inr ⟨m, hm, hz⟩)) fun e => h5 m hm (e ▸ hz)

theorem RowsAt.push {tb : TypeId} {L : List (List Int)} {b : Nat} {F : List Nat} {hdr hdr' : Nat → Option Value} (hs : RowsAt tb ρ w L none b F hdr) {D : List Int} {v : Value} {B : List Nat} {ρ' : Ev} {w' : World} (hM : ρ'.M = ρ.M)
    (hr : RowAt tb ρ.M w' (.int .i64) D v B) (hB : ∀ z ∈ B, z ∉ F) (hw : ∀ z ∈ F, z ≠ b → w'.heap[z]? = w.heap[z]?) (hh : hdr' L.length = some v) (hh2 : ∀ n, n < L.length → hdr' n = hdr n) :
    ∃ F', (∀ z ∈ F', z ∈ F ∨ z ∈ B) ∧ RowsAt tb ρ' w' (L ++ [D]) none b F' hdr' := by
  obtain ⟨blk, h4, h5, h6, h7⟩ := hs
  let blk' : Nat → List Nat := fun m => if m = L.length then B else blk m
  have hsub : ∀ m z, m < (L ++ [D]).length → z ∈ blk' m → (m = L.length ∧ z ∈ B) ∨ (m < L.length ∧ z ∈ blk m) := by
    intro m z hm hz
    simp at hm
    simp only [blk'] at hz
    split at hz
    · rename_i e; exact .inl ⟨e, hz⟩
    · rename_i e; exact .inr ⟨by omega, hz⟩
  have hbF : b ∈ F := (h4 b).2 (.inl rfl)
  refine ⟨blkF b (L ++ [D]).length blk', fun z hz => ?_, blk', blkF_mem, fun m hm hb => ?_, fun m m' z hm hm' hne hz hz' => ?_, fun m y hy => ?_⟩
  · rcases (blkF_mem z).1 hz with rfl | ⟨m, hm, hz2⟩
    · exact .inl hbF
    · rcases hsub m z hm hz2 with ⟨_, h1⟩ | ⟨h0, h1⟩
      · exact .inr h1
      · exact .inl ((h4 z).2 (.inr ⟨m, h0, h1⟩))
  · rcases hsub m b hm hb with ⟨_, h1⟩ | ⟨h0, h1⟩
    · exact hB b h1 hbF
    · exact h5 m h0 h1
  · rcases hsub m z hm hz with ⟨e, hz⟩ | ⟨e, hz⟩ <;> rcases hsub m' z hm' hz' with ⟨e', hz'⟩ | ⟨e', hz'⟩
    · exact hne (e.trans e'.symm)
    · exact hB z hz ((h4 z).2 (.inr ⟨m', e', hz'⟩))
    · exact hB z hz' ((h4 z).2 (.inr ⟨m, e, hz⟩))
    · exact h6 m m' z e e' hne hz hz'
  · by_cases hm : m < L.length
    · rw [List.getElem?_append_left hm] at hy
      obtain ⟨u, h1, h2⟩ := h7 m y hy
      simp only [blk']
      rw [if_neg (by omega)]
      refine ⟨u, (hh2 m hm).trans h1, ?_⟩
      rw [hM]
      exact h2.stays (fun _ _ _ h => h) fun z hz => hw z ((h4 z).2 (.inr ⟨m, hm, hz⟩)) fun e => h5 m hm (e ▸ hz)
    · have hl := (List.getElem?_eq_some_iff.1 hy).1
      simp at hl
      obtain rfl : m = L.length := by omega
      rw [List.getElem?_append_right (Nat.le_refl _)] at hy
      simp at hy
      subst hy
      refine ⟨v, hh, ?_⟩
      simp only [blk', if_pos]
      rw [hM]; exact hr

/-! ### chunks -/
/-- A row is taken out of chunk i. -/
theorem take_holds {tmps : Array Value} (h : Holds AI G s ρ tmps w) {i fresh : Nat} (hif : i ≠ fresh) (hf : getC s.H fresh = .emp) {ci : Chunk A} {v : Value} {B F' : List Nat} {tb : TypeId} {x : List Int} (hr : RowAt tb ρ.M w (.int .i64) x v B)
    (hB : ∀ z ∈ B, z ∈ ρ.foot i ∧ z ∉ F') (hF : ∀ z ∈ F', z ∈ ρ.foot i)
    (hci : ∀ ρ' : Ev, ρ'.M = ρ.M → ρ'.root i = ρ.root i → ρ'.ver i = ρ.ver i → ρ'.foot i = F' → Den1 ρ' (.hd fresh 0) v → HoldsC AI ρ' w i ci) :
    ∃ ρ', Holds AI G ⟨s.tm, putCs s.H [i, fresh] [ci, .row tb (.int .i64) 0 (fun _ => x)]⟩ ρ' tmps w ∧ Den1 ρ' (.hd fresh 0) v ∧ ρ.Le ρ' := by
  have hcf := h.ch fresh
  rw [hf] at hcf
  obtain ⟨f1, f2, f3⟩ := hcf
  let ρ' : Ev := { root := fun q => if q = fresh then v else ρ.root q, ver := ρ.ver, M := ρ.M, foot := fun q => if q = fresh then B else if q = i then F' else ρ.foot q }
  have le : ρ.Le ρ' := by
    refine ⟨fun _ _ _ h => h, fun q z hq => ?_, fun _ => Nat.le_refl _, fun q _ hq => ?_⟩
    · simp only [ρ']; split
      · rename_i e; rw [e, f2] at hq; cases hq
      · exact hq
    · simp only [ρ']; split
      · rename_i e; rw [e, f2] at hq; obtain ⟨_, _, _, hq⟩ := hq; cases hq
      · rfl
  have ri : ρ'.root i = ρ.root i := by simp [ρ', hif]
  have fi : ρ'.foot i = F' := by simp [ρ', hif]
  have rf : ρ'.root fresh = v := by simp [ρ']
  have ff : ρ'.foot fresh = B := by simp [ρ']
  have hd0 : Den1 ρ' (.hd fresh 0) v := ⟨rowAt_slice hr, Nat.zero_le _, fun _ => rf.symm⟩
  refine ⟨ρ', h.two hif le rfl (fun q h1 h2 => ⟨by simp [ρ', h2], rfl, by simp [ρ', h1, h2]⟩) (fun z hz => ?_) (fun z hz => ?_) (fun z hz hz' => ?_) (fun _ _ _ _ => rfl) rfl rfl rfl (Nat.le_refl _) (hci ρ' rfl ri rfl fi hd0) ⟨f3.symm, by rw [rf, ff]; exact hr⟩, hd0, le⟩
  · rw [fi] at hz; exact ⟨.inl (hF z hz), h.lt i z (hF z hz)⟩
  · rw [ff] at hz; exact ⟨.inl (hB z hz).1, h.lt i z (hB z hz).1⟩
  · rw [fi] at hz; rw [ff] at hz'; exact (hB z hz').2 hz
/-- .. and put (back) into it: chunk j is gone. -/
theorem put_holds {tmps : Array Value} (h : Holds AI G s ρ tmps w) {i j : Nat} (hij : i ≠ j) {ci : Chunk A} {w' : World} {F' : List Nat} (hF : ∀ z ∈ F', z ∈ ρ.foot i ∨ z ∈ ρ.foot j)
    (blocks : ∀ b, b < w.heap.size → b ∉ ρ.foot i → b ∉ ρ.foot j → w'.heap[b]? = w.heap[b]?) (os : w'.os = w.os) (tape : w'.tape = w.tape) (output : w'.output = w.output) (size : w.heap.size ≤ w'.heap.size)
    (hci : ∀ ρ' : Ev, ρ'.M = ρ.M → ρ'.root i = ρ.root i → ρ'.ver i = ρ.ver i → ρ'.foot i = F' → HoldsC AI ρ' w' i ci) :
    ∃ ρ', Holds AI G ⟨s.tm, putCs s.H [i, j] [ci, .gone]⟩ ρ' tmps w' ∧ ρ.Le ρ' := by
  let ρ' : Ev := { root := ρ.root, ver := ρ.ver, M := ρ.M, foot := fun q => if q = j then [] else if q = i then F' else ρ.foot q }
  have le : ρ.Le ρ' := ⟨fun _ _ _ h => h, fun _ _ h => h, fun _ => Nat.le_refl _, fun _ _ _ => rfl⟩
  have fi : ρ'.foot i = F' := by simp [ρ', hij]
  have fj : ρ'.foot j = [] := by simp [ρ']
  refine ⟨ρ', h.two hij le rfl (fun q h1 h2 => ⟨rfl, rfl, by simp [ρ', h1, h2]⟩) (fun z hz => ?_) (fun z hz => by rw [fj] at hz; cases hz) (fun z _ hz => by rw [fj] at hz; cases hz) blocks os tape output size (hci ρ' rfl rfl rfl fi) trivial, le⟩
  rw [fi] at hz
  rcases hF z hz with h1 | h1
  · exact ⟨.inl h1, Nat.lt_of_lt_of_le (h.lt i z h1) size⟩
  · exact ⟨.inr (.inl h1), Nat.lt_of_lt_of_le (h.lt j z h1) size⟩

/-! ### slices -/
theorem slot_at {z off : Nat} {L : U (List (List Int))} {k : U Int} (hin : inN z L k ()) (ho : off < z) {n : Nat} (hn : (L ()).length = n * z) : ∃ m, k () = (m : Nat) ∧ m < n ∧ (slotI z off k ()).toNat = m * z + off ∧ 0 ≤ slotI z off k () ∧ slotI z off k () < (L ()).length := by
  unfold inN at hin
  unfold slotI
  cases hz : beqN z 1 with
  | true =>
    rw [hz] at hin
    have hz := beq_eq hz
    subst hz
    obtain ⟨h1, h2⟩ := hin
    obtain rfl : off = 0 := by omega
    exact ⟨(k ()).toNat, by omega, by omega, by simp, h1, h2⟩
  | false =>
    rw [hz] at hin
    obtain ⟨h1, h2⟩ := hin
    obtain ⟨m, hm⟩ : ∃ m : Nat, k () = m := ⟨(k ()).toNat, by omega⟩
    have h2 : k () * (z : Int) + (z : Int) ≤ ((L ()).length : Nat) := h2
    rw [hm, hn] at h2
    have h3 : (m + 1) * z ≤ n * z := by rw [Nat.add_mul, Nat.one_mul]; exact_mod_cast h2
    have h4 : m + 1 ≤ n := Nat.le_of_mul_le_mul_right h3 (by omega)
    have e : k () * Int.ofNat z + Int.ofNat off = ((m * z + off : Nat) : Int) := by rw [hm]; simp
    have h5 : m * z + off < n * z := by
      have : (m + 1) * z = m * z + z := by rw [Nat.add_mul, Nat.one_mul]
      omega
    refine ⟨m, hm, h4, ?_, ?_, ?_⟩
    · show (k () * Int.ofNat z + Int.ofNat off).toNat = _
      rw [e]; rfl
    · show 0 ≤ k () * Int.ofNat z + Int.ofNat off
      rw [e]; exact Int.natCast_nonneg _
    · show k () * Int.ofNat z + Int.ofNat off < _
      rw [e, hn]; exact_mod_cast h5

theorem nestTake_sound {t : TypeId} {ti : TI} (hT : TIfact P t ti) (hagg : ti.isAgg = false) (h : Holds AI G s ρ a.tmps w) {i ver z off fresh : Nat} {k : U Int} {u : Value} (hx : Den ρ (one (.ep i ver z k off)) u)
    {rt tb : TypeId} {L : U (List (List Int))} (hi : getC s.H i = .nest rt tb z ver L none) (hf : getC s.H fresh = .emp) (hk : inN z L k ()) (ho : off < z) :
    Done AI G P s a w ρ (Instr.loadAt t u) (putCs s.H [i, fresh] [.nest rt tb z ver L (some (slotI z off k, fresh)), .row tb (.int .i64) 0 (fun _ => rowGet L (slotI z off k))]) (one (.hd fresh 0)) := by
  have hif : i ≠ fresh := fun e => by rw [e, hf] at hi; cases hi
  have hc := h.ch i
  rw [hi] at hc
  obtain ⟨hv, b, o, n, cap, h1, h2, h3, h4, h5, h6, h7⟩ := hc
  obtain ⟨p, rfl, _, hx⟩ := hx
  obtain ⟨_, b1, o1, len1, cap1, e1, hp⟩ := hx hv
  rw [h1] at e1
  obtain ⟨rfl, rfl⟩ : b = b1 ∧ o = o1 := by cases e1; exact ⟨rfl, rfl⟩
  subst hp
  obtain ⟨m, q1, q2, q3, q4, q5⟩ := slot_at hk ho h2
  have hlt : (slotI z off k ()).toNat < (L ()).length := by omega
  have hg : (L ())[(slotI z off k ()).toNat]? = some (rowGet L (slotI z off k)) := by
    rw [rowGet, List.getD_eq_getElem?_getD, List.getElem?_eq_getElem hlt]; rfl
  obtain ⟨v, B, F', c1, hr, hB, hF, hR⟩ := h5.take hg
  obtain ⟨ρ', h8, h9, h10⟩ := take_holds h hif hf hr hB hF (ci := .nest rt tb z ver L (some (slotI z off k, fresh))) fun ρ' hM hroot hver hfoot hd => ⟨hv.trans hver.symm, b, o, n, cap, hroot.trans h1, h2, h3, h4, by rw [hfoot]; exact hR ρ' fresh hM hd, h6, fun _ _ e => by cases e; exact ⟨q4, q5⟩⟩
  refine ⟨v, ρ', w, run_loadAt_one hT hagg ?_, h8, h9, h10⟩
  have c1 : w.cell? ⟨b, o + (slotI z off k ()).toNat, none⟩ = some v := c1
  rw [q3] at c1
  rw [show (k ()).toNat = m by omega, Nat.add_assoc]; exact c1

/-- A row goes home. -/
theorem home_sound {tmps : Array Value} (h : Holds AI G s ρ tmps w) {i j z v : Nat} {t tb : TypeId} {L : U (List (List Int))} {k : U Int} {D : U (List Int)} (hij : i ≠ j) (hi : getC s.H i = .nest t tb z v L (some (k, j))) (hj : getC s.H j = .row tb (.int .i64) 0 D) :
    ∃ ρ', Holds AI G ⟨s.tm, putC (putC s.H j .gone) i (.nest t tb z v (fun _ => (L ()).set (k ()).toNat (D ())) none)⟩ ρ' tmps w ∧ ρ.Le ρ' := by
  have hc := h.ch i
  rw [hi] at hc
  have hcj := h.ch j
  rw [hj] at hcj
  obtain ⟨hv0, hr⟩ := hcj
  obtain ⟨hv, b, o, n, cap, h1, h2, h3, h4, h5, h6, h7⟩ := hc
  have hk := h7 k j rfl
  have hlt : (k ()).toNat < (L ()).length := by omega
  obtain ⟨⟨u, c1, _, _, hu⟩, _⟩ : (∃ u, w.cell? ⟨b, o + (k ()).toNat, none⟩ = some u ∧ Den1 ρ (.hd j 0) u) ∧ True := by
    obtain ⟨blk, _, _, _, h8⟩ := h5
    obtain ⟨⟨u, c1, c2⟩, _⟩ := (h8 _ _ (List.getElem?_eq_getElem hlt)).1 rfl
    exact ⟨⟨u, c1, c2⟩, trivial⟩
  have hu := hu hv0
  subst hu
  obtain ⟨F', f1, f2⟩ := h5.put (ρ' := ρ) (w' := w) (hdr' := fun m => w.cell? ⟨b, o + m, none⟩) hlt rfl hr (fun y hy hy' => h.dis i j y hij hy' hy) (fun _ _ _ => rfl) c1 (fun _ _ _ => rfl)
  obtain ⟨ρ', h8, h9⟩ := put_holds h hij (ci := .nest t tb z v (fun _ => (L ()).set (k ()).toNat (D ())) none) f1 (fun _ _ _ _ => rfl) rfl rfl rfl (Nat.le_refl _) fun ρ' hM hroot hver hfoot =>
    ⟨hv.trans hver.symm, b, o, n, cap, hroot.trans h1, by rw [List.length_set]; exact h2, h3, h4, by rw [hfoot]; exact f2.congr (fun _ _ _ h => by rw [hM]; exact h) (fun _ _ e => by cases e) (fun _ _ => rfl) fun _ _ _ => rfl, h6, fun _ _ e => by cases e⟩
  refine ⟨ρ', h8.congrH fun q => ?_, h9⟩
  simp only [putCs, getC_putC]
  by_cases e1 : q = i <;> by_cases e2 : q = j <;> simp [e1, e2, hij, Ne.symm hij] <;> (subst e1; exact absurd e2 hij)

theorem nestPut_sound {t : TypeId} {ti : TI} (hT : TIfact P t ti) (hsz : ti.size = 1) (h : Holds AI G s ρ a.tmps w) {i j ver ver2 z off : Nat} {k q : U Int} {u v : Value} (hij : i ≠ j) (hx : Den ρ (one (.ep i ver z k off)) u) (hv : Den ρ (one (.hd j ver2)) v)
    {rt tb : TypeId} {L : U (List (List Int))} {D : U (List Int)} (hi : getC s.H i = .nest rt tb z ver L (some (q, j))) (hj : getC s.H j = .row tb (.int .i64) ver2 D) (hk : inN z L k ()) (hq : slotI z off k () = q ()) (ho : off < z) :
    ∃ ρ' w', (Instr.storeAt t u v).run P w = .ok () w' ∧ Holds AI G ⟨s.tm, putCs s.H [i, j] [.nest rt tb z ver (fun _ => (L ()).set (q ()).toNat (D ())) none, .gone]⟩ ρ' a.tmps w' := by
  have hc := h.ch i
  rw [hi] at hc
  have hcj := h.ch j
  rw [hj] at hcj
  obtain ⟨hvj, hr⟩ := hcj
  obtain ⟨hver, b, o, n, cap, h1, h2, h3, h4, h5, h6, h7⟩ := hc
  obtain ⟨p, rfl, _, hx⟩ := hx
  obtain ⟨_, b1, o1, len1, cap1, e1, hp⟩ := hx hver
  rw [h1] at e1
  obtain ⟨rfl, rfl⟩ : b = b1 ∧ o = o1 := by cases e1; exact ⟨rfl, rfl⟩
  subst hp
  obtain ⟨⟨ao, ln, cp, hvs⟩, _, hv⟩ := hv
  have hv := hv hvj
  obtain ⟨m, q1, q2, q3, q4, q5⟩ := slot_at hk ho h2
  have hlt : (slotI z off k ()).toNat < (L ()).length := by omega
  have hone : v.oneCell' = true := by rw [hvs]; rfl
  have hvc : v.cells.toList = [v] := by rw [hvs]; rfl
  have hplace : o + (k ()).toNat * z + off = o + (slotI z off k ()).toNat := by rw [q3, show (k ()).toNat = m by omega, Nat.add_assoc]
  rw [hplace]
  generalize hsl : (slotI z off k ()).toNat = sl at *
  have hcapz : sl < cap * z := by
    have : n * z ≤ cap * z := Nat.mul_le_mul_right z h3
    omega
  have hw8 := h6 sl hcapz
  have hsome : ∀ y, y < [v].length → (w.cell? ⟨b, o + sl + y, none⟩).isSome = true := by
    intro y hy; simp at hy; subst hy; exact hw8.1
  have hfree : ∀ y, y < [v].length → w.frozen? ⟨b, o + sl + y, none⟩ = false := by
    intro y hy; simp at hy; subst hy; exact hw8.2
  have hrun := run_storeCells_cells (P := P) b (o + sl) [v] 0 w (by simpa using hsome) (by simpa using hfree) (by simpa using hone)
  simp only [Nat.add_zero] at hrun
  have hrun2 : (Instr.storeAt t (.pointer (some ⟨b, o + sl, none⟩)) v).run P w = .ok () (w.setCells b (o + sl) [v]) := by
    have hcs : v.cells.size = 1 := by rw [← Array.length_toList, hvc]; rfl
    simp [Instr.storeAt, Instr.sureAddr, storeVar, hT.sizeOf, hcs, hsz, hvc]
    exact hrun
  have hbi : b ∈ ρ.foot i := h5.own
  have hcell : ∀ y, (w.setCells b (o + sl) [v]).cell? ⟨b, y, none⟩ = if y = o + sl then some v else w.cell? ⟨b, y, none⟩ := by
    intro y
    rw [setCells_cell hsome]
    by_cases e : y = o + sl
    · rw [if_pos (by simp; omega), if_pos e, e]; simp
    · rw [if_neg (by simp; omega), if_neg e]
  have hoth : ∀ y, y ≠ b → (w.setCells b (o + sl) [v]).heap[y]? = w.heap[y]? := fun y hy => setCells_other b _ _ _ _ hy
  have hq2 : (q ()).toNat = sl := by rw [← hq]; exact hsl
  have h5 : RowsAt tb ρ w (L ()) (some (sl, j)) b (ρ.foot i) (fun m => w.cell? ⟨b, o + m, none⟩) := by have := h5; simp only [holeN, hq2] at this; exact this
  have hr' : RowAt tb ρ.M (w.setCells b (o + sl) [v]) (.int .i64) (D ()) v (ρ.foot j) := by
    have hr0 : RowAt tb ρ.M w (.int .i64) (D ()) v (ρ.foot j) := by rw [hv]; exact hr
    exact hr0.stays (fun _ _ _ h => h) fun y hy => hoth y fun e => h.dis i j b hij hbi (e ▸ hy)
  obtain ⟨F', f1, f2⟩ := h5.put (ρ' := ρ) (w' := w.setCells b (o + sl) [v]) (hdr' := fun m => (w.setCells b (o + sl) [v]).cell? ⟨b, o + m, none⟩) hlt rfl hr' (fun y hy hy' => h.dis i j y hij hy' hy) (fun y _ hy => hoth y hy) (by rw [hcell, if_pos rfl]) (fun y hy _ => by rw [hcell, if_neg (by omega)])
  obtain ⟨ρ', h8, h9⟩ := put_holds h hij (ci := .nest rt tb z ver (fun _ => (L ()).set (q ()).toNat (D ())) none) f1 (fun y _ hy _ => hoth y fun e => hy (e ▸ hbi)) (setCells_rest _ _ _ _).1 (setCells_rest _ _ _ _).2.1 (setCells_rest _ _ _ _).2.2 (by rw [setCells_size]; exact Nat.le_refl _) fun ρ' hM hroot hver' hfoot =>
    ⟨hver.trans hver'.symm, b, o, n, cap, hroot.trans h1, by rw [List.length_set]; exact h2, h3, h4, by rw [hfoot, hq2]; exact f2.congr (fun _ _ _ h => by rw [hM]; exact h) (fun _ _ e => by cases e) (fun _ _ => rfl) fun _ _ _ => rfl, fun y hy => ⟨by
      rw [hcell]; split
      · rfl
      · exact (h6 y hy).1, by rw [World.frozen?_setCells]; exact (h6 y hy).2⟩, fun _ _ e => by cases e⟩
  exact ⟨ρ', _, hrun2, h8⟩

theorem nestIdx_sound {t : TypeId} {ti : TI} (hT : TIfact P t ti) (h : Holds AI G s ρ a.tmps w) {et : TypeId} {ty : Option Ty} (hkd : ti.kind = .slice et ty) {z : Nat} (hz : (Go.sizeOf et).run P w = .ok z w) {i ver : Nat} {kk : IntKind} {k : U Int} {u j : Value} (hx : Den ρ (one (.hd i ver)) u) (hj : j = .int kk (k ()))
    {rt tb : TypeId} {L : U (List (List Int))} {q : Option (U Int × Nat)} (hi : getC s.H i = .nest rt tb z ver L q) (hk : inN z L k ()) (hz0 : 0 < z) : ∃ y, (Instr.indexAt t u j).run P w = .ok y w ∧ Den ρ (one (.ep i ver z k 0)) y := by
  have hkind := hT.kind
  rw [hkd] at hkind
  obtain ⟨hu, _⟩ := hkind
  have hc := h.ch i
  rw [hi] at hc
  obtain ⟨hver, b, o, n, cap, h1, h2, h3, h4, h5, h6, h7⟩ := hc
  obtain ⟨_, _, hx⟩ := hx
  have hx := hx hver
  subst hx; subst hj
  obtain ⟨m, q1, q2, q3, q4, q5⟩ := slot_at (off := 0) hk hz0 h2
  refine ⟨.pointer (some ⟨b, o + (k ()).toNat * z + 0, none⟩), ?_, _, rfl, Nat.le_of_eq hver, fun _ => ⟨by omega, b, o, _, _, h1, rfl⟩⟩
  rw [h1]
  rw [q1]
  have h9 : (0 : Int) ≤ (m : Int) ∧ (m : Int) < (n : Int) := by omega
  simp [Instr.indexAt, asIntOf, run_underlying hu, Instr.sureAddr, h9, hz, q2, add_lit]
theorem nil_of {v : Value} (h : nilZ (ofLit1 v) = true) : v = .slice none 0 0 := by
  unfold ofLit1 at h
  split at h <;> first | rfl | (cases h; done)
theorem nils_of {l : List SV1} {vs : List Value} (e : l = vs.map ofLit1) (h : l.all nilZ = true) : ∀ v ∈ vs, v = .slice none 0 0 := by
  subst e
  intro v hv
  exact nil_of (List.all_eq_true.1 h _ (List.mem_map_of_mem hv))

theorem nestMk_sound {t et tb : TypeId} {i ie : TI} (hT : TIfact P t i) (hte : tkElem i.kind = some et) (hTe : TIfact P et ie) (h : Holds AI G s ρ a.tmps w) {x y : SV} {u v : Value} (hx : Den ρ x u) (hy : Den ρ y v) {fresh : Nat} {p : Plan A} (hp : nestMk tb i ie x y fresh = some p)
    {d : List Bool} {C : U Prop} {r : SV} {cs : List (Chunk A)} (he : p.eff (getCs s.H p.ids) d = .done C r cs) (hC : C ()) :
    Done AI G P s a w ρ (Instr.makeSlice t u v) (putCs s.H p.ids cs) r := by
  have hk := hT.kind
  unfold nestMk at hp
  split at hp <;> (try (cases hp; done))
  rename_i et' e ho
  rw [ho] at hk hte
  cases hte
  obtain ⟨hu, g, hg1, hg2⟩ := hk
  obtain ⟨hsz, hpos, hby, _, z1, hz1, hz2, _⟩ := hg2 e rfl
  obtain ⟨f, hf1, hf2, z, hz, hzz⟩ := hTe.info
  rw [hg1] at hf1
  cases hf1
  split at hp <;> (try (cases hp; done))
  rename_i hb
  simp only [Bool.and_eq_true] at hb
  obtain ⟨⟨hb1, hb2⟩, hb3⟩ := hb
  have hb2 := beq_eq hb2
  have hgs : g.size = slotsOf e := hf2.trans hb2
  split at hp <;> (try (cases hp; done))
  rename_i kl l hl
  split at hp <;> cases hp
  rename_i kc c hc'
  simp only [getCs] at he
  have hc := h.ch fresh
  generalize hg : getC s.H fresh = ch at he hc
  cases ch <;> (try (simp at he; done))
  simp at he
  obtain ⟨rfl, rfl, rfl⟩ := he
  obtain ⟨hc1, hc2, hc3⟩ := hc
  obtain ⟨c0, c1, c2⟩ := hC
  have c2 : c () ≤ 1099511627776 := c2
  have e1 := ivalS_den hl hx
  have e2 := ivalS_den hc' hy
  subst e1; subst e2
  have hbb : (g.bytes : Int) * c () ≤ 281474976710656 := by
    have : (g.bytes : Int) * c () ≤ 128 * c () := Int.mul_le_mul_of_nonneg_right (by omega) (by omega)
    omega
  have hrun := run_make (P := P) w t et g z hu hg1 hz kl kc (l ()) (c ()) c0 c1 hbb (by omega)
  have hzl : z.cells.size = g.size := by
    rw [hz] at hz1
    cases hz1
    omega
  have hnil := nils_of hzz hb3
  have hcell : ∀ k, k < (c ()).toNat * g.size → (w.alloc (.cells (madeCells z.cells ((c ()).toNat * g.size)) et)).cell? ⟨w.heap.size, 0 + k, none⟩ = some (.slice none 0 0) := by
    intro k hk
    rw [Nat.zero_add, World.cell?_alloc_new, madeCells_get, if_pos hk]
    have hlt : k % z.cells.size < z.cells.size := Nat.mod_lt _ (by omega)
    rw [getElem!_pos z.cells _ hlt]
    congr 1
    exact hnil _ (Array.mem_toList_iff.2 (Array.getElem_mem hlt))
  let F : List (List Int) := List.replicate ((l ()).toNat * slotsOf e) []
  obtain ⟨h9, h10⟩ := h.upd1 fresh (.slice (some ⟨w.heap.size, 0, none⟩) (l ()).toNat (c ()).toNat) 0 [w.heap.size] (.nest et tb (slotsOf e) 0 (fun _ => F) none) (w.alloc (.cells (madeCells z.cells ((c ()).toNat * g.size)) et))
    (by rw [hc2]; simp) (by omega) (by rw [hc2]; simp) (fun b' hb' => by obtain rfl : b' = w.heap.size := (by simpa using hb'); exact ⟨.inr (Nat.le_refl _), by rw [World.size_alloc]; exact Nat.lt_succ_self _⟩) (fun b hb _ => alloc_lt w _ hb) rfl rfl rfl (by simp)
    (by
      refine ⟨by simp [Ev.upd], w.heap.size, 0, (l ()).toNat, (c ()).toNat, by simp [Ev.upd], by simp [F], by omega, by unfold maxLen; omega, ⟨fun _ => [], fun z => (by simp [Ev.upd]), fun _ _ h => (by cases h), fun _ _ _ _ _ _ h => (by cases h), fun n x hn => ?_⟩, fun j hj => ?_, fun _ _ e => (by cases e)⟩
      · obtain ⟨hn1, rfl⟩ : n < (l ()).toNat * slotsOf e ∧ x = [] := by
          have := List.getElem?_eq_some_iff.1 hn
          obtain ⟨h3, h4⟩ := this
          simp [F] at h3 h4
          exact ⟨h3, h4⟩
        refine ⟨_, hcell n ?_, .inl ⟨⟨none, rfl⟩, rfl, rfl⟩⟩
        rw [hgs]
        exact Nat.lt_of_lt_of_le hn1 (Nat.mul_le_mul_right _ (by omega))
      · refine ⟨?_, World.frozen?_alloc_new w _ _ _⟩
        rw [hcell j (by rw [hgs]; exact hj)]; rfl)
  exact ⟨_, _, _, hrun, h9, ⟨⟨_, _, _, rfl⟩, by simp [Ev.upd], fun _ => by simp [Ev.upd]⟩, h10⟩

theorem mmk_sound {t tb : TypeId} (h : Holds AI G s ρ a.tmps w) {fresh : Nat} (hg : getC s.H fresh = .emp) :
    Done AI G P s a w ρ (Instr.makeMap t none) (putCs s.H [fresh] [.mnest tb (fun _ => []) none]) (one (.mp fresh)) := by
  have hc := h.ch fresh
  rw [hg] at hc
  obtain ⟨hc1, hc2, hc3⟩ := hc
  obtain ⟨h4, h5⟩ := h.upd1 fresh (.pointer (some ⟨w.heap.size, 0, none⟩)) 0 [w.heap.size] (.mnest tb (fun _ => []) none) (w.alloc (.map #[] 0))
    (by rw [hc2]; simp) (by omega) (by rw [hc2]; simp) (fun b' hb' => by obtain rfl : b' = w.heap.size := (by simpa using hb'); exact ⟨.inr (Nat.le_refl _), by rw [World.size_alloc]; exact Nat.lt_succ_self _⟩) (fun b hb _ => alloc_lt w _ hb) rfl rfl rfl (by simp)
    ⟨w.heap.size, #[], 0, by simp [Ev.upd], alloc_get w _, .nil, by simp, by simp, fun _ => [], fun z => (by simp [Ev.upd]), fun _ _ h => (by cases h), fun _ _ _ _ _ _ h => (by cases h), fun n x hn => (by simp at hn)⟩
  exact ⟨.map (some w.heap.size), _, _, by simp [Instr.makeMap, Result.andThen], h4, ⟨_, by simp [Ev.upd], rfl⟩, h5⟩

/-- What is found at a key. -/
theorem mfind {kt : TypeId} (hk : P.underlying kt = some (.int .i64)) {L : List (Int × List Int)} {es : List MapEntry} (h : All2 (fun p (m : MapEntry) => m.key = .int .i64 p.1) L es) (k : Int) :
    (∀ em w, (Instr.checkKey em 10000 kt (.int .i64 k)).run P w = .ok () w) ∧ (∀ w, (Instr.keyThatStays (.int .i64 k) (.int .i64 k)).run P w = .ok (.int .i64 k) w) ∧
      (((∀ w, (Instr.findKey kt (.int .i64 k) es).run P w = .ok none w) ∧ getA (K := Int) L k = none ∧ (∀ y, putA (K := Int) L k y = L ++ [(k, y)])) ∨
      ∃ j v m, es[j]? = some m ∧ L[j]? = some (k, v) ∧ m.key = .int .i64 k ∧ (∀ w, (Instr.findKey kt (.int .i64 k) es).run P w = .ok (some (j, m.val)) w) ∧ getA (K := Int) L k = some v ∧ (∀ y, putA (K := Int) L k y = L.set j (k, y))) := by
  have hi : IsKey (.int .i64) (.int .i64 k) := by simp [IsKey]
  refine ⟨fun em w => run_checkKey hk hi em 9999, fun w => run_keyThatStays hi, ?_⟩
  rcases find_at (K := Int) (mk := fun n => .int .i64 n) (ok := fun _ => True) (R := fun (_ : List Int) _ => True) (d := .int .i64) (fun x y _ _ => by simp [Instr.sameNow]; rfl) (k := k) trivial 0 (h.mono fun _ _ e => ⟨e, trivial, trivial⟩) with ⟨h1, h2, h3, _⟩ | ⟨j, v, m, h1, h2, _, h4, h5, h6, h7, _⟩
  · exact .inl ⟨fun w => run_findKey hk h1, h2, h3⟩
  · exact .inr ⟨j, v, m, h1, h2, h4, fun w => by rw [Nat.zero_add] at h5; exact run_findKey hk h5, h6, h7⟩

theorem mtake_sound {t et tb : TypeId} {i ie : TI} (hT : TIfact P t i) (hte : tkMapI i.kind = some et) (hTe : TIfact P et ie) (hz1 : ie.zero.all nilZ = true) (hz2 : ie.size = 1) (h : Holds AI G s ρ a.tmps w) {m fresh : Nat} {u v : Value} {k : U Int} (hx : Den ρ (one (.mp m)) u) (hv : v = .int .i64 (k ()))
    {L : U (List (Int × List Int))} (hi : getC s.H m = .mnest tb L none) (hf : getC s.H fresh = .emp) :
    Done AI G P s a w ρ (Instr.lookup t u v false) (putCs s.H [m, fresh] [.mnest tb L (some (k, fresh)), .row tb (.int .i64) 0 (fun _ => mrowGet L k)]) (one (.hd fresh 0)) := by
  have hif : m ≠ fresh := fun e => by rw [e, hf] at hi; cases hi
  have hk := hT.kind
  unfold tkMapI at hte
  split at hte <;> cases hte
  rename_i kt hik
  rw [hik] at hk
  obtain ⟨hu, hk2⟩ := hk
  obtain ⟨hkey, g, z, hg1, hz, hzv⟩ := hk2 _ _ rfl
  have hkey : P.underlying kt = some (.int .i64) := hkey
  obtain ⟨f, hf1, hf2, z', hz', hzz⟩ := hTe.info
  rw [hg1] at hf1
  cases hf1
  rw [hz] at hz'
  cases hz'
  have hzn : z = .slice none 0 0 := by
    obtain ⟨vs, _, ⟨v, hv0, ao, cap, e, _⟩, hag⟩ := hzv (fun _ _ => none)
    have hag : vs = [z] := hag
    subst hag
    have hv0 : z = v := by simpa using hv0
    subst hv0
    refine nils_of hzz hz1 z ?_
    rw [e]; simp [Value.cells]
  have hc := h.ch m
  rw [hi] at hc
  obtain ⟨b, es, clock, h1, h2, h3, h4, h5, h6⟩ := hc
  obtain ⟨b', h7, rfl⟩ := hx
  rw [h1] at h7
  cases h7
  subst hv
  obtain ⟨hck, _, hfd⟩ := mfind hkey h3 (k ())
  have ho : RowsAt tb ρ w ((L ()).map (·.2)) none b (ρ.foot m) (fun n => es[n]?.map (·.val)) := h6
  rcases hfd with ⟨hn, hgn, hput⟩ | ⟨j, x, e, he, hL, hmk, hn, hgn, hput⟩
  · obtain ⟨ρ', h8, h9, h10⟩ := take_holds h hif hf (tb := tb) (x := mrowGet L k) (v := .slice none 0 0) (B := []) (F' := ρ.foot m) (.inl ⟨⟨none, rfl⟩, by simp [mrowGet, hgn], rfl⟩) (fun _ h => by cases h) (fun _ h => h) (ci := .mnest tb L (some (k, fresh))) fun ρ' hM hroot hver hfoot hd =>
      ⟨b, es, clock, hroot.trans h1, h2, h3, h4, h5, .inr ⟨hgn, hput, by rw [hfoot]; exact ho.congr (fun _ _ _ h => by rw [hM]; exact h) (fun _ _ e => by cases e) (fun _ _ => rfl) fun _ _ _ => rfl⟩⟩
    refine ⟨.slice none 0 0, ρ', w, ?_, h8, h9, h10⟩
    simp [Instr.lookup, run_underlying hu, MapKept.run_getObj_map h2, hck, hn, Go.zeroValue, typeInfo, hg1, hz, hzn, Result.andThen]
  · obtain ⟨y, B, F', c1, hr, hB, hF, hR⟩ := ho.take (q := j) (x := x) (by rw [List.getElem?_map, hL]; rfl)
    have hj : es[j]? = some e := by simpa using he
    have c1 : y = e.val := by rw [hj] at c1; exact (Option.some.inj c1).symm
    have ex : mrowGet L k = x := by simp [mrowGet, hgn]
    obtain ⟨ρ', h8, h9, h10⟩ := take_holds h hif hf (tb := tb) (x := mrowGet L k) (by rw [ex]; exact hr) hB hF (ci := .mnest tb L (some (k, fresh))) fun ρ' hM hroot hver hfoot hd =>
      ⟨b, es, clock, hroot.trans h1, h2, h3, h4, h5, .inl ⟨j, x, hL, hgn, hput, by rw [hfoot]; exact hR ρ' fresh hM hd⟩⟩
    refine ⟨y, ρ', w, ?_, h8, h9, h10⟩
    rw [c1]
    simp [Instr.lookup, run_underlying hu, MapKept.run_getObj_map h2, hck, hn, Result.andThen]

theorem mput_sound {t : TypeId} {i : TI} (hT : TIfact P t i) {et : TypeId} (hte : tkMapI i.kind = some et) (h : Holds AI G s ρ a.tmps w) {m j ver2 : Nat} (hij : m ≠ j) {u v z : Value} {k q : U Int} (hx : Den ρ (one (.mp m)) u) (hv : v = .int .i64 (k ())) (hzv : Den ρ (one (.hd j ver2)) z)
    {tb : TypeId} {L : U (List (Int × List Int))} {D : U (List Int)} (hi : getC s.H m = .mnest tb L (some (q, j))) (hj : getC s.H j = .row tb (.int .i64) ver2 D) (hkq : k () = q ()) :
    ∃ ρ' w', (Instr.mapUpdate t u v z).run P w = .ok () w' ∧ Holds AI G ⟨s.tm, putCs s.H [m, j] [.mnest tb (fun _ => putA (K := Int) (L ()) (q ()) (D ())) none, .gone]⟩ ρ' a.tmps w' := by
  have hk := hT.kind
  unfold tkMapI at hte
  split at hte <;> cases hte
  rename_i kt hik
  rw [hik] at hk
  obtain ⟨hu, hk2⟩ := hk
  obtain ⟨hkey, -⟩ := hk2 _ _ rfl
  have hkey : P.underlying kt = some (.int .i64) := hkey
  have hc := h.ch m
  rw [hi] at hc
  have hcj := h.ch j
  rw [hj] at hcj
  obtain ⟨hvj, hr⟩ := hcj
  obtain ⟨b, es, clock, h1, h2, h3, h4, h5, h6⟩ := hc
  obtain ⟨b', h7, rfl⟩ := hx
  rw [h1] at h7
  cases h7
  subst hv
  obtain ⟨_, _, hz⟩ := hzv
  have hz := hz hvj
  rw [hkq]
  obtain ⟨hck, hst, hfd⟩ := mfind hkey h3 (q ())
  have hlt : b < w.heap.size := (Array.getElem?_eq_some_iff.1 h2).1
  have hown : b ∈ ρ.foot m := by rcases h6 with ⟨_, _, _, _, _, h7⟩ | ⟨_, _, h7⟩ <;> exact h7.own
  have hoth : ∀ (o : Obj) y, y ≠ b → ({ w with heap := w.heap.setIfInBounds b o } : World).heap[y]? = w.heap[y]? := fun o y hy => by simp [Ne.symm hy]
  have hrow : ∀ o : Obj, RowAt tb ρ.M ({ w with heap := w.heap.setIfInBounds b o } : World) (.int .i64) (D ()) z (ρ.foot j) := fun o => by
    have h0 : RowAt tb ρ.M w (.int .i64) (D ()) z (ρ.foot j) := by rw [hz]; exact hr
    exact h0.stays (fun _ _ _ h => h) fun y hy => hoth o y fun e => h.dis m j b hij hown (e ▸ hy)
  rcases hfd with ⟨hn, hgn, hput⟩ | ⟨jx, x, e, he, hL, hmk, hn, hgn, hput⟩
  · rcases h6 with ⟨q0, x0, a1, a2, a3, _⟩ | ⟨_, _, h7⟩
    · rw [hgn] at a2; cases a2
    · have hlen : es.size = (L ()).length := by have := h3.length; simpa using this.symm
      obtain ⟨F', f1, f2⟩ := h7.push (ρ' := ρ) (D := D ()) (hdr' := fun n => (es.push ⟨.int .i64 (q ()), z, clock⟩)[n]?.map (·.val)) rfl (hrow (.map (es.push ⟨.int .i64 (q ()), z, clock⟩) (clock + 1))) (fun y hy hy' => h.dis m j y hij hy' hy) (fun y _ hy => hoth _ y hy)
        (by simp only [List.length_map, ← hlen]; simp) (fun n hn => by simp only [List.length_map, ← hlen] at hn; rw [Array.getElem?_push_lt hn, Array.getElem?_eq_getElem hn])
      obtain ⟨ρ', h8, h9⟩ := put_holds h hij (ci := .mnest tb (fun _ => putA (K := Int) (L ()) (q ()) (D ())) none) f1 (w' := { w with heap := w.heap.setIfInBounds b (.map (es.push ⟨.int .i64 (q ()), z, clock⟩) (clock + 1)) }) (fun y _ hy _ => hoth _ y fun e => hy (e ▸ hown)) rfl rfl rfl (by simp) fun ρ' hM hroot hver hfoot =>
        ⟨b, es.push ⟨.int .i64 (q ()), z, clock⟩, clock + 1, hroot.trans h1, by simp [hlt], by rw [hput, Array.toList_push]; exact h3.append (.cons rfl .nil), by
          rw [Array.toList_push, List.map_append, List.pairwise_append]
          refine ⟨h4, by simp, fun a ha b hb => ?_⟩
          simp only [List.map_cons, List.map_nil, List.mem_singleton] at hb
          subst hb
          obtain ⟨m, hm, rfl⟩ := List.mem_map.1 ha
          exact h5 m hm, by
          intro m hm
          rw [Array.toList_push, List.mem_append] at hm
          rcases hm with hm | hm
          · have := h5 m hm; omega
          · simp at hm; subst hm; simp, by
          show RowsAt tb ρ' _ ((putA (K := Int) (L ()) (q ()) (D ())).map (·.2)) none b (ρ'.foot m) _
          rw [hfoot, hput, List.map_append]
          exact f2.congr (fun _ _ _ h => by rw [hM]; exact h) (fun _ _ e => by cases e) (fun _ _ => rfl) fun _ _ _ => rfl⟩
      refine ⟨ρ', _, ?_, h8⟩
      simp [Instr.mapUpdate, run_underlying hu, MapKept.run_getObj_map h2, hck, hn, run_setObj_map _ h2, Result.andThen]
  · have hmj : es[jx]? = some e := by simpa using he
    have hjlt := (Array.getElem?_eq_some_iff.1 hmj).1
    rcases h6 with ⟨q0, x0, a1, a2, a3, h7⟩ | ⟨a1, _, _⟩
    · have hq0 : q0 = jx := by
        refine Classical.byContradiction fun hne => ?_
        have hlq := (List.getElem?_eq_some_iff.1 a1).1
        have e1 := (a3 (0 :: x0)).symm.trans (hput (0 :: x0))
        have e2 := congrArg (fun l => l[q0]?) e1
        simp only [List.getElem?_set] at e2
        rw [if_neg (Ne.symm hne), a1] at e2
        simp [hlq] at e2
      subst hq0
      have hlen : q0 < ((L ()).map (·.2)).length := by rw [List.length_map]; exact (List.getElem?_eq_some_iff.1 a1).1
      have e1 : (es.modify q0 fun e => { e with key := .int .i64 (q ()), val := z }).toList = es.toList.set q0 ⟨.int .i64 (q ()), z, e.born⟩ := by
        apply List.ext_getElem?
        intro y
        rw [Array.getElem?_toList, Array.getElem?_modify, List.getElem?_set, Array.getElem?_toList]
        split
        · rename_i hy
          subst hy
          rw [hmj]
          simp [hjlt]
        · rfl
      obtain ⟨F', f1, f2⟩ := h7.put (ρ' := ρ) (D := D ()) (hdr' := fun n => (es.modify q0 fun e => { e with key := .int .i64 (q ()), val := z })[n]?.map (·.val)) hlen rfl (hrow (.map (es.modify q0 fun e => { e with key := .int .i64 (q ()), val := z }) clock)) (fun y hy hy' => h.dis m j y hij hy' hy) (fun y _ hy => hoth _ y hy)
        (by simp [Array.getElem?_modify, hmj]) (fun n hn _ => by simp [Array.getElem?_modify, Ne.symm hn])
      obtain ⟨ρ', h8, h9⟩ := put_holds h hij (ci := .mnest tb (fun _ => putA (K := Int) (L ()) (q ()) (D ())) none) f1 (w' := { w with heap := w.heap.setIfInBounds b (.map (es.modify q0 fun e => { e with key := .int .i64 (q ()), val := z }) clock) }) (fun y _ hy _ => hoth _ y fun e => hy (e ▸ hown)) rfl rfl rfl (by simp) fun ρ' hM hroot hver hfoot =>
        ⟨b, es.modify q0 fun e => { e with key := .int .i64 (q ()), val := z }, clock, hroot.trans h1, by simp [hlt], by rw [hput, e1]; exact h3.set rfl q0, by
          rw [e1, List.map_set]
          have : (es.toList.map (·.born)).set q0 e.born = es.toList.map (·.born) := by
            apply List.ext_getElem?
            intro y
            rw [List.getElem?_set]
            split
            · rename_i hy
              subst hy
              rw [List.getElem?_map, he, if_pos (by simpa using hjlt)]
              rfl
            · rfl
          rw [this]; exact h4, by
          intro y hy
          rw [e1] at hy
          rcases List.mem_or_eq_of_mem_set hy with hy | rfl
          · exact h5 y hy
          · exact h5 e (List.mem_of_getElem? he), by
          show RowsAt tb ρ' _ ((putA (K := Int) (L ()) (q ()) (D ())).map (·.2)) none b (ρ'.foot m) _
          rw [hfoot, hput, List.map_set]
          exact f2.congr (fun _ _ _ h => by rw [hM]; exact h) (fun _ _ e => by cases e) (fun _ _ => rfl) fun _ _ _ => rfl⟩
      refine ⟨ρ', _, ?_, h8⟩
      simp [Instr.mapUpdate, run_underlying hu, MapKept.run_getObj_map h2, hck, hn, hmj, hmk, hst, run_setObj_map _ h2, Result.andThen]
    · rw [hgn] at a1; cases a1
end Go.Sx

/-
  Symbolic execution: all operations, those on lists whose elements own their rows too.
-/
namespace Go.Sx
set_option linter.all false
open Go.RowKit

variable {A : Type} {AI : Abs A} {G : Fr} {s : SS A} {ρ : Ev} {a : Act} {w : World} {P : Program}

theorem indexP_hd {t : TI} {esz i ver : Nat} {ix : SV} {et : TypeId} {ty : Option Ty} (ht : t.kind = .slice et ty) {p : Plan A} (h : indexP t esz (.val (.one (.hd i ver))) ix = some p) : p.ids = [i] ∧ p.w = false := by
  unfold indexP at h
  rw [ht] at h
  dsimp only at h
  split at h <;> cases h
  exact ⟨rfl, rfl⟩
theorem cut_sound {t : TypeId} {i : TI} (hT : TIfact P t i) (h : Holds AI G s ρ a.tmps w) {esz : Nat} (hz : ∀ e, elemOfK i.kind = some e → (Go.sizeOf e).run P w = .ok esz w) {x : SV} {lo hi : Option SV} {u : Value} {lv hv : Option Value}
    (hx : Den ρ x u) (d1 : OptDen ρ lo lv) (d2 : OptDen ρ hi hv) {p : Plan A} (hp : cutP i esz x lo hi = some p) {d : List Bool} {C : U Prop} {v : SV} {cs : List (Chunk A)}
    (he : p.eff (getCs s.H p.ids) d = .done C v cs) (hC : C ()) : Done AI G P s a w ρ (Instr.sliceAt t u lv hv none) (putCs s.H p.ids cs) v := by
  have hk := hT.kind
  unfold cutP at hp
  split at hp <;> (try (cases hp; done))
  rename_i hsl
  obtain ⟨et, ty, ho⟩ : ∃ et ty, i.kind = .slice et ty := by
    unfold isSl at hsl
    split at hsl
    · exact ⟨_, _, by assumption⟩
    · cases hsl
  rw [ho] at hk hz
  obtain ⟨hu, _⟩ := hk
  have hz := hz et rfl
  split at hp <;> (try (cases hp; done))
  rename_i lo' h1
  split at hp <;> (try (cases hp; done))
  rename_i hi' h2
  split at hp <;> (try (cases hp; done))
  rename_i i' ver
  cases hp
  simp only [getCs] at he
  have hc := h.ch i'
  generalize hg : getC s.H i' = c at he hc
  cases c <;> (try (simp at he; done))
  rename_i rt e ver' L
  dsimp only at he
  split at he <;> (try (cases he; done))
  rename_i hb
  obtain ⟨hb1, hb2⟩ := Bool.and_eq_true_iff.1 hb
  have hb1 := beq_eq hb1
  have hb2 := beq_eq hb2
  subst hb1; subst hb2
  cases he
  obtain ⟨h5, h6⟩ := hc
  obtain ⟨_, h7, h8⟩ := hx
  have h8 := h8 h5
  subst h8
  obtain ⟨c0, c1, c2⟩ := hC
  obtain ⟨ao, cap, hr, hlc⟩ : ∃ ao cap, ρ.root i' = .slice ao (L ()).length cap ∧ (L ()).length ≤ cap := by
    rcases h6 with ⟨⟨ao, h3⟩, h4, _⟩ | ⟨b', off', cap', h3, _, h4, _⟩
    · exact ⟨ao, 0, by rw [h3, h4]; rfl, by rw [h4]; simp⟩
    · exact ⟨_, _, h3, h4⟩
  have hrun := run_slice_slice (P := P) (w := w) (ρ := ρ) hu hz (ao := ao) hlc h1 h2 d1 d2 (fun _ => ((L ()).length : Int)) rfl c0 c1 c2
  generalize loOf lo' = l at *
  generalize hiOf hi' (fun _ => ((L ()).length : Int)) = hh at *
  have hlen : (((L ()).take (hh ()).toNat).drop (l ()).toNat).length = (hh () - l ()).toNat := by rw [List.length_drop, List.length_take]; omega
  rw [hr]
  obtain ⟨F, hF, hrow⟩ : ∃ F, (∀ b ∈ F, b ∈ ρ.foot i') ∧ RowAt rt ρ.M w e (((L ()).take (hh ()).toNat).drop (l ()).toNat) (.slice (if cap = (l ()).toNat then ao else ao.map (·.add ((l ()).toNat * e.size))) (hh () - l ()).toNat (cap - (l ()).toNat)) F := by
    by_cases hcap : cap = (l ()).toNat
    · refine ⟨[], by simp, .inl ⟨⟨_, by rw [show (hh () - l ()).toNat = 0 from by omega, show cap - (l ()).toNat = 0 from by omega]⟩, List.eq_nil_of_length_eq_zero (by rw [hlen]; omega), rfl⟩⟩
    · rcases h6 with ⟨⟨ao', h3⟩, h4, _⟩ | ⟨b, off, cap', h3, hfo, h4, hcm, h9, h10, h11⟩
      · exfalso
        rw [h3] at hr
        injection hr with _ e1 e2
        have : (L ()).length = 0 := by rw [h4]; rfl
        omega
      · rw [h3] at hr
        injection hr with e0 e1 e2
        subst e2; subst e0
        refine ⟨[b], by simp [hfo], .inr ⟨b, off + (l ()).toNat * e.size, cap' - (l ()).toNat, ?_, rfl, by rw [hlen]; omega, by omega, fun j x hj => ?_, fun j hj => ?_, fun he => ?_⟩⟩
        · rw [if_neg hcap, hlen]; simp [add_lit]
        · rw [List.getElem?_drop, List.getElem?_take] at hj
          split at hj
          · have := h9 _ _ hj
            refine CellsM.congr _ this fun k v _ hv => ?_
            rw [← hv]
            congr 2
            rw [Nat.add_mul]; omega
          · cases hj
        · have hle : (l ()).toNat * e.size + j < cap' * e.size := by
            have h12 : (cap' - (l ()).toNat) * e.size + (l ()).toNat * e.size = cap' * e.size := by rw [← Nat.add_mul]; congr 1; omega
            omega
          have := h10 _ hle
          rw [← Nat.add_assoc] at this
          exact this
        · obtain ⟨n, hn1, hn2⟩ := h11 he
          refine ⟨n, hn1, ?_⟩
          subst he
          simp only [Ty.size]
          omega
  obtain ⟨h12, h13⟩ := h.upd1 i' (.slice (if cap = (l ()).toNat then ao else ao.map (·.add ((l ()).toNat * e.size))) (hh () - l ()).toNat (cap - (l ()).toNat)) (ver + 1) F (.row rt e (ver + 1) (fun _ => ((L ()).take (hh ()).toNat).drop (l ()).toNat)) w
    (by rw [hr]; simp) (by omega) (by omega) (fun b hb => ⟨.inl (hF b hb), h.lt i' b (hF b hb)⟩) (fun _ _ _ => rfl) rfl rfl rfl (Nat.le_refl _)
    ⟨by simp [Ev.upd], by simpa [Ev.upd] using hrow⟩
  exact ⟨_, _, _, hrun, h12, ⟨⟨_, _, _, rfl⟩, by simp [Ev.upd], fun _ => by simp [Ev.upd]⟩, h13⟩
/-- Plans of operations on such lists, of the operation. -/
theorem nestP_sound {E : Env A} (hE : EnvOk P AI E) (h : Holds AI G s ρ a.tmps w) (hdf : a.defers = []) {o : Oper} {fresh : Nat} {p : Plan A} (hp : nestP E s.tm fresh o.op = some p) {d : List Bool} {C : U Prop} {v : SV} {cs : List (Chunk A)}
    (he : p.eff (getCs s.H p.ids) d = .done C v cs) (hC : C ()) (hdst : ∀ t, o.dst = some t → t < G.size) {K : Act → World → Prop} {Q : Exit → Act → World → Prop}
    (hK : Then AI G ⟨putT s.tm o.dst v, putCs s.H p.ids cs⟩ K) : o.wp P a w K Q := by
  have unit : ∀ (x : Go.Sem Unit) (hx : execOp a.eval o = (do x; pure .skip)) (ρ2 : Ev) (w' : World) (hr : x.run P w = .ok () w') (h2 : Holds AI G ⟨s.tm, putCs s.H p.ids cs⟩ ρ2 a.tmps w') (hv : v = one .any), o.wp P a w K Q := by
    intro x hx ρ2 w' hr h2 hv
    unfold Oper.wp
    rw [hx, Sem.run_bind, hr]
    simp only [Result.andThen, Sem.run_pure, Oper.upon_skip]
    subst hv
    exact hK _ _ (by rw [Act.put_defers', hdf]) ⟨ρ2, h2.put hdst (by trivial)⟩
  cases hop : o.op <;> rw [hop] at hp <;> simp only [nestP, reduceCtorEq] at hp
  case load t x =>
    split at hp <;> (try cases hp)
    rename_i i hi
    split at hp <;> (try cases hp)
    rename_i u hu
    have hx := h.eval hu
    have hT := hE.ti t i hi
    refine wp_of_run (ρ := ρ) (Instr.loadAt t (a.eval x)) (by unfold execOp; rw [hop]) hdf ?_ hdst hK
    unfold nestLoad at hp
    split at hp <;> (try (cases hp; done))
    rename_i i' ver z k off
    split at hp <;> cases hp
    rename_i hsl
    have hagg : i.isAgg = false := by
      unfold isSl at hsl
      split at hsl
      · rename_i e; unfold TI.isAgg; rw [e]
      · cases hsl
    simp only [getCs, takeE] at he
    generalize hgi : getC s.H i' = ci at he
    generalize hgf : getC s.H fresh = cf at he
    cases ci <;> (try (simp at he; done))
    rename_i rt tb z' ver' L q
    cases q <;> (try (simp at he; done))
    cases cf <;> (try (simp at he; done))
    dsimp only at he
    split at he <;> cases he
    rename_i hb
    simp only [Bool.and_eq_true] at hb
    obtain ⟨⟨hb1, hb2⟩, hb3⟩ := hb
    have hb1 := beq_eq hb1
    have hb2 := beq_eq hb2
    subst hb1; subst hb2
    exact nestTake_sound hT hagg h hx hgi hgf hC (leN hb3)
  case store t x y =>
    split at hp <;> (try cases hp)
    rename_i i hi
    split at hp <;> (try cases hp)
    rename_i u hu
    split at hp <;> (try cases hp)
    rename_i u' hu'
    have hx := h.eval hu
    have hy := h.eval hu'
    have hT := hE.ti t i hi
    unfold nestStore at hp
    split at hp <;> (try (cases hp; done))
    rename_i i' ver z k off
    split at hp <;> (try (cases hp; done))
    rename_i j ver2
    split at hp <;> cases hp
    rename_i hb
    simp only [Bool.and_eq_true] at hb
    obtain ⟨⟨hb0, hb1⟩, hb2⟩ := hb
    have hb1 := beq_eq hb1
    have hij : i' ≠ j := fun e => by rw [e] at hb2; simp at hb2
    simp only [getCs, putE] at he
    generalize hgi : getC s.H i' = ci at he
    generalize hgj : getC s.H j = cj at he
    split at he <;> (try (cases he; done))
    rename_i rt tb z' ver' L q j' tb' ver2' D hcs
    simp only [List.cons.injEq, and_true] at hcs
    obtain ⟨rfl, rfl⟩ := hcs
    split at he <;> cases he
    rename_i hb
    simp only [Bool.and_eq_true] at hb
    obtain ⟨⟨⟨⟨⟨c1, c2⟩, c3⟩, c4⟩, c5⟩, c6⟩ := hb
    have c1 := beq_eq c1
    have c2 := beq_eq c2
    have c4 := beq_eq c4
    have c5 := beq_eq c5
    have c6 := beq_eq c6
    subst c1; subst c2; subst c4; subst c5; subst c6
    obtain ⟨ρ2, w', h1, h2⟩ := nestPut_sound hT hb1 h hij hx hy hgi hgj hC.1 hC.2 (leN c3)
    exact unit (Instr.storeAt t (a.eval x) (a.eval y)) (by unfold execOp; rw [hop]) ρ2 w' h1 h2 rfl
  case slice t x lo hi mx =>
    cases mx <;> (try (simp only [reduceCtorEq] at hp; done))
    dsimp only at hp
    split at hp <;> (try cases hp)
    rename_i i hi'
    split at hp <;> (try cases hp)
    split at hp <;> (try cases hp)
    rename_i u hu
    split at hp <;> (try cases hp)
    rename_i l hl
    split at hp <;> (try cases hp)
    rename_i l2 hl2
    split at hp <;> (try cases hp)
    rename_i z hzz
    refine wp_of_run (ρ := ρ) (Instr.sliceAt t (a.eval x) (lo.map a.eval) (hi.map a.eval) none) (by unfold execOp; rw [hop]; rfl) hdf (cut_sound (hE.ti t i hi') h (szOf_run (w := w) hE hzz) (h.eval hu) (optDen h hl) (optDen h hl2) hp he hC) hdst hK
  case indexAddr t x ix =>
    split at hp <;> (try cases hp)
    rename_i i hi
    split at hp <;> (try cases hp)
    rename_i u hu
    split at hp <;> (try cases hp)
    rename_i u' hu'
    split at hp <;> (try cases hp)
    rename_i z hzz
    have hz := szOf_run (w := w) hE hzz
    have hT := hE.ti t i hi
    refine wp_of_run (ρ := ρ) (Instr.indexAt t (a.eval x) (a.eval ix)) (by unfold execOp; rw [hop]) hdf ?_ hdst hK
    unfold nestIdx at hp
    split at hp <;> (try (cases hp; done))
    rename_i i' ver
    split at hp <;> (try (cases hp; done))
    rename_i et ty hkd
    split at hp <;> (try (cases hp; done))
    rename_i kk k hk
    split at hp <;> cases hp
    rename_i p0 hp0
    obtain ⟨hids, hw⟩ := indexP_hd hkd hp0
    simp only [getCs] at he
    unfold nestIdxE at he
    split at he
    · rename_i rt tb z' ver' L q hcs
      simp only [List.cons.injEq, and_true] at hcs
      split at he <;> cases he
      rename_i hb'
      simp only [Bool.and_eq_true] at hb'
      obtain ⟨⟨c1, c2⟩, c3⟩ := hb'
      have c1 := beq_eq c1
      have c2 := beq_eq c2
      subst c1; subst c2
      exact Done.looks h (by simp [Looks, getCs, hcs]) (nestIdx_sound hT h hkd (hz et (by rw [hkd]; rfl)) (h.eval hu) (ivalS_den hk (h.eval hu')) hcs hC (leN c3))
    · obtain ⟨h1, h2⟩ := index_sound hT h hz (h.eval hu) (h.eval hu') hp0 (d := d) (by rw [hids]; exact he) hC
      refine Done.looks h ?_ h2
      rw [Looks, hids] at h1
      exact h1
  case makeSlice t l c =>
    split at hp <;> (try cases hp)
    rename_i i hi
    split at hp <;> (try cases hp)
    split at hp <;> (try cases hp)
    rename_i et het
    split at hp <;> (try cases hp)
    rename_i ie hie
    split at hp <;> (try cases hp)
    rename_i u hu
    split at hp <;> (try cases hp)
    rename_i u' hu'
    refine wp_of_run (ρ := ρ) (Instr.makeSlice t (a.eval l) (a.eval c)) (by unfold execOp; rw [hop]) hdf (nestMk_sound (hE.ti t i hi) het (hE.ti et ie hie) h (h.eval hu) (h.eval hu') hp he hC) hdst hK
  case makeMap t n =>
    cases n <;> (try (simp only [reduceCtorEq] at hp; done))
    dsimp only at hp
    split at hp <;> (try cases hp)
    rename_i i hi
    split at hp <;> cases hp
    refine wp_of_run (ρ := ρ) (Instr.makeMap t none) (by unfold execOp; rw [hop]; rfl) hdf ?_ hdst hK
    simp only [getCs] at he
    generalize hgf : getC s.H fresh = cf at he
    cases cf <;> (try (simp at he; done))
    simp at he
    obtain ⟨rfl, rfl, rfl⟩ := he
    exact mmk_sound h hgf
  case lookup t x ix ok =>
    cases ok <;> (try (simp only [reduceCtorEq] at hp; done))
    dsimp only at hp
    split at hp <;> (try cases hp)
    rename_i i hi
    split at hp <;> (try cases hp)
    split at hp <;> (try cases hp)
    rename_i et het
    split at hp <;> (try cases hp)
    rename_i ie hie
    split at hp <;> (try cases hp)
    rename_i hb
    obtain ⟨hb1, hb2⟩ := Bool.and_eq_true_iff.1 hb
    split at hp <;> (try cases hp)
    rename_i m hm
    split at hp <;> cases hp
    rename_i u hu
    refine wp_of_run (ρ := ρ) (Instr.lookup t (a.eval x) (a.eval ix) false) (by unfold execOp; rw [hop]) hdf ?_ hdst hK
    simp only [getCs, mtakeE] at he
    generalize hgi : getC s.H m = ci at he
    generalize hgf : getC s.H fresh = cf at he
    cases ci <;> (try (simp at he; done))
    rename_i tb L q
    cases q <;> (try (simp at he; done))
    cases cf <;> (try (simp at he; done))
    dsimp only at he
    split at he <;> cases he
    rename_i k hk
    exact mtake_sound (hE.ti t i hi) het (hE.ti et ie hie) hb1 (beq_eq hb2) h (h.eval hm) (keyV_den hk hC (h.eval hu)).1 hgi hgf
  case mapUpdate t x ix y =>
    split at hp <;> (try cases hp)
    rename_i i hi
    split at hp <;> (try cases hp)
    rename_i hb
    obtain ⟨hb1, hb2⟩ := Bool.and_eq_true_iff.1 hb
    obtain ⟨et, het⟩ : ∃ et, tkMapI i.kind = some et := by
      unfold isMapI at hb2
      split at hb2
      · exact ⟨_, by assumption⟩
      · cases hb2
    split at hp <;> (try cases hp)
    rename_i m hm
    split at hp <;> (try cases hp)
    rename_i u hu
    split at hp <;> (try cases hp)
    rename_i j ver2 hj
    split at hp <;> cases hp
    rename_i hne
    have hij : m ≠ j := fun e => by rw [e] at hne; simp at hne
    simp only [getCs, mputE] at he
    generalize hgi : getC s.H m = ci at he
    generalize hgj : getC s.H j = cj at he
    split at he <;> (try (cases he; done))
    rename_i tb L q j' tb' ver2' D hcs
    simp only [List.cons.injEq, and_true] at hcs
    obtain ⟨rfl, rfl⟩ := hcs
    split at he <;> (try (cases he; done))
    rename_i hb
    simp only [Bool.and_eq_true] at hb
    obtain ⟨⟨c4, c5⟩, c6⟩ := hb
    have c4 := beq_eq c4
    have c5 := beq_eq c5
    have c6 := beq_eq c6
    subst c4; subst c5; subst c6
    split at he <;> cases he
    rename_i C' k hk
    obtain ⟨ρ2, w', h1, h2⟩ := mput_sound (hE.ti t i hi) het h hij (h.eval hm) (keyV_den hk hC.1 (h.eval hu)).1 (h.eval hj) hgi hgj hC.2
    exact unit (Instr.mapUpdate t (a.eval x) (a.eval ix) (a.eval y)) (by unfold execOp; rw [hop]) ρ2 w' h1 h2 rfl

theorem sop_sound {E : Env A} (hE : EnvOk P AI E) (h : Holds AI G s ρ a.tmps w) (hdf : a.defers = []) {o : Oper} {fresh : Nat} {p : Plan A} (hp : sop E s.tm fresh o.op = .plan p) (hfr : ∀ i ∈ p.ids, fresh ≤ i → getC s.H i = .emp) {d : List Bool} {C : U Prop} {v : SV} {cs : List (Chunk A)}
    (he : p.eff (getCs s.H p.ids) d = .done C v cs) (hC : C ()) (hdst : ∀ t, o.dst = some t → t < G.size) {K : Act → World → Prop} {Q : Exit → Act → World → Prop}
    (hK : Then AI G ⟨putT s.tm o.dst v, putCs s.H p.ids cs⟩ K) : o.wp P a w K Q := by
  unfold sop at hp
  split at hp
  · exact sop0_sound hE h hdf hp hfr he hC hdst hK
  · split at hp
    · rename_i q hq
      cases hp
      exact nestP_sound hE h hdf hq he hC hdst hK
    · exact sop0_sound hE h hdf hp hfr he hC hdst hK

theorem sop_congr {E : Env A} {tm tm' : List (Nat × SV)} {fresh : Nat} {o : Op} (h : ∀ t, .tmp t ∈ o.operands → look tm t = look tm' t) : sop E tm fresh o = sop E tm' fresh o := by
  unfold sop
  rw [sop0_congr h]
  have e1 : ∀ x ∈ o.operands, evalOp tm x = evalOp tm' x := fun x hx => evalOp_congr fun t e => h t (e ▸ hx)
  have hn : nestP E tm fresh o = nestP E tm' fresh o := by
    cases o <;> simp only [nestP] <;> simp only [Op.operands] at h e1
    case load t x => rw [e1 x (by simp)]
    case store t x y => rw [e1 x (by simp), e1 y (by simp)]
    case indexAddr t x i => rw [e1 x (by simp), e1 i (by simp)]
    case makeSlice t l c => rw [e1 l (by simp), e1 c (by simp)]
    case makeMap t n => cases n <;> rfl
    case lookup t x i ok => cases ok <;> (first | rfl | (dsimp only; rw [e1 x (by simp), e1 i (by simp)]))
    case mapUpdate t x i y => rw [e1 x (by simp), e1 i (by simp), e1 y (by simp)]
    case slice t x lo hi mx =>
      cases mx <;> (first | rfl | skip)
      have e2 : ∀ y : Option Operand, (∀ z, y = some z → z ∈ x :: (lo.toList ++ hi.toList)) → evalOpt tm y = evalOpt tm' y := fun y hy => by
        cases y with
        | none => rfl
        | some z => simp only [evalOpt]; rw [e1 z (by have := hy z rfl; simpa using this)]
      dsimp only
      rw [e1 x (by simp), e2 lo (fun z hz => by simp [hz]), e2 hi (fun z hz => by simp [hz])]
  rw [hn]

theorem nestP_noWrite {E : Env A} {tm : List (Nat × SV)} {fresh : Nat} {o : Op} {p : Plan A} (h : nestP E tm fresh o = some p) : NoWrite p := by
  cases o <;> simp only [nestP, reduceCtorEq] at h
  case indexAddr t x i =>
    split at h <;> (try cases h)
    split at h <;> (try cases h)
    split at h <;> (try cases h)
    split at h <;> (try cases h)
    unfold nestIdx at h
    split at h <;> (try (cases h; done))
    split at h <;> (try (cases h; done))
    rename_i hkd
    split at h <;> (try (cases h; done))
    split at h <;> cases h
    rename_i p0 hp0
    obtain ⟨hids, hw⟩ := indexP_hd hkd hp0
    have hn := noWrite_index hp0 hw
    intro _ H d C v cs he
    dsimp only [nestIdxE] at he
    split at he
    · rename_i hcs
      split at he <;> cases he
      exact hcs.symm
    · have := hn H d C v cs (by rw [hids]; exact he)
      rw [hids] at this; exact this
  case makeMap t n =>
    cases n <;> (try (simp only [reduceCtorEq] at h; done))
    dsimp only at h
    repeat' (first | (cases h; exact noWrite_w rfl) | (split at h))
    all_goals cases h
  case lookup t x i ok =>
    cases ok <;> (try (simp only [reduceCtorEq] at h; done))
    dsimp only at h
    repeat' (first | (cases h; exact noWrite_w rfl) | (split at h))
    all_goals cases h
  case slice t x lo hi mx =>
    cases mx <;> (try (simp only [reduceCtorEq] at h; done))
    dsimp only at h
    unfold cutP at h
    repeat' (first | (cases h; exact noWrite_w rfl) | (split at h))
    all_goals (first | (cases h; done) | skip)
  all_goals (try unfold nestLoad at h); (try unfold nestStore at h); (try unfold nestMk at h)
  all_goals repeat' (first | (cases h; exact noWrite_w rfl) | (split at h))
  all_goals (first | (cases h; done) | skip)
theorem sop_noWrite {E : Env A} (hE : EnvOk P AI E) {tm : List (Nat × SV)} {fresh : Nat} {o : Op} {p : Plan A} (h : sop E tm fresh o = .plan p) : NoWrite p := by
  unfold sop at h
  split at h
  · exact sop0_noWrite hE h
  · split at h
    · rename_i q hq
      cases h
      exact nestP_noWrite hq
    · exact sop0_noWrite hE h
theorem sop_head {E : Env A} {tm : List (Nat × SV)} {fresh : Nat} {o : Op} {p : Plan A} (ha : isAppE E o = true) (h : sop E tm fresh o = .plan p) : HeadW p := by
  unfold isAppE at ha
  split at ha
  · cases ha
  · rename_i hn
    unfold sop at h
    rw [hn] at h
    exact sop0_head ha h
/-- The two are one list whose slots own their rows, but for the rows. -/
inductive HdEq : Chunk A → Chunk A → Prop
  | mk (t tb z v : Nat) (L L' : U (List (List Int))) (h h' : Option (U Int × Nat)) (e : (L ()).length = (L' ()).length) : HdEq (.nest t tb z v L h) (.nest t tb z v L' h')
theorem HdEq.symm {c c' : Chunk A} (h : HdEq c c') : HdEq c' c := by cases h with | mk t tb z v L L' h h' e => exact .mk t tb z v L' L h' h e.symm
theorem HdEq.trans {c c' c2 : Chunk A} (h : HdEq c c') (h2 : HdEq c' c2) : HdEq c c2 := by
  cases h with
  | mk t tb z v L L' h h' e =>
    cases h2 with
    | mk _ _ _ _ _ L2 _ h2 e2 => exact .mk t tb z v L L2 h h2 (e.trans e2)
/-- A load of a slot and a store into it keep the list's header. -/
theorem nest_keep {E : Env A} {tm : List (Nat × SV)} {fresh : Nat} {o : Op} {p : Plan A} (hk : opKd o = 2) (hp : nestP E tm fresh o = some p) {H : List (Chunk A)} {d : List Bool} {C : U Prop} {v : SV} {cs : List (Chunk A)}
    (he : p.eff (getCs H p.ids) d = .done C v cs) : ∃ i j c c2, p.ids = [i, j] ∧ cs = [c, c2] ∧ HdEq c (getC H i) := by
  cases o <;> (try (cases hk; done)) <;> simp only [nestP] at hp
  case load t x =>
    split at hp <;> (try (cases hp; done))
    split at hp <;> (try (cases hp; done))
    unfold nestLoad at hp
    split at hp <;> (try (cases hp; done))
    rename_i i ver z k off _
    split at hp <;> cases hp
    simp only [getCs, takeE] at he
    split at he <;> (try (cases he; done))
    rename_i rt tb z' ver' L hcs
    simp only [List.cons.injEq, and_true] at hcs
    split at he <;> cases he
    refine ⟨_, _, _, _, rfl, rfl, ?_⟩
    rw [hcs.1]
    exact .mk _ _ _ _ _ _ _ _ rfl
  case store t x y =>
    split at hp <;> (try (cases hp; done))
    split at hp <;> (try (cases hp; done))
    split at hp <;> (try (cases hp; done))
    unfold nestStore at hp
    split at hp <;> (try (cases hp; done))
    split at hp <;> (try (cases hp; done))
    split at hp <;> cases hp
    simp only [getCs, putE] at he
    split at he <;> (try (cases he; done))
    rename_i hcs
    simp only [List.cons.injEq, and_true] at hcs
    split at he <;> cases he
    refine ⟨_, _, _, _, rfl, rfl, ?_⟩
    rw [hcs.1]
    exact .mk _ _ _ _ _ _ _ _ (by simp)
theorem inN_len {z : Nat} {L L' : U (List (List Int))} {k : U Int} (e : (L ()).length = (L' ()).length) (h : inN z L' k ()) : inN z L k () := by
  unfold inN at h ⊢
  cases hz : beqN z 1 <;> rw [hz] at h <;> dsimp only at h ⊢ <;> rw [e] <;> exact h
theorem soft_sop {E : Env A} (hn : nestOn E.ti = true) {tm : List (Nat × SV)} {fresh t : Nat} {x ix : Operand} {p : Plan A} (hp : sop E tm fresh (.indexAddr t x ix) = .plan p) {H : List (Chunk A)} {d : List Bool} {C : U Prop} {v : SV} {cs : List (Chunk A)}
    (he : p.eff (getCs H p.ids) d = .done C v cs) (hh : hdNest (getCs H p.ids) = true) :
    ∃ i, p.ids = [i] ∧ ∀ c2, HdEq c2 (getC H i) → ∃ C', p.eff [c2] d = .done C' v [c2] ∧ (C () → C' ()) := by
  unfold sop at hp
  rw [hn] at hp
  dsimp only at hp
  split at hp
  · rename_i q hq
    cases hp
    simp only [nestP] at hq
    split at hq <;> (try (cases hq; done))
    split at hq <;> (try (cases hq; done))
    split at hq <;> (try (cases hq; done))
    split at hq <;> (try (cases hq; done))
    unfold nestIdx at hq
    split at hq <;> (try (cases hq; done))
    rename_i i ver _
    split at hq <;> (try (cases hq; done))
    rename_i hkd
    split at hq <;> (try (cases hq; done))
    split at hq <;> cases hq
    rename_i p0 hp0
    refine ⟨i, rfl, fun c2 hc2 => ?_⟩
    simp only [getCs] at he hh
    cases hc : getC H i <;> rw [hc] at he hh hc2 <;> (try (cases hh; done))
    cases hc2 with
    | mk t tb z v L L' h h' e =>
      simp only [nestIdxE] at he ⊢
      split at he <;> cases he
      refine ⟨_, rfl, fun hC => ?_⟩
      exact inN_len e hC
  · exfalso
    simp only [sop0] at hp
    split at hp <;> (try (cases hp; done))
    split at hp <;> (try (cases hp; done))
    split at hp <;> (try (cases hp; done))
    split at hp <;> (try (cases hp; done))
    have hp := PO.of_plan hp
    unfold indexP at hp
    split at hp
    · split at hp
      · split at hp <;> (try (cases hp; done))
        split at hp <;> cases hp <;> cases hh
      · split at hp <;> cases hp
        cases hh
    · split at hp <;> (try (cases hp; done))
      split at hp
      · split at hp <;> cases hp
        cases hh
      · cases hp
        simp only [getCs] at he hh
        rename_i i ver _
        cases hc : getC H i <;> rw [hc] at he hh <;> (try (cases hh; done))
        cases he
      · cases hp
    · cases hp
end Go.Sx

/-
  Symbolic execution: regions.
-/
namespace Go.Sx
set_option linter.all false
open Go.RowKit

variable {A : Type} {AI : Abs A} {G : Fr} {s : SS A} {ρ : Ev} {a : Act} {w : World} {P : Program}

theorem nth_eq {α : Type} : ∀ (l : List α) (i : Nat), nth l i = l[i]?
  | [], i => rfl
  | x :: r, 0 => rfl
  | x :: r, i + 1 => by simp [nth, nth_eq r i]

theorem guard_yes {ops : List Oper} (h : Holds AI G s ρ a.tmps w) {o : Oper} (hg : guardOf ops s.tm o.guard = .yes) : Region.wanted o (yielded ops.toArray a.tmps) = true := by
  unfold Region.wanted
  cases hgd : o.guard with
  | none => rfl
  | some q =>
    obtain ⟨j, want⟩ := q
    rw [hgd] at hg
    simp only [guardOf, nth_eq] at hg
    split at hg <;> (try cases hg)
    rename_i oj hoj
    split at hg <;> (try cases hg)
    rename_i t ht
    split at hg <;> (try cases hg)
    · rename_i b hb
      split at hg <;> (try cases hg)
      rename_i hbw
      obtain ⟨u, h1, h2⟩ := h.tm t _ hb
      cases h2
      have hbw : b = want := by simpa using hbw
      subst hbw
      simp [yielded, hoj, ht, h1]
    · split at hg <;> cases hg

theorem guard_no {ops : List Oper} (h : Holds AI G s ρ a.tmps w) {o : Oper} (hg : guardOf ops s.tm o.guard = .no) : Region.wanted o (yielded ops.toArray a.tmps) = false := by
  unfold Region.wanted
  cases hgd : o.guard with
  | none => rw [hgd] at hg; cases hg
  | some q =>
    obtain ⟨j, want⟩ := q
    rw [hgd] at hg
    simp only [guardOf, nth_eq] at hg
    split at hg <;> (try cases hg)
    rename_i oj hoj
    split at hg <;> (try cases hg)
    rename_i t ht
    split at hg <;> (try cases hg)
    · rename_i b hb
      split at hg <;> (try cases hg)
      rename_i hbw
      obtain ⟨u, h1, h2⟩ := h.tm t _ hb
      cases h2
      simp [yielded, hoj, ht, h1]
      simpa using hbw
    · rename_i x hx
      split at hg <;> (try cases hg)
      rename_i hb
      obtain ⟨u, h1, h2⟩ := h.tm t _ hx
      cases h2
      cases x <;> simp [isBoolV] at hb <;> simp [yielded, hoj, ht, h1]

/-- What the run says that an operation did. -/
inductive OpDid (E : Env A) (ops : List Oper) (d : Dec) (s : SS A) (o : Oper) (j : Nat) : Eff A → List (U Prop) → Prop
  | no (h : guardOf ops s.tm o.guard = .no) : OpDid E ops d s o j ⟨o.dst, undefV, [], [], [], false, false⟩ []
  | yes (p : Plan A) (C : U Prop) (v : SV) (cs : List (Chunk A)) (v' : SV) (C2 : List (U Prop)) (hg : guardOf ops s.tm o.guard = .yes) (hp : sop E s.tm s.H.length o.op = .plan p)
    (he : p.eff (getCs s.H p.ids) (Dec.ofOp d.op j) = .done C v cs) (hd : decideD d.sl o.dst v = (v', C2)) : OpDid E ops d s o j (mkEff (isAppE E o.op) (opKE E s.tm s.H.length o.op) o.dst v' p cs) (C :: C2)

def runE (es : List (Eff A)) (s : SS A) : SS A := es.foldl (fun s e => applyE e s) s

theorem srun_spec {E : Env A} {ops : List Oper} {d : Dec} : ∀ (l : List Oper) (j : Nat) (s : SS A) (Cs : List (U Prop)) (es : List (Eff A)) {Cs' : List (U Prop)} {s' : SS A} {es' : List (Eff A)}, srun E ops d l j s Cs es = .done Cs' s' es' →
    (∀ C ∈ Cs, C ∈ Cs') ∧ ∃ effs, es' = es.reverse ++ effs ∧ effs.length = l.length ∧ s' = runE effs s ∧
      ∀ i o, l[i]? = some o → ∃ e Ce, effs[i]? = some e ∧ OpDid E ops d (runE (effs.take i) s) o (j + i) e Ce ∧ ∀ C ∈ Ce, C ∈ Cs'
  | [], j, s, Cs, es, Cs', s', es', h => by
    simp only [srun, RO.done.injEq] at h
    obtain ⟨rfl, rfl, rfl⟩ := h
    exact ⟨fun _ h => h, [], by simp, rfl, rfl, by simp⟩
  | o :: r, j, s, Cs, es, Cs', s', es', h => by
    have step : ∀ (e : Eff A) (Ce : List (U Prop)), OpDid E ops d s o j e Ce → srun E ops d r (j + 1) (applyE e s) (Ce ++ Cs) (e :: es) = .done Cs' s' es' →
        (∀ C ∈ Cs, C ∈ Cs') ∧ ∃ effs, es' = es.reverse ++ effs ∧ effs.length = (o :: r).length ∧ s' = runE effs s ∧
          ∀ i o', (o :: r)[i]? = some o' → ∃ e Ce, effs[i]? = some e ∧ OpDid E ops d (runE (effs.take i) s) o' (j + i) e Ce ∧ ∀ C ∈ Ce, C ∈ Cs' := by
      intro e Ce hdid hr
      obtain ⟨h1, effs, h2, h3, h4, h5⟩ := srun_spec r (j + 1) _ _ _ hr
      refine ⟨fun C hC => h1 C (List.mem_append.2 (.inr hC)), e :: effs, by simp [h2], by simp [h3], h4, fun i o' hi => ?_⟩
      cases i with
      | zero =>
        simp at hi
        subst hi
        exact ⟨e, Ce, rfl, hdid, fun C hC => h1 C (List.mem_append.2 (.inl hC))⟩
      | succ i =>
        obtain ⟨e', Ce', h6, h7, h8⟩ := h5 i o' (by simpa using hi)
        refine ⟨e', Ce', by simpa using h6, ?_, h8⟩
        rw [show j + (i + 1) = j + 1 + i by omega]
        exact h7
    simp only [srun] at h
    split at h <;> (try cases h)
    · rename_i hg
      exact step _ [] (.no hg) h
    · rename_i hg
      split at h <;> (try cases h)
      rename_i p hp
      split at h <;> (try cases h)
      rename_i C v cs he
      cases hd : decideD d.sl o.dst v with
      | mk v' C2 =>
        rw [hd] at h
        exact step _ (C :: C2) (.yes p C v cs v' C2 hg hp he hd) (by simpa using h)

/-- States that say the same. -/
def Same (s s' : SS A) : Prop := (∀ t, look s.tm t = look s'.tm t) ∧ ∀ c, getC s.H c = getC s'.H c
theorem Holds.same {s' : SS A} {tmps : Array Value} (h : Holds AI G s ρ tmps w) (e : Same s s') : Holds AI G s' ρ tmps w :=
  ⟨h.sz, h.gt, fun t v ht => h.tm t v (by rw [e.1]; exact ht), fun i => by rw [← e.2]; exact h.ch i, h.dis, h.lt, h.im, h.os, h.tape, h.output, h.grow, h.kept, h.fro, h.rt, h.rts, h.mono, h.mfr⟩
theorem Then.same {s' : SS A} {K : Act → World → Prop} (h : Then AI G s K) (e : Same s' s) : Then AI G s' K :=
  fun a' w' hd ⟨ρ, hh⟩ => h a' w' hd ⟨ρ, hh.same e⟩

theorem decideD_then {sl : List (Nat × Bool)} {tm : List (Nat × SV)} {H : List (Chunk A)} {dst : Option Nat} {v v' : SV} {C2 : List (U Prop)} (hd : decideD sl dst v = (v', C2)) (hC : ∀ C ∈ C2, C ()) {K : Act → World → Prop} (hK : Then AI G ⟨putT tm dst v', H⟩ K) :
    Then AI G ⟨putT tm dst v, H⟩ K := by
  have key : (∀ ρ u, Den ρ v u → Den ρ v' u) → Then AI G ⟨putT tm dst v, H⟩ K := by
    intro hv a' w' hdf ⟨ρ, hh⟩
    refine hK a' w' hdf ⟨ρ, ⟨hh.sz, hh.gt, fun t x ht => ?_, hh.ch, hh.dis, hh.lt, hh.im, hh.os, hh.tape, hh.output, hh.grow, hh.kept, hh.fro, hh.rt, hh.rts, hh.mono, hh.mfr⟩⟩
    cases dst with
    | none => exact hh.tm t x ht
    | some q =>
      simp only [putT, look] at ht
      split at ht
      · rename_i hb
        cases ht
        obtain ⟨u, h1, h2⟩ := hh.tm t v (by simp only [putT, look, hb])
        exact ⟨u, h1, hv ρ u h2⟩
      · rename_i hb
        exact hh.tm t x (by simp only [putT, look, hb]; exact ht)
  cases dst with
  | none => simp only [decideD, Prod.mk.injEq] at hd; obtain ⟨rfl, rfl⟩ := hd; exact hK
  | some t =>
    simp only [decideD] at hd
    unfold decide1 at hd
    split at hd
    · rename_i g
      split at hd
      · rename_i b hb
        simp at hd
        obtain ⟨rfl, rfl⟩ := hd
        have := hC _ (List.mem_singleton.2 rfl)
        refine key fun ρ u hu => ?_
        simp only [one, Den, Den2, Den1] at hu ⊢
        rw [hu, this]
      · simp at hd; obtain ⟨rfl, rfl⟩ := hd; exact hK
    · simp at hd; obtain ⟨rfl, rfl⟩ := hd; exact hK

theorem getC_beyond {H : List (Chunk A)} {i : Nat} (h : H.length ≤ i) : getC H i = .emp := by
  unfold getC
  rw [nth_eq, List.getElem?_eq_none h]

theorem getCs_congr {H H' : List (Chunk A)} : ∀ {ids : List Nat}, (∀ c ∈ ids, getC H c = getC H' c) → getCs H ids = getCs H' ids
  | [], _ => rfl
  | i :: r, h => by simp only [getCs, h i (by simp), getCs_congr (ids := r) fun c hc => h c (by simp [hc])]

theorem guardOf_congr {ops : List Oper} {tm tm' : List (Nat × SV)} {o : Oper} (h : ∀ t ∈ readsOf ops o, look tm t = look tm' t) : guardOf ops tm o.guard = guardOf ops tm' o.guard := by
  cases hg : o.guard with
  | none => rfl
  | some q =>
    obtain ⟨j, want⟩ := q
    simp only [guardOf]
    cases hj : nth ops j with
    | none => rfl
    | some oj =>
      dsimp only
      cases hd : oj.dst with
      | none => rfl
      | some t =>
        dsimp only
        rw [h t (by simp [readsOf, hg, hj, hd])]

theorem did_sound {E : Env A} (hE : EnvOk P AI E) {ops : List Oper} {d : Dec} {s2 : SS A} (h : Holds AI G s2 ρ a.tmps w) (hdf : a.defers = []) {o : Oper} {j : Nat} {e : Eff A} {Ce : List (U Prop)} (hdid : OpDid E ops d s o j e Ce) (hCe : ∀ C ∈ Ce, C ())
    (hslots : ∀ t ∈ readsOf ops o, look s2.tm t = look s.tm t) (hch : e.soft = false → ∀ c ∈ e.looks, getC s2.H c = getC s.H c) (hso : e.soft = true → ∀ c ∈ e.looks, getC s2.H c = getC s.H c ∨ HdEq (getC s2.H c) (getC s.H c)) (hdst : ∀ t, o.dst = some t → t < G.size) {K : Act → World → Prop} {Q : Exit → Act → World → Prop} (hK : Then AI G (applyE e s2) K) :
    if Region.wanted o (yielded ops.toArray a.tmps) = true then o.wp P a w K Q else K (a.put o.dst undef) w := by
  have hgc := guardOf_congr hslots
  cases hdid with
  | no hg =>
    rw [← hgc] at hg
    rw [if_neg (by rw [guard_no h hg]; simp)]
    exact hK _ _ (by rw [Act.put_defers', hdf]) ⟨ρ, h.put hdst rfl⟩
  | yes p C v cs v' C2 hg hp he hd =>
    rw [← hgc] at hg
    rw [if_pos (guard_yes h hg)]
    have hlooks : (mkEff (isAppE E o.op) (opKE E s.tm s.H.length o.op) o.dst v' p cs).looks = p.ids := by unfold mkEff; split <;> (try split) <;> (try split) <;> rfl
    rw [hlooks] at hch hso
    have hp2 : sop E s2.tm s.H.length o.op = .plan p := by
      rw [← hp]
      refine sop_congr fun t ht => hslots t ?_
      simp only [readsOf, List.mem_append, List.mem_filterMap]
      exact .inl ⟨.tmp t, by simpa using ht, rfl⟩
    by_cases hsf : (mkEff (isAppE E o.op) (opKE E s.tm s.H.length o.op) o.dst v' p cs).soft = true
    · -- it looks at a header alone
      have hso := hso hsf
      have hw : p.w = false := by
        cases hw : p.w with
        | false => rfl
        | true =>
          unfold mkEff at hsf
          rw [hw] at hsf
          dsimp only at hsf
          split at hsf <;> (try split at hsf) <;> cases hsf
      have heq : mkEff (isAppE E o.op) (opKE E s.tm s.H.length o.op) o.dst v' p cs = ⟨o.dst, v', [], [], p.ids, beqN (opKE E s.tm s.H.length o.op) 1 && hdNest cs, false⟩ := by unfold mkEff; rw [hw]
      rw [heq] at hsf hK
      dsimp only at hsf
      obtain ⟨hk1, hk2⟩ := Bool.and_eq_true_iff.1 hsf
      have hk1 := beq_eq hk1
      have hcs := sop_noWrite hE hp hw s.H _ _ _ _ he
      rw [hcs] at hk2
      unfold opKE at hk1
      split at hk1
      rotate_left
      · cases hk1
      rename_i hn
      split at hk1
      rotate_left
      · cases hk1
      obtain ⟨t, x, ix, hop⟩ : ∃ t x ix, o.op = .indexAddr t x ix := by
        cases ho : o.op <;> rw [ho] at hk1 <;> (try (cases hk1; done))
        exact ⟨_, _, _, rfl⟩
      rw [hop] at hp
      obtain ⟨i, hi, hst⟩ := soft_sop hn hp he hk2
      have hr : getC s2.H i = getC s.H i ∨ HdEq (getC s2.H i) (getC s.H i) := hso i (by rw [hi]; simp)
      have hh : HdEq (getC s2.H i) (getC s.H i) := by
        rcases hr with hr | hr
        · rw [hr]
          rw [hi] at hk2
          simp only [getCs] at hk2
          cases hc : getC s.H i <;> rw [hc] at hk2 <;> (try (cases hk2; done))
          exact .mk _ _ _ _ _ _ _ _ rfl
        · exact hr
      obtain ⟨C', he2, hCC⟩ := hst _ hh
      have he3 : p.eff (getCs s2.H p.ids) (Dec.ofOp d.op j) = .done C' v (getCs s2.H p.ids) := by rw [hi]; exact he2
      rw [← hop] at hp
      refine sop_sound hE h hdf hp2 (fun k hk hle => ?_) he3 (hCC (hCe C (by simp))) hdst ?_
      · exfalso
        rw [hi] at hk
        obtain rfl : k = i := by simpa using hk
        have h3 : getC s.H k = .emp := getC_beyond hle
        rw [h3] at hh
        generalize getC s2.H k = y at hh
        cases hh
      · refine decideD_then hd (fun C hC => hCe C (by simp [hC])) (hK.same ⟨fun _ => rfl, fun c => ?_⟩)
        simp only [applyE, putCs]
        exact putCs_self _ _ _ (fun _ => rfl) c
    have hsf : (mkEff (isAppE E o.op) (opKE E s.tm s.H.length o.op) o.dst v' p cs).soft = false := by simpa using hsf
    have hch := hch hsf
    have hcs : getCs s2.H p.ids = getCs s.H p.ids := getCs_congr hch
    rw [← hcs] at he
    refine sop_sound hE h hdf hp2 (fun i hi hle => ?_) he (hCe C (by simp)) hdst ?_
    · rw [hch i hi]; exact getC_beyond hle
    · refine decideD_then hd (fun C hC => hCe C (by simp [hC])) (hK.same ?_)
      unfold mkEff
      split
      · split
        · rename_i ha
          obtain ⟨i, r, c', h1, h2, h3⟩ := sop_head ha hp2 s2.H _ _ _ _ he
          rw [h1, h3]
          refine ⟨fun _ => rfl, fun c => ?_⟩
          simp only [applyE, putCs]
          rw [getCs_congr (H := s2.H) (H' := putC s2.H i c') (ids := r) fun k hk => by rw [getC_putC, if_neg (fun (e : k = i) => h2 (by rw [← e]; exact hk))]]
          exact putCs_self _ _ _ (fun _ => rfl) c
        · exact ⟨fun _ => rfl, fun _ => rfl⟩
      · rename_i hw
        have := sop_noWrite hE hp2 hw s2.H _ _ _ _ he
        refine ⟨fun _ => rfl, fun c => ?_⟩
        simp only [applyE, putCs]
        rw [this]
        exact putCs_self _ _ _ (fun _ => rfl) c

/-- A region in the order of the text. -/
theorem run_text {E : Env A} (hE : EnvOk P AI E) {ops : List Oper} {d : Dec} {Q : Exit → Act → World → Prop} : ∀ (l : List Oper) (j : Nat) (s : SS A) (effs : List (Eff A)) (a : Act) (w : World), effs.length = l.length →
    (∀ i o, l[i]? = some o → ∃ e Ce, effs[i]? = some e ∧ OpDid E ops d (runE (effs.take i) s) o (j + i) e Ce ∧ ∀ C ∈ Ce, C ()) → (∀ o ∈ l, ∀ t, o.dst = some t → t < G.size) → Sat AI G s a w → Then AI G (runE effs s) (Q .normal) → wpList P ops.toArray Q l a w
  | [], j, s, effs, a, w, hl, _, _, hs, hK => by
    have := List.eq_nil_of_length_eq_zero hl
    subst this
    exact hK a w hs.1 hs.2
  | o :: r, j, s, effs, a, w, hl, hdid, hdst, hs, hK => by
    obtain ⟨hdf, ρ, hh⟩ := hs
    obtain ⟨e, Ce, h1, h2, h3⟩ := hdid 0 o rfl
    cases effs with
    | nil => cases h1
    | cons e' es =>
      simp at h1
      subst h1
      refine wpList_step fun K hKK => ?_
      refine did_sound hE hh hdf h2 h3 (fun _ _ => rfl) (fun _ _ _ => rfl) (fun _ _ _ => .inl rfl) (hdst o (by simp)) fun a' w' hd' ⟨ρ', hh'⟩ => hKK a' w' ?_
      refine run_text (d := d) hE r (j + 1) (applyE e' s) es a' w' (by simpa using hl) (fun i o' hi => ?_) (fun o' ho' => hdst o' (by simp [ho'])) ⟨hd', ρ', hh'⟩ hK
      obtain ⟨e2, Ce2, h4, h5, h6⟩ := hdid (i + 1) o' (by simpa using hi)
      refine ⟨e2, Ce2, by simpa using h4, ?_, h6⟩
      rw [show j + 1 + i = j + (i + 1) by omega]
      exact h5

end Go.Sx

/-
  Symbolic execution: a region that draws its order: in whatever order, the same state.
-/
namespace Go.Sx
set_option linter.all false
open Go.RowKit

variable {A : Type} {AI : Abs A} {G : Fr} {s : SS A} {ρ : Ev} {a : Act} {w : World} {P : Program}

/-- The state behind those operations (the first is number k) that are listed. -/
def stL : List (Eff A) → Nat → (Nat → Bool) → SS A → SS A
  | [], _, _, s => s
  | e :: r, k, L, s => stL r (k + 1) L (if L k then applyE e s else s)

theorem look_apply (e : Eff A) (s : SS A) (t : Nat) : look (applyE e s).tm t = if e.dst = some t then some e.v else look s.tm t := by
  unfold applyE putT
  cases hd : e.dst with
  | none => simp
  | some q =>
    simp only [look]
    by_cases hq : q = t
    · subst hq; simp
    · rw [show beqN q t = false by cases hb : beqN q t; rfl; exact absurd (beq_eq hb) hq]
      simp [hq]

theorem getC_putCs_out : ∀ (ids : List Nat) (H : List (Chunk A)) (cs : List (Chunk A)) (c : Nat), c ∉ ids → getC (putCs H ids cs) c = getC H c
  | [], H, cs, c, _ => by simp [putCs]
  | i :: r, H, [], c, _ => by simp [putCs]
  | i :: r, H, x :: cs, c, h => by
    simp only [List.mem_cons, not_or] at h
    simp only [putCs]
    rw [getC_putCs_out r _ cs c h.2, getC_putC, if_neg h.1]
theorem getC_putCs_congr : ∀ (ids : List Nat) (H H' : List (Chunk A)) (cs : List (Chunk A)) (c : Nat), getC H c = getC H' c → getC (putCs H ids cs) c = getC (putCs H' ids cs) c
  | [], H, H', cs, c, h => by simpa [putCs] using h
  | i :: r, H, H', [], c, h => by simpa [putCs] using h
  | i :: r, H, H', x :: cs, c, h => by
    simp only [putCs]
    refine getC_putCs_congr r _ _ cs c ?_
    rw [getC_putC, getC_putC, h]

theorem stL_slot (t : Nat) : ∀ (l : List (Eff A)) (k : Nat) (L L' : Nat → Bool) (s s' : SS A), look s.tm t = look s'.tm t → (∀ j e, l[j]? = some e → e.dst = some t → L (k + j) = L' (k + j)) → look (stL l k L s).tm t = look (stL l k L' s').tm t
  | [], _, _, _, _, _, h, _ => h
  | e :: r, k, L, L', s, s', h, hL => by
    simp only [stL]
    refine stL_slot t r (k + 1) L L' _ _ ?_ fun j e' hj hd => by have := hL (j + 1) e' (by simpa using hj) hd; rwa [show k + (j + 1) = k + 1 + j by omega] at this
    by_cases hd : e.dst = some t
    · have := hL 0 e rfl hd
      simp only [Nat.add_zero] at this
      rw [this]
      split
      · rw [look_apply, look_apply, if_pos hd, if_pos hd]
      · exact h
    · have h1 : ∀ b : Bool, ∀ s : SS A, look (if b = true then applyE e s else s).tm t = look s.tm t := by
        intro b s
        split
        · rw [look_apply, if_neg hd]
        · rfl
      rw [h1, h1]; exact h

theorem stL_chunk (c : Nat) : ∀ (l : List (Eff A)) (k : Nat) (L L' : Nat → Bool) (s s' : SS A), getC s.H c = getC s'.H c → (∀ j e, l[j]? = some e → c ∈ e.ids → L (k + j) = L' (k + j)) → getC (stL l k L s).H c = getC (stL l k L' s').H c
  | [], _, _, _, _, _, h, _ => h
  | e :: r, k, L, L', s, s', h, hL => by
    simp only [stL]
    refine stL_chunk c r (k + 1) L L' _ _ ?_ fun j e' hj hd => by have := hL (j + 1) e' (by simpa using hj) hd; rwa [show k + (j + 1) = k + 1 + j by omega] at this
    by_cases hd : c ∈ e.ids
    · have := hL 0 e rfl hd
      simp only [Nat.add_zero] at this
      rw [this]
      split
      · exact getC_putCs_congr _ _ _ _ _ h
      · exact h
    · have h1 : ∀ b : Bool, ∀ s : SS A, getC (if b = true then applyE e s else s).H c = getC s.H c := by
        intro b s
        split
        · exact getC_putCs_out _ _ _ _ hd
        · rfl
      rw [h1, h1]; exact h

/-- One more is listed: it may be carried out last, where none behind it that is listed writes what it writes. -/
theorem stL_add : ∀ (l : List (Eff A)) (k : Nat) (L : Nat → Bool) (s : SS A) (i : Nat) (e : Eff A), l[i]? = some e → L (k + i) = false →
    (∀ j e', i < j → l[j]? = some e' → L (k + j) = true → (∀ t, e.dst = some t → e'.dst ≠ some t) ∧ ∀ c ∈ e.ids, c ∉ e'.ids) →
    Same (stL l k (fun j => L j || beqN j (k + i)) s) (applyE e (stL l k L s))
  | [], _, _, _, _, _, h, _, _ => by cases h
  | x :: r, k, L, s, 0, e, h, hn, hc => by
    simp at h
    subst h
    simp only [Nat.add_zero] at hn
    simp only [stL, Nat.add_zero, hn]
    rw [if_pos (by simp), if_neg (by simp)]
    -- behind: the same listing
    have hsame : ∀ j, L (k + 1 + j) = ((fun j => L j || beqN j k) (k + 1 + j)) := by
      intro j
      have : beqN (k + 1 + j) k = false := by cases hb : beqN (k + 1 + j) k; rfl; have := beq_eq hb; omega
      simp only [this, Bool.or_false]
    have key : ∀ (q : List (Eff A)) (m : Nat) (L L' : Nat → Bool) (s : SS A), (∀ j, L (m + j) = L' (m + j)) →
        (∀ j e', q[j]? = some e' → L (m + j) = true → (∀ t, x.dst = some t → e'.dst ≠ some t) ∧ ∀ c ∈ x.ids, c ∉ e'.ids) → Same (stL q m L' (applyE x s)) (applyE x (stL q m L s)) := by
      intro q
      induction q with
      | nil => intro m L L' s _ _; exact ⟨fun _ => rfl, fun _ => rfl⟩
      | cons y q ih =>
        intro m L L' s hLL hq
        simp only [stL]
        have h0 := hLL 0
        simp only [Nat.add_zero] at h0
        rw [← h0]
        have ih' := fun s => ih (m + 1) L L' s (fun j => by have := hLL (j + 1); rwa [show m + (j + 1) = m + 1 + j by omega] at this)
          (fun j e' hj hl => hq (j + 1) e' (by simpa using hj) (by rwa [show m + (j + 1) = m + 1 + j by omega]))
        split
        · rename_i hl
          obtain ⟨h1, h2⟩ := hq 0 y rfl (by simpa using hl)
          have e1 : Same (stL q (m + 1) L' (applyE y (applyE x s))) (stL q (m + 1) L' (applyE x (applyE y s))) := by
            refine ⟨fun t => stL_slot t q _ _ _ _ _ ?_ fun _ _ _ _ => rfl, fun c => stL_chunk c q _ _ _ _ _ ?_ fun _ _ _ _ => rfl⟩
            · rw [look_apply, look_apply, look_apply, look_apply]
              by_cases hx : x.dst = some t
              · simp [h1 t hx, hx]
              · simp only [if_neg hx]
            · show getC (putCs (putCs s.H x.ids x.cs) y.ids y.cs) c = getC (putCs (putCs s.H y.ids y.cs) x.ids x.cs) c
              by_cases hx : c ∈ x.ids
              · rw [getC_putCs_out y.ids _ _ _ (h2 c hx)]
                exact getC_putCs_congr _ _ _ _ _ (getC_putCs_out y.ids _ _ _ (h2 c hx)).symm
              · rw [getC_putCs_out x.ids (putCs s.H y.ids y.cs) _ _ hx]
                exact getC_putCs_congr _ _ _ _ _ (getC_putCs_out x.ids _ _ _ hx)
          have e2 := ih' (applyE y s)
          exact ⟨fun t => (e1.1 t).trans (e2.1 t), fun c => (e1.2 c).trans (e2.2 c)⟩
        · exact ih' s
    exact key r (k + 1) L _ s hsame fun j e' hj hl => hc (j + 1) e' (by omega) (by simpa using hj) (by rwa [show k + (j + 1) = k + 1 + j by omega])
  | x :: r, k, L, s, i + 1, e, h, hn, hc => by
    simp only [stL]
    have hb : beqN k (k + (i + 1)) = false := by cases hb : beqN k (k + (i + 1)); rfl; have := beq_eq hb; omega
    simp only [hb, Bool.or_false]
    rw [show k + (i + 1) = k + 1 + i by omega]
    exact stL_add r (k + 1) L _ i e (by simpa using h) (by rw [show k + 1 + i = k + (i + 1) by omega]; exact hn) fun j e' hij hj hl => hc (j + 1) e' (by omega) (by simpa using hj) (by rwa [show k + (j + 1) = k + 1 + j by omega])

theorem stL_take : ∀ (l : List (Eff A)) (k i : Nat) (s : SS A), stL l k (fun j => bltN j (k + i)) s = runE (l.take i) s
  | [], k, i, s => by simp [stL, runE]
  | e :: r, k, 0, s => by
    have : ∀ (l : List (Eff A)) (m : Nat), k ≤ m → stL l m (fun j => bltN j (k + 0)) s = s := by
      intro l
      induction l with
      | nil => intro m _; rfl
      | cons e r ih =>
        intro m hm
        simp only [stL]
        have hb : bltN m (k + 0) = false := by
          cases hb : bltN m (k + 0); rfl; have := leN hb; omega
        rw [if_neg (by rw [hb]; simp)]
        exact ih (m + 1) (by omega)
    rw [this _ _ (Nat.le_refl _)]
    rfl
  | e :: r, k, i + 1, s => by
    simp only [stL]
    have hb : bltN k (k + (i + 1)) = true := geN (by omega)
    rw [if_pos hb]
    have := stL_take r (k + 1) i (applyE e s)
    rw [show k + 1 + i = k + (i + 1) by omega] at this
    simpa [runE] using this

/-! ### the static part -/
theorem maskOf_mem : ∀ {l : List Nat} {x : Nat}, x ∈ l → (maskOf l).testBit x = true
  | [], x, h => by cases h
  | i :: r, x, h => by
    simp only [maskOf, Nat.testBit_or, Bool.or_eq_true]
    rcases List.mem_cons.1 h with rfl | h
    · left; simp [Nat.testBit_shiftLeft]
    · right; exact maskOf_mem h
theorem ancO_bit {acc : List Nat} : ∀ {l : List Edge} {k : Nat}, (ancO acc l).testBit k = true → ∃ e ∈ l, Region.binds .any e = true ∧ (k = e.on ∨ ∃ q, acc[e.on]? = some q ∧ q.testBit k = true)
  | [], k, h => by simp [ancO] at h
  | e :: r, k, h => by
    simp only [ancO] at h
    split at h
    · rename_i hb
      simp only [Nat.testBit_or, Bool.or_eq_true] at h
      rcases h with (h | h) | h
      · refine ⟨e, by simp, hb, .inl ?_⟩
        simp only [Nat.testBit_shiftLeft, Bool.and_eq_true, decide_eq_true_eq] at h
        have h2 : k - e.on = 0 := by
          have := h.2
          rcases Nat.eq_zero_or_pos (k - e.on) with h0 | h0
          · exact h0
          · rw [Nat.testBit_eq_decide_div_mod_eq, Nat.div_eq_of_lt (Nat.one_lt_two_pow (by omega))] at this; simp at this
        have := h.1
        omega
      · split at h
        · rename_i q hq; rw [nth_eq] at hq; exact ⟨e, by simp, hb, .inr ⟨q, hq, h⟩⟩
        · simp at h
      · obtain ⟨e', h1, h2, h3⟩ := ancO_bit h
        exact ⟨e', by simp [h1], h2, h3⟩
    · obtain ⟨e', h1, h2, h3⟩ := ancO_bit h
      exact ⟨e', by simp [h1], h2, h3⟩

/-- Whoever waits for what is listed, all ahead of it are listed. -/
theorem ancs_listed {L : Nat → Bool} : ∀ (l : List Oper) (acc : List Nat), (∀ i (an : Nat), acc[i]? = some an → L i = true → ∀ k, an.testBit k = true → L k = true) →
    (∀ i o, l[i]? = some o → L (acc.length + i) = true → ∀ e ∈ o.after, Region.binds .any e = true → L e.on = true) →
    ∀ i (an : Nat), (ancs l acc)[i]? = some an → L i = true → ∀ k, an.testBit k = true → L k = true
  | [], acc, hacc, _ => fun i an h hl k hk => hacc i an h hl k hk
  | o :: r, acc, hacc, hl => by
    simp only [ancs]
    refine ancs_listed r _ (fun i an h hli k hk => ?_) (fun i o' h hli => ?_)
    · by_cases hi : i < acc.length
      · rw [List.getElem?_append_left hi] at h
        exact hacc i an h hli k hk
      · rw [List.getElem?_append_right (by omega)] at h
        have h0 : i - acc.length = 0 := by
          have := (List.getElem?_eq_some_iff.1 h).1; simp at this; omega
        rw [h0] at h
        simp at h
        subst h
        have hi' : i = acc.length := by omega
        subst hi'
        have h0 := hl 0 o rfl (by simpa using hli)
        obtain ⟨e, he, hb, h3⟩ := ancO_bit hk
        have h1 := h0 e (by simpa using he) hb
        rcases h3 with rfl | ⟨q, hq, h4⟩
        · exact h1
        · exact hacc _ q hq h1 k h4
    · refine hl (i + 1) o' (by simpa using h) ?_
      rw [← hli]; congr 1; simp; omega

theorem okRec_spec {an : Nat} {b : Rec} : ∀ {l : List Rec} {k : Nat}, okRec an b k l = true → ∀ i a, l[i]? = some a → an.testBit (k + i) = true ∨ clash a b = false
  | [], _, _, _, _, h => by simp at h
  | x :: r, k, h, i, a, hi => by
    simp only [okRec, Bool.and_eq_true, Bool.or_eq_true, Bool.not_eq_true'] at h
    cases i with
    | zero =>
      simp at hi
      subst hi
      exact h.1
    | succ i =>
      have := okRec_spec h.2 i a (by simpa using hi)
      rwa [show k + 1 + i = k + (i + 1) by omega] at this

theorem okRecs_spec : ∀ {ans : List Nat} {bs before : List Rec}, okRecs ans bs before = true → ∀ j b, bs[j]? = some b → ∃ an, ans[j]? = some an ∧ ∀ i a, i < before.length + j → (before ++ bs)[i]? = some a → an.testBit i = true ∨ clash a b = false
  | _, [], _, _, j, b, h => by simp at h
  | [], _ :: _, _, h, _, _, _ => by simp [okRecs] at h
  | an :: ans, x :: bs, before, h, j, b, hj => by
    simp only [okRecs, Bool.and_eq_true] at h
    cases j with
    | zero =>
      simp at hj
      subst hj
      refine ⟨an, rfl, fun i a hi ha => ?_⟩
      simp only [Nat.add_zero] at hi
      rw [List.getElem?_append_left hi] at ha
      have := okRec_spec h.1 i a ha
      rwa [Nat.zero_add] at this
    | succ j =>
      obtain ⟨an', h1, h2⟩ := okRecs_spec h.2 j b (by simpa using hj)
      refine ⟨an', by simpa using h1, fun i a hi ha => h2 i a (by simp; omega) ?_⟩
      simpa [List.append_assoc] using ha

theorem meets_false {a b : Nat} (h : meets a b = false) : ∀ x, a.testBit x = true → b.testBit x = false := by
  intro x hx
  unfold meets at h
  have h0 : a &&& b = 0 := beq_eq (by simpa using h)
  have h1 : (a &&& b).testBit x = false := by rw [h0]; simp
  rw [Nat.testBit_and, hx] at h1
  simpa using h1

/-- What two operations that do not clash leave to each other. -/
structure Apart (ops : List Oper) (o o' : Oper) (e e' : Eff A) : Prop where
  r1 : ∀ t, o.dst = some t → t ∉ readsOf ops o'
  r2 : ∀ t, o'.dst = some t → t ∉ readsOf ops o
  d : ∀ t, o.dst = some t → o'.dst ≠ some t
  c1 : ∀ c ∈ e.ids, c ∉ e'.hard
  c2 : ∀ c ∈ e'.ids, c ∉ e.hard

theorem recsOf_get : ∀ {ops l : List Oper} {q : List (List Nat × List Nat)} {i : Nat} {o : Oper} {x : List Nat × List Nat}, l[i]? = some o → q[i]? = some x → (recsOf ops l q)[i]? = some ⟨maskOf o.dst.toList, maskOf (readsOf ops o), maskOf x.1, maskOf x.2⟩
  | ops, [], q, i, o, x, h, _ => by simp at h
  | ops, y :: r, [], i, o, x, _, h => by simp at h
  | ops, y :: r, z :: q, 0, o, x, h, h' => by simp at h h'; subst h; subst h'; rfl
  | ops, y :: r, z :: q, i + 1, o, x, h, h' => by simpa [recsOf] using recsOf_get (ops := ops) (l := r) (q := q) (i := i) (by simpa using h) (by simpa using h')

theorem drawOk_apart {ops : List Oper} {effs : List (Eff A)} (h : drawOk ops (effs.map fun e => (e.ids, e.hard)) = true) {L : Nat → Bool} (hL : ∀ i o, ops[i]? = some o → L i = true → ∀ e ∈ o.after, Region.binds .any e = true → L e.on = true)
    {i j : Nat} {o o' : Oper} {e e' : Eff A} (hi : ops[i]? = some o) (hj : ops[j]? = some o') (hei : effs[i]? = some e) (hej : effs[j]? = some e') (hij : i < j) (hl : L i = false) (hlj : L j = true) : Apart ops o o' e e' := by
  unfold drawOk at h
  simp only [Bool.and_eq_true] at h
  obtain ⟨⟨⟨h1, h2⟩, h3⟩, h4⟩ := h
  have r1 := recsOf_get (ops := ops) hi (q := effs.map fun e => (e.ids, e.hard)) (x := (e.ids, e.hard)) (by simp [hei])
  have r2 := recsOf_get (ops := ops) hj (q := effs.map fun e => (e.ids, e.hard)) (x := (e'.ids, e'.hard)) (by simp [hej])
  obtain ⟨an, h5, h6⟩ := okRecs_spec h1 j _ r2
  have h7 := ancs_listed (L := L) ops [] (by simp) (fun i o h hl => hL i o h (by simpa using hl)) j an h5 hlj
  rcases h6 i _ (by simpa using hij) (by simpa using r1) with h8 | h8
  · have := h7 i h8; rw [hl] at this; cases this
  · simp only [clash, Bool.or_eq_false_iff] at h8
    obtain ⟨⟨⟨m1, m3⟩, m4⟩, m5⟩ := h8
    have no : ∀ {l : List Nat} {x : Nat}, (maskOf l).testBit x = false → x ∉ l := fun {l x} hb hx => by rw [maskOf_mem hx] at hb; cases hb
    have m1' : ∀ t, o.dst = some t → t ∉ readsOf ops o' ∧ t ∉ o'.dst.toList := fun t ht => by
      have h9 := meets_false m1 t (maskOf_mem (by simp [ht]))
      simp only [Nat.testBit_or, Bool.or_eq_false_iff] at h9
      exact ⟨no h9.1, no h9.2⟩
    refine ⟨fun t ht => (m1' t ht).1, fun t ht => no (meets_false m3 t (maskOf_mem (by simp [ht]))), fun t ht ht' => (m1' t ht).2 (by simp [ht']), fun c hc => no (meets_false m4 c (maskOf_mem hc)), fun c hc => no (meets_false m5 c (maskOf_mem hc))⟩

theorem ids_sub_looks {E : Env A} {ops : List Oper} {d : Dec} {s : SS A} {o : Oper} {j : Nat} {e : Eff A} {Ce : List (U Prop)} (h : OpDid E ops d s o j e Ce) : (∀ c ∈ e.ids, c ∈ e.hard) ∧ e.dst = o.dst := by
  cases h with
  | no => exact ⟨by simp, rfl⟩
  | yes p C v cs v' C2 =>
    unfold mkEff
    split
    · split
      · split
        · rename_i hp _; exact ⟨fun c hc => by show c ∈ p.ids; rw [hp]; simp only [List.mem_singleton] at hc; subst hc; exact List.mem_cons_self, rfl⟩
        · exact ⟨fun _ h => h, rfl⟩
      · exact ⟨fun _ h => h, rfl⟩
    · exact ⟨fun c hc => (by cases hc), rfl⟩

theorem eff_keep {E : Env A} {ops : List Oper} {d : Dec} {s : SS A} {o : Oper} {j : Nat} {e : Eff A} {Ce : List (U Prop)} (h : OpDid E ops d s o j e Ce) {c : Nat} (hk : keeps c e = true) (hc : c ∈ e.ids) :
    ∃ c', (∀ X : SS A, getC (applyE e X).H c = c') ∧ HdEq c' (getC s.H c) := by
  have hany : e.ids.any (beqN c) = true := List.any_eq_true.2 ⟨c, hc, beqN_self⟩
  unfold keeps at hk
  rw [hany] at hk
  dsimp only at hk
  split at hk <;> (try (cases hk; done))
  rename_i i r hids
  simp only [Bool.and_eq_true] at hk
  obtain ⟨⟨hk1, hk2⟩, hk3⟩ := hk
  have hk2 := beq_eq hk2
  subst hk2
  cases h with
  | no => cases hc
  | yes p C v cs v' C2 hg hp he hd =>
    have hw : p.w = true := by
      cases hw : p.w with
      | true => rfl
      | false => unfold mkEff at hk1; rw [hw] at hk1; cases hk1
    have ha : isAppE E o.op = false := by
      cases ha : isAppE E o.op with
      | false => rfl
      | true => unfold mkEff at hk1; rw [hw, ha] at hk1; dsimp only at hk1; split at hk1 <;> cases hk1
    have heq : mkEff (isAppE E o.op) (opKE E s.tm s.H.length o.op) o.dst v' p cs = ⟨o.dst, v', p.ids, cs, p.ids, false, beqN (opKE E s.tm s.H.length o.op) 2 && hdNest cs⟩ := by unfold mkEff; rw [hw, ha]
    rw [heq] at hk1 hids ⊢
    dsimp only at hk1 hids
    obtain ⟨hk4, _⟩ := Bool.and_eq_true_iff.1 hk1
    have hk4 := beq_eq hk4
    unfold opKE at hk4
    split at hk4
    rotate_left
    · cases hk4
    rename_i hn
    split at hk4
    rotate_left
    · cases hk4
    rename_i q hq
    have hpq : p = q := by
      unfold sop at hp
      rw [hn] at hp
      dsimp only at hp
      rw [hq] at hp
      cases hp; rfl
    subst hpq
    obtain ⟨i', j', c1, c2, h1, h2, h3⟩ := nest_keep hk4 hq he
    rw [h1] at hids
    cases hids
    have hne : c ≠ j' := fun e => by subst e; simp at hk3
    refine ⟨c1, fun X => ?_, h3⟩
    simp only [applyE, h1, h2, putCs]
    rw [getC_putC, if_neg hne, getC_putC, if_pos rfl]
theorem stL_soft (c : Nat) (x0 : Chunk A) : ∀ (l : List (Eff A)) (k : Nat) (L : Nat → Bool) (s : SS A), (∀ e ∈ l, c ∈ e.ids → ∃ c', (∀ X : SS A, getC (applyE e X).H c = c') ∧ HdEq c' x0) → (getC s.H c = x0 ∨ HdEq (getC s.H c) x0) → (getC (stL l k L s).H c = x0 ∨ HdEq (getC (stL l k L s).H c) x0)
  | [], _, _, _, _, h => h
  | e :: r, k, L, s, hl, h => by
    simp only [stL]
    refine stL_soft c x0 r (k + 1) L _ (fun e' he' => hl e' (List.mem_cons_of_mem _ he')) ?_
    split
    · by_cases hd : c ∈ e.ids
      · obtain ⟨c', h1, h2⟩ := hl e (List.mem_cons_self ..) hd
        exact .inr (by rw [h1]; exact h2)
      · rw [show getC (applyE e s).H c = getC s.H c from getC_putCs_out _ _ _ _ hd]; exact h
    · exact h
theorem soft_same {E : Env A} {ops : List Oper} {d : Dec} {s : SS A} {effs : List (Eff A)} {c : Nat} (hdid : ∀ (i : Nat) (e : Eff A), effs[i]? = some e → ∃ o Ce, OpDid E ops d (runE (effs.take i) s) o i e Ce) (hk : ∀ e ∈ effs, keeps c e = true) :
    ∀ (L : Nat → Bool), getC (stL effs 0 L s).H c = getC s.H c ∨ HdEq (getC (stL effs 0 L s).H c) (getC s.H c) := by
  have key : ∀ (j : Nat) (e : Eff A), effs[j]? = some e → c ∈ e.ids → ∃ c', (∀ X : SS A, getC (applyE e X).H c = c') ∧ HdEq c' (getC s.H c) := by
    intro j
    induction j using Nat.strongRecOn with
    | _ j ih =>
      intro e he hc
      obtain ⟨o, Ce, hd⟩ := hdid j e he
      obtain ⟨c', h1, h2⟩ := eff_keep hd (hk e (List.mem_of_getElem? he)) hc
      refine ⟨c', h1, ?_⟩
      have h3 := stL_soft c (getC s.H c) (effs.take j) 0 (fun m => bltN m (0 + j)) s (fun e' he' hc' => by
        obtain ⟨k, hk1, hk2⟩ := List.getElem_of_mem he'
        have hkj : k < j := by rw [List.length_take] at hk1; omega
        refine ih k hkj e' ?_ hc'
        rw [← hk2, List.getElem_take, List.getElem?_eq_getElem]) (.inl rfl)
      rw [stL_take, List.take_take, Nat.min_self] at h3
      rcases h3 with h3 | h3
      · rw [← h3]; exact h2
      · exact h2.trans h3
  intro L
  refine stL_soft c (getC s.H c) effs 0 L s (fun e he hc => ?_) (.inl rfl)
  obtain ⟨k, hk1, hk2⟩ := List.getElem_of_mem he
  exact key k e (by rw [← hk2, List.getElem?_eq_getElem]) hc
/-- A region that draws its order. -/
theorem run_draw {E : Env A} (hE : EnvOk P AI E) {opsA : Array Oper} {d : Dec} {s : SS A} {effs : List (Eff A)} {Q : Exit → Act → World → Prop} (hlen : effs.length = opsA.toList.length)
    (hdid : ∀ i o, opsA.toList[i]? = some o → ∃ e Ce, effs[i]? = some e ∧ OpDid E opsA.toList d (runE (effs.take i) s) o i e Ce ∧ ∀ C ∈ Ce, C ())
    (hokE : drawE opsA.toList effs = true) (hdst : ∀ o ∈ opsA.toList, ∀ t, o.dst = some t → t < G.size) (hK : Then AI G (runE effs s) (Q .normal)) :
    ∀ (fuel : Nat) (listed : Array Bool) (a : Act) (w : World), listed.size = opsA.size → (∀ i o, opsA.toList[i]? = some o → listed.getD i false = true → ∀ e ∈ o.after, Region.binds .any e = true → listed.getD e.on false = true) →
      opsA.size ≤ fuel + (listed.toList.filter id).length → Sat AI G (stL effs 0 (fun i => listed.getD i false) s) a w → wpAny P .any opsA Q fuel listed a w := by
  obtain ⟨hok, hsoft⟩ := Bool.and_eq_true_iff.1 hokE
  have hlt : ∀ i o, opsA.toList[i]? = some o → ∀ e ∈ o.after, Region.binds .any e = true → e.on < i := by
    intro i o ho e he hb
    unfold drawOk at hok
    simp only [Bool.and_eq_true] at hok
    have h1 := List.all_eq_true.1 hok.1.2 (o, i) (by rw [List.mem_zipIdx_iff_getElem?]; exact ho)
    have h2 := List.all_eq_true.1 h1 e (by simpa using he)
    simp only [hb, Bool.not_true, Bool.false_or] at h2
    exact leN h2
  -- where nobody is ready, all are listed
  have hall : ∀ listed : Array Bool, listed.size = opsA.size → Region.ready .any opsA listed = [] → ∀ i, i < opsA.size → listed.getD i false = true := by
    intro listed hsz hr i
    induction i using Nat.strongRecOn with
    | _ i ih =>
      intro hi
      cases hl : listed.getD i false with
      | true => rfl
      | false =>
        exfalso
        have ho : opsA[i]? = some opsA[i] := Array.getElem?_eq_getElem hi
        have hi' : i < listed.size := by omega
        have hgt : listed.getD i true = false := by simp [hi'] at hl ⊢; exact hl
        have hmem : i ∈ Region.ready .any opsA listed := mem_ready.2 ⟨hgt, _, ho, fun e he hb => ih e.on (hlt i opsA[i] (by simpa using ho) e he hb) (by have := hlt i opsA[i] (by simpa using ho) e he hb; omega)⟩
        rw [hr] at hmem; cases hmem
  have hend : ∀ (listed : Array Bool) (a : Act) (w : World), listed.size = opsA.size → Region.ready .any opsA listed = [] → Sat AI G (stL effs 0 (fun i => listed.getD i false) s) a w → Q .normal a w := by
    intro listed a w hsz hr hs
    have h1 := hall listed hsz hr
    have e1 : Same (stL effs 0 (fun i => listed.getD i false) s) (runE effs s) := by
      have h2 := stL_take effs 0 effs.length s
      rw [List.take_length] at h2
      rw [← h2]
      have h3 : ∀ j e, effs[j]? = some e → listed.getD (0 + j) false = bltN (0 + j) (0 + effs.length) := by
        intro j e hj
        have hj' := (List.getElem?_eq_some_iff.1 hj).1
        rw [Nat.zero_add, Nat.zero_add, h1 j (by rw [hlen] at hj'; simpa using hj')]
        exact (geN (by omega)).symm
      exact ⟨fun t => stL_slot t _ _ _ _ _ _ rfl fun j e hj _ => h3 j e hj, fun c => stL_chunk c _ _ _ _ _ _ rfl fun j e hj _ => h3 j e hj⟩
    obtain ⟨hd, ρ, hh⟩ := hs
    exact hK a w hd ⟨ρ, hh.same e1⟩
  intro fuel
  induction fuel with
  | zero =>
    intro listed a w hsz _ hf hs
    have hr : Region.ready .any opsA listed = [] := by
      cases hr : Region.ready .any opsA listed with
      | nil => rfl
      | cons i r =>
        exfalso
        have hi : i ∈ Region.ready .any opsA listed := by rw [hr]; simp
        obtain ⟨h1, o, h2, h3⟩ := mem_ready.1 hi
        have hi2 : i < listed.size := by have := (Array.getElem?_eq_some_iff.1 h2).1; omega
        have h4 : listed.toList[i]? = some false := by simp [hi2] at h1 ⊢; exact h1
        have h5 : (listed.toList.filter id).length < listed.toList.length := by
          rcases Nat.lt_or_ge (listed.toList.filter id).length listed.toList.length with h | h
          · exact h
          · exfalso
            have h6 := List.length_filter_le id listed.toList
            have h7 : listed.toList.filter id = listed.toList := (List.filter_sublist).eq_of_length (by omega)
            have h8 := List.filter_eq_self.1 h7 false (List.mem_of_getElem? h4)
            cases h8
        simp at h5 hf
        omega
    exact ⟨hr, hend listed a w hsz hr hs⟩
  | succ fuel ih =>
    intro listed a w hsz hcl hf hs
    refine ⟨fun hr => hend listed a w hsz hr hs, fun i hi => ?_⟩
    obtain ⟨hn, o, ho, hready⟩ := mem_ready.1 hi
    have hi1 : i < opsA.size := (Array.getElem?_eq_some_iff.1 ho).1
    have hi2 : i < listed.size := by omega
    have hnf : listed.getD i false = false := by simp [hi2] at hn ⊢; exact hn
    have hoL : opsA.toList[i]? = some o := by simpa using ho
    obtain ⟨e, Ce, he, hd, hCe⟩ := hdid i o hoL
    obtain ⟨hsub, hdste⟩ := ids_sub_looks hd
    obtain ⟨hdf, ρ, hh⟩ := hs
    have hset : ∀ j, (listed.setIfInBounds i true).getD j false = (listed.getD j false || beqN j (0 + i)) := by
      intro j
      by_cases hj : i = j
      · subst hj; simp [hi2]
      · rw [getD_set_ne false hj]
        have : beqN j (0 + i) = false := by cases hb : beqN j (0 + i); rfl; have := beq_eq hb; omega
        rw [this, Bool.or_false]
    have hcl' : ∀ k o', opsA.toList[k]? = some o' → (listed.setIfInBounds i true).getD k false = true → ∀ e' ∈ o'.after, Region.binds .any e' = true → (listed.setIfInBounds i true).getD e'.on false = true := by
      intro k o' hk hlk e' he' hb
      by_cases hki : i = k
      · subst hki
        rw [hoL] at hk
        cases hk
        exact getD_set_true (hready e' he' hb)
      · rw [getD_set_ne false hki] at hlk
        exact getD_set_true (hcl k o' hk hlk e' he' hb)
    -- two that are listed otherwise than the text has it do not clash
    have apart_after : ∀ j o' e', i < j → opsA.toList[j]? = some o' → effs[j]? = some e' → listed.getD j false = true → Apart opsA.toList o o' e e' := fun j o' e' hij hj hej hl =>
      drawOk_apart hok (L := fun k => listed.getD k false) hcl hoL hj he hej hij hnf hl
    have apart_before : ∀ j o' e', j < i → opsA.toList[j]? = some o' → effs[j]? = some e' → listed.getD j false = false → Apart opsA.toList o' o e' e := fun j o' e' hij hj hej hl =>
      drawOk_apart hok (L := fun k => (listed.setIfInBounds i true).getD k false) hcl' hj hoL hej he hij (by rw [getD_set_ne false (by omega)]; exact hl) (by simp [hi2])
    have hop : ∀ {j : Nat} {e' : Eff A}, effs[j]? = some e' → ∃ o', opsA.toList[j]? = some o' ∧ e'.dst = o'.dst ∧ ∀ c ∈ e'.ids, c ∈ e'.hard := by
      intro j e' hj
      have hj' := (List.getElem?_eq_some_iff.1 hj).1
      have h1 : opsA.toList[j]? = some (opsA.toList[j]'(by omega)) := List.getElem?_eq_getElem _
      obtain ⟨e2, Ce2, h2, h3, _⟩ := hdid j _ h1
      rw [hj] at h2
      cases h2
      obtain ⟨h4, h5⟩ := ids_sub_looks h3
      exact ⟨_, h1, h5, h4⟩
    have hslots : ∀ t ∈ readsOf opsA.toList o, look (stL effs 0 (fun i => listed.getD i false) s).tm t = look (runE (effs.take i) s).tm t := by
      intro t ht
      rw [← stL_take effs 0 i s]
      refine stL_slot t _ _ _ _ _ _ rfl fun j e' hj hdj => ?_
      obtain ⟨o', h1, h2, _⟩ := hop hj
      rw [h2] at hdj
      rw [Nat.zero_add, Nat.zero_add]
      rcases Nat.lt_trichotomy j i with hji | hji | hji
      · rw [show bltN j i = true from geN hji]
        cases hl : listed.getD j false with
        | true => rfl
        | false => exact absurd ht ((apart_before j o' e' hji h1 hj hl).r1 t hdj)
      · subst hji
        rw [hnf]
        cases hb : bltN j j with
        | false => rfl
        | true => have := leN hb; omega
      · have : bltN j i = false := by cases hb : bltN j i; rfl; have := leN hb; omega
        rw [this]
        cases hl : listed.getD j false with
        | false => rfl
        | true => exact absurd ht ((apart_after j o' e' hji h1 hj hl).r2 t hdj)
    have hchunks : ∀ c ∈ e.hard, getC (stL effs 0 (fun i => listed.getD i false) s).H c = getC (runE (effs.take i) s).H c := by
      intro c hc
      rw [← stL_take effs 0 i s]
      refine stL_chunk c _ _ _ _ _ _ rfl fun j e' hj hdj => ?_
      obtain ⟨o', h1, _, _⟩ := hop hj
      rw [Nat.zero_add, Nat.zero_add]
      rcases Nat.lt_trichotomy j i with hji | hji | hji
      · rw [show bltN j i = true from geN hji]
        cases hl : listed.getD j false with
        | true => rfl
        | false => exact absurd hc ((apart_before j o' e' hji h1 hj hl).c1 c hdj)
      · subst hji
        rw [hnf]
        cases hb : bltN j j with
        | false => rfl
        | true => have := leN hb; omega
      · have : bltN j i = false := by cases hb : bltN j i; rfl; have := leN hb; omega
        rw [this]
        cases hl : listed.getD j false with
        | false => rfl
        | true => exact absurd hc ((apart_after j o' e' hji h1 hj hl).c2 c hdj)
    have hsofts : e.soft = true → ∀ c ∈ e.looks, getC (stL effs 0 (fun i => listed.getD i false) s).H c = getC (runE (effs.take i) s).H c ∨ HdEq (getC (stL effs 0 (fun i => listed.getD i false) s).H c) (getC (runE (effs.take i) s).H c) := by
      intro hs c hc
      have hkp : ∀ e' ∈ effs, keeps c e' = true := by
        have h1 := List.all_eq_true.1 hsoft e (List.mem_of_getElem? he)
        rw [hs] at h1
        simp only [Bool.not_true, Bool.false_or] at h1
        exact fun e' he' => List.all_eq_true.1 (List.all_eq_true.1 h1 c hc) e' he'
      have hdid' : ∀ (i : Nat) (e : Eff A), effs[i]? = some e → ∃ o Ce, OpDid E opsA.toList d (runE (effs.take i) s) o i e Ce := fun i e hi => by
        have hi' := (List.getElem?_eq_some_iff.1 hi).1
        obtain ⟨e2, Ce2, h2, h3, _⟩ := hdid i _ (List.getElem?_eq_getElem (show i < opsA.toList.length by omega))
        rw [hi] at h2
        cases h2
        exact ⟨_, _, h3⟩
      have h1 := soft_same hdid' hkp (fun i => listed.getD i false)
      have h2 := soft_same hdid' hkp (fun j => bltN j (0 + i))
      rw [stL_take] at h2
      rcases h1 with h1 | h1 <;> rcases h2 with h2 | h2
      · exact .inl (h1.trans h2.symm)
      · exact .inr (by rw [h1]; exact h2.symm)
      · exact .inr (by rw [h2]; exact h1)
      · exact .inr (h1.trans h2.symm)
    have hadd := stL_add effs 0 (fun i => listed.getD i false) s i e he (by rw [Nat.zero_add]; exact hnf) (fun j e' hij hj hl => by
      rw [Nat.zero_add] at hl
      obtain ⟨o', h1, h2, h3⟩ := hop hj
      have hap := apart_after j o' e' hij h1 hj hl
      exact ⟨fun t ht => by rw [h2]; exact hap.d t (hdste ▸ ht), fun c hc hc' => hap.c1 c hc (h3 c hc')⟩)
    have hres := did_sound hE hh hdf hd hCe hslots (fun hs c hc => hchunks c (by unfold Eff.hard; rw [hs]; exact hc)) hsofts (hdst o (List.mem_of_getElem? hoL)) (Q := Q) (K := wpAny P .any opsA Q fuel (listed.setIfInBounds i true)) (fun a' w' hdf' ⟨ρ', hh'⟩ => by
      refine ih (listed.setIfInBounds i true) a' w' (by simpa using hsz) hcl' ?_ ⟨hdf', ρ', ?_⟩
      · have : ((listed.setIfInBounds i true).toList.filter id).length = (listed.toList.filter id).length + 1 := by
          have h4 : listed.toList[i]? = some false := by simp [hi2] at hn ⊢; exact hn
          simp only [Array.toList_setIfInBounds]
          have key : ∀ (l : List Bool) (i : Nat), l[i]? = some false → ((l.set i true).filter id).length = (l.filter id).length + 1 := by
            intro l
            induction l with
            | nil => intro i h; simp at h
            | cons x r ih =>
              intro i h
              cases i with
              | zero => simp at h; subst h; simp
              | succ i =>
                have := ih i (by simpa using h)
                cases x <;> simp [this]
          exact key _ _ h4
        omega
      · have e2 : (fun k => (listed.setIfInBounds i true).getD k false) = fun k => listed.getD k false || beqN k (0 + i) := funext hset
        rw [e2]
        exact hh'.same ⟨fun t => (hadd.1 t).symm, fun c => (hadd.2 c).symm⟩)
    unfold wpOp
    rw [ho]
    dsimp only
    rw [show opsA.toList.toArray = opsA from by simp] at hres
    split
    · rename_i hw; rw [if_pos hw] at hres; exact .inl hres
    · rename_i hw; rw [if_neg hw] at hres; exact hres

end Go.Sx
