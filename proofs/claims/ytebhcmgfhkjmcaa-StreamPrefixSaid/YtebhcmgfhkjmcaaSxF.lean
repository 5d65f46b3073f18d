/-
  Symbolic execution: indexes, slice expressions, conversions, min and max, literals.
-/
import Derived.Test.YtebhcmgfhkjmcaaSxE
namespace Go.Sx
set_option linter.all false
set_option linter.unusedVariables false
set_option linter.unusedSimpArgs false
set_option linter.unusedSectionVars false
open Go.RowKit

variable {A : Type} {AI : Abs A} {G : Fr} {s : SS A} {ρ : Ev} {a : Act} {w : World} {P : Program}

def elemOfK : TK → Option TypeId
  | .slice e _ => some e
  | .array _ e => some e
  | _ => none

theorem litNat_den {x : SV} {j : Nat} (h : litNat x = some j) {u : Value} (hu : Den ρ x u) : ∃ k, u = .int k (j : Int) := by
  unfold litNat at h
  split at h
  · cases h; exact ⟨_, hu⟩
  · cases h

theorem index_sound {t : TypeId} {i : TI} (hT : TIfact P t i) (h : Holds AI G s ρ a.tmps w) {esz : Nat} (hz : ∀ e, elemOfK i.kind = some e → (Go.sizeOf e).run P w = .ok esz w) {x ix : SV} {u j : Value} (hx : Den ρ x u) (hj : Den ρ ix j) {p : Plan A} (hp : indexP i esz x ix = some p) {d : List Bool} {C : U Prop} {v : SV} {cs : List (Chunk A)}
    (he : p.eff (getCs s.H p.ids) d = .done C v cs) (hC : C ()) : Looks s p cs ∧ ∃ y, (Instr.indexAt t u j).run P w = .ok y w ∧ Den ρ v y := by
  have hk := hT.kind
  unfold indexP at hp
  split at hp
  · rename_i n e ho
    rw [ho] at hk hz
    obtain ⟨hu, _⟩ := hk
    have hz := hz e rfl
    split at hp
    · rename_i m hm
      obtain ⟨kk, rfl⟩ := litNat_den hm hj
      split at hp
      · rename_i hlt
        have hlt : m < n := by have := leN hlt; omega
        have key : ∀ q : Addr, (Instr.indexAt t (.pointer (some q)) (.int kk (m : Int))).run P w = .ok (.pointer (some (q.add (m * esz)))) w := by
          intro q
          have h1 : (0 : Int) ≤ m ∧ (m : Int) < (n : Int) := by omega
          simp [Instr.indexAt, asIntOf, run_underlying hu, Instr.sureAddr, h1, hz, hlt]
        split at hp
        · cases hp
          simp at he
          obtain ⟨rfl, rfl, rfl⟩ := he
          obtain ⟨b, e1, rfl⟩ := hx
          exact ⟨rfl, _, key _, b, e1, by rw [add_lit]⟩
        · cases hp
          simp at he
          obtain ⟨rfl, rfl, rfl⟩ := he
          obtain ⟨b, o', rfl, e1⟩ := hx
          exact ⟨rfl, _, key _, b, o', by rw [add_lit, Nat.add_assoc], e1⟩
        · cases hp
          simp at he
          obtain ⟨rfl, rfl, rfl⟩ := he
          obtain ⟨q, rfl, e1, e2⟩ := hx
          refine ⟨rfl, _, key _, _, rfl, e1, fun ev => ?_⟩
          obtain ⟨e3, b2, o2, len, cap, e4, rfl⟩ := e2 ev
          exact ⟨e3, b2, o2, len, cap, e4, by rw [add_lit, Nat.add_assoc]⟩
        · cases hp
      · cases hp
    · cases hp
  · rename_i e ty ho
    rw [ho] at hk hz
    obtain ⟨hu, _⟩ := hk
    have hz := hz e rfl
    split at hp
    · rename_i kk k hkk
      have hj := ivalS_den hkk hj
      subst hj
      have key : ∀ (q : Addr) (len cap : Nat), 0 ≤ k () ∧ k () < len → (Instr.indexAt t (.slice (some q) len cap) (.int kk (k ()))).run P w = .ok (.pointer (some (q.add ((k ()).toNat * esz)))) w := by
        intro q len cap h1
        simp [Instr.indexAt, asIntOf, run_underlying hu, h1, hz]
      split at hp
      · rename_i e' L
        split at hp
        · rename_i hb
          have hb := beq_eq hb
          subst hb
          cases hp
          simp at he
          obtain ⟨rfl, rfl, rfl⟩ := he
          obtain ⟨ao, cap, rfl, h2, h3⟩ := hx
          have hk' : (k ()).toNat < (L ()).length := by have := hC.1; have := hC.2; omega
          obtain ⟨b, off, rfl, h4⟩ := h3 (by omega)
          refine ⟨rfl, _, key _ _ _ hC, b, off + (k ()).toNat * e'.size, by simp [add_lit], hC.1, hC.2, fun x hx => ?_⟩
          exact h4 _ _ hx
        · cases hp
      · rename_i i' ver
        cases hp
        simp only [getCs] at he
        have hc := h.ch i'
        generalize hg : getC s.H i' = c at he hc
        cases c <;> simp at he
        rename_i rt e' ver' L
        split at he <;> (try simp at he)
        rename_i hb
        obtain ⟨hb1, hb2⟩ := Bool.and_eq_true_iff.1 hb
        have hb1 := beq_eq hb1
        have hb2 := beq_eq hb2
        subst hb1; subst hb2
        obtain ⟨rfl, rfl, rfl⟩ := he
        obtain ⟨h2, h3⟩ := hc
        obtain ⟨_, h1, h4⟩ := hx
        have h4 := h4 h2
        subst h4
        refine ⟨by simp [Looks, getCs, hg], ?_⟩
        rcases h3 with ⟨_, h3, _⟩ | ⟨b', off', cap', h5, _⟩
        · exfalso; have := hC.1; have := hC.2; rw [h3] at this; simp at this; omega
        · rw [h5]
          exact ⟨_, key _ _ _ hC, _, rfl, h1, fun _ => ⟨hC.1, b', off', _, cap', h5, by simp [add_lit]⟩⟩
      · cases hp
    · cases hp
  · cases hp

theorem run_bytesToString_list {b off len cap : Nat} {l : List Int} (hl : l.length = len) (hc : ∀ (j : Nat) x, l[j]? = some x → w.cell? ⟨b, off + j, none⟩ = some (.int .u8 x)) :
    (Conv.bytesToString (.slice (some ⟨b, off, none⟩) len cap)).run P w = .ok (.string ⟨(l.map fun x => x.toNat.toUInt8).toArray⟩) w := by
  have h1 := run_loadCells_list (P := P) w ⟨b, off, none⟩ (l.map (Value.int .u8)) (fun j v h => by
    rw [add_lit]
    simp only [List.getElem?_map, Option.map_eq_some_iff] at h
    obtain ⟨x, hx, rfl⟩ := h
    exact hc j x hx)
  rw [List.length_map, hl] at h1
  rw [run_bytesToString w _ len cap l h1]
  congr 2
  have key : ∀ (l : List Int) (r : ByteArray), l.foldl (fun r n => r.push (UInt8.ofNat n.toNat)) r = ⟨r.data ++ (l.map fun x => x.toNat.toUInt8).toArray⟩ := by
    intro l
    induction l with
    | nil => intro r; cases r; simp
    | cons x r ih =>
      intro q
      rw [List.foldl_cons, ih]
      cases q
      simp [ByteArray.push]
  rw [key]
  simp [ByteArray.empty, ByteArray.emptyWithCapacity]
  rfl

theorem convert_sound {ts td : TypeId} {i j : TI} (hS : TIfact P ts i) (hT : TIfact P td j) (h : Holds AI G s ρ a.tmps w) {x : SV} {u : Value} (hx : Den ρ x u) {p : Plan A} (hp : convertP i j x = some p) {d : List Bool} {C : U Prop} {v : SV} {cs : List (Chunk A)}
    (he : p.eff (getCs s.H p.ids) d = .done C v cs) (hC : C ()) (hsl : (∃ ao l c, u = .slice ao l c) → ∃ e, P.underlying ts = some (.slice e) ∧ P.underlying e = some (.int .u8)) (hint : (∃ k n, u = .int k n) → ∃ d, P.underlying ts = some d) (hst : (∃ l, u = .string l) → P.underlying ts = some .string) :
    Looks s p cs ∧ ∃ y, (convert ts td u).run P w = .ok y w ∧ Den ρ v y := by
  have hk := hT.kind
  unfold convertP at hp
  split at hp
  · rename_i k' k n ho
    rw [ho] at hk
    cases hf : fit k' n with
    | mk C' v' =>
      rw [hf] at hp
      cases hp
      simp at he
      obtain ⟨rfl, rfl, rfl⟩ := he
      cases hx
      obtain ⟨d', hd'⟩ := hint ⟨_, _, rfl⟩
      refine ⟨rfl, _, ?_, fit_den hf hC⟩
      simp [convert, run_underlying hd', run_underlying hk, Conv.intToInt]
  · rename_i k' k n ho
    rw [ho] at hk
    cases hf : fit k' (fun _ => n) with
    | mk C' v' =>
      rw [hf] at hp
      cases hp
      simp at he
      obtain ⟨rfl, rfl, rfl⟩ := he
      cases hx
      obtain ⟨d', hd'⟩ := hint ⟨_, _, rfl⟩
      refine ⟨rfl, _, ?_, fit_den hf hC⟩
      simp [convert, run_underlying hd', run_underlying hk, Conv.intToInt]
  · rename_i l ho
    rw [ho] at hk
    cases hp
    simp at he
    obtain ⟨rfl, rfl, rfl⟩ := he
    have hx := showsB_iff.2 hx
    obtain ⟨ao, cap, rfl, h1, h2⟩ := hx
    obtain ⟨e, hu, hu8⟩ := hsl ⟨_, _, _, rfl⟩
    refine ⟨rfl, _, ?_, rfl⟩
    cases ao with
    | none =>
      have : l () = [] := by
        rcases Nat.eq_zero_or_pos (l ()).length with h0 | h0
        · exact List.eq_nil_of_length_eq_zero h0
        · obtain ⟨b, off, h3, _⟩ := h2 h0; cases h3
      simp [convert, run_underlying hu, run_underlying hk, run_underlying hu8, Conv.bytesToString, this, ByteArray.empty, ByteArray.emptyWithCapacity]
      rfl
    | some q =>
      rcases Nat.eq_zero_or_pos (l ()).length with h0 | h0
      · have e0 := List.eq_nil_of_length_eq_zero h0
        have h3 := run_loadCells_list (P := P) w q [] (by simp)
        have h4 := run_bytesToString w q 0 cap [] (by simpa using h3)
        simp [convert, run_underlying hu, run_underlying hk, run_underlying hu8, e0, h4, ByteArray.empty, ByteArray.emptyWithCapacity]
        rfl
      · obtain ⟨b, off, h3, h4⟩ := h2 h0
        cases h3
        have h5 := run_bytesToString_list (P := P) (w := w) (cap := cap) rfl (fun j x hj => (h.im _ _ _ (h4 j x hj)).1)
        simp [convert, run_underlying hu, run_underlying hk, run_underlying hu8, h5]
  · rename_i ho
    rw [ho] at hk
    cases hp
    simp at he
    obtain ⟨rfl, rfl, rfl⟩ := he
    cases hx
    obtain ⟨e, hu, hu8⟩ := hsl ⟨_, _, _, rfl⟩
    refine ⟨rfl, _, ?_, rfl⟩
    simp [convert, run_underlying hu, run_underlying hk, run_underlying hu8, Conv.bytesToString, ByteArray.empty, ByteArray.emptyWithCapacity]
    rfl
  · rename_i l ho
    rw [ho] at hk
    cases hp
    simp at he
    obtain ⟨rfl, rfl, rfl⟩ := he
    cases hx
    have hu := hst ⟨_, rfl⟩
    exact ⟨rfl, _, by simp [convert, run_underlying hu, run_underlying hk], rfl⟩
  · rename_i i' ver ho
    rw [ho] at hk
    cases hp
    simp only [getCs] at he
    have hc := h.ch i'
    generalize hg : getC s.H i' = c at he hc
    cases c <;> (try (simp at he; done))
    rename_i rt e' ver' L
    cases e'
    case int k =>
      cases k <;> (try (simp at he; done))
      dsimp only at he
      split at he <;> (try simp at he)
      rename_i hb
      have hb := beq_eq hb
      subst hb
      obtain ⟨rfl, rfl, rfl⟩ := he
      obtain ⟨h2, h3⟩ := hc
      obtain ⟨h6, h1, h4⟩ := hx
      obtain ⟨e, hu, hu8⟩ := hsl h6
      have h4 := h4 h2
      subst h4
      refine ⟨by simp [Looks, getCs, hg], _, ?_, rfl⟩
      rcases h3 with ⟨⟨ao, h3⟩, h5, _⟩ | ⟨b', off', cap', h5, _, _, _, h7, _⟩
      · rw [h3]
        cases ao with
        | some q =>
          have h3 := run_loadCells_list (P := P) w q [] (by simp)
          have h4 := run_bytesToString w q 0 0 [] (by simpa using h3)
          simp [convert, run_underlying hu, run_underlying hk, run_underlying hu8, h5, h4, ByteArray.empty, ByteArray.emptyWithCapacity]
          rfl
        | none =>
        simp [convert, run_underlying hu, run_underlying hk, run_underlying hu8, Conv.bytesToString, ByteArray.empty, ByteArray.emptyWithCapacity, h5]
        rfl
      · rw [h5]
        have h8 := run_bytesToString_list (P := P) (w := w) (cap := cap') rfl (fun j x hj => by have := h7 j x hj; simpa [CellsM, Ty.size] using this)
        simp [convert, run_underlying hu, run_underlying hk, run_underlying hu8, h8]
    all_goals simp at he
  · rename_i i' ver esz lo n ho
    rw [ho] at hk
    cases hp
    simp only [getCs] at he
    have hc := h.ch i'
    generalize hg : getC s.H i' = c at he hc
    cases c <;> (try (simp at he; done))
    rename_i rt e' ver' L
    cases e'
    case int k =>
      cases k <;> (try (simp at he; done))
      dsimp only at he
      split at he <;> (try simp at he)
      rename_i hb
      obtain ⟨hb, hbz⟩ := Bool.and_eq_true_iff.1 hb
      have hb := beq_eq hb
      have hbz := beq_eq hbz
      subst hb; subst hbz
      obtain ⟨rfl, rfl, rfl⟩ := he
      obtain ⟨h2, h3⟩ := hc
      obtain ⟨h6, h0, h1, h4⟩ := hx
      obtain ⟨e, hu, hu8⟩ := hsl h6
      have h4 := h4 h2
      obtain ⟨ao, len, cap, h7, h8, h9, h10, h11, rfl⟩ := h4
      refine ⟨by simp [Looks, getCs, hg], _, ?_, rfl⟩
      have hn : ∀ q : Option Addr, n () = 0 → (convert ts td (.slice q 0 (cap - (lo ()).toNat))).run P w = .ok (.string ⟨(([] : List Int).map fun x => x.toNat.toUInt8).toArray⟩) w := by
        intro q _
        cases q with
        | some q =>
          have h3 := run_loadCells_list (P := P) w q [] (by simp)
          have h4 := run_bytesToString w q 0 (cap - (lo ()).toNat) [] (by simpa using h3)
          simp [convert, run_underlying hu, run_underlying hk, run_underlying hu8, h4, ByteArray.empty, ByteArray.emptyWithCapacity]
          rfl
        | none =>
          simp [convert, run_underlying hu, run_underlying hk, run_underlying hu8, Conv.bytesToString, ByteArray.empty, ByteArray.emptyWithCapacity]
          rfl
      by_cases hz : n () = 0
      · have hz' : (n ()).toNat = 0 := by omega
        have := hn (if cap = (lo ()).toNat then ao else ao.map (·.add ((lo ()).toNat * 1))) hz
        simpa [hz'] using this
      · rcases h3 with ⟨⟨ao', h3⟩, h5, _⟩ | ⟨b', off', cap', h5, _, _, _, h12, _⟩
        · rw [h7] at h3; cases h3; omega
        · rw [h7] at h5
          cases h5
          rw [if_neg (by omega)]
          have hlen : (((L ()).drop (lo ()).toNat).take (n ()).toNat).length = (n ()).toNat := by rw [List.length_take, List.length_drop]; omega
          have h13 := run_bytesToString_list (P := P) (w := w) (b := b') (off := off' + (lo ()).toNat) (cap := cap - (lo ()).toNat) hlen (fun j x hj => by
            rw [List.getElem?_take] at hj
            split at hj
            · rw [List.getElem?_drop] at hj
              have := h12 _ x hj
              simpa [CellsM, Ty.size, Nat.add_assoc] using this
            · cases hj)
          simp [add_lit, convert, run_underlying hu, run_underlying hk, run_underlying hu8, h13]
    all_goals simp at he
  · cases hp

theorem run_sliceBound (kk : IntKind) {n : Int} {y : Nat} (c : BoundsCode) (h0 : 0 ≤ n) (h1 : n ≤ y) : (Instr.sliceBound (.int kk n) y c).run P w = .ok n.toNat w := by
  simp [Instr.sliceBound, asIntOf, h0, h1]

/-- The value of an optional bound. -/
def OptDen (ρ : Ev) : Option SV → Option Value → Prop
  | none, none => True
  | some x, some v => Den ρ x v
  | _, _ => False

theorem intArg_den {x : Option SV} {y : Option (U Int)} (h : intArg x = some y) {v : Option Value} (hv : OptDen ρ x v) :
    (y = none ∧ v = none) ∨ ∃ k n, y = some n ∧ v = some (.int k (n ())) := by
  cases x with
  | none => cases v with
    | none => cases h; exact .inl ⟨rfl, rfl⟩
    | some v => cases hv
  | some x => cases v with
    | none => cases hv
    | some v =>
      simp only [intArg] at h
      split at h
      · rename_i k n hk
        cases h
        exact .inr ⟨k, n, rfl, by rw [ivalS_den hk hv]⟩
      · cases h

theorem run_slice_slice {t e : TypeId} {esz : Nat} (hu : P.underlying t = some (.slice e)) (hz : (Go.sizeOf e).run P w = .ok esz w) {ao : Option Addr} {len cap : Nat} (hlc : len ≤ cap)
    {lo hi : Option SV} {lv hv : Option Value} {lo' hi' : Option (U Int)} (h1 : intArg lo = some lo') (h2 : intArg hi = some hi') (d1 : OptDen ρ lo lv) (d2 : OptDen ρ hi hv)
    (n : U Int) (hn : n () = len) (c0 : 0 ≤ loOf lo' ()) (c1 : loOf lo' () ≤ hiOf hi' n ()) (c2 : hiOf hi' n () ≤ len) :
    (Instr.sliceAt t (.slice ao len cap) lv hv none).run P w =
      .ok (.slice (if cap = (loOf lo' ()).toNat then ao else ao.map (·.add ((loOf lo' ()).toNat * esz))) (hiOf hi' n () - loOf lo' ()).toNat (cap - (loOf lo' ()).toNat)) w := by
  have hb : (Instr.sliceBounds true len cap lv hv none).run P w = .ok ((loOf lo' ()).toNat, (hiOf hi' n ()).toNat, cap) w := by
    rcases intArg_den h1 d1 with ⟨rfl, rfl⟩ | ⟨k1, n1, rfl, rfl⟩ <;> rcases intArg_den h2 d2 with ⟨rfl, rfl⟩ | ⟨k2, n2, rfl, rfl⟩ <;> simp only [loOf, hiOf] at c0 c1 c2 ⊢
    · simp [Instr.sliceBounds, hn]
    · have e2 := run_sliceBound (P := P) (w := w) k2 (n := n2 ()) (y := cap) .sliceAcap (by omega) (by omega)
      simp [Instr.sliceBounds, e2]
    · have e1 := run_sliceBound (P := P) (w := w) k1 (n := n1 ()) (y := len) .sliceB c0 (by omega)
      simp [Instr.sliceBounds, e1, hn]
    · have e2 := run_sliceBound (P := P) (w := w) k2 (n := n2 ()) (y := cap) .sliceAcap (by omega) (by omega)
      have e1 := run_sliceBound (P := P) (w := w) k1 (n := n1 ()) (y := (n2 ()).toNat) .sliceB c0 (by omega)
      simp [Instr.sliceBounds, e1, e2]
  have e3 : (hiOf hi' n ()).toNat - (loOf lo' ()).toNat = (hiOf hi' n () - loOf lo' ()).toNat := by omega
  simp [Instr.sliceAt, Instr.slice, run_underlying hu, hb, hz, e3]

theorem slice_sound {t : TypeId} {i : TI} (hT : TIfact P t i) (h : Holds AI G s ρ a.tmps w) {esz : Nat} (hz : ∀ e, elemOfK i.kind = some e → (Go.sizeOf e).run P w = .ok esz w) {x : SV} {lo hi mx : Option SV} {u : Value} {lv hv mv : Option Value}
    (hx : Den ρ x u) (d1 : OptDen ρ lo lv) (d2 : OptDen ρ hi hv) (d3 : OptDen ρ mx mv) {p : Plan A} (hp : sliceP i esz x lo hi mx = some p) {d : List Bool} {C : U Prop} {v : SV} {cs : List (Chunk A)}
    (he : p.eff (getCs s.H p.ids) d = .done C v cs) (hC : C ()) : Looks s p cs ∧ ∃ y, (Instr.sliceAt t u lv hv mv).run P w = .ok y w ∧ Den ρ v y := by
  have hk := hT.kind
  unfold sliceP at hp
  split at hp
  · rename_i e ty ho
    rw [ho] at hk hz
    obtain ⟨hu, _⟩ := hk
    have hz := hz e rfl
    have : mv = none := by cases mv with
      | none => rfl
      | some _ => cases d3
    subst this
    split at hp
    · rename_i lo' h1
      split at hp
      · rename_i hi' h2
        split at hp
        · rename_i e' L
          split at hp
          · cases hp
          · rename_i hb
            have hb := beq_eq hb
            subst hb
            cases hp
            simp at he
            obtain ⟨rfl, rfl, rfl⟩ := he
            obtain ⟨ao, cap, rfl, hlc, h3⟩ := hx
            obtain ⟨c0, c1, c2⟩ := hC
            refine ⟨rfl, _, run_slice_slice hu hz hlc h1 h2 d1 d2 _ rfl c0 c1 c2, ?_⟩
            generalize loOf lo' = l at *
            generalize hiOf hi' (fun _ => ((L ()).length : Int)) = hh at *
            have hlen : (((L ()).take (hh ()).toNat).drop (l ()).toNat).length = (hh () - l ()).toNat := by rw [List.length_drop, List.length_take]; omega
            refine ⟨_, _, by rw [hlen], by rw [hlen]; omega, fun hpos => ?_⟩
            rw [hlen] at hpos
            obtain ⟨b, off, rfl, h4⟩ := h3 (by omega)
            rw [if_neg (by omega)]
            refine ⟨b, off + (l ()).toNat * e'.size, by simp [add_lit], fun j x hj => ?_⟩
            rw [List.getElem?_drop, List.getElem?_take] at hj
            split at hj
            · have := h4 _ _ hj
              refine CellsM.congr _ this fun k v _ hv => ?_
              rw [← hv]
              congr 1
              rw [Nat.add_mul]; omega
            · cases hj
        · rename_i i' ver
          cases hp
          simp only [getCs] at he
          have hc := h.ch i'
          generalize hg : getC s.H i' = c at he hc
          cases c <;> simp at he
          rename_i rt e' ver' L
          split at he <;> (try simp at he)
          rename_i hb
          obtain ⟨hb1, hb2⟩ := Bool.and_eq_true_iff.1 hb
          have hb1 := beq_eq hb1
          have hb2 := beq_eq hb2
          subst hb1; subst hb2
          obtain ⟨rfl, rfl, rfl⟩ := he
          obtain ⟨h5, h6⟩ := hc
          obtain ⟨_, h7, h8⟩ := hx
          have h8 := h8 h5
          subst h8
          obtain ⟨c0, c1, c2⟩ := hC
          refine ⟨by simp [Looks, getCs, hg], ?_⟩
          obtain ⟨ao, cap, hr, hlc⟩ : ∃ ao cap, ρ.root i' = .slice ao (L ()).length cap ∧ (L ()).length ≤ cap := by
            rcases h6 with ⟨⟨ao, h3⟩, h4, _⟩ | ⟨b', off', cap', h3, _, h4, _⟩
            · exact ⟨ao, 0, by rw [h3, h4]; rfl, by rw [h4]; simp⟩
            · exact ⟨_, _, h3, h4⟩
          rw [hr]
          refine ⟨_, run_slice_slice hu hz hlc h1 h2 d1 d2 _ rfl c0 c1 c2, ⟨_, _, _, rfl⟩, fun _ => ⟨_, _, rfl⟩, h7, fun _ => ?_⟩
          exact ⟨ao, _, cap, hr, c0, by dsimp only; omega, by dsimp only; omega, hlc, rfl⟩
        · cases hp
      · cases hp
    · cases hp
  · cases hp

theorem run_max2' (ats : Array TypeId) (ty : TypeId) (k : IntKind) (a b : Int) (w : World) : (Builtin.max_ ats ty #[.int k a, .int k b]).run P w = .ok (.int k (max a b)) w := by
  have e : (if b > a then b else a) = max a b := by omega
  simp [Builtin.max_, Builtin.max2, e]
theorem run_min2' (ats : Array TypeId) (ty : TypeId) (k : IntKind) (a b : Int) (w : World) : (Builtin.min_ ats ty #[.int k a, .int k b]).run P w = .ok (.int k (min a b)) w := by
  have e : (if b < a then b else a) = min a b := by omega
  simp [Builtin.min_, Builtin.min2, e]
theorem run_max3' (ats : Array TypeId) (ty : TypeId) (k : IntKind) (a b c : Int) (w : World) : (Builtin.max_ ats ty #[.int k a, .int k b, .int k c]).run P w = .ok (.int k (max (max a b) c)) w := by
  have e : (if b > a then b else a) = max a b := by omega
  have e' : ∀ z : Int, (if c > z then c else z) = max z c := by intro z; omega
  simp [Builtin.max_, Builtin.max2, e, e']
theorem run_min3' (ats : Array TypeId) (ty : TypeId) (k : IntKind) (a b c : Int) (w : World) : (Builtin.min_ ats ty #[.int k a, .int k b, .int k c]).run P w = .ok (.int k (min (min a b) c)) w := by
  have e : (if b < a then b else a) = min a b := by omega
  have e' : ∀ z : Int, (if c < z then c else z) = min z c := by intro z; omega
  simp [Builtin.min_, Builtin.min2, e, e']

theorem All2.two {α β : Type} {R : α → β → Prop} {x y : α} {us : List β} (h : All2 R [x, y] us) : ∃ a b, us = [a, b] ∧ R x a ∧ R y b := by
  cases h with | cons h1 h => cases h with | cons h2 h => cases h; exact ⟨_, _, rfl, h1, h2⟩
theorem All2.three {α β : Type} {R : α → β → Prop} {x y z : α} {us : List β} (h : All2 R [x, y, z] us) : ∃ a b c, us = [a, b, c] ∧ R x a ∧ R y b ∧ R z c := by
  cases h with | cons h1 h => cases h with | cons h2 h => cases h with | cons h3 h => cases h; exact ⟨_, _, _, rfl, h1, h2, h3⟩
theorem minmax_sound {isMax : Bool} {xs : List SV} {us : List Value} (hx : All2 (Den ρ) xs us) {p : Plan A} (hp : minmaxP isMax xs = some p) (ats : Array TypeId) (ty : TypeId) :
    ∃ C v, p = ⟨[], 0, false, fun _ _ => .done C v []⟩ ∧ (C () → ∃ y, (if isMax then Builtin.max_ ats ty us.toArray else Builtin.min_ ats ty us.toArray).run P w = .ok y w ∧ Den ρ v y) := by
  unfold minmaxP at hp
  split at hp
  · rename_i x y
    obtain ⟨u1, u2, rfl, hx, hy⟩ := hx.two
    split at hp
    · rename_i k m hm
      split at hp
      · rename_i k' n hn
        split at hp
        · rename_i hk
          simp at hk
          subst hk
          cases hp
          rw [ivalS_den hm hx, ivalS_den hn hy]
          refine ⟨_, _, rfl, fun _ => ?_⟩
          cases isMax
          · exact ⟨_, run_min2' ats ty _ _ _ _, rfl⟩
          · exact ⟨_, run_max2' ats ty _ _ _ _, rfl⟩
        · cases hp
      · cases hp
    · cases hp
  · rename_i x y z
    obtain ⟨u1, u2, u3, rfl, hx, hy, hz⟩ := hx.three
    split at hp
    · rename_i k m hm
      split at hp
      · rename_i k' n hn
        split at hp
        · rename_i k'' o ho
          split at hp
          · rename_i hk
            obtain ⟨hk1, hk2⟩ := Bool.and_eq_true_iff.1 hk
            simp at hk1 hk2
            subst hk1; subst hk2
            rw [ivalS_den hm hx, ivalS_den hn hy, ivalS_den ho hz]
            cases isMax
            · simp only [maxOf, ivalS, one, ival] at hp
              cases hp
              exact ⟨_, _, rfl, fun _ => ⟨_, run_min3' ats ty _ _ _ _ _, rfl⟩⟩
            · simp only [maxOf, ivalS, one, ival] at hp
              cases hp
              exact ⟨_, _, rfl, fun _ => ⟨_, run_max3' ats ty _ _ _ _ _, rfl⟩⟩
          · cases hp
        · cases hp
      · cases hp
    · cases hp
  · cases hp

end Go.Sx
