/-
  Symbolic execution: maps; the bytes of a string; s[:0:0].
-/
import Derived.Test.YtebhcmgfhkjmcaaSxK
import Derived.MapKept
import Derived.Lib.ConvBytes
namespace Go.Sx
set_option linter.all false
set_option linter.unusedVariables false
set_option linter.unusedSimpArgs false
set_option linter.unusedSectionVars false
open Go.RowKit Go.MapKept

variable {A : Type} {AI : Abs A} {G : Fr} {s : SS A} {ρ : Ev} {a : Act} {w : World} {P : Program}

theorem find_at {K V : Type} [DecidableEq K] {mk : K → Value} {ok : K → Prop} {R : V → Value → Prop} {d : TypeDesc} (hs : ∀ x y, ok x → ok y → Instr.sameNow d (mk x) (mk y) = some (decide (x = y))) {k : K} (hk : ok k) :
    ∀ {L : List (K × V)} {es : List MapEntry} (i : Nat), All2 (fun p (m : MapEntry) => m.key = mk p.1 ∧ ok p.1 ∧ R p.2 m.val) L es →
      (Instr.findNow d (mk k) es i = some none ∧ getA L k = none ∧ (∀ y, putA L k y = L ++ [(k, y)]) ∧ delA L k = L) ∨
      ∃ j v m, es[j]? = some m ∧ L[j]? = some (k, v) ∧ R v m.val ∧ m.key = mk k ∧ Instr.findNow d (mk k) es i = some (some (i + j, m.val)) ∧ getA L k = some v ∧ (∀ y, putA L k y = L.set j (k, y)) ∧ delA L k = L.eraseIdx j
  | [], es, i, h => by cases h; exact .inl ⟨rfl, rfl, fun _ => rfl, rfl⟩
  | (c, v) :: L, es, i, h => by
    cases h with
    | @cons _ m _ es h1 h2 =>
      obtain ⟨h3, h4, h5⟩ := h1
      have h6 := hs k c hk h4
      by_cases e : c = k
      · subst e
        exact .inr ⟨0, v, m, rfl, rfl, h5, h3, by simp [Instr.findNow, h3, h6], by simp [getA], fun y => by simp [putA], by simp [delA]⟩
      · have h7 : Instr.findNow d (mk k) (m :: es) i = Instr.findNow d (mk k) es (i + 1) := by
          simp [Instr.findNow, h3, h6, show ¬ k = c from fun q => e q.symm]
        rcases find_at hs hk (i + 1) h2 with ⟨h8, h9, h10, h11⟩ | ⟨j, u, m', h8, h9, h10, h11, h12, h13, h14, h15⟩
        · exact .inl ⟨h7.trans h8, by simp [getA, e, h9], fun y => by simp [putA, e, h10], by simp [delA, e, h11]⟩
        · exact .inr ⟨j + 1, u, m', by simpa using h8, by simpa using h9, h10, h11, by rw [h7, h12]; congr 3; omega, by simp [getA, e, h13], fun y => by simp [putA, e, h14], by simp [delA, e, h15]⟩

/-- The same, for a map's keys. -/
theorem find_key {M : Mem} {kt : TypeId} {ks : KT} (hk : KeyOk P kt ks) {e : Ty} {L : List (ks.T × e.T)} {es : List MapEntry} {clock : Nat} (h : MapAt M ks e L es clock) {k : ks.T} (hok : ks.ok k) :
    ∃ d, P.underlying kt = some d ∧ IsKey d (ks.mk k) ∧
      ((Instr.findNow d (ks.mk k) es 0 = some none ∧ getM ks L k = none ∧ (∀ y, putM ks L k y = L ++ [(k, y)]) ∧ delM ks L k = L) ∨
      ∃ j v m, es[j]? = some m ∧ L[j]? = some (k, v) ∧ ValIs M e v m.val ∧ m.key = ks.mk k ∧ Instr.findNow d (ks.mk k) es 0 = some (some (j, m.val)) ∧ getM ks L k = some v ∧ (∀ y, putM ks L k y = L.set j (k, y)) ∧ delM ks L k = L.eraseIdx j) := by
  cases ks with
  | int kk =>
    refine ⟨.int kk, hk, by simp [KT.mk, IsKey], ?_⟩
    have := find_at (K := Int) (mk := fun n => .int kk n) (ok := fun _ => True) (R := ValIs M e) (d := .int kk) (fun x y _ _ => by simp [Instr.sameNow]; rfl) (k := k) trivial 0 h.1
    simpa [KT.mk, getM, putM, delM] using this
  | str =>
    refine ⟨.string, hk, by simp [KT.mk, IsKey], ?_⟩
    have := find_at (K := List Int) (mk := fun l => .string ⟨(l.map fun (x : Int) => x.toNat.toUInt8).toArray⟩) (ok := fun l => ∀ x ∈ l, 0 ≤ x ∧ x < 256) (R := ValIs M e) (d := .string) (fun x y hx hy => by
      have := str_eq hx hy
      simp only [Instr.sameNow, Option.some.injEq]
      rw [← this, Bool.eq_iff_iff, bytes_beq]
      simp [Nat.toUInt8]) (k := k) hok 0 h.1
    simpa [KT.mk, getM, putM, delM] using this

theorem keyV_den {ks : KT} {x : SV} {C : U Prop} {k : U ks.T} (h : keyV ks x = some (C, k)) (hC : C ()) {u : Value} (hu : Den ρ x u) : u = ks.mk (k ()) ∧ ks.ok (k ()) := by
  unfold keyV at h
  split at h
  · split at h <;> simp at h
    rename_i hk
    simp at hk
    subst hk
    obtain ⟨rfl, rfl⟩ := h
    exact ⟨hu, trivial⟩
  · split at h <;> simp at h
    rename_i hk
    simp at hk
    subst hk
    obtain ⟨rfl, rfl⟩ := h
    exact ⟨hu, trivial⟩
  · simp at h
    obtain ⟨rfl, rfl⟩ := h
    exact ⟨hu, hC⟩
  · cases h

theorem elV_den {e : Ty} {x : U e.T} {y : SV2} (h : elV e x = some y) {v : Value} (hv : ValIs ρ.M e (x ()) v) : Den2 ρ y v := by
  obtain ⟨vs, h1, h2, h3⟩ := hv
  obtain ⟨us, h4, h5⟩ := CellsM.dec (ρ := ρ) e x _ h2
  have hl : us.length = vs.length := by rw [h1, ← h4.length, dec_length]
  have e1 : us = vs := by
    apply List.ext_getElem hl
    intro i hi hi'
    have := h5 i _ (List.getElem?_eq_getElem hi)
    simp only [List.getElem?_eq_getElem hi', Option.some.injEq] at this
    exact this.symm
  subst e1
  unfold elV at h
  split at h
  · rename_i hg
    cases h
    rw [hg] at h3
    exact ⟨us, h3, h4⟩
  · rename_i hg
    rw [hg] at h3
    simp only [] at h3
    split at h
    · rename_i z hz
      cases h
      rw [hz, h3] at h4
      cases h4 with | cons h6 _ => exact h6
    · cases h

theorem zero_valIs {M : Mem} {e : Ty} {z : Value} {t : TypeId} (h : ∀ M, ValIs M e e.dflt z) : ValIs M e e.dflt z := h M

theorem makeMap_sound {t : TypeId} {i : TI} (h : Holds AI G s ρ a.tmps w) {fresh : Nat} {p : Plan A} (hp : makeMapP i fresh = some p) {d : List Bool} {C : U Prop} {r : SV} {cs : List (Chunk A)}
    (he : p.eff (getCs s.H p.ids) d = .done C r cs) : Done AI G P s a w ρ (Instr.makeMap t none) (putCs s.H p.ids cs) r := by
  unfold makeMapP at hp
  split at hp <;> cases hp
  rename_i ks e _
  simp only [getCs] at he
  have hc := h.ch fresh
  generalize hg : getC s.H fresh = c at he hc
  cases c <;> (try (simp at he; done))
  simp at he
  obtain ⟨rfl, rfl, rfl⟩ := he
  obtain ⟨hc1, hc2, hc3⟩ := hc
  obtain ⟨h4, h5⟩ := h.upd1 fresh (.pointer (some ⟨w.heap.size, 0, none⟩)) 0 [w.heap.size] (.map ks e (fun _ => [])) (w.alloc (.map #[] 0))
    (by rw [hc2]; simp) (by omega) (by rw [hc2]; simp) (fun b' hb' => by obtain rfl : b' = w.heap.size := (by simpa using hb'); exact ⟨.inr (Nat.le_refl _), by rw [World.size_alloc]; exact Nat.lt_succ_self _⟩) (fun b hb _ => alloc_lt w _ hb) rfl rfl rfl (by simp)
    ⟨w.heap.size, #[], 0, by simp [Ev.upd], by simp [Ev.upd], alloc_get w _, .nil, by simp, by simp⟩
  exact ⟨.map (some w.heap.size), _, _, by simp [Instr.makeMap, Result.andThen], h4, ⟨_, by simp [Ev.upd], rfl⟩, h5⟩

theorem lookup_sound {t : TypeId} {i : TI} (hT : TIfact P t i) (h : Holds AI G s ρ a.tmps w) {x ix : SV} {u v : Value} (hx : Den ρ x u) (hix : Den ρ ix v) {ok : Bool} {p : Plan A} (hp : lookupP i x ix ok = some p) {d : List Bool} {C : U Prop} {r : SV} {cs : List (Chunk A)}
    (he : p.eff (getCs s.H p.ids) d = .done C r cs) (hC : C ()) : Looks s p cs ∧ ∃ y, (Instr.lookup t u v ok).run P w = .ok y w ∧ Den ρ r y := by
  have hk := hT.kind
  unfold lookupP at hp
  split at hp <;> cases hp
  rename_i kt et ks0 e0 i' hik
  rw [hik] at hk
  obtain ⟨hu, hk2⟩ := hk
  simp only [getCs] at he
  have hc := h.ch i'
  generalize hg : getC s.H i' = c at he hc
  cases c <;> (try (simp at he; done))
  rename_i ks e L
  dsimp only at he
  split at he <;> (try (simp at he; done))
  rename_i hb
  obtain ⟨hb1, hb2⟩ := Bool.and_eq_true_iff.1 hb
  simp at hb1 hb2
  subst hb1; subst hb2
  split at he <;> (try (simp at he; done))
  rename_i C' k hkv
  split at he <;> (try (simp at he; done))
  rename_i y hy
  simp at he
  obtain ⟨rfl, rfl, rfl⟩ := he
  obtain ⟨rfl, hok⟩ := keyV_den hkv hC hix
  obtain ⟨b, es, clock, h1, h2, h3, h4⟩ := hc
  obtain ⟨b', h5, rfl⟩ := hx
  rw [h1] at h5
  cases h5
  obtain ⟨hkey, g, z, hg1, hz, hz2⟩ := hk2 _ _ rfl
  obtain ⟨dd, hd1, hd2, hd3⟩ := find_key hkey h4 hok
  have hck := fun e n => run_checkKey (P := P) (w := w) hd1 hd2 e n
  refine ⟨by simp [Looks, getCs, hg], ?_⟩
  have fin : ∀ (val : Value) (c : Bool), ValIs ρ.M e ((getM ks (L ()) (k ())).getD e.dflt) val → (getM ks (L ()) (k ())).isSome = c → Den ρ (match ok with | true => .tup [y, .one (.sb (fun _ => (getM ks (L ()) (k ())).isSome))] | false => .val y) (if ok then .tuple #[val, .bool c] else val) := by
    intro val c hval hc
    have := elV_den (ρ := ρ) hy hval
    cases ok with
    | true => exact ⟨[val, .bool c], rfl, .cons this (.cons (by rw [← hc]; rfl) .nil)⟩
    | false => exact this
  rcases hd3 with ⟨hn, hgn, _⟩ | ⟨j, vv, m, _, _, hval, _, hn, hgn, _⟩
  · refine ⟨_, ?_, fin z false (by rw [hgn]; exact hz2 _) (by rw [hgn]; rfl)⟩
    simp [Instr.lookup, run_underlying hu, MapKept.run_getObj_map h3, hck, run_findKey hd1 hn, Go.zeroValue, typeInfo, hg1, hz, Result.andThen]
  · refine ⟨_, ?_, fin m.val true (by rw [hgn]; exact hval) (by rw [hgn]; rfl)⟩
    simp [Instr.lookup, run_underlying hu, MapKept.run_getObj_map h3, hck, run_findKey hd1 hn, Result.andThen]

theorem All2.set {α β : Type} {R : α → β → Prop} {l : List α} {m : List β} (h : All2 R l m) {x : α} {y : β} (hxy : R x y) : ∀ j, All2 R (l.set j x) (m.set j y) := by
  induction h with
  | nil => intro j; simpa using All2.nil
  | cons h1 h2 ih =>
    intro j
    cases j with
    | zero => exact .cons hxy h2
    | succ j => exact .cons h1 (ih j)
theorem All2.erase {α β : Type} {R : α → β → Prop} {l : List α} {m : List β} (h : All2 R l m) : ∀ j, All2 R (l.eraseIdx j) (m.eraseIdx j) := by
  induction h with
  | nil => intro j; simpa using All2.nil
  | cons h1 h2 ih =>
    intro j
    cases j with
    | zero => exact h2
    | succ j => exact .cons h1 (ih j)

theorem velt_den {e : Ty} {x : SV} {y : U e.T} (h : velt e x = some y) (ha : aggV x = e.agg) {u : Value} (hu : Den ρ x u) : ValIs ρ.M e (y ()) u := by
  unfold velt at h
  split at h <;> (try cases h)
  rename_i l hl
  split at h <;> (try cases h)
  rename_i hst
  split at h <;> cases h
  rename_i hen
  have hd := cellsOf_den hl hu hst
  obtain ⟨v1, v2, e1, e2, e3, e4⟩ := CellsM.enc e hen hd
  cases e4
  simp only [List.append_nil] at e1
  refine ⟨v1, e2, e3, ?_⟩
  unfold cellsOf at hl
  split at hl
  · cases hl
    simp only [aggV] at ha
    rw [← ha]
    have h1 := hd.storable hst
    have hu1 : u.cells = #[u] := by
      rename_i x1
      simp only [List.all_cons, List.all_nil, Bool.and_true] at hst
      have := storable_one hst (show Den1 ρ x1 u from hu)
      cases u <;> simp_all [Value.oneCell', Value.cells]
    rw [hu1] at e1
    simpa using e1.symm
  · cases hl
    simp only [aggV] at ha
    rw [← ha]
    obtain ⟨vs, rfl, h2⟩ := hu
    simp only [Value.cells] at e1
    simpa using e1
  · cases hl

/-- The map is another one. -/
theorem Holds.turn {tmps : Array Value} (h : Holds AI G s ρ tmps w) {i : Nat} {ks : KT} {e : Ty} {L L' : U (List (ks.T × e.T))} (hi : getC s.H i = .map ks e L) {b : Nat} {es es' : Array MapEntry} {clock clock' : Nat} (h1 : ρ.root i = .pointer (some ⟨b, 0, none⟩)) (h2 : ρ.foot i = [b])
    (h3 : w.heap[b]? = some (.map es clock)) (h4 : MapAt ρ.M ks e (L' ()) es'.toList clock') :
    ∃ ρ', Holds AI G ⟨s.tm, putC s.H i (.map ks e L')⟩ ρ' tmps { w with heap := w.heap.setIfInBounds b (.map es' clock') } ∧ ρ.Le ρ' := by
  have hlt : b < w.heap.size := h.lt i b (by simp [h2])
  obtain ⟨h5, h6⟩ := h.upd1 i (ρ.root i) (ρ.ver i) (ρ.foot i) (.map ks e L') { w with heap := w.heap.setIfInBounds b (.map es' clock') } (fun _ h => h) (Nat.le_refl _) (fun _ _ => rfl) (fun bb hbb => ⟨.inl hbb, by simpa using h.lt i bb hbb⟩)
    (fun b2 _ hn => by
      have : b ≠ b2 := fun e => hn (by rw [h2, e]; simp)
      simp [this]) rfl rfl rfl (by simp) ⟨b, es', clock', by simp [Ev.upd, h1], by simp [Ev.upd, h2], by simp [hlt], h4⟩
  exact ⟨_, h5, h6⟩

theorem mapUpdate_sound {t : TypeId} {i : TI} (hT : TIfact P t i) (h : Holds AI G s ρ a.tmps w) {x ix y : SV} {u v z : Value} (hx : Den ρ x u) (hix : Den ρ ix v) (hy : Den ρ y z) {p : Plan A} (hp : mapUpdateP i x ix y = some p) {d : List Bool} {C : U Prop} {r : SV} {cs : List (Chunk A)}
    (he : p.eff (getCs s.H p.ids) d = .done C r cs) (hC : C ()) : ∃ ρ' w', (Instr.mapUpdate t u v z).run P w = .ok () w' ∧ Holds AI G ⟨s.tm, putCs s.H p.ids cs⟩ ρ' a.tmps w' ∧ r = one .any := by
  have hk := hT.kind
  unfold mapUpdateP at hp
  split at hp <;> cases hp
  rename_i kt et ks0 e0 i' hik
  rw [hik] at hk
  obtain ⟨hu, hk2⟩ := hk
  simp only [getCs] at he
  have hc := h.ch i'
  generalize hg : getC s.H i' = c at he hc
  cases c <;> (try (simp at he; done))
  rename_i ks e L
  dsimp only at he
  split at he <;> (try (simp at he; done))
  rename_i hb
  obtain ⟨hb, hb3⟩ := Bool.and_eq_true_iff.1 hb
  obtain ⟨hb1, hb2⟩ := Bool.and_eq_true_iff.1 hb
  simp at hb1 hb2 hb3
  subst hb1; subst hb2
  split at he <;> (try (simp at he; done))
  rename_i C' k hkv
  split at he <;> (try (simp at he; done))
  rename_i yy hyy
  simp at he
  obtain ⟨rfl, rfl, rfl⟩ := he
  obtain ⟨rfl, hok⟩ := keyV_den hkv hC hix
  obtain ⟨b, es, clock, h1, h2, h3, h4⟩ := hc
  obtain ⟨b', h5, rfl⟩ := hx
  rw [h1] at h5
  cases h5
  obtain ⟨hkey, -⟩ := hk2 _ _ rfl
  obtain ⟨dd, hd1, hd2, hd3⟩ := find_key hkey h4 hok
  have hck := fun e n => run_checkKey (P := P) (w := w) hd1 hd2 e n
  have hval := velt_den (ρ := ρ) hyy hb3 hy
  rcases hd3 with ⟨hn, _, hput, _⟩ | ⟨j, vv, m, hm, hL, _, hmk, hn, _, hput, _⟩
  · obtain ⟨ρ', h6, h7⟩ := h.turn (L' := fun _ => putM ks (L ()) (k ()) (yy ())) hg h1 h2 h3 (es' := es.push ⟨ks.mk (k ()), z, clock⟩) (clock' := clock + 1) (by
      rw [hput]
      refine ⟨?_, ?_, ?_⟩
      · rw [Array.toList_push]; exact h4.1.append (.cons ⟨rfl, hok, hval⟩ .nil)
      · rw [Array.toList_push, List.map_append, List.pairwise_append]
        refine ⟨h4.2.1, by simp, fun a ha b hb => ?_⟩
        simp only [List.map_cons, List.map_nil, List.mem_singleton] at hb
        subst hb
        obtain ⟨m, hm, rfl⟩ := List.mem_map.1 ha
        exact h4.2.2 m hm
      · intro m hm
        rw [Array.toList_push, List.mem_append] at hm
        rcases hm with hm | hm
        · have := h4.2.2 m hm; omega
        · simp at hm; subst hm; simp)
    refine ⟨ρ', _, ?_, h6, rfl⟩
    simp [Instr.mapUpdate, run_underlying hu, MapKept.run_getObj_map h3, hck, run_findKey hd1 hn, run_setObj_map _ h3, Result.andThen]
  · have hmj : es[j]? = some m := by simpa using hm
    obtain ⟨ρ', h6, h7⟩ := h.turn (L' := fun _ => putM ks (L ()) (k ()) (yy ())) hg h1 h2 h3 (es' := es.modify j fun e => { e with key := ks.mk (k ()), val := z }) (clock' := clock) (by
      rw [hput]
      have e1 : (es.modify j fun e => { e with key := ks.mk (k ()), val := z }).toList = es.toList.set j ⟨ks.mk (k ()), z, m.born⟩ := by
        apply List.ext_getElem?
        intro q
        rw [Array.getElem?_toList, Array.getElem?_modify, List.getElem?_set, Array.getElem?_toList]
        split
        · rename_i hq
          subst hq
          rw [hmj]
          have := (Array.getElem?_eq_some_iff.1 hmj).1
          simp [this]
        · rfl
      rw [e1]
      refine ⟨h4.1.set ⟨rfl, hok, hval⟩ j, ?_, ?_⟩
      · rw [List.map_set]
        have : (es.toList.map (·.born)).set j m.born = es.toList.map (·.born) := by
          apply List.ext_getElem?
          intro q
          rw [List.getElem?_set]
          split
          · rename_i hq
            subst hq
            have hlt := (Array.getElem?_eq_some_iff.1 hmj).1
            rw [List.getElem?_map, hm, if_pos (by simpa using hlt)]
            rfl
          · rfl
        rw [this]; exact h4.2.1
      · intro q hq
        rcases List.mem_or_eq_of_mem_set hq with hq | rfl
        · exact h4.2.2 q hq
        · exact h4.2.2 m (List.mem_of_getElem? hm))
    refine ⟨ρ', _, ?_, h6, rfl⟩
    have hst : ∀ q, (Instr.keyThatStays (ks.mk (k ())) (ks.mk (k ()))).run P q = .ok (ks.mk (k ())) q := fun q => run_keyThatStays hd2
    simp [Instr.mapUpdate, run_underlying hu, MapKept.run_getObj_map h3, hck, run_findKey hd1 hn, hmj, hmk, hst, run_setObj_map _ h3, Result.andThen]

theorem delete_sound {t k2 ty : TypeId} {i : TI} (hT : TIfact P t i) (h : Holds AI G s ρ a.tmps w) {x ix : SV} {u v : Value} (hx : Den ρ x u) (hix : Den ρ ix v) {p : Plan A} (hp : deleteP i x ix = some p) {d : List Bool} {C : U Prop} {r : SV} {cs : List (Chunk A)}
    (he : p.eff (getCs s.H p.ids) d = .done C r cs) (hC : C ()) : Done AI G P s a w ρ (Builtin.delete_ #[t, k2] ty #[u, v]) (putCs s.H p.ids cs) r := by
  have hk := hT.kind
  unfold deleteP at hp
  split at hp <;> cases hp
  rename_i kt et ks0 e0 i' hik
  rw [hik] at hk
  obtain ⟨hu, hk2⟩ := hk
  simp only [getCs] at he
  have hc := h.ch i'
  generalize hg : getC s.H i' = c at he hc
  cases c <;> (try (simp at he; done))
  rename_i ks e L
  dsimp only at he
  split at he <;> (try (simp at he; done))
  rename_i hb1
  simp at hb1
  subst hb1
  split at he <;> (try (simp at he; done))
  rename_i C' k hkv
  simp at he
  obtain ⟨rfl, rfl, rfl⟩ := he
  obtain ⟨rfl, hok⟩ := keyV_den hkv hC hix
  obtain ⟨b, es, clock, h1, h2, h3, h4⟩ := hc
  obtain ⟨b', h5, rfl⟩ := hx
  rw [h1] at h5
  cases h5
  obtain ⟨hkey, -⟩ := hk2 _ _ rfl
  obtain ⟨dd, hd1, hd2, hd3⟩ := find_key hkey h4 hok
  have hck := fun e n => run_checkKey (P := P) (w := w) hd1 hd2 e n
  rcases hd3 with ⟨hn, _, _, hdel⟩ | ⟨j, vv, m, hm, hL, _, hmk, hn, _, _, hdel⟩
  · obtain ⟨ρ', h6, h7⟩ := h.turn (L' := fun _ => delM ks (L ()) (k ())) hg h1 h2 h3 (es' := es) (clock' := clock) (by rw [hdel]; exact h4)
    refine ⟨.tuple #[], ρ', _, ?_, h6, ⟨[], rfl, .nil⟩, h7⟩
    simp [Builtin.delete_, run_underlying hu, MapKept.run_getObj_map h3, hck, run_findKey hd1 hn, run_setObj_map _ h3, Result.andThen]
  · obtain ⟨ρ', h6, h7⟩ := h.turn (L' := fun _ => delM ks (L ()) (k ())) hg h1 h2 h3 (es' := es.eraseIdxIfInBounds j) (clock' := clock) (by
      rw [hdel]
      have e1 : (es.eraseIdxIfInBounds j).toList = es.toList.eraseIdx j := by simp
      rw [e1]
      exact ⟨h4.1.erase j, h4.2.1.sublist ((List.eraseIdx_sublist _ _).map _), fun q hq => h4.2.2 q (List.mem_of_mem_eraseIdx hq)⟩)
    refine ⟨.tuple #[], ρ', _, ?_, h6, ⟨[], rfl, .nil⟩, h7⟩
    simp [Builtin.delete_, run_underlying hu, MapKept.run_getObj_map h3, hck, run_findKey hd1 hn, run_setObj_map _ h3, Result.andThen]

/-! ### the bytes of a string -/
theorem convNew_sound {ts td : TypeId} {j : TI} (hS : P.underlying ts = some .string) (hT : TIfact P td j) (h : Holds AI G s ρ a.tmps w) {x : SV} {u : Value} (hx : Den ρ x u) {p : Plan A} (hp : convNew j x = some p) {d : List Bool} {C : U Prop} {v : SV} {cs : List (Chunk A)}
    (he : p.eff (getCs s.H p.ids) d = .done C v cs) (hC : C ()) : Done AI G P s a w ρ (convert ts td u) (putCs s.H p.ids cs) v := by
  have hk := hT.kind
  unfold convNew at hp
  split at hp <;> cases hp
  rename_i et l hj
  rw [hj] at hk
  obtain ⟨hu, g, hg1, hg2⟩ := hk
  obtain ⟨_, _, _, h8, _⟩ := hg2 _ rfl
  have h8 := h8 _ rfl
  simp at he
  obtain ⟨rfl, rfl, rfl⟩ := he
  obtain ⟨hC, hlen⟩ := hC
  cases hx
  let bs : ByteArray := ⟨((l ()).map fun x => x.toNat.toUInt8).toArray⟩
  have hsz : bs.size = (l ()).length := by simp [bs, ByteArray.size]
  have hrun := Lib.run_convert_string_bytes (P := P) w ts td et bs hS hu h8
  have hge := grownCap_ge w bs.size 0 et
  obtain ⟨ρ', h1, h2, h3, h4, h5, h6⟩ := h.more (w' := Lib.bytesWorld w et bs) (fun b hb => Lib.bytesWorld_at_old w et bs b hb) (by rfl) (by rfl) (by rfl)
    (by rw [Lib.bytesWorld_size]; omega)
  refine ⟨_, ρ', _, hrun, h1, ?_, h2⟩
  refine ⟨_, _, by rw [hsz], hsz ▸ hge, fun _ => ⟨w.heap.size, 0, rfl, fun i x hi => ?_⟩⟩
  have hil := (List.getElem?_eq_some_iff.1 hi).1
  have hc := Lib.bytesWorld_cell w et bs i (by rw [hsz]; exact hil)
  have hxx := hC x (List.mem_of_getElem? hi)
  have e1 : ((bs.data.toList.getD i 0).toNat : Int) = x := by
    simp only [bs, List.getD, List.getElem?_map, hi, Option.map_some, Option.getD_some]
    simp [Nat.toUInt8]
    omega
  rw [e1] at hc
  exact h6 _ _ _ (Nat.le_refl _) (by simpa [Ty.size] using hc)

/-! ### the bytes of a literal, seen as a slice of bytes -/
theorem run_conv_same {t e : TypeId} (ht : P.underlying t = some (.slice e)) (he : P.underlying e = some (.int .u8)) (w : World) (b off l c : Nat) :
    ∃ w', (convert t t (.slice (some ⟨b, off, none⟩) l c)).run P w = .ok (.slice (some ⟨b, off, none⟩) l c) w' ∧ w'.os = w.os ∧ w'.tape = w.tape ∧ w'.output = w.output ∧ w'.heap.size = w.heap.size ∧
      (∀ k, k ≠ b → w'.heap[k]? = w.heap[k]?) ∧ ∀ q, w'.cell? q = w.cell? q := by
  cases hs : w.shape? b with
  | none => exact ⟨w, by simp [convert, run_underlying ht, run_underlying he, markStringish, hs], rfl, rfl, rfl, rfl, fun _ _ => rfl, fun _ => rfl⟩
  | some p =>
    obtain ⟨t', n⟩ := p
    refine ⟨w.freeze ⟨b, n, none⟩ 1, by simp [convert, run_underlying ht, run_underlying he, markStringish, hs], ?_⟩
    unfold World.freeze
    rw [if_neg (by decide)]
    refine ⟨rfl, rfl, rfl, by simp, fun k hk => ?_, fun q => ?_⟩
    · simp only [Array.getElem?_modify, if_neg (fun h => hk (Eq.symm h))]
    · unfold World.cell?
      simp only [Array.getElem?_modify]
      by_cases hb : b = q.block
      · rw [if_pos hb]
        cases hg : w.heap[q.block]? with
        | none => simp
        | some o => cases o <;> simp
      · rw [if_neg hb]

theorem convRow_sound {ts : TypeId} {j : TI} (hT : TIfact P ts j) (h : Holds AI G s ρ a.tmps w) {x : SV} {u : Value} (hx : Den ρ x u) {p : Plan A} (hp : convRow j x = some p) {d : List Bool} {C : U Prop} {v : SV} {cs : List (Chunk A)}
    (he : p.eff (getCs s.H p.ids) d = .done C v cs) (hC : C ()) : Done AI G P s a w ρ (convert ts ts u) (putCs s.H p.ids cs) v := by
  have hk := hT.kind
  unfold convRow at hp
  split at hp <;> cases hp
  rename_i et i ver hj
  rw [hj] at hk
  obtain ⟨hu, g, hg1, hg2⟩ := hk
  obtain ⟨_, _, _, h8, _⟩ := hg2 _ rfl
  have h8 := h8 _ rfl
  simp only [getCs] at he
  have hc := h.ch i
  generalize hg : getC s.H i = c at he hc
  cases c <;> (try (simp at he; done))
  rename_i t e ver' L
  dsimp only at he
  split at he <;> cases he
  rename_i hb
  have hb := beq_eq hb
  subst hb
  obtain ⟨hv, hr⟩ := hc
  obtain ⟨_, _, hx⟩ := hx
  have hx := hx hv
  subst hx
  have hC : 0 < (L ()).length := hC
  rcases hr with ⟨_, hL, _⟩ | ⟨b, off, cap, hroot, hF, hcap, _, hcells, _⟩
  · rw [hL] at hC; simp at hC
  obtain ⟨w', hrun, hos, htape, hout, hsize, hheap, hcell⟩ := run_conv_same hu h8 w b off (L ()).length cap
  let ρ' : Ev := { root := ρ.root, ver := ρ.ver, M := fun q o => if q = b then w.cell? ⟨q, o, none⟩ else ρ.M q o, foot := fun k => if k = i then [] else ρ.foot k }
  have hbi : b ∈ ρ.foot i := by rw [hF]; simp
  have hM : ∀ q o v, ρ.M q o = some v → ρ'.M q o = some v := by
    intro q o v hm
    have hne : q ≠ b := fun e => (h.im q o v hm).2 i (e ▸ hbi)
    show (if q = b then _ else _) = _
    rw [if_neg hne]; exact hm
  have le : ρ.Le ρ' := ⟨hM, fun _ _ h => h, fun _ => Nat.le_refl _, fun _ _ _ => rfl⟩
  have hfoot : ∀ k q, q ∈ ρ'.foot k → k ≠ i ∧ q ∈ ρ.foot k := by
    intro k q hq
    by_cases e : k = i
    · simp [ρ', e] at hq
    · refine ⟨e, ?_⟩
      simpa [ρ', e] using hq
  have hnb : ∀ k q, q ∈ ρ'.foot k → q ≠ b := fun k q hq e => h.dis k i q (hfoot k q hq).1 (hfoot k q hq).2 (e ▸ hbi)
  refine ⟨ρ.root i, ρ', w', by rw [hroot]; exact hrun, ⟨h.sz, fun t v ht => ?_, fun k => ?_, fun k m q hkm hk hm => h.dis k m q hkm (hfoot k q hk).2 (hfoot m q hm).2, fun k q hq => by rw [hsize]; exact h.lt k q (hfoot k q hq).2, fun q o v hm => ?_,
    hos.trans h.os, htape.trans h.tape, hout.trans h.output, by rw [hsize]; exact h.grow, fun q hq ho => ?_, fun k q hq => h.fro k q (hfoot k q hq).2, h.rt, h.rts, fun q o v hm => hM _ _ _ (h.mono q o v hm), fun q o v hm => ?_⟩, ?_, le⟩
  · obtain ⟨y, h1, h2⟩ := h.tm t v ht
    exact ⟨y, h1, h2.mono le⟩
  · show HoldsC AI ρ' w' k (getC (putC s.H i .gone) k)
    rw [getC_putC]
    split
    · trivial
    · rename_i hki
      refine (h.ch k).stays le rfl rfl (by simp only [ρ', if_neg (fun e => hki e)]) fun q hq => hheap q ?_
      intro e
      exact h.dis k i q hki hq (e ▸ hbi)
  · have hm2 : (if q = b then w.cell? ⟨q, o, none⟩ else ρ.M q o) = some v := hm
    by_cases e : q = b
    · rw [if_pos e] at hm2
      exact ⟨by rw [hcell]; exact hm2, fun k hq => hnb k q hq e⟩
    · rw [if_neg e] at hm2
      exact ⟨by rw [hcell]; exact (h.im q o v hm2).1, fun k hq => (h.im q o v hm2).2 k (hfoot k q hq).2⟩
  · by_cases e : q = b
    · subst e
      rcases h.fro i q hbi with h1 | h1
      · exact absurd h1 ho
      · omega
    · rw [hheap q e]; exact h.kept q hq ho
  · have hm2 : (if q = b then w.cell? ⟨q, o, none⟩ else ρ.M q o) = some v := hm
    by_cases e : q = b
    · exact .inr (h.fro i q (e ▸ hbi))
    · rw [if_neg e] at hm2; exact h.mfr q o v hm2
  · rw [hroot]
    refine ⟨_, cap, rfl, hcap, fun _ => ⟨b, off, rfl, fun j x hj => ?_⟩⟩
    refine CellsM.congr e (CellsM.mono hM e (hcells j x hj)) fun k v _ hv => ?_
    show (if b = b then w.cell? ⟨b, off + j * e.size + k, none⟩ else _) = _
    rw [if_pos rfl]; exact hv

theorem srcOk_str {i j : TI} {x : SV} {p : Plan A} (h : convNew j x = some p) (hs : srcOk i x = true) : i.kind = .str := by
  unfold convNew at h
  split at h <;> cases h
  unfold srcOk at hs
  split at hs <;> simp_all

/-! ### s[:0:0] -/
theorem sliceZ_sound {t : TypeId} {i : TI} (hT : TIfact P t i) (h : Holds AI G s ρ a.tmps w) {x : SV} {lo hi mx : Option SV} {u : Value} {lv hv mv : Option Value}
    (hx : Den ρ x u) (d1 : OptDen ρ lo lv) (d2 : OptDen ρ hi hv) (d3 : OptDen ρ mx mv) {fresh : Nat} {p : Plan A} (hp : sliceZ i x lo hi mx fresh = some p) {d : List Bool} {C : U Prop} {v : SV} {cs : List (Chunk A)}
    (he : p.eff (getCs s.H p.ids) d = .done C v cs) : Done AI G P s a w ρ (Instr.sliceAt t u lv hv mv) (putCs s.H p.ids cs) v := by
  have hk := hT.kind
  unfold sliceZ at hp
  split at hp <;> (try cases hp)
  rename_i et e ho
  rw [ho] at hk
  obtain ⟨hu, g, hg1, hg2⟩ := hk
  split at hp <;> cases hp
  rename_i hb
  obtain ⟨hb, hb4⟩ := Bool.and_eq_true_iff.1 hb
  obtain ⟨hb, hb3⟩ := Bool.and_eq_true_iff.1 hb
  obtain ⟨hb1, hb2⟩ := Bool.and_eq_true_iff.1 hb
  obtain ⟨ao, len, cap, rfl⟩ : ∃ ao l c, u = .slice ao l c := by
    unfold isSlice at hb1
    split at hb1
    · obtain ⟨ao, c, e, _⟩ := hx; exact ⟨_, _, _, e⟩
    · exact ⟨_, _, _, hx⟩
    · exact hx.1
    · exact hx.1
    · cases hb1
  have zero : ∀ {o : Option SV} {ov : Option Value}, isZero o = true → OptDen ρ o ov → ∃ k, ov = some (.int k 0) := by
    intro o ov hz hd
    unfold isZero at hz
    split at hz
    · cases ov with
      | none => cases hd
      | some z => exact ⟨_, congrArg some hd⟩
    · cases hz
  obtain ⟨k1, rfl⟩ := zero hb2 d2
  obtain ⟨k2, rfl⟩ := zero hb3 d3
  have : lv = none := by
    cases lo with
    | some _ => cases hb4
    | none => cases lv with
      | none => rfl
      | some _ => cases d1
  subst this
  simp only [getCs] at he
  have hc := h.ch fresh
  generalize hg : getC s.H fresh = c at he hc
  cases c <;> (try (simp at he; done))
  simp at he
  obtain ⟨rfl, rfl, rfl⟩ := he
  obtain ⟨hc1, hc2, hc3⟩ := hc
  have hrun : ∃ ao', (Instr.sliceAt t (.slice ao len cap) none (some (.int k1 0)) (some (.int k2 0))).run P w = .ok (.slice ao' 0 0) w := by
    have hs : (Go.sizeOf et).run P w = .ok g.size w := by simp [Go.sizeOf, typeInfo, hg1]
    have e1 := fun y c => run_sliceBound (P := P) (w := w) k1 (n := 0) (y := y) c (by omega) (by omega)
    have e2 := fun y c => run_sliceBound (P := P) (w := w) k2 (n := 0) (y := y) c (by omega) (by omega)
    exact ⟨_, by simp [Instr.sliceAt, Instr.slice, run_underlying hu, Instr.sliceBounds, e1, e2, hs]; rfl⟩
  obtain ⟨ao', hrun⟩ := hrun
  obtain ⟨h9, h10⟩ := h.upd1 fresh (.slice ao' 0 0) 0 [] (.row et e 0 (fun _ => [])) w
    (by rw [hc2]; simp) (by omega) (by rw [hc2]; simp) (by simp) (fun _ _ _ => rfl) rfl rfl rfl (Nat.le_refl _)
    ⟨by simp [Ev.upd], .inl ⟨⟨ao', by simp [Ev.upd]⟩, rfl, by simp [Ev.upd]⟩⟩
  exact ⟨_, _, _, hrun, h9, ⟨⟨_, _, _, rfl⟩, by simp [Ev.upd], fun _ => by simp [Ev.upd]⟩, h10⟩

/-! ### a slice compared with nil -/
theorem run_eqGuard (op : BinOp) (t : TypeId) (x y : Operand) {u v : Value} (h1 : u ≠ .nilIface) (h2 : ∀ c, u ≠ .agg c) : (eqGuard op t x y u v).run P w = .ok () w := by
  unfold eqGuard
  cases u <;> first
    | exact absurd rfl h1
    | exact absurd rfl (h2 _)
    | (simp only []; split <;> rfl)

theorem eql_nil {t e : TypeId} (hu : P.underlying t = some (.slice e)) (d : Nat) (ao : Option Addr) (l c : Nat) : (Op.equalIn (d + 1) t (.slice ao l c) (.slice none 0 0)).run P w = .ok ao.isNone w := by
  cases ao <;> simp [Op.equalIn, run_underlying hu]

theorem nilCmp_sound {t : TypeId} {i : TI} (hT : TIfact P t i) {op : BinOp} {v u : SV} {y : SV1} (h : nilCmp op i v u = some y) (x x' : Operand) (yt : TypeId) {p q : Value} (hp : Den ρ v p) (hq : Den ρ u q) :
    ∃ r, (do eqGuard op t x x' p q; binOp op t p q : Go.Sem Value).run P w = .ok r w ∧ Den ρ (one y) r := by
  have hk := hT.kind
  unfold nilCmp at h
  split at h <;> (try cases h)
  rename_i e ty hki
  rw [hki] at hk
  obtain ⟨hu, _⟩ := hk
  have key : ∀ (neg : Bool), nilOf neg v u = some y → ∃ ao l c, p = .slice ao l c ∧ q = .slice none 0 0 ∧ Den1 ρ y (.bool (ao.isNone != neg)) := by
    intro neg h
    unfold nilOf at h
    split at h <;> cases h
    · exact ⟨none, 0, 0, hp, hq, by cases neg <;> rfl⟩
    · rename_i e' L
      obtain ⟨ao, c, rfl, _, h2⟩ := hp
      refine ⟨ao, _, c, rfl, hq, _, rfl, fun hb => ?_⟩
      have hn : ao = none := by cases ao <;> cases neg <;> simp_all
      subst hn
      rcases Nat.eq_zero_or_pos (L ()).length with h0 | h0
      · exact List.eq_nil_of_length_eq_zero h0
      · obtain ⟨b, off, h3, _⟩ := h2 h0; cases h3
    · obtain ⟨⟨ao, l, c, rfl⟩, _⟩ := hp
      exact ⟨ao, l, c, rfl, hq, _, rfl, fun _ => trivial⟩
    · obtain ⟨⟨ao, l, c, rfl⟩, _⟩ := hp
      exact ⟨ao, l, c, rfl, hq, _, rfl, fun _ => trivial⟩
  split at h
  · obtain ⟨ao, l, c, rfl, rfl, hd⟩ := key false h
    refine ⟨_, ?_, hd⟩
    rw [Sem.run_bind, run_eqGuard _ _ _ _ (by simp) (by simp)]
    simp only [Result.andThen, binOp, Op.equal, Op.maxDepth, Sem.run_bind, eql_nil hu 9999]
    cases ao <;> rfl
  · obtain ⟨ao, l, c, rfl, rfl, hd⟩ := key true h
    refine ⟨_, ?_, hd⟩
    rw [Sem.run_bind, run_eqGuard _ _ _ _ (by simp) (by simp)]
    simp only [Result.andThen, binOp, Op.equal, Op.maxDepth, Sem.run_bind, eql_nil hu 9999]
    cases ao <;> rfl
  · cases h

/-! ### ranging over a map -/
theorem getC_getCs {H : List (Chunk A)} : ∀ {n i j : Nat}, j < n → getC (getCs H (upTo i n)) j = getC H (i + j)
  | 0, i, j, h => by omega
  | n + 1, i, 0, h => rfl
  | n + 1, i, j + 1, h => by
    have := getC_getCs (H := H) (n := n) (i := i + 1) (j := j) (by omega)
    rw [show i + (j + 1) = i + 1 + j by omega, ← this]; rfl

theorem range_sound {t : TypeId} {i : TI} (hT : TIfact P t i) (h : Holds AI G s ρ a.tmps w) {x : SV} {u : Value} (hx : Den ρ x u) {fresh : Nat} {p : Plan A} (hp : rangeP i x fresh = some p) {d : List Bool} {C : U Prop} {rr : SV} {cs : List (Chunk A)}
    (he : p.eff (getCs s.H p.ids) d = .done C rr cs) : Done AI G P s a w ρ (Instr.range t u) (putCs s.H p.ids cs) rr := by
  have hk := hT.kind
  unfold rangeP at hp
  split at hp <;> cases hp
  rename_i kt et kk i' hik
  rw [hik] at hk
  obtain ⟨hu, -⟩ := hk
  simp only [getCs] at he
  have hc := h.ch i'
  have hf := h.ch fresh
  generalize hg : getC s.H i' = c at he hc
  generalize hgf : getC s.H fresh = cf at he hf
  cases c <;> (try (simp at he; done))
  cases cf <;> (try (simp at he; done))
  rename_i ks e L
  simp at he
  obtain ⟨rfl, rfl, rfl⟩ := he
  obtain ⟨b, hb1, hb2⟩ := hx
  subst hb2
  obtain ⟨b', es, clock, h1, h2, h3, h4⟩ := hc
  obtain ⟨f1, f2, f3⟩ := hf
  have : b' = b := by rw [hb1] at h1; cases h1; rfl
  subst this
  have hne : i' ≠ fresh := fun e => by rw [e, hgf] at hg; cases hg
  have hlt : b' < w.heap.size := h.lt i' b' (by simp [h2])
  let r := w.heap.size
  let ρ' : Ev := { root := fun k => if k = fresh then .pointer (some ⟨r, 0, none⟩) else ρ.root k, ver := ρ.ver, M := ρ.M, foot := fun k => if k = i' then [b', r] else ρ.foot k }
  have le : ρ.Le ρ' := by
    refine ⟨fun _ _ _ h => h, fun k b hk => ?_, fun k => Nat.le_refl _, fun k e hk => ?_⟩
    · simp only [ρ']; split
      · rename_i e; subst e; rw [f2] at hk; cases hk
      · exact hk
    · simp only [ρ']; split
      · rename_i e; subst e; obtain ⟨_, _, _, hk⟩ := hk; rw [f2] at hk; cases hk
      · rfl
  have hH : ∀ k, getC (putCs s.H [i', fresh] [.rmap ks e L L none fresh, .itp i']) k = if k = fresh then .itp i' else if k = i' then .rmap ks e L L none fresh else getC s.H k := fun k => by
    simp only [putCs, getC_putC]
  have hst := h.step (ρ' := ρ') (w' := w.alloc (.mapIter (some b') clock #[] clock)) (H' := putCs s.H [i', fresh] [.rmap ks e L L none fresh, .itp i']) (fun k => k = i' ∨ k = fresh) le rfl
    (fun k hk => by
      have n1 : k ≠ i' := fun e => hk (.inl e)
      have n2 : k ≠ fresh := fun e => hk (.inr e)
      refine ⟨by simp only [ρ', if_neg n2], rfl, by simp only [ρ', if_neg n1], ?_⟩
      rw [hH, if_neg n2, if_neg n1])
    (fun k hk bb hbb => by
      simp only [ρ'] at hbb
      split at hbb
      · rename_i e
        rcases List.mem_cons.1 hbb with rfl | hbb
        · exact ⟨.inl ⟨i', .inl rfl, by rw [h2]; simp⟩, by rw [World.size_alloc]; omega⟩
        · obtain rfl : bb = r := by simpa using hbb
          exact ⟨.inr (Nat.le_refl _), by rw [World.size_alloc]; exact Nat.lt_succ_self _⟩
      · rename_i n1
        rcases hk with hk | hk
        · exact absurd hk n1
        · subst hk; rw [f1] at hbb; cases hbb)
    (fun k q bb hk hq hkq hbb hbq => by
      simp only [ρ'] at hbb hbq
      rcases hk with rfl | rfl <;> rcases hq with rfl | rfl
      · exact hkq rfl
      · rw [if_neg (fun e => hne e.symm), f1] at hbq; cases hbq
      · rw [if_neg (fun e => hne e.symm), f1] at hbb; cases hbb
      · exact hkq rfl)
    (fun bb hbb _ => alloc_lt w _ hbb) rfl rfl rfl (by rw [World.size_alloc]; omega)
    (fun k hk => by
      rw [hH]
      split
      · rename_i e
        subst e
        exact ⟨by simp only [ρ']; rw [if_neg (fun e => hne e.symm)]; exact f1, r, by simp only [ρ', if_pos]⟩
      · rename_i n2
        rcases hk with hk | hk
        · subst hk
          rw [if_pos rfl]
          refine ⟨b', r, by simp only [ρ', if_neg n2]; exact hb1, by simp only [ρ', if_pos], by simp only [ρ', if_pos], by omega, es, clock, clock, #[], (alloc_lt w _ hlt).trans h3, alloc_get w _, h4, h4.2.2, Nat.le_refl _, ?_, fun _ e => by cases e⟩
          have : (leftOf es #[]).toList = es.toList := by simp [leftOf]
          rw [this]
          exact h4.1
        · exact absurd hk n2)
  exact ⟨_, ρ', _, run_range_map w t kt et b' es clock hu h3, hst, ⟨r, by simp only [ρ', if_pos], rfl⟩, le⟩

theorem entry_sound (h : Holds AI G s ρ a.tmps w) {x : SV} {u : Value} (hx : Den ρ x u) {fresh : Nat} {p : Plan A} (hp : entryP x fresh = some p) {d : List Bool} {C : U Prop} {rr : SV} {cs : List (Chunk A)}
    (he : p.eff (getCs s.H p.ids) d = .done C rr cs) : Looks s p cs ∧ ∃ y, (Instr.entry u).run P w = .ok y w ∧ Den ρ rr y := by
  unfold entryP at hp
  split at hp <;> cases hp
  rename_i j
  dsimp only at he
  split at he <;> (try (simp at he; done))
  rename_i i' hj
  split at he <;> (try (simp at he; done))
  rename_i ks e L R p j' hi
  split at he <;> (try (simp at he; done))
  rename_i hb
  simp only [Bool.and_eq_true] at hb
  obtain ⟨⟨hjj, hi'⟩, hj'⟩ := hb
  have hjj := beq_eq hjj
  subst hjj
  have hi' : i' < fresh := leN hi'
  have hj' : j < fresh := leN hj'
  split at he <;> (try (simp at he; done))
  rename_i v hv
  simp at he
  obtain ⟨rfl, rfl, rfl⟩ := he
  refine ⟨rfl, ?_⟩
  have hi : getC s.H i' = .rmap ks e L R (some p) j := by
    have := getC_getCs (H := s.H) (n := fresh) (i := 0) (j := i') hi'
    rw [Nat.zero_add] at this
    rw [← this]; exact hi
  have hc := h.ch i'
  rw [hi] at hc
  obtain ⟨b, r, h1, h2, h3, h4, es, clock, since, seen, a1, a2, a3, a4, a5, a6, a7⟩ := hc
  obtain ⟨m, seen', b1, b2, b3⟩ := a7 p rfl
  obtain ⟨r', e1, e2⟩ := hx
  have : r' = r := by rw [h2] at e1; cases e1; rfl
  subst this
  subst e2
  subst b2
  have hn : (es.toList.map (·.born)).Nodup := a3.2.1.imp fun h => Nat.ne_of_lt h
  refine ⟨_, run_entry_at w r' b since seen' es clock m a2 a1 b1 hn, [m.key, m.val], rfl, .cons ?_ (.cons (elV_den hv b3.2.2) .nil)⟩
  rw [b3.1]
  cases ks with
  | int k => rfl
  | str => rfl

end Go.Sx
