/-
  Part Eng2 of the proof.
-/
import Derived.Test.YtcaoldilmnpjoaaGreatEng1
import Derived.Lib.UnsafeStr
import Derived.MapKept
import Derived.Lib.ConvBytes
import Derived.StillTailTactics
import Derived.Deep.LoopGhost
import Derived.Scope
namespace Go.Sx
set_option linter.all false
open Go.RowKit Go.MapKept
variable {A : Type} {AI : Abs A} {G : Fr} {s : SS A} {ρ : Ev} {a : Act} {w : World} {P : Program}
theorem od {K V : Type} [DecidableEq K] {mk : K → Value} {ok : K → Prop} {R : V → Value → Prop} {d : TypeDesc} (hs : ∀ x y, ok x → ok y → Instr.sameNow d (mk x) (mk y) = some (decide (x = y))) {k : K} (hk : ok k) :
 ∀ {L : List (K × V)} {es : List MapEntry} (i : Nat), aL (fun p (m : MapEntry) => m.key = mk p.1 ∧ ok p.1 ∧ R p.2 m.val) L es →
   (Instr.findNow d (mk k) es i = some none ∧ bB L k = none ∧ (∀ y, ak L k y = L ++ [(k, y)]) ∧ k5 L k = L) ∨
   ∃ j v m, es[j]? = some m ∧ L[j]? = some (k, v) ∧ R v m.val ∧ m.key = mk k ∧ Instr.findNow d (mk k) es i = some (some (i + j, m.val)) ∧ bB L k = some v ∧ (∀ y, ak L k y = L.set j (k, y)) ∧ k5 L k = L.eraseIdx j
 | [], es, i, h => by cases h; exact .inl ⟨rfl, rfl, fun _ => rfl, rfl⟩
 | (c, v) :: L, es, i, h => by
   cases h with
   | @cons _ m _ es h1 h2 =>
     obtain ⟨h3, h4, h5⟩ := h1
     have h6 := hs k c hk h4
     by_cases e : c = k
     · subst e
       exact .inr ⟨0, v, m, rfl, rfl, h5, h3, by simp [Instr.findNow, h3, h6], by simp [bB], fun y => by simp [ak], by simp [k5]⟩
     · have h7 : Instr.findNow d (mk k) (m :: es) i = Instr.findNow d (mk k) es (i + 1) := by
        simp [Instr.findNow, h3, h6, show ¬ k = c from fun q => e q.symm]
       rcases od hs hk (i + 1) h2 with ⟨h8, h9, h10, h11⟩ | ⟨j, u, m', h8, h9, h10, h11, h12, h13, h14, h15⟩
       · exact .inl ⟨h7.trans h8, by simp [bB, e, h9], fun y => by simp [ak, e, h10], by simp [k5, e, h11]⟩
       · exact .inr ⟨j + 1, u, m', by simpa using h8, by simpa using h9, h10, h11, by rw [h7, h12]; congr 3; omega, by simp [bB, e, h13], fun y => by simp [ak, e, h14], by simp [k5, e, h15]⟩
theorem qC : ∀ (e : Ty) {x : e.T} {M : Mem} {c : Nat → Option Value}, e.ka = true → aI M e x c → (e.b8 x).length = e.size ∧ ∀ j v, (e.b8 x)[j]? = some v → c j = some v
 | .int k, x, M, c, _, h => ⟨rfl, fun j v hj => by cases j with
   | zero => cases hj; exact h
   | succ j => simp [Ty.b8] at hj⟩
 | .bool, x, M, c, _, h => ⟨rfl, fun j v hj => by cases j with
   | zero => cases hj; exact h
   | succ j => simp [Ty.b8] at hj⟩
 | .pair a b, x, M, c, hf, h => by
   simp only [Ty.ka, Bool.and_eq_true] at hf
   obtain ⟨h1, h2⟩ := qC a hf.1 h.1
   obtain ⟨h3, h4⟩ := qC b hf.2 h.2
   refine ⟨by simp [Ty.b8, Ty.size, h1, h3], fun j v hj => ?_⟩
   simp only [Ty.b8] at hj
   by_cases hl : j < (a.b8 x.1).length
   · rw [List.getElem?_append_left hl] at hj; exact h2 j v hj
   · rw [List.getElem?_append_right (by omega)] at hj
     have := h4 _ v hj
     try dsimp only at this
     rwa [show a.size + (j - (a.b8 x.1).length) = j by omega] at this
 | .bytes, _, _, _, hf, _ => by cases hf
 | .str, _, _, _, hf, _ => by cases hf
 | .unit, _, _, _, hf, _ => by cases hf
 | .lst _, _, _, _, hf, _ => by cases hf
theorem nL {ρ : Ev} : ∀ (e : Ty) (x : U e.T), e.ka = true → aL (aK ρ) (dec e x) (e.b8 (x ()))
 | .int k, x, _ => .cons rfl .nil
 | .bool, x, _ => .cons rfl .nil
 | .pair a b, x, hf => by
   simp only [Ty.ka, Bool.and_eq_true] at hf
   exact (nL a (fun _ => (x ()).1) hf.1).append (nL b (fun _ => (x ()).2) hf.2)
 | .bytes, _, hf => by cases hf
 | .str, _, hf => by cases hf
 | .unit, _, hf => by cases hf
 | .lst _, _, hf => by cases hf
theorem o4 {V : Type} {R : V → Value → Prop} {kt : TypeId} {e : Ty} (hk : uD P kt e) {k : e.T} (hok : e.bW k) :
 ∀ {L : List (e.T × V)} {es : List MapEntry} (i : Nat), aL (fun p (m : MapEntry) => m.key = .agg (e.b8 p.1).toArray ∧ e.bW p.1 ∧ R p.2 m.val) L es →
   ((∀ w, (Instr.findAsking kt (.agg (e.b8 k).toArray) es i).run P w = .ok none w) ∧ @bB e.T V e.dec L k = none ∧ (∀ y, @ak e.T V e.dec L k y = L ++ [(k, y)]) ∧ @k5 e.T V e.dec L k = L) ∨
   ∃ j v m, es[j]? = some m ∧ L[j]? = some (k, v) ∧ R v m.val ∧ m.key = .agg (e.b8 k).toArray ∧ (∀ w, (Instr.findAsking kt (.agg (e.b8 k).toArray) es i).run P w = .ok (some (i + j, m.val)) w) ∧ @bB e.T V e.dec L k = some v ∧ (∀ y, @ak e.T V e.dec L k y = L.set j (k, y)) ∧ @k5 e.T V e.dec L k = L.eraseIdx j
 | [], es, i, h => by cases h; exact .inl ⟨fun w => by simp [Instr.findAsking], rfl, fun _ => rfl, rfl⟩
 | (c, v) :: L, es, i, h => by
   letI := e.dec
   cases h with
   | @cons _ m _ es h1 h2 =>
     obtain ⟨h3, h4, h5⟩ := h1
     have h6 := hk.2.1 k c hok h4
     by_cases e1 : c = k
     · subst e1
       exact .inr ⟨0, v, m, rfl, rfl, h5, h3, fun w => by simp [Instr.findAsking, h3, h6, Result.andThen], by simp [bB], fun y => by simp [ak], by simp [k5]⟩
     · have h7 : ∀ w, (Instr.findAsking kt (.agg (e.b8 k).toArray) (m :: es) i).run P w = (Instr.findAsking kt (.agg (e.b8 k).toArray) es (i + 1)).run P w := fun w => by
        simp [Instr.findAsking, h3, h6, Result.andThen, show ¬ k = c from fun q => e1 q.symm]
       rcases o4 hk hok (i + 1) h2 with ⟨h8, h9, h10, h11⟩ | ⟨j, u, m', h8, h9, h10, h11, h12, h13, h14, h15⟩
       · exact .inl ⟨fun w => (h7 w).trans (h8 w), by simp [bB, e1, h9], fun y => by simp [ak, e1, h10], by simp [k5, e1, h11]⟩
       · exact .inr ⟨j + 1, u, m', by simpa using h8, by simpa using h9, h10, h11, fun w => by rw [h7, h12]; congr 3; omega, by simp [bB, e1, h13], fun y => by simp [ak, e1, h14], by simp [k5, e1, h15]⟩
theorem qQ {M : Mem} {kt : TypeId} {ks : KT} (hk : KeyOk P kt ks) {e : Ty} {L : List (ks.T × e.T)} {es : List MapEntry} {clock : Nat} (h : gm M ks e L es clock) {k : ks.T} (hok : ks.ok k) :
 (∀ em w, (Instr.checkKey em 10000 kt (ks.mk k)).run P w = .ok () w) ∧ (∀ w, (Instr.keyThatStays (ks.mk k) (ks.mk k)).run P w = .ok (ks.mk k) w) ∧
   (((∀ w, (Instr.findKey kt (ks.mk k) es).run P w = .ok none w) ∧ getM ks L k = none ∧ (∀ y, eh ks L k y = L ++ [(k, y)]) ∧ gL ks L k = L) ∨
   ∃ j v m, es[j]? = some m ∧ L[j]? = some (k, v) ∧ dz M e v m.val ∧ m.key = ks.mk k ∧ (∀ w, (Instr.findKey kt (ks.mk k) es).run P w = .ok (some (j, m.val)) w) ∧ getM ks L k = some v ∧ (∀ y, eh ks L k y = L.set j (k, y)) ∧ gL ks L k = L.eraseIdx j) := by
 have fin : ∀ {d : TypeDesc}, P.underlying kt = some d → IsKey d (ks.mk k) → ((Instr.findNow d (ks.mk k) es 0 = some none ∧ getM ks L k = none ∧ (∀ y, eh ks L k y = L ++ [(k, y)]) ∧ gL ks L k = L) ∨
  ∃ j v m, es[j]? = some m ∧ L[j]? = some (k, v) ∧ dz M e v m.val ∧ m.key = ks.mk k ∧ Instr.findNow d (ks.mk k) es 0 = some (some (j, m.val)) ∧ getM ks L k = some v ∧ (∀ y, eh ks L k y = L.set j (k, y)) ∧ gL ks L k = L.eraseIdx j) →
  (∀ em w, (Instr.checkKey em 10000 kt (ks.mk k)).run P w = .ok () w) ∧ (∀ w, (Instr.keyThatStays (ks.mk k) (ks.mk k)).run P w = .ok (ks.mk k) w) ∧
  (((∀ w, (Instr.findKey kt (ks.mk k) es).run P w = .ok none w) ∧ getM ks L k = none ∧ (∀ y, eh ks L k y = L ++ [(k, y)]) ∧ gL ks L k = L) ∨
  ∃ j v m, es[j]? = some m ∧ L[j]? = some (k, v) ∧ dz M e v m.val ∧ m.key = ks.mk k ∧ (∀ w, (Instr.findKey kt (ks.mk k) es).run P w = .ok (some (j, m.val)) w) ∧ getM ks L k = some v ∧ (∀ y, eh ks L k y = L.set j (k, y)) ∧ gL ks L k = L.eraseIdx j) := fun hd hi hf =>
  ⟨fun em w => run_checkKey hd hi em 9999, fun w => run_keyThatStays hi, hf.imp (fun ⟨h1, h2⟩ => ⟨fun w => run_findKey hd h1, h2⟩) fun ⟨j, v, m, h1, h2, h3, h4, h5, h6⟩ => ⟨j, v, m, h1, h2, h3, h4, fun w => run_findKey hd h5, h6⟩⟩
 cases ks with
 | int kk =>
   refine fin (d := .int kk) hk (by simp [KT.mk, IsKey]) ?_
   have := od (K := Int) (mk := fun n => .int kk n) (ok := fun _ => True) (R := dz M e) (d := .int kk) (fun x y _ _ => by simp [Instr.sameNow]; rfl) (k := k) trivial 0 h.1
   simpa [KT.mk, getM, eh, gL] using this
 | str =>
   refine fin (d := .string) hk (by simp [KT.mk, IsKey]) ?_
   have := od (K := List Int) (mk := fun l => .string ⟨(l.map fun (x : Int) => x.toNat.toUInt8).toArray⟩) (ok := fun l => ∀ x ∈ l, 0 ≤ x ∧ x < 256) (R := dz M e) (d := .string) (fun x y hx hy => by
    have := Aj hx hy
    simp only [Instr.sameNow, Option.some.injEq]
    rw [← this, Bool.eq_iff_iff, bytes_beq]
    simp [Nat.toUInt8]) (k := k) hok 0 h.1
   simpa [KT.mk, getM, eh, gL] using this
 | agg e0 =>
   have hk : uD P kt e0 := hk
   have hok : e0.ka = true ∧ e0.bW k := hok
   refine ⟨fun em w => hk.2.2.1 k hok.2 em w, fun w => hk.2.2.2 k hok.2 w, ?_⟩
   have := o4 (R := dz M e) hk hok.2 0 (h.1.mono fun a b ⟨h1, h2, h3⟩ => ⟨h1, h2.2, h3⟩)
   rcases this with ⟨h1, h2, h3, h4⟩ | ⟨j, v, m, h1, h2, h3, h4, h5, h6, h7, h8⟩
   · exact .inl ⟨fun w => (Go.run_findKey_eq w hk.1 _ _).trans (h1 w), h2, h3, h4⟩
   · exact .inr ⟨j, v, m, h1, h2, h3, h4, fun w => by rw [Nat.zero_add] at h5; exact (Go.run_findKey_eq w hk.1 _ _).trans (h5 w), h6, h7, h8⟩
theorem j9 {ks : KT} {x : SV} {C : U Prop} {k : U ks.T} (h : tQ ks x = some (C, k)) (hC : C ()) {u : Value} (hu : Den ρ x u) : u = ks.mk (k ()) ∧ ks.ok (k ()) := by
 unfold tQ at h
 split at h
 · split at h <;> simp at h
   rename_i hk
   simp at hk
   subst hk
   obtain ⟨rfl, rfl⟩ := h
   exact ⟨hu, trivial⟩
 · split at h <;> simp at h
   rename_i hk
   simp at hk
   subst hk
   obtain ⟨rfl, rfl⟩ := h
   exact ⟨hu, trivial⟩
 · simp at h
   obtain ⟨rfl, rfl⟩ := h
   exact ⟨hu, hC⟩
 · rename_i e l
   split at h <;> (try (cases h; done))
   rename_i hf
   split at h <;> simp at h
   rename_i y hy
   obtain ⟨rfl, rfl⟩ := h
   obtain ⟨vs, rfl, hvs⟩ := hu
   obtain ⟨v1, v2, e1, l1, c1, d1⟩ := aI.enc e hy hvs
   cases d1
   simp at e1
   subst e1
   obtain ⟨h1, h2⟩ := qC e hf c1
   refine ⟨?_, hf, hC⟩
   have : vs = e.b8 (y ()) := by
    apply List.ext_getElem (by rw [l1, h1])
    intro j hj hj'
    have := h2 j _ (List.getElem?_eq_getElem hj')
    rw [List.getElem?_eq_getElem hj] at this
    exact Option.some.inj this
   rw [this]; rfl
 · cases h
theorem oe {e : Ty} {x : U e.T} {y : SV2} (h : elV e x = some y) {v : Value} (hv : dz ρ.M e (x ()) v) : cM ρ y v := by
 obtain ⟨vs, h1, h2, h3⟩ := hv
 obtain ⟨us, h4, h5⟩ := aI.dec (ρ := ρ) e x _ h2
 have hl : us.length = vs.length := by rw [h1, ← h4.length, dX]
 have e1 : us = vs := by
  apply List.ext_getElem hl
  intro i hi hi'
  have := h5 i _ (List.getElem?_eq_getElem hi)
  simp only [List.getElem?_eq_getElem hi', Option.some.injEq] at this
  exact this.symm
 subst e1
 unfold elV at h
 split at h
 · rename_i hg
   cases h
   rw [hg] at h3
   exact ⟨us, h3, h4⟩
 · rename_i hg
   rw [hg] at h3
   simp only [] at h3
   split at h
   · rename_i z hz
     cases h
     rw [hz, h3] at h4
     cases h4 with | cons h6 _ => exact h6
   · cases h
theorem rE {t : TypeId} {i : TI} (h : Holds AI G s ρ a.tmps w) {fresh : Nat} {p : aZ A} (hp : gZ i fresh = some p) {d : List Bool} {C : U Prop} {r : SV} {cs : List (Chunk A)}
 (he : p.eff (aD s.H p.ids) d = .done C r cs) : bV AI G P s a w ρ (Instr.makeMap t none) (aO s.H p.ids cs) r := by
 unfold gZ at hp
 split at hp <;> cases hp
 rename_i ks e _
 simp only [aD] at he
 have hc := h.ch fresh
 generalize hg : aC s.H fresh = c at he hc
 cases c <;> (try (simp at he; done))
 simp at he
 obtain ⟨rfl, rfl, rfl⟩ := he
 obtain ⟨hc1, hc2, hc3⟩ := hc
 obtain ⟨h4, h5⟩ := h.dx fresh (.pointer (some ⟨w.heap.size, 0, none⟩)) 0 [w.heap.size] (.map ks e (fun _ => [])) (w.alloc (.map #[] 0))
  (by rw [hc2]; simp) (by omega) (by rw [hc2]; simp) (fun b' hb' => by obtain rfl : b' = w.heap.size := (by simpa using hb'); exact ⟨.inr (Nat.le_refl _), by rw [World.size_alloc]; exact Nat.lt_succ_self _⟩) (fun b hb _ => dC w _ hb) rfl rfl rfl (by simp)
  ⟨w.heap.size, #[], 0, by simp [Ev.upd], by simp [Ev.upd], ju w _, .nil, by simp, by simp⟩
 exact ⟨.map (some w.heap.size), _, _, by simp [Instr.makeMap, Result.andThen], h4, ⟨_, by simp [Ev.upd], rfl⟩, h5⟩
theorem tN {t : TypeId} {i : TI} (hT : af P t i) (h : Holds AI G s ρ a.tmps w) {x ix : SV} {u v : Value} (hx : Den ρ x u) (hix : Den ρ ix v) {ok : Bool} {p : aZ A} (hp : iK i x ix ok = some p) {d : List Bool} {C : U Prop} {r : SV} {cs : List (Chunk A)}
 (he : p.eff (aD s.H p.ids) d = .done C r cs) (hC : C ()) : dD s p cs ∧ ∃ y, (Instr.lookup t u v ok).run P w = .ok y w ∧ Den ρ r y := by
 have hk := hT.kind
 unfold iK at hp
 split at hp <;> cases hp
 rename_i kt et ks0 e0 i' hik
 rw [hik] at hk
 obtain ⟨hu, hk2⟩ := hk
 simp only [aD] at he
 have hc := h.ch i'
 generalize hg : aC s.H i' = c at he hc
 cases c <;> (try (simp at he; done))
 rename_i ks e L
 dsimp only at he
 split at he <;> (try (simp at he; done))
 rename_i hb
 obtain ⟨hb1, hb2⟩ := Bool.and_eq_true_iff.1 hb
 simp at hb1 hb2
 subst hb1; subst hb2
 split at he <;> (try (simp at he; done))
 rename_i C' k hkv
 split at he <;> (try (simp at he; done))
 rename_i y hy
 simp at he
 obtain ⟨rfl, rfl, rfl⟩ := he
 obtain ⟨rfl, hok⟩ := j9 hkv hC hix
 obtain ⟨b, es, clock, h1, h2, h3, h4⟩ := hc
 obtain ⟨b', h5, rfl⟩ := hx
 rw [h1] at h5
 cases h5
 obtain ⟨hkey, g, z, hg1, hz, hz2⟩ := hk2 _ _ rfl
 obtain ⟨hck, hd2, hd3⟩ := qQ hkey h4 hok
 refine ⟨by simp [dD, aD, hg], ?_⟩
 have fin : ∀ (val : Value) (c : Bool), dz ρ.M e ((getM ks (L ()) (k ())).getD e.cY) val → (getM ks (L ()) (k ())).isSome = c → Den ρ (match ok with | true => .tup [y, .one (.sb (fun _ => (getM ks (L ()) (k ())).isSome))] | false => .val y) (if ok then .tuple #[val, .bool c] else val) := by
  intro val c hval hc
  have := oe (ρ := ρ) hy hval
  cases ok with
  | true => exact ⟨[val, .bool c], rfl, .cons this (.cons (by rw [← hc]; rfl) .nil)⟩
  | false => exact this
 rcases hd3 with ⟨hn, hgn, _⟩ | ⟨j, vv, m, _, _, hval, _, hn, hgn, _⟩
 · refine ⟨_, ?_, fin z false (by rw [hgn]; exact hz2 _) (by rw [hgn]; rfl)⟩
   simp [Instr.lookup, run_underlying hu, MapKept.run_getObj_map h3, hck, hn, Go.zeroValue, typeInfo, hg1, hz, Result.andThen]
 · refine ⟨_, ?_, fin m.val true (by rw [hgn]; exact hval) (by rw [hgn]; rfl)⟩
   simp [Instr.lookup, run_underlying hu, MapKept.run_getObj_map h3, hck, hn, Result.andThen]
theorem aL.set {α β : Type} {R : α → β → Prop} {l : List α} {m : List β} (h : aL R l m) {x : α} {y : β} (hxy : R x y) : ∀ j, aL R (l.set j x) (m.set j y) := by
 induction h with
 | nil => intro j; simpa using aL.nil
 | cons h1 h2 ih =>
   intro j
   cases j with
   | zero => exact .cons hxy h2
   | succ j => exact .cons h1 (ih j)
theorem aL.erase {α β : Type} {R : α → β → Prop} {l : List α} {m : List β} (h : aL R l m) : ∀ j, aL R (l.eraseIdx j) (m.eraseIdx j) := by
 induction h with
 | nil => intro j; simpa using aL.nil
 | cons h1 h2 ih =>
   intro j
   cases j with
   | zero => exact h2
   | succ j => exact .cons h1 (ih j)
theorem uG {e : Ty} {x : SV} {y : U e.T} (h : yY e x = some y) (ha : w6 x = e.agg) {u : Value} (hu : Den ρ x u) : dz ρ.M e (y ()) u := by
 unfold yY at h
 split at h <;> (try cases h)
 rename_i l hl
 split at h <;> (try cases h)
 rename_i hst
 split at h <;> cases h
 rename_i hen
 have hd := eV hl hu hst
 obtain ⟨v1, v2, e1, e2, e3, e4⟩ := aI.enc e hen hd
 cases e4
 simp only [List.append_nil] at e1
 refine ⟨v1, e2, e3, ?_⟩
 unfold cellsOf at hl
 split at hl
 · cases hl
   simp only [w6] at ha
   rw [← ha]
   have h1 := hd.storable hst
   have hu1 : u.cells = #[u] := by
    rename_i x1
    simp only [List.all_cons, List.all_nil, Bool.and_true] at hst
    have := gw hst (show aK ρ x1 u from hu)
    cases u <;> simp_all [Value.oneCell', Value.cells]
   rw [hu1] at e1
   simpa using e1.symm
 · cases hl
   simp only [w6] at ha
   rw [← ha]
   obtain ⟨vs, rfl, h2⟩ := hu
   simp only [Value.cells] at e1
   simpa using e1
 · split at hl <;> cases hl
   simp only [w6] at ha
   rw [← ha]
   obtain ⟨vs, rfl, h2⟩ := hu
   exact e1.symm
 · cases hl
theorem Holds.uI {tmps : Array Value} (h : Holds AI G s ρ tmps w) {i : Nat} {ks : KT} {e : Ty} {L L' : U (List (ks.T × e.T))} (hi : aC s.H i = .map ks e L) {b : Nat} {es es' : Array MapEntry} {clock clock' : Nat} (h1 : ρ.root i = .pointer (some ⟨b, 0, none⟩)) (h2 : ρ.foot i = [b])
 (h3 : w.heap[b]? = some (.map es clock)) (h4 : gm ρ.M ks e (L' ()) es'.toList clock') :
 ∃ ρ', Holds AI G ⟨s.tm, bX s.H i (.map ks e L')⟩ ρ' tmps { w with heap := w.heap.setIfInBounds b (.map es' clock') } ∧ ρ.Le ρ' := by
 have hlt : b < w.heap.size := h.lt i b (by simp [h2])
 obtain ⟨h5, h6⟩ := h.dx i (ρ.root i) (ρ.ver i) (ρ.foot i) (.map ks e L') { w with heap := w.heap.setIfInBounds b (.map es' clock') } (fun _ h => h) (Nat.le_refl _) (fun _ _ => rfl) (fun bb hbb => ⟨.inl hbb, by simpa using h.lt i bb hbb⟩)
  (fun b2 _ hn => by
    have : b ≠ b2 := fun e => hn (by rw [h2, e]; simp)
    simp [this]) rfl rfl rfl (by simp) ⟨b, es', clock', by simp [Ev.upd, h1], by simp [Ev.upd, h2], by simp [hlt], h4⟩
 exact ⟨_, h5, h6⟩
theorem oL {t : TypeId} {i : TI} (hT : af P t i) (h : Holds AI G s ρ a.tmps w) {x ix y : SV} {u v z : Value} (hx : Den ρ x u) (hix : Den ρ ix v) (hy : Den ρ y z) {p : aZ A} (hp : eE i x ix y = some p) {d : List Bool} {C : U Prop} {r : SV} {cs : List (Chunk A)}
 (he : p.eff (aD s.H p.ids) d = .done C r cs) (hC : C ()) : ∃ ρ' w', (Instr.mapUpdate t u v z).run P w = .ok () w' ∧ Holds AI G ⟨s.tm, aO s.H p.ids cs⟩ ρ' a.tmps w' ∧ r = one .any := by
 have hk := hT.kind
 unfold eE at hp
 split at hp <;> cases hp
 rename_i kt et ks0 e0 i' hik
 rw [hik] at hk
 obtain ⟨hu, hk2⟩ := hk
 simp only [aD] at he
 have hc := h.ch i'
 generalize hg : aC s.H i' = c at he hc
 cases c <;> (try (simp at he; done))
 rename_i ks e L
 dsimp only at he
 split at he <;> (try (simp at he; done))
 rename_i hb
 obtain ⟨hb, hb3⟩ := Bool.and_eq_true_iff.1 hb
 obtain ⟨hb1, hb2⟩ := Bool.and_eq_true_iff.1 hb
 simp at hb1 hb2 hb3
 subst hb1; subst hb2
 split at he <;> (try (simp at he; done))
 rename_i C' k hkv
 split at he <;> (try (simp at he; done))
 rename_i yy hyy
 simp at he
 obtain ⟨rfl, rfl, rfl⟩ := he
 obtain ⟨rfl, hok⟩ := j9 hkv hC hix
 obtain ⟨b, es, clock, h1, h2, h3, h4⟩ := hc
 obtain ⟨b', h5, rfl⟩ := hx
 rw [h1] at h5
 cases h5
 obtain ⟨hkey, -⟩ := hk2 _ _ rfl
 obtain ⟨hck, hd2, hd3⟩ := qQ hkey h4 hok
 have hval := uG (ρ := ρ) hyy hb3 hy
 rcases hd3 with ⟨hn, _, hput, _⟩ | ⟨j, vv, m, hm, hL, _, hmk, hn, _, hput, _⟩
 · obtain ⟨ρ', h6, h7⟩ := h.uI (L' := fun _ => eh ks (L ()) (k ()) (yy ())) hg h1 h2 h3 (es' := es.push ⟨ks.mk (k ()), z, clock⟩) (clock' := clock + 1) (by
    rw [hput]
    refine ⟨?_, ?_, ?_⟩
    · rw [Array.toList_push]; exact h4.1.append (.cons ⟨rfl, hok, hval⟩ .nil)
    · rw [Array.toList_push, List.map_append, List.pairwise_append]
      refine ⟨h4.2.1, by simp, fun a ha b hb => ?_⟩
      simp only [List.map_cons, List.map_nil, List.mem_singleton] at hb
      subst hb
      obtain ⟨m, hm, rfl⟩ := List.mem_map.1 ha
      exact h4.2.2 m hm
    · intro m hm
      rw [Array.toList_push, List.mem_append] at hm
      rcases hm with hm | hm
      · have := h4.2.2 m hm; omega
      · simp at hm; subst hm; simp)
   refine ⟨ρ', _, ?_, h6, rfl⟩
   simp [Instr.mapUpdate, run_underlying hu, MapKept.run_getObj_map h3, hck, hn, run_setObj_map _ h3, Result.andThen]
 · have hmj : es[j]? = some m := by simpa using hm
   obtain ⟨ρ', h6, h7⟩ := h.uI (L' := fun _ => eh ks (L ()) (k ()) (yy ())) hg h1 h2 h3 (es' := es.modify j fun e => { e with key := ks.mk (k ()), val := z }) (clock' := clock) (by
    rw [hput]
    have e1 : (es.modify j fun e => { e with key := ks.mk (k ()), val := z }).toList = es.toList.set j ⟨ks.mk (k ()), z, m.born⟩ := by
     apply List.ext_getElem?
     intro q
     rw [Array.getElem?_toList, Array.getElem?_modify, List.getElem?_set, Array.getElem?_toList]
     split
     · rename_i hq
       subst hq
       rw [hmj]
       have := (Array.getElem?_eq_some_iff.1 hmj).1
       simp [this]
     · rfl
    rw [e1]
    refine ⟨h4.1.set ⟨rfl, hok, hval⟩ j, ?_, ?_⟩
    · rw [List.map_set]
      have : (es.toList.map (·.born)).set j m.born = es.toList.map (·.born) := by
       apply List.ext_getElem?
       intro q
       rw [List.getElem?_set]
       split
       · rename_i hq
         subst hq
         have hlt := (Array.getElem?_eq_some_iff.1 hmj).1
         rw [List.getElem?_map, hm, if_pos (by simpa using hlt)]
         rfl
       · rfl
      rw [this]; exact h4.2.1
    · intro q hq
      rcases List.mem_or_eq_of_mem_set hq with hq | rfl
      · exact h4.2.2 q hq
      · exact h4.2.2 m (List.mem_of_getElem? hm))
   refine ⟨ρ', _, ?_, h6, rfl⟩
   have hst : ∀ q, (Instr.keyThatStays (ks.mk (k ())) (ks.mk (k ()))).run P q = .ok (ks.mk (k ())) q := hd2
   simp [Instr.mapUpdate, run_underlying hu, MapKept.run_getObj_map h3, hck, hn, hmj, hmk, hst, run_setObj_map _ h3, Result.andThen]
theorem tj {t k2 ty : TypeId} {i : TI} (hT : af P t i) (h : Holds AI G s ρ a.tmps w) {x ix : SV} {u v : Value} (hx : Den ρ x u) (hix : Den ρ ix v) {p : aZ A} (hp : jq i x ix = some p) {d : List Bool} {C : U Prop} {r : SV} {cs : List (Chunk A)}
 (he : p.eff (aD s.H p.ids) d = .done C r cs) (hC : C ()) : bV AI G P s a w ρ (Builtin.delete_ #[t, k2] ty #[u, v]) (aO s.H p.ids cs) r := by
 have hk := hT.kind
 unfold jq at hp
 split at hp <;> cases hp
 rename_i kt et ks0 e0 i' hik
 rw [hik] at hk
 obtain ⟨hu, hk2⟩ := hk
 simp only [aD] at he
 have hc := h.ch i'
 generalize hg : aC s.H i' = c at he hc
 cases c <;> (try (simp at he; done))
 rename_i ks e L
 dsimp only at he
 split at he <;> (try (simp at he; done))
 rename_i hb1
 simp at hb1
 subst hb1
 split at he <;> (try (simp at he; done))
 rename_i C' k hkv
 simp at he
 obtain ⟨rfl, rfl, rfl⟩ := he
 obtain ⟨rfl, hok⟩ := j9 hkv hC hix
 obtain ⟨b, es, clock, h1, h2, h3, h4⟩ := hc
 obtain ⟨b', h5, rfl⟩ := hx
 rw [h1] at h5
 cases h5
 obtain ⟨hkey, -⟩ := hk2 _ _ rfl
 obtain ⟨hck, hd2, hd3⟩ := qQ hkey h4 hok
 rcases hd3 with ⟨hn, _, _, hdel⟩ | ⟨j, vv, m, hm, hL, _, hmk, hn, _, _, hdel⟩
 · obtain ⟨ρ', h6, h7⟩ := h.uI (L' := fun _ => gL ks (L ()) (k ())) hg h1 h2 h3 (es' := es) (clock' := clock) (by rw [hdel]; exact h4)
   refine ⟨.tuple #[], ρ', _, ?_, h6, ⟨[], rfl, .nil⟩, h7⟩
   simp [Builtin.delete_, run_underlying hu, MapKept.run_getObj_map h3, hck, hn, run_setObj_map _ h3, Result.andThen]
 · obtain ⟨ρ', h6, h7⟩ := h.uI (L' := fun _ => gL ks (L ()) (k ())) hg h1 h2 h3 (es' := es.eraseIdxIfInBounds j) (clock' := clock) (by
    rw [hdel]
    have e1 : (es.eraseIdxIfInBounds j).toList = es.toList.eraseIdx j := by simp
    rw [e1]
    exact ⟨h4.1.erase j, h4.2.1.sublist ((List.eraseIdx_sublist _ _).map _), fun q hq => h4.2.2 q (List.mem_of_mem_eraseIdx hq)⟩)
   refine ⟨.tuple #[], ρ', _, ?_, h6, ⟨[], rfl, .nil⟩, h7⟩
   simp [Builtin.delete_, run_underlying hu, MapKept.run_getObj_map h3, hck, hn, run_setObj_map _ h3, Result.andThen]
theorem rJ {ts td : TypeId} {j : TI} (hS : P.underlying ts = some .string) (hT : af P td j) (h : Holds AI G s ρ a.tmps w) {x : SV} {u : Value} (hx : Den ρ x u) {p : aZ A} (hp : en j x = some p) {d : List Bool} {C : U Prop} {v : SV} {cs : List (Chunk A)}
 (he : p.eff (aD s.H p.ids) d = .done C v cs) (hC : C ()) : bV AI G P s a w ρ (convert ts td u) (aO s.H p.ids cs) v := by
 have hk := hT.kind
 unfold en at hp
 split at hp <;> cases hp
 rename_i et l hj
 rw [hj] at hk
 obtain ⟨hu, g, hg1, hg2⟩ := hk
 obtain ⟨_, _, _, h8, _⟩ := hg2 _ rfl
 have h8 := h8 _ rfl
 simp at he
 obtain ⟨rfl, rfl, rfl⟩ := he
 obtain ⟨hC, hlen⟩ := hC
 cases hx
 let bs : ByteArray := ⟨((l ()).map fun x => x.toNat.toUInt8).toArray⟩
 have hsz : bs.size = (l ()).length := by simp [bs, ByteArray.size]
 have hrun := Lib.run_convert_string_bytes (P := P) w ts td et bs hS hu h8
 have hge := grownCap_ge w bs.size 0 et
 obtain ⟨ρ', h1, h2, h3, h4, h5, h6⟩ := h.more (w' := Lib.bytesWorld w et bs) (fun b hb => Lib.bytesWorld_at_old w et bs b hb) (by rfl) (by rfl) (by rfl)
  (by rw [Lib.bytesWorld_size]; omega)
 refine ⟨_, ρ', _, hrun, h1, ?_, h2⟩
 refine ⟨_, _, by rw [hsz], hsz ▸ hge, fun _ => ⟨w.heap.size, 0, rfl, fun i x hi => ?_⟩⟩
 have hil := (List.getElem?_eq_some_iff.1 hi).1
 have hc := Lib.bytesWorld_cell w et bs i (by rw [hsz]; exact hil)
 have hxx := hC x (List.mem_of_getElem? hi)
 have e1 : ((bs.data.toList.getD i 0).toNat : Int) = x := by
  simp only [bs, List.getD, List.getElem?_map, hi, Option.map_some, Option.getD_some]
  simp [Nat.toUInt8]
  omega
 rw [e1] at hc
 exact h6 _ _ _ (Nat.le_refl _) (by simpa [Ty.size] using hc)
theorem qx {t e : TypeId} (ht : P.underlying t = some (.slice e)) (he : P.underlying e = some (.int .u8)) (w : World) (b off l c : Nat) :
 ∃ w', (convert t t (.slice (some ⟨b, off, none⟩) l c)).run P w = .ok (.slice (some ⟨b, off, none⟩) l c) w' ∧ w'.os = w.os ∧ w'.tape = w.tape ∧ w'.output = w.output ∧ w'.heap.size = w.heap.size ∧
   (∀ k, k ≠ b → w'.heap[k]? = w.heap[k]?) ∧ ∀ q, w'.cell? q = w.cell? q := by
 cases hs : w.shape? b with
 | none => exact ⟨w, by simp [convert, run_underlying ht, run_underlying he, markStringish, hs], rfl, rfl, rfl, rfl, fun _ _ => rfl, fun _ => rfl⟩
 | some p =>
   obtain ⟨t', n⟩ := p
   refine ⟨w.freeze ⟨b, n, none⟩ 1, by simp [convert, run_underlying ht, run_underlying he, markStringish, hs], ?_⟩
   unfold World.freeze
   rw [if_neg (by decide)]
   refine ⟨rfl, rfl, rfl, by simp, fun k hk => ?_, fun q => ?_⟩
   · simp only [Array.getElem?_modify, if_neg (fun h => hk (Eq.symm h))]
   · unfold World.cell?
     simp only [Array.getElem?_modify]
     by_cases hb : b = q.block
     · rw [if_pos hb]
       cases hg : w.heap[q.block]? with
       | none => simp
       | some o => cases o <;> simp
     · rw [if_neg hb]
theorem rI {ts : TypeId} {j : TI} (hT : af P ts j) (h : Holds AI G s ρ a.tmps w) {x : SV} {u : Value} (hx : Den ρ x u) {p : aZ A} (hp : jr j x = some p) {d : List Bool} {C : U Prop} {v : SV} {cs : List (Chunk A)}
 (he : p.eff (aD s.H p.ids) d = .done C v cs) (hC : C ()) : bV AI G P s a w ρ (convert ts ts u) (aO s.H p.ids cs) v := by
 have hk := hT.kind
 unfold jr at hp
 split at hp <;> cases hp
 rename_i et i ver hj
 rw [hj] at hk
 obtain ⟨hu, g, hg1, hg2⟩ := hk
 obtain ⟨_, _, _, h8, _⟩ := hg2 _ rfl
 have h8 := h8 _ rfl
 simp only [aD] at he
 have hc := h.ch i
 generalize hg : aC s.H i = c at he hc
 cases c <;> (try (simp at he; done))
 rename_i t e ver' L
 dsimp only at he
 split at he <;> cases he
 rename_i hb
 have hb := beq_eq hb
 subst hb
 obtain ⟨hv, hr⟩ := hc
 obtain ⟨_, _, hx⟩ := hx
 have hx := hx hv
 subst hx
 have hC : 0 < (L ()).length := hC
 rcases hr with ⟨_, hL, _⟩ | ⟨b, off, cap, hroot, hF, hcap, _, hcells, _⟩
 · rw [hL] at hC; simp at hC
 obtain ⟨w', hrun, hos, htape, hout, hsize, hheap, hcell⟩ := qx hu h8 w b off (L ()).length cap
 let ρ' : Ev := { root := ρ.root, ver := ρ.ver, M := fun q o => if q = b then w.cell? ⟨q, o, none⟩ else ρ.M q o, foot := fun k => if k = i then [] else ρ.foot k }
 have hbi : b ∈ ρ.foot i := by rw [hF]; simp
 have hM : ∀ q o v, ρ.M q o = some v → ρ'.M q o = some v := by
  intro q o v hm
  have hne : q ≠ b := fun e => (h.im q o v hm).2 i (e ▸ hbi)
  show (if q = b then _ else _) = _
  rw [if_neg hne]; exact hm
 have le : ρ.Le ρ' := ⟨hM, fun _ _ h => h, fun _ => Nat.le_refl _, fun _ _ _ => rfl⟩
 have hfoot : ∀ k q, q ∈ ρ'.foot k → k ≠ i ∧ q ∈ ρ.foot k := by
  intro k q hq
  by_cases e : k = i
  · simp [ρ', e] at hq
  · refine ⟨e, ?_⟩
    simpa [ρ', e] using hq
 have hnb : ∀ k q, q ∈ ρ'.foot k → q ≠ b := fun k q hq e => h.dis k i q (hfoot k q hq).1 (hfoot k q hq).2 (e ▸ hbi)
 refine ⟨ρ.root i, ρ', w', by rw [hroot]; exact hrun, ⟨h.sz, h.gt, fun t v ht => ?_, fun k => ?_, fun k m q hkm hk hm => h.dis k m q hkm (hfoot k q hk).2 (hfoot m q hm).2, fun k q hq => by rw [hsize]; exact h.lt k q (hfoot k q hq).2, fun q o v hm => ?_,
  hos.trans h.os, htape.trans h.tape, hout.trans h.output, by rw [hsize]; exact h.grow, fun q hq ho => ?_, fun k q hq => h.fro k q (hfoot k q hq).2, h.rt, h.rts, fun q o v hm => hM _ _ _ (h.mono q o v hm), fun q o v hm => ?_⟩, ?_, le⟩
 · obtain ⟨y, h1, h2⟩ := h.tm t v ht
   exact ⟨y, h1, h2.mono le⟩
 · show aQ AI ρ' w' k (aC (bX s.H i .gone) k)
   rw [aP]
   split
   · trivial
   · rename_i hki
     refine (h.ch k).stays le rfl rfl (by simp only [ρ', if_neg (fun e => hki e)]) fun q hq => hheap q ?_
     intro e
     exact h.dis k i q hki hq (e ▸ hbi)
 · have hm2 : (if q = b then w.cell? ⟨q, o, none⟩ else ρ.M q o) = some v := hm
   by_cases e : q = b
   · rw [if_pos e] at hm2
     exact ⟨by rw [hcell]; exact hm2, fun k hq => hnb k q hq e⟩
   · rw [if_neg e] at hm2
     exact ⟨by rw [hcell]; exact (h.im q o v hm2).1, fun k hq => (h.im q o v hm2).2 k (hfoot k q hq).2⟩
 · by_cases e : q = b
   · subst e
     rcases h.fro i q hbi with h1 | h1
     · exact absurd h1 ho
     · omega
   · rw [hheap q e]; exact h.kept q hq ho
 · have hm2 : (if q = b then w.cell? ⟨q, o, none⟩ else ρ.M q o) = some v := hm
   by_cases e : q = b
   · exact .inr (h.fro i q (e ▸ hbi))
   · rw [if_neg e] at hm2; exact h.mfr q o v hm2
 · rw [hroot]
   refine ⟨_, cap, rfl, hcap, fun _ => ⟨b, off, rfl, fun j x hj => ?_⟩⟩
   refine aI.congr e (aI.mono hM e (hcells j x hj)) fun k v _ hv => ?_
   show (if b = b then w.cell? ⟨b, off + j * e.size + k, none⟩ else _) = _
   rw [if_pos rfl]; exact hv
theorem yq {i j : TI} {x : SV} {p : aZ A} (h : en j x = some p) (hs : nk i x = true) : i.kind = .str := by
 unfold en at h
 split at h <;> cases h
 unfold nk at hs
 split at hs <;> simp_all
theorem sY {t : TypeId} {i : TI} (hT : af P t i) (h : Holds AI G s ρ a.tmps w) {x : SV} {lo hi mx : Option SV} {u : Value} {lv hv mv : Option Value}
 (hx : Den ρ x u) (d1 : eJ ρ lo lv) (d2 : eJ ρ hi hv) (d3 : eJ ρ mx mv) {fresh : Nat} {p : aZ A} (hp : mh i x lo hi mx fresh = some p) {d : List Bool} {C : U Prop} {v : SV} {cs : List (Chunk A)}
 (he : p.eff (aD s.H p.ids) d = .done C v cs) : bV AI G P s a w ρ (Instr.sliceAt t u lv hv mv) (aO s.H p.ids cs) v := by
 have hk := hT.kind
 unfold mh at hp
 split at hp <;> (try cases hp)
 rename_i et e ho
 rw [ho] at hk
 obtain ⟨hu, g, hg1, hg2⟩ := hk
 split at hp <;> cases hp
 rename_i hb
 obtain ⟨hb, hb4⟩ := Bool.and_eq_true_iff.1 hb
 obtain ⟨hb, hb3⟩ := Bool.and_eq_true_iff.1 hb
 obtain ⟨hb1, hb2⟩ := Bool.and_eq_true_iff.1 hb
 obtain ⟨ao, len, cap, rfl⟩ : ∃ ao l c, u = .slice ao l c := by
  unfold isSlice at hb1
  split at hb1
  · obtain ⟨ao, c, e, _⟩ := hx; exact ⟨_, _, _, e⟩
  · exact ⟨_, _, _, hx⟩
  · exact hx.1
  · exact hx.1
  · cases hb1
 have zero : ∀ {o : Option SV} {ov : Option Value}, isZero o = true → eJ ρ o ov → ∃ k, ov = some (.int k 0) := by
  intro o ov hz hd
  unfold isZero at hz
  split at hz
  · cases ov with
    | none => cases hd
    | some z => exact ⟨_, congrArg some hd⟩
  · cases hz
 obtain ⟨k1, rfl⟩ := zero hb2 d2
 obtain ⟨k2, rfl⟩ := zero hb3 d3
 have : lv = none := by
  cases lo with
  | some _ => cases hb4
  | none => cases lv with
    | none => rfl
    | some _ => cases d1
 subst this
 simp only [aD] at he
 have hc := h.ch fresh
 generalize hg : aC s.H fresh = c at he hc
 cases c <;> (try (simp at he; done))
 simp at he
 obtain ⟨rfl, rfl, rfl⟩ := he
 obtain ⟨hc1, hc2, hc3⟩ := hc
 have hrun : ∃ ao', (Instr.sliceAt t (.slice ao len cap) none (some (.int k1 0)) (some (.int k2 0))).run P w = .ok (.slice ao' 0 0) w := by
  have hs : (Go.sizeOf et).run P w = .ok g.size w := by simp [Go.sizeOf, typeInfo, hg1]
  have e1 := fun y c => run_sliceBound (P := P) (w := w) k1 (n := 0) (y := y) c (by omega) (by omega)
  have e2 := fun y c => run_sliceBound (P := P) (w := w) k2 (n := 0) (y := y) c (by omega) (by omega)
  exact ⟨_, by simp [Instr.sliceAt, Instr.slice, run_underlying hu, Instr.sliceBounds, e1, e2, hs]; rfl⟩
 obtain ⟨ao', hrun⟩ := hrun
 obtain ⟨h9, h10⟩ := h.dx fresh (.slice ao' 0 0) 0 [] (.row et e 0 (fun _ => [])) w
  (by rw [hc2]; simp) (by omega) (by rw [hc2]; simp) (by simp) (fun _ _ _ => rfl) rfl rfl rfl (Nat.le_refl _)
  ⟨by simp [Ev.upd], .inl ⟨⟨ao', by simp [Ev.upd]⟩, rfl, by simp [Ev.upd]⟩⟩
 exact ⟨_, _, _, hrun, h9, ⟨⟨_, _, _, rfl⟩, by simp [Ev.upd], fun _ => by simp [Ev.upd]⟩, h10⟩
theorem da (op : BinOp) (t : TypeId) (x y : Operand) {u v : Value} (h1 : u ≠ .nilIface) (h2 : ∀ c, u ≠ .agg c) : (eqGuard op t x y u v).run P w = .ok () w := by
 unfold eqGuard
 cases u <;> first
  | exact absurd rfl h1
  | exact absurd rfl (h2 _)
  | (simp only []; split <;> rfl)
theorem yK {t e : TypeId} (hu : P.underlying t = some (.slice e)) (d : Nat) (ao : Option Addr) (l c : Nat) : (Op.equalIn (d + 1) t (.slice ao l c) (.slice none 0 0)).run P w = .ok ao.isNone w := by
 cases ao <;> simp [Op.equalIn, run_underlying hu]
theorem vh : ∀ {l m : List SV1} {g : U Bool} {vs us : List Value}, vi l m = some g → aL (aK ρ) l vs → aL (aK ρ) m us → aL (fun v u => ∃ k a b, v = .int k a ∧ u = .int k b) vs us ∧ oQ vs us = g ()
 | [], [], g, vs, us, h, hv, hu => by
   cases h; cases hv; cases hu
   exact ⟨.nil, rfl⟩
 | x :: l, y :: m, g, vs, us, h, hv, hu => by
   simp only [vi] at h
   split at h <;> (try cases h)
   rename_i k a ha
   split at h <;> (try cases h)
   rename_i k' b hb
   split at h <;> (try cases h)
   rename_i hk
   have hk : k = k' := of_decide_eq_true hk
   subst hk
   split at h <;> cases h
   rename_i r hr
   cases hv with
   | cons hx hv =>
   cases hu with
   | cons hy hu =>
   obtain rfl := jA ha hx
   obtain rfl := jA hb hy
   obtain ⟨h1, h2⟩ := vh hr hv hu
   refine ⟨.cons ⟨k, _, _, rfl, rfl⟩ h1, ?_⟩
   simp only [oQ, h2]
   congr 1
 | [], _ :: _, _, _, _, h, _, _ => by simp [vi] at h
 | _ :: _, [], _, _, _, h, _, _ => by simp [vi] at h
theorem uA {t : TypeId} {i : TI} (hT : af P t i) {op : BinOp} {v u : SV} {y : SV1} (h : qn op i v u = some y) (x x' : Operand) {p q : Value} (hp : Den ρ v p) (hq : Den ρ u q) :
 ∃ r, (do eqGuard op t x x' p q; binOp op t p q : Go.Sem Value).run P w = .ok r w ∧ Den ρ (one y) r := by
 unfold qn at h
 split at h <;> (try cases h)
 rename_i hb
 obtain ⟨k1, k2⟩ := hT.eq (ad.1 hb)
 split at h <;> (try cases h)
 rename_i l m
 split at h <;> (try cases h)
 rename_i hl
 have hl := ad.1 hl
 split at h <;> (try cases h)
 rename_i g hg
 obtain ⟨vs, rfl, h1⟩ := hp
 obtain ⟨us, rfl, h2⟩ := hq
 obtain ⟨h3, h4⟩ := vh hg h1 h2
 have k3 := k2 w vs us (by rw [← h1.length]; exact hl) h3
 rw [h4] at k3
 split at h <;> cases h
 · refine ⟨.bool (g ()), ?_, rfl⟩
   rw [Sem.run_bind, run_eqGuard_agg w _ t x x' _ _ k1]
   simp only [Result.andThen, run_eql_struct, k3]
 · refine ⟨.bool (!g ()), ?_, rfl⟩
   rw [Sem.run_bind, run_eqGuard_agg w _ t x x' _ _ k1]
   simp only [Result.andThen, run_neq_struct, k3]
theorem qT {t k e : TypeId} (hu : P.underlying t = some (.map k e)) (d : Nat) (b : Nat) : (Op.equalIn (d + 1) t (.map (some b)) (.map none)).run P w = .ok false w := by
 simp [Op.equalIn, run_underlying hu]
theorem tH {t : TypeId} {i : TI} (hT : af P t i) {op : BinOp} {v u : SV} {y : SV1} (h : pe op i v u = some y) (x x' : Operand) (yt : TypeId) {p q : Value} (hp : Den ρ v p) (hq : Den ρ u q) :
 ∃ r, (do eqGuard op t x x' p q; binOp op t p q : Go.Sem Value).run P w = .ok r w ∧ Den ρ (one y) r := by
 have hk := hT.kind
 unfold pe at h
 split at h
 · rename_i km em tym hki
   rw [hki] at hk
   have hu := hk.1
   have key : ∀ (neg : Bool), nH neg v u = some y → ∃ b, p = .map (some b) ∧ q = .map none ∧ y = .lb neg := by
    intro neg h
    unfold nH at h
    split at h <;> cases h
    obtain ⟨b, _, rfl⟩ := hp
    have hq : q = .map none := hq
    exact ⟨b, rfl, hq, rfl⟩
   split at h
   · obtain ⟨b, rfl, rfl, rfl⟩ := key false h
     refine ⟨.bool false, ?_, rfl⟩
     rw [Sem.run_bind, da _ _ _ _ (by simp) (by simp)]
     simp only [Result.andThen, binOp, Op.equal, Op.maxDepth, Sem.run_bind, qT hu 9999]
     rfl
   · obtain ⟨b, rfl, rfl, rfl⟩ := key true h
     refine ⟨.bool true, ?_, rfl⟩
     rw [Sem.run_bind, da _ _ _ _ (by simp) (by simp)]
     simp only [Result.andThen, binOp, Op.equal, Op.maxDepth, Sem.run_bind, qT hu 9999]
     rfl
   · cases h
 rotate_left 1
 · exact uA hT h x x' hp hq
 rename_i e ty hki
 rw [hki] at hk
 obtain ⟨hu, _⟩ := hk
 have key : ∀ (neg : Bool), s3 neg v u = some y → ∃ ao l c, p = .slice ao l c ∧ q = .slice none 0 0 ∧ aK ρ y (.bool (ao.isNone != neg)) := by
  intro neg h
  unfold s3 at h
  split at h <;> cases h
  · exact ⟨none, 0, 0, hp, hq, by cases neg <;> rfl⟩
  · rename_i e' L
    obtain ⟨ao, c, rfl, _, h2⟩ := hp
    refine ⟨ao, _, c, rfl, hq, _, rfl, fun hb => ?_⟩
    have hn : ao = none := by cases ao <;> cases neg <;> simp_all
    subst hn
    rcases Nat.eq_zero_or_pos (L ()).length with h0 | h0
    · exact List.eq_nil_of_length_eq_zero h0
    · obtain ⟨b, off, h3, _⟩ := h2 h0; cases h3
  · obtain ⟨⟨ao, l, c, rfl⟩, _⟩ := hp
    exact ⟨ao, l, c, rfl, hq, _, rfl, fun _ => trivial⟩
  · obtain ⟨⟨ao, l, c, rfl⟩, _⟩ := hp
    exact ⟨ao, l, c, rfl, hq, _, rfl, fun _ => trivial⟩
 split at h
 · obtain ⟨ao, l, c, rfl, rfl, hd⟩ := key false h
   refine ⟨_, ?_, hd⟩
   rw [Sem.run_bind, da _ _ _ _ (by simp) (by simp)]
   simp only [Result.andThen, binOp, Op.equal, Op.maxDepth, Sem.run_bind, yK hu 9999]
   cases ao <;> rfl
 · obtain ⟨ao, l, c, rfl, rfl, hd⟩ := key true h
   refine ⟨_, ?_, hd⟩
   rw [Sem.run_bind, da _ _ _ _ (by simp) (by simp)]
   simp only [Result.andThen, binOp, Op.equal, Op.maxDepth, Sem.run_bind, yK hu 9999]
   cases ao <;> rfl
 · cases h
theorem fS {H : List (Chunk A)} : ∀ {n i j : Nat}, j < n → aC (aD H (bY i n)) j = aC H (i + j)
 | 0, i, j, h => by omega
 | n + 1, i, 0, h => rfl
 | n + 1, i, j + 1, h => by
   have := fS (H := H) (n := n) (i := i + 1) (j := j) (by omega)
   rw [show i + (j + 1) = i + 1 + j by omega, ← this]; rfl
theorem uq {t : TypeId} {i : TI} (hT : af P t i) (h : Holds AI G s ρ a.tmps w) {x : SV} {u : Value} (hx : Den ρ x u) {fresh : Nat} {p : aZ A} (hp : mq i x fresh = some p) {d : List Bool} {C : U Prop} {rr : SV} {cs : List (Chunk A)}
 (he : p.eff (aD s.H p.ids) d = .done C rr cs) : bV AI G P s a w ρ (Instr.range t u) (aO s.H p.ids cs) rr := by
 have hk := hT.kind
 unfold mq at hp
 split at hp <;> cases hp
 rename_i kt et kk i' hik
 rw [hik] at hk
 obtain ⟨hu, -⟩ := hk
 simp only [aD] at he
 have hc := h.ch i'
 have hf := h.ch fresh
 generalize hg : aC s.H i' = c at he hc
 generalize hgf : aC s.H fresh = cf at he hf
 cases c <;> (try (simp at he; done))
 cases cf <;> (try (simp at he; done))
 rename_i ks e L
 simp at he
 obtain ⟨rfl, rfl, rfl⟩ := he
 obtain ⟨b, hb1, hb2⟩ := hx
 subst hb2
 obtain ⟨b', es, clock, h1, h2, h3, h4⟩ := hc
 obtain ⟨f1, f2, f3⟩ := hf
 have : b' = b := by rw [hb1] at h1; cases h1; rfl
 subst this
 have hne : i' ≠ fresh := fun e => by rw [e, hgf] at hg; cases hg
 have hlt : b' < w.heap.size := h.lt i' b' (by simp [h2])
 let r := w.heap.size
 let ρ' : Ev := { root := fun k => if k = fresh then .pointer (some ⟨r, 0, none⟩) else ρ.root k, ver := ρ.ver, M := ρ.M, foot := fun k => if k = i' then [b', r] else ρ.foot k }
 have le : ρ.Le ρ' := by
  refine ⟨fun _ _ _ h => h, fun k b hk => ?_, fun k => Nat.le_refl _, fun k e hk => ?_⟩
  · simp only [ρ']; split
    · rename_i e; subst e; rw [f2] at hk; cases hk
    · exact hk
  · simp only [ρ']; split
    · rename_i e; subst e; obtain ⟨_, _, _, hk⟩ := hk; rw [f2] at hk; cases hk
    · rfl
 have hH : ∀ k, aC (aO s.H [i', fresh] [.rmap ks e L L none fresh, .itp i']) k = if k = fresh then .itp i' else if k = i' then .rmap ks e L L none fresh else aC s.H k := fun k => by
  simp only [aO, aP]
 have hst := h.step (ρ' := ρ') (w' := w.alloc (.mapIter (some b') clock #[] clock)) (H' := aO s.H [i', fresh] [.rmap ks e L L none fresh, .itp i']) (fun k => k = i' ∨ k = fresh) le rfl
  (fun k hk => by
    have n1 : k ≠ i' := fun e => hk (.inl e)
    have n2 : k ≠ fresh := fun e => hk (.inr e)
    refine ⟨by simp only [ρ', if_neg n2], rfl, by simp only [ρ', if_neg n1], ?_⟩
    rw [hH, if_neg n2, if_neg n1])
  (fun k hk bb hbb => by
    simp only [ρ'] at hbb
    split at hbb
    · rename_i e
      rcases List.mem_cons.1 hbb with rfl | hbb
      · exact ⟨.inl ⟨i', .inl rfl, by rw [h2]; simp⟩, by rw [World.size_alloc]; omega⟩
      · obtain rfl : bb = r := by simpa using hbb
        exact ⟨.inr (Nat.le_refl _), by rw [World.size_alloc]; exact Nat.lt_succ_self _⟩
    · rename_i n1
      rcases hk with hk | hk
      · exact absurd hk n1
      · subst hk; rw [f1] at hbb; cases hbb)
  (fun k q bb hk hq hkq hbb hbq => by
    simp only [ρ'] at hbb hbq
    rcases hk with rfl | rfl <;> rcases hq with rfl | rfl
    · exact hkq rfl
    · rw [if_neg (fun e => hne e.symm), f1] at hbq; cases hbq
    · rw [if_neg (fun e => hne e.symm), f1] at hbb; cases hbb
    · exact hkq rfl)
  (fun bb hbb _ => dC w _ hbb) rfl rfl rfl (by rw [World.size_alloc]; omega)
  (fun k hk => by
    rw [hH]
    split
    · rename_i e
      subst e
      exact ⟨by simp only [ρ']; rw [if_neg (fun e => hne e.symm)]; exact f1, r, by simp only [ρ', if_pos]⟩
    · rename_i n2
      rcases hk with hk | hk
      · subst hk
        rw [if_pos rfl]
        refine ⟨b', r, by simp only [ρ', if_neg n2]; exact hb1, by simp only [ρ', if_pos], by simp only [ρ', if_pos], by omega, es, clock, clock, #[], (dC w _ hlt).trans h3, ju w _, h4, h4.2.2, Nat.le_refl _, ?_, fun _ e => by cases e⟩
        have : (leftOf es #[]).toList = es.toList := by simp [leftOf]
        rw [this]
        exact h4.1
      · exact absurd hk n2)
 exact ⟨_, ρ', _, run_range_map w t kt et b' es clock hu h3, hst, ⟨r, by simp only [ρ', if_pos], rfl⟩, le⟩
theorem vj (h : Holds AI G s ρ a.tmps w) {x : SV} {u : Value} (hx : Den ρ x u) {fresh : Nat} {p : aZ A} (hp : nS x fresh = some p) {d : List Bool} {C : U Prop} {rr : SV} {cs : List (Chunk A)}
 (he : p.eff (aD s.H p.ids) d = .done C rr cs) : dD s p cs ∧ ∃ y, (Instr.entry u).run P w = .ok y w ∧ Den ρ rr y := by
 unfold nS at hp
 split at hp <;> cases hp
 rename_i j
 dsimp only at he
 split at he <;> (try (simp at he; done))
 rename_i i' hj
 split at he <;> (try (simp at he; done))
 rename_i ks e L R p j' hi
 split at he <;> (try (simp at he; done))
 rename_i hb
 simp only [Bool.and_eq_true] at hb
 obtain ⟨⟨hjj, hi'⟩, hj'⟩ := hb
 have hjj := beq_eq hjj
 subst hjj
 have hi' : i' < fresh := leN hi'
 have hj' : j < fresh := leN hj'
 split at he <;> (try (simp at he; done))
 rename_i v hv
 simp at he
 obtain ⟨rfl, rfl, rfl⟩ := he
 refine ⟨rfl, ?_⟩
 have hi : aC s.H i' = .rmap ks e L R (some p) j := by
  have := fS (H := s.H) (n := fresh) (i := 0) (j := i') hi'
  rw [Nat.zero_add] at this
  rw [← this]; exact hi
 have hc := h.ch i'
 rw [hi] at hc
 obtain ⟨b, r, h1, h2, h3, h4, es, clock, since, seen, a1, a2, a3, a4, a5, a6, a7⟩ := hc
 obtain ⟨m, seen', b1, b2, b3⟩ := a7 p rfl
 obtain ⟨r', e1, e2⟩ := hx
 have : r' = r := by rw [h2] at e1; cases e1; rfl
 subst this
 subst e2
 subst b2
 have hn : (es.toList.map (·.born)).Nodup := a3.2.1.imp fun h => Nat.ne_of_lt h
 refine ⟨_, run_entry_at w r' b since seen' es clock m a2 a1 b1 hn, [m.key, m.val], rfl, .cons ?_ (.cons (oe hv b3.2.2) .nil)⟩
 rw [b3.1]
 cases ks with
 | int k => rfl
 | str => rfl
 | agg e2 => exact ⟨_, rfl, nL e2 _ b3.2.1.1⟩
theorem oG (h : Holds AI G s ρ a.tmps w) {x : SV} {u : Value} (hx : Den ρ x u) {p : aZ A} (hp : dU x = some p) {d : List Bool} {C : U Prop} {r : SV} {cs : List (Chunk A)}
 (he : p.eff (aD s.H p.ids) d = .done C r cs) (hC : C ()) (ats : Array TypeId) (ty : TypeId) : dD s p cs ∧ ∃ y, (Builtin.unsafeSliceData_ ats ty #[u]).run P w = .ok y w ∧ Den ρ r y := by
 unfold dU at hp
 split at hp <;> cases hp
 · simp at he
   obtain ⟨rfl, rfl, rfl⟩ := he
   cases hx
   exact ⟨rfl, _, rfl, rfl⟩
 · rename_i i ver
   simp only [aD] at he
   have hc := h.ch i
   generalize hg : aC s.H i = c at he hc
   cases c <;> (try (simp at he; done))
   rename_i rt e ver' L
   dsimp only at he
   split at he <;> (try (simp at he; done))
   rename_i hb
   have hb := beq_eq hb
   subst hb
   simp at he
   obtain ⟨rfl, rfl, rfl⟩ := he
   have hC : 0 < (L ()).length := hC
   obtain ⟨h1, h2⟩ := hc
   obtain ⟨_, hle, h3⟩ := hx
   have h3 := h3 h1
   rcases h2 with ⟨_, h4, _⟩ | ⟨b, off, cap, h4, h5, h6, _⟩
   · rw [h4] at hC; simp at hC
   · rw [h4] at h3
     subst h3
     exact ⟨by simp [dD, aD, hg], _, Go.Lib.run_unsafeSliceData_row w ats ty ⟨b, off, none⟩ _ cap (by omega), _, rfl, hle, fun _ => ⟨Int.le_refl _, b, off, _, cap, h4, by simp⟩⟩
theorem wj {e : TypeId} (hc : P.cellsOf e = 1) (count off n : Nat) (hn : off + n ≤ count) : liesAt P P.depth e count off e n = true := by
 have hd : P.depth = (2 * (P.types.size + Made.depth) + 1) + 1 := rfl
 rw [hd]
 simp only [liesAt, Bool.or_eq_true]
 left
 rw [hd]
 simp [Go.rowAt, hc, hn, sameLayout, Nat.mod_one]
theorem iz (w : World) (pt it ty e : TypeId) (hp : P.underlying pt = some (.pointer e)) (hc : P.cellsOf e = 1) (g off cells : Nat) (hsh : w.shape? g = some (e, cells)) (l : List UInt8) (h0 : l ≠ []) (hn : off + l.length ≤ cells) (h63 : l.length ≤ 9223372036854775807)
 (hcell : ∀ j x, l[j]? = some x → w.cell? ((⟨g, off, none⟩ : Addr).add j) = some (.int .u8 x.toNat)) (k : IntKind) :
 (Builtin.unsafeString_ #[pt, it] ty #[.pointer (some ⟨g, off, none⟩), .int k l.length]).run P w = .ok (.string ⟨l.toArray⟩) (w.freeze ⟨g, off, none⟩ l.length) := by
 have hl : l.length ≠ 0 := by simpa using h0
 have hlb := Go.Lib.run_loadBytes (P := P) w l ⟨g, off, none⟩ .empty hcell
 have hlies := wj (P := P) hc (cells / P.cellsOf e) off l.length (by rw [hc]; simpa using hn)
 have h63' : ¬ (9223372036854775807 : Int) < (l.length : Int) := by omega
 have hdef : Builtin.unsafeString_ #[pt, it] ty #[.pointer (some ⟨g, off, none⟩), .int k l.length] =
  (do
    let n ← asInt (.int k l.length)
    if n < 0 then runtimePanic (.error "unsafe.String: len out of range")
    if n > IntKind.i64.max then unsupported (.unsafePointer "String: a length above the largest int")
    if n = 0 then pure (.string .empty)
    else if ← variablesAt ⟨g, off, none⟩ (← elemOf pt) n.toNat then do
     let s ← loadBytes ⟨g, off, none⟩ .empty n.toNat
     Go.freeze ⟨g, off, none⟩ n.toNat
     pure (.string s)
    else unsupported (.unsafePointer "String: not so many bytes at ptr")) := rfl
 rw [hdef]
 have hmax : IntKind.i64.max = 9223372036854775807 := rfl
 have hneg : ¬ (l.length : Int) < 0 := by omega
 simp [asInt, asIntOf, hmax, h63', hneg, hl, variablesAt, hsh, elemOf, run_underlying hp, hlies, hlb]
theorem tZ (w : World) (a : Addr) (n k : Nat) (hk : k ≠ a.block) : (w.freeze a n).heap[k]? = w.heap[k]? := by
 unfold World.freeze
 split
 · rfl
 · simp only [Array.getElem?_modify]
   rw [if_neg (fun e => hk e.symm)]
theorem vY (w : World) (a : Addr) (n : Nat) : (w.freeze a n).os = w.os ∧ (w.freeze a n).tape = w.tape ∧ (w.freeze a n).output = w.output ∧ (w.freeze a n).heap.size = w.heap.size := by
 unfold World.freeze
 split
 · exact ⟨rfl, rfl, rfl, rfl⟩
 · exact ⟨rfl, rfl, rfl, by simp⟩
theorem oE {ti : List (Nat × TI)} (hti : rN P ti) {pt it : TypeId} {i : TI} (hT : af P pt i) (h : Holds AI G s ρ a.tmps w) {x y : SV} {u v : Value} (hx : Den ρ x u) (hy : Den ρ y v) {p : aZ A} (hp : cq ti i x y = some p) {d : List Bool} {C : U Prop} {r : SV} {cs : List (Chunk A)}
 (he : p.eff (aD s.H p.ids) d = .done C r cs) (hC : C ()) (ty : TypeId) : bV AI G P s a w ρ (Builtin.unsafeString_ #[pt, it] ty #[u, v]) (aO s.H p.ids cs) r := by
 have hkk := hT.kind
 unfold cq at hp
 split at hp <;> (try (cases hp; done))
 rename_i e hik
 rw [hik] at hkk
 split at hp <;> (try (cases hp; done))
 rename_i ie hie
 split at hp <;> (try (cases hp; done))
 rename_i kk k hsz hk
 obtain rfl := bF hk hy
 have hce : P.cellsOf e = 1 := by
  obtain ⟨f, f1, f2, _⟩ := (hti e ie hie).info
  simp [Program.cellsOf, f1, f2, beq_eq hsz]
 split at hp <;> cases hp
 · simp at he
   obtain ⟨rfl, rfl, rfl⟩ := he
   have hC : k () = 0 := hC
   cases hx
   refine bV.looks h (p := ⟨[], 0, false, fun _ _ => .done (fun _ => k () = 0) (one (.str (fun _ => []))) []⟩) rfl ⟨.string ⟨#[]⟩, ?_, rfl⟩
   rw [hC]
   exact Go.Lib.run_unsafeString_none w pt it ty none
 · rename_i j ver q
   simp only [aD] at he
   have hc := h.ch j
   generalize hg : aC s.H j = c at he hc
   split at he <;> (try (simp at he; done))
   rename_i rt ver' L hcc
   simp at hcc
   subst hcc
   split at he <;> (try (simp at he; done))
   rename_i hb
   obtain ⟨hb1, hb2⟩ := Bool.and_eq_true_iff.1 hb
   have hb1 := beq_eq hb1
   have hb2 := beq_eq hb2
   subst hb1; subst hb2
   simp at he
   obtain ⟨rfl, rfl, rfl⟩ := he
   obtain ⟨hq, hkl, hpos, hmx, hby⟩ : q () = 0 ∧ k () = (L ()).length ∧ 0 < (L ()).length ∧ (L ()).length ≤ bP ∧ ∀ y ∈ L (), 0 ≤ y ∧ y < 256 := hC
   obtain ⟨h1, h2⟩ := hc
   obtain ⟨pp, rfl, hle, h3⟩ := hx
   obtain ⟨_, b', o', len', cap', h4, rfl⟩ := h3 h1
   rcases h2 with ⟨_, h5, _⟩ | ⟨b, off, cap, h5, h6, h7, h8, h9, h10, h11⟩
   · rw [h5] at hpos; simp at hpos
   · rw [h4] at h5
     cases h5
     obtain ⟨n, hs1, hs2⟩ := h11 rfl
     have hl : (((L ()).map fun x => x.toNat.toUInt8).length : Int) = k () := by rw [List.length_map, hkl]
     have hrun := iz (P := P) w pt it ty rt hkk hce b' o' n hs1 ((L ()).map fun x => x.toNat.toUInt8) (by intro e; have := congrArg List.length e; rw [List.length_map] at this; simp at this; rw [this] at hpos; simp at hpos) (by rw [List.length_map]; omega) (by rw [List.length_map]; unfold bP at hmx; omega)
      (fun i x hi => by
        rw [List.getElem?_map] at hi
        cases hLi : (L ())[i]? with
        | none => rw [hLi] at hi; cases hi
        | some z =>
          rw [hLi] at hi
          cases hi
          have := h9 i z hLi
          have this : w.cell? ⟨b', o' + i * 1 + 0, none⟩ = some (.int .u8 z) := this
          obtain ⟨hz1, hz2⟩ := hby z (List.mem_of_getElem? hLi)
          have hz1 : @LE.le Int _ 0 z := hz1
          have hz2 : @LT.lt Int _ z 256 := hz2
          rw [add_lit]
          rw [show o' + i = o' + i * 1 + 0 by omega, this]
          congr 2
          simp only [Nat.toUInt8, UInt8.toNat_ofNat']
          omega) kk
     rw [hl, List.length_map] at hrun
     obtain ⟨fr1, fr2, fr3, fr4⟩ := vY w ⟨b', o', none⟩ (L ()).length
     obtain ⟨h12, h13⟩ := h.dx j (ρ.root j) (ρ.ver j) (ρ.foot j) .gone (w.freeze ⟨b', o', none⟩ (L ()).length) (fun b hb => hb) (Nat.le_refl _) (fun _ _ => rfl) (fun b hb => ⟨.inl hb, by rw [fr4]; exact h.lt j b hb⟩)
      (fun b2 _ hn => tZ w _ _ _ (fun e => hn (by rw [h6, e]; simp))) fr1 fr2 fr3 (by rw [fr4]; exact Nat.le_refl _) trivial
     refine ⟨Value.string ⟨((L ()).map fun x => x.toNat.toUInt8).toArray⟩, ρ.upd j (ρ.root j) (ρ.ver j) (ρ.foot j), w.freeze ⟨b', o', none⟩ (L ()).length, ?_, h12.bt fun _ => rfl, ?_, h13⟩
     · rw [hq]
       simpa using hrun
     · show Value.string _ = Value.string _
       rfl
end Go.Sx
namespace Go.Sx
set_option linter.all false
open Go.RowKit
variable {A : Type} {AI : Abs A} {G : Fr} {s : SS A} {ρ : Ev} {a : Act} {w : World} {P : Program}
def aE (P : Program) (AI : Abs A) (f : FuncId) (k : Con A) : Prop :=
 (∀ args w, (callFunc f args).run P w = .ok (.enter f args) w) ∧
 (∀ args fresh p, k args fresh = some p → p.w = false → ∀ (H : List (Chunk A)) d C v cs, p.eff (aD H p.ids) d = .done C v cs → cs = aD H p.ids) ∧
 ∀ (G : Fr) (s : SS A) (ρ : Ev) (tmps : Array Value) (w : World) (args : List SV) (us : List Value) (fresh : Nat) (p : aZ A) (d : List Bool) (C : U Prop) (v : SV) (cs : List (Chunk A)),
   Holds AI G s ρ tmps w → aL (Den ρ) args us → k args fresh = some p → (∀ i ∈ p.ids, fresh ≤ i → aC s.H i = .emp) → p.eff (aD s.H p.ids) d = .done C v cs → C () →
   Calls P f us.toArray w fun e w' => ∃ y ρ', e = .returned y ∧ Holds AI G ⟨s.tm, aO s.H p.ids cs⟩ ρ' tmps w' ∧ Den ρ' v y ∧ ρ.Le ρ'
structure aU (P : Program) (AI : Abs A) (E : Env A) : Prop where
 ti : rN P E.ti
 con : ∀ f k, look E.con f = some k → aE P AI f k
def fc (AI : Abs A) (G : Fr) (s' : SS A) (K : Act → World → Prop) : Prop := ∀ a' w', a'.defers = [] → (∃ ρ', Holds AI G s' ρ' a'.tmps w') → K a' w'
theorem aN {o : Oper} (x : Go.Sem Value) (hx : execOp a.eval o = (do pure (.value (← x)))) (hdf : a.defers = []) {H' : List (Chunk A)} {v : SV} (hd : bV AI G P s a w ρ x H' v) (hdst : ∀ t, o.dst = some t → t < G.size)
 {K : Act → World → Prop} {Q : Exit → Act → World → Prop} (hK : fc AI G ⟨jz s.tm o.dst v, H'⟩ K) : o.wp P a w K Q := by
 obtain ⟨y, ρ', w', h1, h2, h3, h4⟩ := hd
 unfold Oper.wp
 rw [hx, Sem.run_bind, h1]
 simp only [Result.andThen, Sem.run_pure, Oper.upon_value]
 exact hK _ _ (by rw [Act.cv, hdf]) ⟨ρ', (h2.put hdst h3)⟩
theorem bV.ea (h : Holds AI G s ρ a.tmps w) {x : Go.Sem Value} {C : U Prop} {v : SV} {p : aZ A} (hp : p = ⟨[], 0, false, fun _ _ => .done C v []⟩) {d : List Bool} {C' : U Prop} {v' : SV} {cs : List (Chunk A)} (he : p.eff (aD s.H p.ids) d = .done C' v' cs) (hC : C' ())
 (hx : C () → ∃ y, x.run P w = .ok y w ∧ Den ρ v y) : bV AI G P s a w ρ x (aO s.H p.ids cs) v' := by
 subst hp
 simp at he
 obtain ⟨rfl, rfl, rfl⟩ := he
 obtain ⟨y, h1, h2⟩ := hx hC
 exact ⟨y, ρ, w, h1, h, h2, .refl _⟩
theorem j4 (h : Holds AI G s ρ a.tmps w) {x : Option Operand} {v : Option SV} (hx : cV s.tm x = some v) : eJ ρ v (x.map a.eval) := by
 cases x with
 | none => cases hx; trivial
 | some x =>
   simp only [cV] at hx
   split at hx
   · rename_i u hu; cases hx; exact h.eval hu
   · cases hx
theorem pO (h : Holds AI G s ρ a.tmps w) : ∀ {l : List (Nat × Operand)} {ps : List (Nat × SV)}, cK s.tm l = some ps → jN ρ ps (l.map fun p => (p.1, a.eval p.2))
 | [], _, hp => by simp [cK] at hp; subst hp; exact .nil
 | (i, x) :: r, _, hp => by
   simp only [cK] at hp
   split at hp
   · rename_i v hv
     split at hp
     · rename_i l hl
       cases hp
       exact .cons ⟨rfl, h.eval hv⟩ (pO h hl)
     · cases hp
   · cases hp
theorem AK {i : TI} {t : TypeId} (hT : af P t i) {x : SV} (h : sN i x = true) {u : Value} (hu : Den ρ x u) :
 (∀ b, u = .bool b → P.underlying t = some .bool) ∧ (∀ b, u = .pointer b → ∃ e, P.underlying t = some (.pointer e)) ∧ u ≠ .nilIface ∧ ∀ c, u ≠ .agg c := by
 have hk := hT.kind
 unfold sN at h
 split at h
 · cases hu; simp
 · cases hu; simp
 · cases hu; simp
 · split at h
   · rename_i hi; rw [hi] at hk; cases hu; exact ⟨fun _ _ => hk, by simp, by simp, by simp⟩
   · cases h
 · split at h
   · rename_i hi; rw [hi] at hk; cases hu; exact ⟨fun _ _ => hk, by simp, by simp, by simp⟩
   · cases h
 · split at h
   · rename_i hi; rw [hi] at hk; obtain ⟨b, _, rfl⟩ := hu; exact ⟨by simp, fun _ _ => ⟨_, hk⟩, by simp, by simp⟩
   · cases h
 · split at h
   · rename_i hi; rw [hi] at hk; cases hu; exact ⟨by simp, fun _ _ => ⟨_, hk⟩, by simp, by simp⟩
   · cases h
 · cases h
theorem PO.aW {q : Option (aZ A)} {p : aZ A} (h : PO.of q = .plan p) : q = some p := by
 cases q with
 | none => cases h
 | some p' => cases h; rfl
theorem iv {E : Env A} (hE : aU P AI E) {k : TK} {z : Nat} (hz : sT E.ti k = some z) : ∀ e, jn k = some e → (Go.sizeOf e).run P w = .ok z w := by
 intro e he
 cases k <;> simp [jn] at he <;> subst he <;> simp only [sT] at hz <;> split at hz <;> simp at hz <;> subst hz <;> rename_i i hi <;> exact (hE.ti _ i hi).sizeOf w
end Go.Sx
namespace Go.Sx
set_option linter.all false
open Go.RowKit
variable {A : Type} {AI : Abs A} {G : Fr} {s : SS A} {ρ : Ev} {a : Act} {w : World} {P : Program}
theorem mC {o : Oper} {b : Builtin} {xs : Array Operand} {ats : Array TypeId} (ho : o.op = .call { callee := .builtin b, args := xs, argTypes := ats }) :
 execOp a.eval o = builtin b ats o.type (xs.map fun | .const _ => true | _ => false) (xs.map a.eval) := by
 obtain ⟨dst, op, ty, pos, after, guard⟩ := o
 dsimp only at ho
 subst ho
 rfl
theorem gX (xs : Array Operand) : xs.map a.eval = (xs.toList.map a.eval).toArray := by apply Array.ext'; simp
theorem fx (xs : Array (Nat × Operand)) : xs.map (fun (i, x) => (i, a.eval x)) = (xs.toList.map fun p => (p.1, a.eval p.2)).toArray := by apply Array.ext'; simp
theorem aL.one {α β : Type} {R : α → β → Prop} {x : α} {us : List β} (h : aL R [x] us) : ∃ a, us = [a] ∧ R x a := by
 cases h with | cons h1 h => cases h; exact ⟨_, rfl, h1⟩
theorem sR {ti : List (Nat × TI)} (hti : rN P ti) (h : Holds AI G s ρ a.tmps w) {b : Builtin} {args : List SV} {us : List Value} {ats : Array TypeId} (hds : aL (Den ρ) args us) {p : aZ A} (hp : jR ti b args ats.toList = some p) {d : List Bool} {C : U Prop} {r : SV} {cs : List (Chunk A)}
 (he : p.eff (aD s.H p.ids) d = .done C r cs) (hC : C ()) (ty : TypeId) : (b = .unsafeSliceData ∧ bV AI G P s a w ρ (Builtin.unsafeSliceData_ ats ty us.toArray) (aO s.H p.ids cs) r) ∨ (b = .unsafeString ∧ bV AI G P s a w ρ (Builtin.unsafeString_ ats ty us.toArray) (aO s.H p.ids cs) r) := by
 cases b <;> (try (cases hp; done))
 · left
   refine ⟨rfl, ?_⟩
   rcases args with _ | ⟨x, _ | ⟨y, r⟩⟩ <;> (try (cases hp; done))
   have hp : dU x = some p := hp
   obtain ⟨u, rfl, hd⟩ := hds.one
   obtain ⟨h1, h2⟩ := oG (P := P) h hd hp he hC ats ty
   exact bV.looks h h1 h2
 · right
   refine ⟨rfl, ?_⟩
   rcases args with _ | ⟨x, _ | ⟨y, _ | ⟨z, r⟩⟩⟩ <;> (try (cases hp; done))
   have hp : (match ats.toList with | [pt, _] => (match look ti pt with | some i => cq ti i x y | none => none) | _ => none) = some p := hp
   rcases hats : ats.toList with _ | ⟨pt, _ | ⟨it, _ | ⟨z, r⟩⟩⟩ <;> (rw [hats] at hp) <;> (try (cases hp; done))
   have hp : (match look ti pt with | some i => cq ti i x y | none => none) = some p := hp
   split at hp <;> (try (cases hp; done))
   rename_i i hi
   obtain ⟨u1, u2, rfl, hd1, hd2⟩ := hds.two
   have : ats = #[pt, it] := by apply Array.ext'; simpa using hats
   rw [this]
   exact oE hti (hti pt i hi) h hd1 hd2 hp he hC ty
theorem pC {E : Env A} (hE : aU P AI E) (h : Holds AI G s ρ a.tmps w) (hdf : a.defers = []) {o : Oper} {fresh : Nat} {p : aZ A} (hp : cO E s.tm fresh o.op = .plan p) (hfr : ∀ i ∈ p.ids, fresh ≤ i → aC s.H i = .emp) {d : List Bool} {C : U Prop} {v : SV} {cs : List (Chunk A)}
 (he : p.eff (aD s.H p.ids) d = .done C v cs) (hC : C ()) (hdst : ∀ t, o.dst = some t → t < G.size) {K : Act → World → Prop} {Q : Exit → Act → World → Prop}
 (hK : fc AI G ⟨jz s.tm o.dst v, aO s.H p.ids cs⟩ K) : o.wp P a w K Q := by
 have unit : ∀ (x : Go.Sem Unit) (hx : execOp a.eval o = (do x; pure .skip)) (ρ2 : Ev) (w' : World) (hr : x.run P w = .ok () w') (h2 : Holds AI G ⟨s.tm, aO s.H p.ids cs⟩ ρ2 a.tmps w') (hv : v = one .any), o.wp P a w K Q := by
  intro x hx ρ2 w' hr h2 hv
  unfold Oper.wp
  rw [hx, Sem.run_bind, hr]
  simp only [Result.andThen, Sem.run_pure, Oper.upon_skip]
  subst hv
  exact hK _ _ (by rw [Act.cv, hdf]) ⟨ρ2, h2.put hdst (by trivial)⟩
 cases hop : o.op <;> rw [hop] at hp <;> simp only [cO, reduceCtorEq] at hp
 case move x =>
  split at hp <;> (try cases hp)
  rename_i u hu
  refine aN (pure (a.eval x)) ?_ hdf (bV.ea h rfl he hC fun _ => ⟨_, rfl, h.eval hu⟩) hdst hK
  unfold execOp; rw [hop]; rfl
 case assign x =>
  split at hp <;> (try cases hp)
  rename_i u hu
  refine aN (pure (a.eval x)) ?_ hdf (bV.ea h rfl he hC fun _ => ⟨_, rfl, h.eval hu⟩) hdst hK
  unfold execOp; rw [hop]; rfl
 case pick c x y =>
  split at hp
  · rename_i hc
    split at hp <;> (try cases hp)
    rename_i u hu
    have e1 : a.eval c = .bool true := h.eval hc
    refine aN (do pure (if ← asBool (a.eval c) then a.eval x else a.eval y)) ?_ hdf (bV.ea h rfl he hC fun _ => ⟨a.eval x, by simp [e1, asBool], h.eval hu⟩) hdst hK
    unfold execOp; rw [hop]; simp
  · rename_i hc
    split at hp <;> (try cases hp)
    rename_i u hu
    have e1 : a.eval c = .bool false := h.eval hc
    refine aN (do pure (if ← asBool (a.eval c) then a.eval x else a.eval y)) ?_ hdf (bV.ea h rfl he hC fun _ => ⟨a.eval y, by simp [e1, asBool], h.eval hu⟩) hdst hK
    unfold execOp; rw [hop]; simp
  · split at hp <;> cases hp
  · cases hp
 case load t x =>
  split at hp <;> (try cases hp)
  rename_i i hi
  split at hp <;> (try cases hp)
  rename_i u hu
  obtain ⟨h1, h2⟩ := wh (hE.ti t i hi) h (h.eval hu) (PO.aW hp) he hC
  refine aN (Instr.loadAt t (a.eval x)) ?_ hdf (bV.looks h h1 h2) hdst hK
  unfold execOp; rw [hop]
 case store t x y =>
  split at hp <;> (try cases hp)
  rename_i i hi
  split at hp <;> (try cases hp)
  rename_i u hu
  split at hp <;> (try cases hp)
  rename_i u' hu'
  obtain ⟨ρ2, w', h1, h2, h3⟩ := uR (hE.ti t i hi) h (h.eval hu) (h.eval hu') (PO.aW hp) he hC
  refine unit (Instr.storeAt t (a.eval x) (a.eval y)) ?_ ρ2 w' h1 h2 h3
  unfold execOp; rw [hop]
 case nilCheck x =>
  have key : ∀ q, a.eval x = .pointer (some q) → execOp a.eval o = (do pure (.value (← (pure (.pointer (some q)) : Go.Sem Value)))) := by
   intro q hq
   unfold execOp; rw [hop]; simp only [hq]; rfl
  split at hp
  · rename_i i off hx
    have hd := h.eval hx
    obtain ⟨b, h1, h2⟩ := id hd
    exact aN _ (key _ h2) hdf (bV.ea h (PO.aW hp |> Option.some.inj |>.symm) he hC fun _ => ⟨_, rfl, h2 ▸ hd⟩) hdst hK
  · rename_i hx
    have hd := h.eval hx
    obtain ⟨b, o', h2, _⟩ := id hd
    exact aN _ (key _ h2) hdf (bV.ea h (PO.aW hp |> Option.some.inj |>.symm) he hC fun _ => ⟨_, rfl, h2 ▸ hd⟩) hdst hK
  · rename_i hx
    have hd := h.eval hx
    obtain ⟨q, h2, _⟩ := id hd
    exact aN _ (key _ h2) hdf (bV.ea h (PO.aW hp |> Option.some.inj |>.symm) he hC fun _ => ⟨_, rfl, h2 ▸ hd⟩) hdst hK
  · cases hp
 case binOp op t x y yt =>
  split at hp <;> (try cases hp)
  rename_i i hi
  split at hp <;> (try cases hp)
  rename_i u hu
  split at hp <;> (try cases hp)
  rename_i u' hu'
  split at hp
  · rename_i yy hny
    refine aN (do eqGuard op t x y (a.eval x) (a.eval y); binOp op t (a.eval x) (a.eval y)) ?_ hdf (bV.ea h (PO.aW hp |> Option.some.inj |>.symm) he hC fun _ => ?_) hdst hK
    · unfold execOp; rw [hop]
    · exact tH (hE.ti t i hi) hny x y yt (h.eval hu) (h.eval hu')
  split at hp <;> (try cases hp)
  rename_i hb
  obtain ⟨hb1, hb2⟩ := Bool.and_eq_true_iff.1 hb
  obtain ⟨k1, k2, k3, k4⟩ := AK (hE.ti t i hi) hb1 (h.eval hu)
  have hp := PO.aW hp
  have hcase : ku op u u' = some p ∨ (op = .sub ∧ ∃ m n, cH u = some (.i64, m) ∧ cH u' = some (.i64, n) ∧ p = ⟨[], 0, false, fun _ ds => match ds with
        | [] => .need (fun _ => decide (-9223372036854775808 ≤ m () - n () ∧ m () - n () ≤ 9223372036854775807))
        | true :: _ => .done (fun _ => -9223372036854775808 ≤ m () - n () ∧ m () - n () ≤ 9223372036854775807) (one (.int .i64 (fun _ => m () - n ()))) []
        | false :: _ => .done tt (one .any) []⟩) := by
   unfold re at hp
   split at hp
   · split at hp
     · split at hp
       · rename_i m hm
         split at hp
         · rename_i n hn; cases hp; exact .inr ⟨rfl, m, n, hm, hn, rfl⟩
         · exact .inl hp
       · exact .inl hp
     · exact .inl hp
   · exact .inl hp
  clear hp
  rcases hcase with hp2 | ⟨hsub, m, n, hm, hn, hp2⟩
  case inr =>
   subst hsub; subst hp2
   have e1 := bF hm (h.eval hu)
   have e2 := bF hn (h.eval hu')
   refine aN (do eqGuard .sub t x y (a.eval x) (a.eval y); binOp .sub t (a.eval x) (a.eval y)) (ρ := ρ) ?_ hdf ?_ hdst hK
   · unfold execOp; rw [hop]
   · have hrun : (do eqGuard .sub t x y (a.eval x) (a.eval y); binOp .sub t (a.eval x) (a.eval y) : Go.Sem Value).run P w = .ok (.int .i64 (IntKind.i64.wrap (m () - n ()))) w := by
      rw [Sem.run_bind, da _ _ _ _ k3 k4, e1, e2]
      simp [Result.andThen, binOp, Op.intArith]
     dsimp only at he
     split at he <;> cases he
     · refine ⟨_, ρ, w, hrun, h, ?_, .refl _⟩
       exact jl (ρ := ρ) (k := .i64) (n := fun _ => m () - n ()) rfl hC
     · exact ⟨_, ρ, w, hrun, h, trivial, .refl _⟩
  have hp := hp2
  clear hp2
  unfold ku at hp
  split at hp <;> (try cases hp)
  rename_i sx sy
  split at hp <;> (try cases hp)
  rename_i C' v' hbo
  refine aN (do eqGuard op t x y (a.eval x) (a.eval y); binOp op t (a.eval x) (a.eval y)) ?_ hdf (bV.ea h rfl he hC fun hC' => ?_) hdst hK
  · unfold execOp; rw [hop]
  · obtain ⟨r, hr1, hr2⟩ := u4 (w := w) (P := P) hbo hC' t (h.eval hu) (h.eval hu') (fun b _ hb _ => k1 b hb) (fun b _ hb _ => k2 b hb)
    exact ⟨r, by rw [Sem.run_bind, da _ _ _ _ k3 k4]; exact hr1, hr2⟩
 case unOp op t x =>
  split at hp <;> (try cases hp)
  rename_i u hu
  obtain ⟨C', v', h1, h2⟩ := wF (w := w) (P := P) (PO.aW hp) (h.eval hu)
  refine aN (Op.unary op (a.eval x)) ?_ hdf (bV.ea h h1 he hC h2) hdst hK
  unfold execOp; rw [hop]
 case convert src dst x =>
  split at hp <;> (try cases hp)
  rename_i i hi
  split at hp <;> (try cases hp)
  rename_i j hj
  split at hp <;> (try cases hp)
  rename_i u hu
  split at hp <;> (try cases hp)
  rename_i hs
  have hd := h.eval hu
  have hS := hE.ti src i hi
  have hk := hS.kind
  split at hp
  · rename_i p' hcn
    cases PO.aW hp
    split at hcn <;> (try cases hcn)
    rename_i hsd
    have hsd := beq_eq hsd
    subst hsd
    refine aN (convert src src (a.eval x)) ?_ hdf (rI (hE.ti src j hj) h hd hcn he hC) hdst hK
    unfold execOp; rw [hop]
  rename_i hcr0
  clear hcr0
  split at hp
  · rename_i p' hcn
    cases PO.aW hp
    have hstr : P.underlying src = some .string := by
     rw [yq hcn hs] at hk; exact hk
    refine aN (convert src dst (a.eval x)) ?_ hdf (rJ hstr (hE.ti dst j hj) h hd hcn he hC) hdst hK
    unfold execOp; rw [hop]
  rename_i hcn0
  clear hcn0
  obtain ⟨h1, h2⟩ := rH hS (hE.ti dst j hj) h hd (PO.aW hp) he hC
   (by
     rintro ⟨ao, l, c, e⟩
     unfold nk at hs
     split at hs
     · rw [show a.eval x = _ from hd] at e; cases e
     · rw [show a.eval x = _ from hd] at e; cases e
     · rw [show a.eval x = _ from hd] at e; cases e
     · rename_i hik; rw [hik] at hk; obtain ⟨hu1, g, hg, hg2⟩ := hk; obtain ⟨_, _, _, h8, _⟩ := hg2 _ rfl; exact ⟨_, hu1, h8 _ rfl⟩
     · rename_i hik; rw [hik] at hk; obtain ⟨hu1, g, hg, hg2⟩ := hk; obtain ⟨_, _, _, h8, _⟩ := hg2 _ rfl; exact ⟨_, hu1, h8 _ rfl⟩
     · rename_i hik; rw [hik] at hk; obtain ⟨hu1, g, hg, hg2⟩ := hk; obtain ⟨_, _, _, h8, _⟩ := hg2 _ rfl; exact ⟨_, hu1, h8 _ rfl⟩
     · rename_i hik; rw [hik] at hk; obtain ⟨hu1, g, hg, hg2⟩ := hk; obtain ⟨_, _, _, h8, _⟩ := hg2 _ rfl; exact ⟨_, hu1, h8 _ rfl⟩
     · cases hs)
   (by
     rintro ⟨k, n, e⟩
     unfold nk at hs
     split at hs
     · rename_i hik; rw [hik] at hk; exact ⟨_, hk⟩
     · rename_i hik; rw [hik] at hk; exact ⟨_, hk⟩
     · rw [show a.eval x = _ from hd] at e; cases e
     · obtain ⟨ao, cap, e2, _⟩ := hd; rw [e2] at e; cases e
     · rw [show a.eval x = _ from hd] at e; cases e
     · obtain ⟨⟨_, _, _, e2⟩, _⟩ := hd; rw [e2] at e; cases e
     · obtain ⟨⟨_, _, _, e2⟩, _⟩ := hd; rw [e2] at e; cases e
     · cases hs)
   (by
     rintro ⟨l, e⟩
     unfold nk at hs
     split at hs
     · rw [show a.eval x = _ from hd] at e; cases e
     · rw [show a.eval x = _ from hd] at e; cases e
     · rename_i hik; rw [hik] at hk; exact hk
     · obtain ⟨ao, cap, e2, _⟩ := hd; rw [e2] at e; cases e
     · rw [show a.eval x = _ from hd] at e; cases e
     · obtain ⟨⟨_, _, _, e2⟩, _⟩ := hd; rw [e2] at e; cases e
     · obtain ⟨⟨_, _, _, e2⟩, _⟩ := hd; rw [e2] at e; cases e
     · cases hs)
  refine aN (convert src dst (a.eval x)) ?_ hdf (bV.looks h h1 h2) hdst hK
  unfold execOp; rw [hop]
 case slice t x lo hi mx =>
  split at hp <;> (try cases hp)
  rename_i i hi'
  split at hp <;> (try cases hp)
  rename_i u hu
  split at hp <;> (try cases hp)
  rename_i l hl
  split at hp <;> (try cases hp)
  rename_i l2 hl2
  split at hp <;> (try cases hp)
  rename_i m hm
  split at hp
  rotate_left
  · refine aN (Instr.sliceAt t (a.eval x) (lo.map a.eval) (hi.map a.eval) (mx.map a.eval)) ?_ hdf (sY (hE.ti t i hi') h (h.eval hu) (j4 h hl) (j4 h hl2) (j4 h hm) (PO.aW hp) he) hdst hK
    unfold execOp; rw [hop]
  split at hp <;> (try cases hp)
  rename_i z hzz
  have hz := iv (w := w) hE hzz
  obtain ⟨h1, h2⟩ := ua (hE.ti t i hi') h hz (h.eval hu) (j4 h hl) (j4 h hl2) (j4 h hm) (PO.aW hp) he hC
  refine aN (Instr.sliceAt t (a.eval x) (lo.map a.eval) (hi.map a.eval) (mx.map a.eval)) ?_ hdf (bV.looks h h1 h2) hdst hK
  unfold execOp; rw [hop]
 case fieldAddr t x f =>
  split at hp <;> (try cases hp)
  rename_i i hi
  split at hp <;> (try cases hp)
  rename_i u hu
  obtain ⟨C', v', h1, h2⟩ := vc (w := w) (hE.ti t i hi) (h.eval hu) (PO.aW hp)
  refine aN (Instr.fieldAt t (a.eval x) f) ?_ hdf (bV.ea h h1 he hC h2) hdst hK
  unfold execOp; rw [hop]
 case indexAddr t x ix =>
  split at hp <;> (try cases hp)
  rename_i i hi
  split at hp <;> (try cases hp)
  rename_i u hu
  split at hp <;> (try cases hp)
  rename_i u' hu'
  split at hp <;> (try cases hp)
  rename_i z hzz
  have hz := iv (w := w) hE hzz
  obtain ⟨h1, h2⟩ := nz (hE.ti t i hi) h hz (h.eval hu) (h.eval hu') (PO.aW hp) he hC
  refine aN (Instr.indexAt t (a.eval x) (a.eval ix)) ?_ hdf (bV.looks h h1 h2) hdst hK
  unfold execOp; rw [hop]
 case index t x ix =>
  split at hp <;> (try cases hp)
  rename_i i hi
  split at hp <;> (try cases hp)
  rename_i u hu
  split at hp <;> (try cases hp)
  rename_i u' hu'
  obtain ⟨h1, h2⟩ := tT hE.ti (hE.ti t i hi) h (h.eval hu) (h.eval hu') (PO.aW hp) he hC
  refine aN (Instr.index t (a.eval x) (a.eval ix)) ?_ hdf (bV.looks h h1 h2) hdst hK
  unfold execOp; rw [hop]
 case extract x n =>
  split at hp <;> (try cases hp)
  rename_i l hl
  split at hp <;> (try cases hp)
  rename_i u hu
  obtain ⟨vs, e1, h1⟩ := h.eval hl
  obtain ⟨y, h2, h3⟩ := h1.nth hu
  refine aN (Instr.extract (a.eval x) n) ?_ hdf (bV.ea h rfl he hC fun _ => ⟨y, ?_, (show Den ρ (.val u) y from h3)⟩) hdst hK
  · unfold execOp; rw [hop]
  · rw [e1]; simp [Instr.extract, h2]
 case alloc t =>
  split at hp <;> (try cases hp)
  rename_i i hi
  obtain ⟨f, f1, f2, z, f4, f5⟩ := (hE.ti t i hi).info
  have hd := mV (P := P) h (t := t) (cs := i.zero) (vs := z.cells.toList) (by rw [f5]; exact zero_den) rfl he
  refine aN (ρ := ρ) (Instr.alloc t true (.tuple #[])) ?_ hdf ?_ hdst hK
  · unfold execOp; rw [hop]
  · obtain ⟨y, ρ', w', h1, h2⟩ := hd
    refine ⟨y, ρ', w', ?_, h2⟩
    rw [← h1]
    simp [Instr.alloc, Go.zeroValue, typeInfo, f1, f4, newVar]
 case box t x =>
  split at hp <;> (try cases hp)
  rename_i u hu
  split at hp <;> (try cases hp)
  rename_i l hl
  split at hp <;> (try cases hp)
  rename_i hst
  have hd := mV (P := P) h (t := t) (eV hl (h.eval hu) hst) rfl he
  refine aN (ρ := ρ) (Instr.box t (a.eval x)) ?_ hdf ?_ hdst hK
  · unfold execOp; rw [hop]
  · simpa [Instr.box, newVar] using hd
 case build t parts =>
  split at hp <;> (try cases hp)
  rename_i i hi
  split at hp <;> (try cases hp)
  rename_i ps hps
  obtain ⟨f, f1, f2, z, f4, f5⟩ := (hE.ti t i hi).info
  obtain ⟨C', v', h1, h2⟩ := vp (w := w) (hE.ti t i hi) ⟨z, by simp [Go.zeroValue, typeInfo, f1, f4], f5⟩ (pO h hps) (fun z hz => iv (w := w) hE hz) (PO.aW hp)
  refine aN (Instr.build t (parts.map fun (i, x) => (i, a.eval x))) ?_ hdf (bV.ea h h1 he hC ?_) hdst hK
  · unfold execOp; rw [hop]
  · intro hC'; obtain ⟨y, h3, h4⟩ := h2 hC'; exact ⟨y, by rw [fx]; exact h3, h4⟩
 case buildSlice t n parts =>
  split at hp <;> (try cases hp)
  rename_i i hi
  split at hp <;> (try cases hp)
  rename_i ps hps
  have hd := nU (hE.ti t i hi) h (pO h hps) (PO.aW hp) he hC
  refine aN (Instr.buildSlice t n (parts.map fun (i, x) => (i, a.eval x))) ?_ hdf (by rw [fx]; exact hd) hdst hK
  unfold execOp; rw [hop]
 case makeSlice t x y =>
  split at hp <;> (try cases hp)
  rename_i i hi
  split at hp <;> (try cases hp)
  rename_i u hu
  split at hp <;> (try cases hp)
  rename_i u' hu'
  have hd := oM (hE.ti t i hi) h (h.eval hu) (h.eval hu') (PO.aW hp) he hC
  refine aN (Instr.makeSlice t (a.eval x) (a.eval y)) ?_ hdf hd hdst hK
  unfold execOp; rw [hop]
 case makeMap t r =>
  cases r <;> simp only [cO, reduceCtorEq] at hp
  split at hp <;> (try cases hp)
  rename_i i hi
  refine aN (Instr.makeMap t none) ?_ hdf (rE (t := t) h (PO.aW hp) he) hdst hK
  unfold execOp; rw [hop]; rfl
 case lookup t x ix ok =>
  split at hp <;> (try cases hp)
  rename_i i hi
  split at hp <;> (try cases hp)
  rename_i u hu
  split at hp <;> (try cases hp)
  rename_i u' hu'
  obtain ⟨h1, h2⟩ := tN (hE.ti t i hi) h (h.eval hu) (h.eval hu') (PO.aW hp) he hC
  refine aN (Instr.lookup t (a.eval x) (a.eval ix) ok) ?_ hdf (bV.looks h h1 h2) hdst hK
  unfold execOp; rw [hop]
 case mapUpdate t x ix y =>
  split at hp <;> (try cases hp)
  rename_i i hi
  split at hp <;> (try cases hp)
  rename_i u hu
  split at hp <;> (try cases hp)
  rename_i u' hu'
  split at hp <;> (try cases hp)
  rename_i u2 hu2
  obtain ⟨ρ2, w', h1, h2, h3⟩ := oL (hE.ti t i hi) h (h.eval hu) (h.eval hu') (h.eval hu2) (PO.aW hp) he hC
  refine unit (Instr.mapUpdate t (a.eval x) (a.eval ix) (a.eval y)) ?_ ρ2 w' h1 h2 h3
  unfold execOp; rw [hop]
 case makeFunc f first caps =>
  cases f <;> simp only [cO, reduceCtorEq] at hp
  rename_i f
  split at hp <;> (try cases hp)
  rename_i vs hf hvs
  split at hp <;> (try cases hp)
  rename_i l hl
  have hcaps : ∀ {vs : List SV} {us : List Value} {l : List SV1}, aL (Den ρ) vs us → kq vs = some l → aL (aK ρ) l us := by
   intro vs
   induction vs with
   | nil => intro us l h1 h2; cases h1; simp [kq] at h2; subst h2; exact .nil
   | cons x r ih =>
     intro us l h1 h2
     cases h1 with
     | cons hx hr =>
       simp only [kq] at h2
       split at h2
       · rename_i y hy
         split at h2
         · rename_i l' hl'
           simp at h2
           subst h2
           refine .cons ?_ (ih hr hl')
           unfold cellOf at hy
           split at hy
           · cases hy; exact hx
           · cases hy
         · cases h2
       · cases h2
  have h1 := hcaps (h.Bk hvs) hl
  refine aN (Instr.makeFunc (.func f) (first.map a.eval) (caps.map a.eval)) ?_ hdf (bV.ea h rfl he hC fun _ => ⟨_, rfl, caps.toList.map a.eval, ?_, h1⟩) hdst hK
  · unfold execOp; rw [hop]
  · have e1 : first = #[] := by apply Array.ext'; simpa using hf
    rw [e1, gX caps]; simp
 case range t x =>
  split at hp <;> (try cases hp)
  rename_i i hi
  split at hp <;> (try cases hp)
  rename_i u hu
  refine aN (Instr.range t (a.eval x)) ?_ hdf (uq (hE.ti t i hi) h (h.eval hu) (PO.aW hp) he) hdst hK
  unfold execOp; rw [hop]
 case entry x =>
  split at hp <;> (try cases hp)
  rename_i u hu
  obtain ⟨h1, h2⟩ := vj (P := P) (w := w) h (h.eval hu) (PO.aW hp) he
  refine aN (Instr.entry (a.eval x)) ?_ hdf (bV.looks h h1 h2) hdst hK
  unfold execOp; rw [hop]
 case call c =>
  have hp := PO.aW hp
  unfold qd at hp
  split at hp <;> (try cases hp)
  rename_i args hargs
  have hds := h.Bk hargs
  obtain ⟨callee, xs, ats⟩ := c
  dsimp only at hp hargs hds
  cases callee with
  | invoke r m => cases hp
  | builtin b =>
    dsimp only at hp
    have hex := mC (a := a) hop
    rw [gX] at hex
    generalize xs.toList.map a.eval = us at hex hds
    split at hp
    · rename_i x t hats _
      split at hp <;> (try cases hp)
      rename_i i hi
      split at hp <;> (try cases hp)
      rename_i hl
      have hkk := (hE.ti t i hi).kind
      obtain ⟨u, rfl, hd⟩ := hds.one
      obtain ⟨h1, h2⟩ := zp (P := P) (t := t) (ty := o.type) h hd hp he hC
       (by
         rintro ⟨l, e⟩
         unfold s6 at hl
         split at hl
         · rename_i hik; rw [hik] at hkk; exact hkk
         · obtain ⟨_, _, e2, _⟩ := hd; rw [e2] at e; cases e
         · rw [show u = _ from hd] at e; cases e
         · obtain ⟨⟨_, _, _, e2⟩, _⟩ := hd; rw [e2] at e; cases e
         · obtain ⟨⟨_, _, _, e2⟩, _⟩ := hd; rw [e2] at e; cases e
         · obtain ⟨_, _, e2⟩ := hd; rw [e2] at e; cases e
         · cases hl)
       (by
         rintro ⟨ao, l, c, e⟩
         unfold s6 at hl
         split at hl
         · rw [show u = _ from hd] at e; cases e
         · rename_i hik; rw [hik] at hkk; exact ⟨_, hkk.1⟩
         · rename_i hik; rw [hik] at hkk; exact ⟨_, hkk.1⟩
         · rename_i hik; rw [hik] at hkk; exact ⟨_, hkk.1⟩
         · rename_i hik; rw [hik] at hkk; exact ⟨_, hkk.1⟩
         · obtain ⟨_, _, e2⟩ := hd; rw [e2] at e; cases e
         · cases hl)
       (by
         rintro ⟨b, e⟩
         unfold s6 at hl
         split at hl
         · rw [show u = _ from hd] at e; cases e
         · obtain ⟨_, _, e2, _⟩ := hd; rw [e2] at e; cases e
         · rw [show u = _ from hd] at e; cases e
         · obtain ⟨⟨_, _, _, e2⟩, _⟩ := hd; rw [e2] at e; cases e
         · obtain ⟨⟨_, _, _, e2⟩, _⟩ := hd; rw [e2] at e; cases e
         · rename_i hik; rw [hik] at hkk; exact ⟨_, _, hkk.1⟩
         · cases hl)
      refine aN (Builtin.len_ #[t] o.type #[u]) ?_ hdf (bV.looks h h1 h2) hdst hK
      rw [hex]
      have : ats = #[t] := by apply Array.ext'; simpa using hats
      rw [this]; rfl
    · rename_i x y t t2 hats _
      split at hp <;> (try cases hp)
      rename_i i hi
      obtain ⟨u1, u2, rfl, hd1, hd2⟩ := hds.two
      refine aN (Builtin.delete_ #[t, t2] o.type #[u1, u2]) ?_ hdf (tj (hE.ti t i hi) h hd1 hd2 hp he hC) hdst hK
      rw [hex]
      have : ats = #[t, t2] := by apply Array.ext'; simpa using hats
      rw [this]; rfl
    · obtain ⟨C', v', h1, h2⟩ := lV (w := w) (P := P) hds hp ats o.type
      refine aN (Builtin.max_ ats o.type us.toArray) ?_ hdf (bV.ea h h1 he hC h2) hdst hK
      rw [hex]; rfl
    · obtain ⟨C', v', h1, h2⟩ := lV (w := w) (P := P) hds hp ats o.type
      refine aN (Builtin.min_ ats o.type us.toArray) ?_ hdf (bV.ea h h1 he hC h2) hdst hK
      rw [hex]; rfl
    · rename_i x y t t2 hats _
      split at hp <;> (try cases hp)
      rename_i i hi
      split at hp <;> (try cases hp)
      rename_i j hj
      split at hp <;> (try cases hp)
      rename_i hjk
      have hkk := (hE.ti t2 j hj).kind
      obtain ⟨u1, u2, rfl, hd1, hd2⟩ := hds.two
      have hd := u9 (hE.ti t i hi) h (rL hjk hkk) hd1 hd2 hp he hC o.type
      refine aN (Builtin.append_ #[t, t2] o.type #[u1, u2]) ?_ hdf hd hdst hK
      rw [hex]
      have : ats = #[t, t2] := by apply Array.ext'; simpa using hats
      rw [this]; rfl
    · rcases sR hE.ti h hds hp he hC o.type with ⟨rfl, hD⟩ | ⟨rfl, hD⟩
      · refine aN _ ?_ hdf hD hdst hK
        rw [hex]; rfl
      · refine aN _ ?_ hdf hD hdst hK
        rw [hex]; rfl
  | value f =>
    dsimp only at hp
    have fin : ∀ (g : FuncId) (k : Con A) (cargs : List SV) (vs : List Value), look E.con g = some k → a.eval f = .func (.func g) #[] vs.toArray → aL (Den ρ) cargs (xs.toList.map a.eval ++ vs) → k cargs fresh = some p → Oper.wp P o a w K Q := by
     intro g k cargs vs hk e1 hall hp
     obtain ⟨h1, _, h2⟩ := hE.con g k hk
     have hcall := h2 G s ρ a.tmps w _ _ fresh p d C v cs h hall hp hfr he hC
     have hrun : (execOp a.eval o).run P w = .ok (.enter g (xs.toList.map a.eval ++ vs).toArray) w := by
      have e2 : (xs.toList.map a.eval ++ vs).toArray = xs.map a.eval ++ vs.toArray := by apply Array.ext'; simp
      unfold execOp
      rw [hop]
      simp [resolve, Deferred.ofValue, e1, Go.invoke]
      rw [h1]
      simp
     unfold Oper.wp
     rw [hrun, Oper.upon_enter]
     refine hcall.mono ?_
     rintro e w' ⟨y, ρ', rfl, h4, h5, h6⟩
     exact hK _ _ (by rw [Act.cv, hdf]) ⟨ρ', h4.put hdst h5⟩
    split at hp
    · rename_i g caps hg
      split at hp <;> (try cases hp)
      rename_i k hk
      obtain ⟨vs, e1, h3⟩ := h.eval hg
      refine fin g k _ vs hk e1 (hds.append ?_) hp
      clear hk hp e1 hg fin
      induction h3 with
      | nil => exact .nil
      | cons hx _ ih => exact .cons hx ih
    · rename_i g ids hg
      split at hp <;> (try cases hp)
      rename_i k hk
      obtain ⟨vs, e1, h3⟩ := h.eval hg
      refine fin g k _ vs hk e1 (hds.append ?_) hp
      clear hk hp e1 hg fin
      induction h3 with
      | nil => exact .nil
      | cons hx _ ih => obtain ⟨b, h4, h5⟩ := hx; exact .cons ⟨b, h4, h5⟩ ih
    · cases hp
end Go.Sx
namespace Go.Sx
set_option linter.all false
open Go.RowKit
variable {A : Type} {AI : Abs A} {G : Fr} {s : SS A} {ρ : Ev} {a : Act} {w : World} {P : Program}
theorem dI {tm tm' : List (Nat × SV)} {x : Operand} (h : ∀ t, x = .tmp t → look tm t = look tm' t) : evalOp tm x = evalOp tm' x := by
 cases x <;> simp only [evalOp]
 exact h _ rfl
theorem gK {tm tm' : List (Nat × SV)} : ∀ {xs : List Operand}, (∀ t, .tmp t ∈ xs → look tm t = look tm' t) → cn tm xs = cn tm' xs
 | [], _ => rfl
 | x :: r, h => by
   have h1 : evalOp tm x = evalOp tm' x := dI fun t e => h t (by simp [e])
   have h2 : cn tm r = cn tm' r := gK fun t e => h t (by simp [e])
   simp only [cn, h1, h2]
theorem fa {tm tm' : List (Nat × SV)} : ∀ {xs : List (Nat × Operand)}, (∀ t, .tmp t ∈ xs.map (·.2) → look tm t = look tm' t) → cK tm xs = cK tm' xs
 | [], _ => rfl
 | (i, x) :: r, h => by
   have h1 : evalOp tm x = evalOp tm' x := dI fun t e => h t (by simp [e])
   have h2 : cK tm r = cK tm' r := fa fun t e => h t (by simp at e ⊢; exact .inr e)
   simp only [cK, h1, h2]
theorem gJ {tm tm' : List (Nat × SV)} {x : Option Operand} (h : ∀ t, x = some (.tmp t) → look tm t = look tm' t) : cV tm x = cV tm' x := by
 cases x with
 | none => rfl
 | some x => simp only [cV, dI (tm := tm) (tm' := tm') (x := x) fun t e => h t (by rw [e])]
theorem wO {E : Env A} {tm tm' : List (Nat × SV)} {fresh : Nat} {o : Op} (h : ∀ t, .tmp t ∈ o.operands → look tm t = look tm' t) : cO E tm fresh o = cO E tm' fresh o := by
 have e1 : ∀ x ∈ o.operands, evalOp tm x = evalOp tm' x := fun x hx => dI fun t e => h t (e ▸ hx)
 cases o <;> simp only [cO] <;> simp only [Op.operands] at h e1
 case move x => rw [e1 x (by simp)]
 case assign x => rw [e1 x (by simp)]
 case pick c x y => rw [e1 c (by simp), e1 x (by simp), e1 y (by simp)]
 case load t x => rw [e1 x (by simp)]
 case store t x y => rw [e1 x (by simp), e1 y (by simp)]
 case nilCheck x => rw [e1 x (by simp)]
 case binOp op t x y yt => rw [e1 x (by simp), e1 y (by simp)]
 case unOp op t x => rw [e1 x (by simp)]
 case convert s d x => rw [e1 x (by simp)]
 case slice t x lo hi mx =>
  rw [e1 x (by simp), gJ (tm := tm) (tm' := tm') (x := lo) fun t e => h t (by simp [e]), gJ (tm := tm) (tm' := tm') (x := hi) fun t e => h t (by simp [e]), gJ (tm := tm) (tm' := tm') (x := mx) fun t e => h t (by simp [e])]
 case fieldAddr t x f => rw [e1 x (by simp)]
 case indexAddr t x i => rw [e1 x (by simp), e1 i (by simp)]
 case index t x i => rw [e1 x (by simp), e1 i (by simp)]
 case extract x n => rw [e1 x (by simp)]
 case box t x => rw [e1 x (by simp)]
 case build t ps => rw [fa (tm := tm) (tm' := tm') fun t e => h t (by simpa using e)]
 case buildSlice t n ps => rw [fa (tm := tm) (tm' := tm') fun t e => h t (by simpa using e)]
 case makeSlice t x y => rw [e1 x (by simp), e1 y (by simp)]
 case makeMap t r => cases r <;> rfl
 case lookup t x ix ok => rw [e1 x (by simp), e1 ix (by simp)]
 case range t x => rw [e1 x (by simp)]
 case entry x => rw [e1 x (by simp)]
 case mapUpdate t x ix y => rw [e1 x (by simp), e1 ix (by simp), e1 y (by simp)]
 case makeFunc f first caps =>
  cases f <;> simp only [cO]
  rw [gK (tm := tm) (tm' := tm') fun t e => h t (by simp at e ⊢; exact .inr e)]
 case call c =>
  congr 1
  unfold qd
  obtain ⟨callee, xs, ats⟩ := c
  have h1 : cn tm xs.toList = cn tm' xs.toList := gK fun t e => h t (by simp [Call.operands]; exact .inr (by simpa using e))
  rw [h1]
  cases callee with
  | value f => dsimp only; rw [show evalOp tm f = evalOp tm' f from dI fun t e => h t (by simp [Call.operands, e])]
  | invoke r m => rfl
  | builtin b => rfl
def bc (p : aZ A) : Prop := p.w = false → ∀ (H : List (Chunk A)) d C v cs, p.eff (aD H p.ids) d = .done C v cs → cs = aD H p.ids
theorem ej {C : U Prop} {v : SV} {p : aZ A} (h : b7 C v = some p) : bc p := by
 cases h; intro _ H d C v cs h; simp at h; simp [aD, h]
theorem ar {p : aZ A} (h : p.w = true) : bc p := fun e => by rw [h] at e; cases e
theorem tF {t : TI} {x : SV} {p : aZ A} (h : q6 t x = some p) : bc p := by
 unfold q6 at h
 split at h
 · cases h
   intro _ H d C v cs he
   simp only [aD] at he ⊢
   split at he <;> (try cases he)
   rename_i heq
   split at he <;> cases he
   exact heq.symm
 · split at h <;> (try cases h)
   intro _ H d C v cs he; simp at he; simp [aD, he]
 · cases h
   intro _ H d C v cs he
   simp only [aD] at he ⊢
   split at he <;> (try cases he)
   rename_i heq
   split at he <;> (try cases he)
   split at he <;> cases he
   exact heq.symm
 · cases h
theorem vC {x : SV} {p : aZ A} (h : wk x = some p) : bc p := by
 unfold wk at h
 split at h <;> (try cases h)
 any_goals (intro _ H d C v cs he; simp at he; simp [aD, he]; done)
 all_goals
  intro _ H d C v cs he
  simp only [aD] at he ⊢
  split at he <;> (try cases he)
  rename_i heq
  first
   | exact heq.symm
   | (split at he <;> cases he; exact heq.symm)
theorem kC {t : TI} {z : Nat} {x ix : SV} {p : aZ A} (h : fR t z x ix = some p) : bc p := by
 unfold fR at h
 split at h
 · split at h
   rotate_left 1
   · split at h <;> cases h
     rename_i n _ k _
     intro _ H d C v cs he
     have main : ∀ (l j : Nat) (ds : List Bool), dL (A := A) x z k l j ds = .done C v cs → cs = [] := by
      intro l
      induction l with
      | zero => intro j ds h; simp [dL] at h
      | succ l ih =>
        intro j ds h
        cases l with
        | zero =>
          simp only [dL] at h
          split at h
          · simp at h; exact h.2.2
          · cases h
        | succ l =>
          cases ds with
          | nil => simp [dL] at h
          | cons b ds =>
            cases b with
            | true =>
              simp only [dL] at h
              split at h
              · simp at h; exact h.2.2
              · cases h
            | false =>
              simp only [dL] at h
              exact ih (j + 1) ds h
     exact main _ _ _ he
   split at h <;> (try cases h)
   split at h <;> (try cases h)
   all_goals (intro _ H d C v cs he; simp at he; simp [aD, he])
 · split at h <;> (try cases h)
   split at h <;> (try cases h)
   · split at h <;> (try cases h)
     intro _ H d C v cs he; simp at he; simp [aD, he]
   · intro _ H d C v cs he
     simp only [aD] at he ⊢
     split at he <;> (try cases he)
     rename_i heq
     split at he <;> cases he
     exact heq.symm
 · cases h
theorem r7 {t : TI} {z : Nat} {x : SV} {lo hi mx : Option SV} {p : aZ A} (h : kO t z x lo hi mx = some p) : bc p := by
 unfold kO at h
 split at h <;> (try cases h)
 split at h <;> (try cases h)
 split at h <;> (try cases h)
 split at h <;> (try cases h)
 · split at h <;> (try cases h)
   intro _ H d C v cs he; simp at he; simp [aD, he]
 · intro _ H d C v cs he
   simp only [aD] at he ⊢
   split at he <;> (try cases he)
   rename_i heq
   split at he <;> cases he
   exact heq.symm
theorem r8 {t : TI} {x : SV} {f : Nat} {p : aZ A} (h : kg t x f = some p) : bc p := by
 unfold kg at h
 split at h <;> (try cases h)
 split at h <;> (try cases h)
 split at h <;> (try cases h)
 all_goals (intro _ H d C v cs he; simp at he; simp [aD, he])
theorem vD {op : BinOp} {x y : SV} {p : aZ A} (h : ku op x y = some p) : bc p := by
 unfold ku at h
 split at h <;> (try cases h)
 split at h <;> (try cases h)
 intro _ H d C v cs he; simp at he; simp [aD, he]
theorem wb {op : UnOp} {x : SV} {p : aZ A} (h : oo op x = some p) : bc p := by
 unfold oo at h
 split at h <;> (try cases h)
 all_goals (intro _ H d C v cs he; simp at he; simp [aD, he])
theorem r9 {t : TI} {z : Option Nat} {l : List (Nat × SV)} {p : aZ A} (h : kr t z l = some p) : bc p := by
 unfold kr at h
 split at h <;> (try cases h)
 · split at h <;> (try cases h)
   intro _ H d C v cs he; simp at he; simp [aD, he]
 · split at h <;> (try cases h)
   split at h <;> (try cases h)
   intro _ H d C v cs he; simp at he; simp [aD, he]
theorem j5 {b : Bool} {l : List SV} {p : aZ A} (h : fv b l = some p) : bc p := by
 unfold fv at h
 split at h
 · split at h <;> (try cases h)
   split at h <;> (try cases h)
   split at h <;> (try cases h)
   intro _ H d C v cs he; simp at he; simp [aD, he]
 · split at h <;> (try cases h)
   split at h <;> (try cases h)
   split at h <;> (try cases h)
   split at h <;> (try cases h)
   split at h <;> (try cases h)
   intro _ H d C v cs he; simp at he; simp [aD, he]
 · cases h
theorem tG {i j : TI} {x : SV} {p : aZ A} (h : fX i j x = some p) : bc p := by
 unfold fX at h
 split at h
 all_goals try cases h
 any_goals (intro _ H d C v cs he; simp at he; simp [aD, he]; done)
 all_goals
  intro _ H d C v cs he
  simp only [aD] at he ⊢
  split at he <;> (try cases he)
  rename_i heq
  split at he <;> cases he
  exact heq.symm
theorem oK {j : TI} {x : SV} {p : aZ A} (h : en j x = some p) : bc p := by
 unfold en at h
 split at h <;> cases h
 intro _ H d C v cs he; simp at he; simp [aD, he]
theorem pc {t : TI} {x ix : SV} {ok : Bool} {p : aZ A} (h : iK t x ix ok = some p) : bc p := by
 unfold iK at h
 split at h <;> cases h
 intro _ H d C v cs he
 simp only [aD] at he ⊢
 split at he <;> (try cases he)
 rename_i heq
 split at he <;> (try cases he)
 split at he <;> (try cases he)
 split at he <;> cases he
 exact heq.symm
theorem uX {i : TI} {op : BinOp} {v u : SV} {q p : Option (aZ A)} (h : re i op v u q = p) : q = p ∨ (op = .sub ∧ ∃ a b, cH v = some (.i64, a) ∧ cH u = some (.i64, b) ∧ p = some ⟨[], 0, false, fun _ ds => match ds with
         | [] => .need (fun _ => decide (-9223372036854775808 ≤ a () - b () ∧ a () - b () ≤ 9223372036854775807))
         | true :: _ => .done (fun _ => -9223372036854775808 ≤ a () - b () ∧ a () - b () ≤ 9223372036854775807) (one (.int .i64 (fun _ => a () - b ()))) []
         | false :: _ => .done tt (one .any) []⟩) := by
 unfold re at h
 split at h
 · split at h
   · split at h
     · rename_i a ha
       split at h
       · rename_i b hb; exact .inr ⟨rfl, a, b, ha, hb, h.symm⟩
       · exact .inl h
     · exact .inl h
   · exact .inl h
 · exact .inl h
theorem pb {ti : List (Nat × TI)} {b : Builtin} {args : List SV} {ts : List TypeId} {p : aZ A} (h : jR ti b args ts = some p) : bc p := by
 unfold jR at h
 split at h
 · split at h <;> (try (cases h; done))
   unfold dU at h
   split at h <;> cases h
   · intro _ H d C v cs he; simp at he; simp [aD, he]
   · intro _ H d C v cs he
     simp only [aD] at he ⊢
     split at he <;> (try (simp at he; done))
     rename_i hcc
     split at he <;> (try (simp at he; done))
     simp at he
     rw [← he.2.2]
     exact hcc.symm
 · split at h <;> (try (cases h; done))
   split at h <;> (try (cases h; done))
   split at h <;> (try (cases h; done))
   unfold cq at h
   split at h <;> (try (cases h; done))
   split at h <;> (try (cases h; done))
   split at h <;> (try (cases h; done))
   split at h <;> cases h
   · intro _ H d C v cs he; simp at he; simp [aD, he]
   · exact ar rfl
 · cases h
theorem pd {ti : List (Nat × TI)} {t : TI} {x ix : SV} {p : aZ A} (h : iP ti t x ix = some p) : bc p := by
 unfold iP at h
 split at h <;> (try (cases h; done))
 split at h <;> (try (cases h; done))
 split at h <;> (try (cases h; done))
 split at h
 · split at h <;> (try (cases h; done))
   split at h <;> (try (cases h; done))
   exact ej h
 · split at h <;> cases h
   intro _ H d C v cs he
   have main : ∀ (ie : TI) (l : List SV1) (k : U Int) (q j : Nat) (ds : List Bool), dK (A := A) ie l k q j ds = .done C v cs → cs = [] := by
    intro ie l k q
    induction q with
    | zero => intro j ds h; simp [dK] at h
    | succ q ih =>
      intro j ds h
      cases q with
      | zero =>
        simp only [dK] at h
        split at h
        · simp at h; exact h.2.2
        · cases h
      | succ q =>
        cases ds with
        | nil => simp [dK] at h
        | cons b ds =>
          cases b with
          | true =>
            simp only [dK] at h
            split at h
            · simp at h; exact h.2.2
            · cases h
          | false =>
            simp only [dK] at h
            exact ih (j + 1) ds h
   exact main _ _ _ _ 0 d he
theorem lC {E : Env A} (hE : aU P AI E) {tm : List (Nat × SV)} {fresh : Nat} {o : Op} {p : aZ A} (h : cO E tm fresh o = .plan p) : bc p := by
 cases o <;> simp only [cO, reduceCtorEq] at h
 case load t x => split at h <;> (try cases h); split at h <;> (try cases h); exact tF (PO.aW h)
 case store t x y =>
  split at h <;> (try cases h)
  split at h <;> (try cases h)
  split at h <;> (try cases h)
  have h := PO.aW h
  unfold me at h
  split at h
  · split at h
    · split at h
      · unfold wL at h
        split at h <;> cases h
        exact ar rfl
      · unfold gE at h
        split at h <;> (try cases h)
        split at h <;> (try cases h)
        split at h <;> cases h <;> exact ar rfl
    · unfold gE at h
      split at h <;> (try cases h)
      split at h <;> (try cases h)
      split at h <;> cases h <;> exact ar rfl
  · split at h <;> (try cases h)
    split at h <;> cases h
    exact ar rfl
 case convert s d x =>
  split at h <;> (try cases h)
  split at h <;> (try cases h)
  split at h <;> (try cases h)
  split at h <;> (try cases h)
  split at h
  · rename_i hc
    cases PO.aW h
    split at hc <;> (try cases hc)
    unfold jr at hc
    split at hc <;> cases hc
    exact ar rfl
  split at h
  · rename_i hc; cases PO.aW h; exact oK hc
  · exact tG (PO.aW h)
 case slice t x lo hi mx =>
  split at h <;> (try cases h)
  split at h <;> (try cases h)
  split at h <;> (try cases h)
  split at h <;> (try cases h)
  split at h <;> (try cases h)
  split at h
  · split at h <;> (try cases h)
    exact r7 (PO.aW h)
  · have h := PO.aW h
    unfold mh at h
    split at h <;> (try cases h)
    split at h <;> cases h
    exact ar rfl
 case fieldAddr t x f => split at h <;> (try cases h); split at h <;> (try cases h); exact r8 (PO.aW h)
 case indexAddr t x i =>
  split at h <;> (try cases h)
  split at h <;> (try cases h)
  split at h <;> (try cases h)
  split at h <;> (try cases h)
  exact kC (PO.aW h)
 case binOp op t x y yt =>
  split at h <;> (try cases h)
  split at h <;> (try cases h)
  split at h <;> (try cases h)
  split at h
  · exact ej (PO.aW h)
  · split at h <;> (try cases h)
    rcases uX (PO.aW h) with h | ⟨_, a, b, _, _, h⟩
    · exact vD h
    · cases h
      intro _ H d C v cs he
      simp only [aD] at he ⊢
      split at he <;> (try cases he) <;> rfl
 case unOp op t x => split at h <;> (try cases h); exact wb (PO.aW h)
 case build t ps => split at h <;> (try cases h); split at h <;> (try cases h); exact r9 (PO.aW h)
 case buildSlice t n ps =>
  split at h <;> (try cases h)
  split at h <;> (try cases h)
  have h := PO.aW h
  unfold dc at h
  split at h <;> (try cases h)
  split at h <;> (try cases h)
  split at h <;> (try cases h)
  split at h <;> (try cases h)
  split at h
  · cases h; exact ar rfl
  · exact ej h
 case makeMap t r =>
  cases r <;> simp only [cO, reduceCtorEq] at h
  split at h <;> (try cases h)
  have h := PO.aW h
  unfold gZ at h
  split at h <;> cases h
  exact ar rfl
 case range t x =>
  split at h <;> (try cases h)
  split at h <;> (try cases h)
  have h := PO.aW h
  unfold mq at h
  split at h <;> cases h
  exact ar rfl
 case entry x =>
  split at h <;> (try cases h)
  have h := PO.aW h
  unfold nS at h
  split at h <;> cases h
  intro _ H d C v cs he
  dsimp only at he
  split at he <;> (try (simp at he; done))
  split at he <;> (try (simp at he; done))
  split at he <;> (try (simp at he; done))
  split at he <;> (try (simp at he; done))
  simp at he
  exact he.2.2.symm
 case index t x ix =>
  split at h <;> (try cases h)
  split at h <;> (try cases h)
  split at h <;> (try cases h)
  exact pd (PO.aW h)
 case lookup t x ix ok =>
  split at h <;> (try cases h)
  split at h <;> (try cases h)
  split at h <;> (try cases h)
  exact pc (PO.aW h)
 case mapUpdate t x ix y =>
  split at h <;> (try cases h)
  split at h <;> (try cases h)
  split at h <;> (try cases h)
  split at h <;> (try cases h)
  have h := PO.aW h
  unfold eE at h
  split at h <;> cases h
  exact ar rfl
 case makeSlice t x y =>
  split at h <;> (try cases h)
  split at h <;> (try cases h)
  split at h <;> (try cases h)
  have h := PO.aW h
  unfold eF at h
  split at h <;> (try cases h)
  split at h <;> (try cases h)
  split at h <;> (try cases h)
  exact ar rfl
 case makeFunc f first caps =>
  cases f <;> simp only [cO, reduceCtorEq] at h
  split at h <;> (try cases h)
  split at h <;> (try cases h)
  intro _ H d C v cs he; simp at he; simp [aD, he]
 case call c =>
  have h := PO.aW h
  unfold qd at h
  split at h <;> (try cases h)
  split at h
  · split at h <;> (try cases h)
    · split at h <;> (try cases h)
      split at h <;> (try cases h)
      exact vC h
    · split at h <;> (try cases h)
      unfold jq at h
      split at h <;> cases h
      exact ar rfl
    · exact j5 h
    · exact j5 h
    · split at h <;> (try cases h)
      split at h <;> (try cases h)
      split at h <;> (try cases h)
      unfold jt iY at h
      split at h <;> (try cases h)
      split at h <;> (try cases h)
      · split at h <;> cases h; exact ar rfl
      · split at h <;> cases h; exact ar rfl
    · exact pb h
  · split at h
    · split at h <;> (try cases h)
      rename_i k hk
      exact (hE.con _ k hk).2.1 _ _ _ h
    · split at h <;> (try cases h)
      rename_i k hk
      exact (hE.con _ k hk).2.1 _ _ _ h
    · cases h
  · cases h
 case alloc t => split at h <;> cases h; exact ar rfl
 case box t x =>
  split at h <;> (try cases h)
  split at h <;> (try cases h)
  split at h <;> cases h
  exact ar rfl
 all_goals
  repeat' (first | exact ej (PO.aW h) | (split at h))
 all_goals cases h
def CO (p : aZ A) : Prop := ∀ (H : List (Chunk A)) d C v cs, p.eff (aD H p.ids) d = .done C v cs → ∃ i r c, p.ids = i :: r ∧ i ∉ r ∧ cs = c :: aD H r
theorem tX {t : TI} {x : SV} {src : Src} {fresh : Nat} {p : aZ A} (h : iY t x src fresh = some p) : CO p := by
 unfold iY at h
 split at h <;> (try cases h)
 split at h <;> (try cases h)
 · split at h <;> cases h
   rename_i i ver _ hn
   intro H d C v cs he
   dsimp only [aD] at he
   split at he <;> (try (cases he; done))
   rename_i hcs
   simp only [List.cons.injEq] at hcs
   split at he <;> (try (cases he; done))
   split at he <;> cases he
   refine ⟨i, src.ids, _, rfl, fun hi => ?_, congrArg (List.cons _) hcs.2.symm⟩
   have : src.ids.any (aG i) = true := List.any_eq_true.2 ⟨i, hi, gj⟩
   rw [this] at hn; cases hn
 · split at h <;> cases h
   rename_i hn
   intro H d C v cs he
   dsimp only [aD] at he
   split at he <;> (try (cases he; done))
   rename_i hcs
   simp only [List.cons.injEq] at hcs
   split at he <;> cases he
   refine ⟨fresh, src.ids, _, rfl, fun hi => ?_, congrArg (List.cons _) hcs.2.symm⟩
   have : src.ids.any (aG fresh) = true := List.any_eq_true.2 ⟨fresh, hi, gj⟩
   rw [this] at hn; cases hn
theorem yx {E : Env A} {tm : List (Nat × SV)} {fresh : Nat} {o : Op} {p : aZ A} (ha : isApp o = true) (h : cO E tm fresh o = .plan p) : CO p := by
 cases o <;> (try (cases ha; done))
 rename_i c
 obtain ⟨callee, args, argTypes⟩ := c
 cases callee <;> (try (cases ha; done))
 rename_i b
 simp only [isApp] at ha
 cases b <;> (try (cases ha; done))
 simp only [cO] at h
 have h := PO.aW h
 unfold qd at h
 split at h <;> (try cases h)
 dsimp only at h
 split at h <;> (try contradiction)
 · split at h <;> (try cases h)
   split at h <;> (try cases h)
   split at h <;> (try cases h)
   exact tX h
end Go.Sx
namespace Go.Sx
set_option linter.all false
open Go.RowKit Go.MapKept
variable {A : Type} {AI : Abs A} {G : Fr} {s : SS A} {ρ : Ev} {a : Act} {w : World} {P : Program}
theorem Holds.two {tmps : Array Value} (h : Holds AI G s ρ tmps w) {ρ' : Ev} {w' : World} {i j : Nat} (hij : i ≠ j) {ci cj : Chunk A} (le : ρ.Le ρ') (hM : ρ'.M = ρ.M)
 (same : ∀ k, k ≠ i → k ≠ j → ρ'.root k = ρ.root k ∧ ρ'.ver k = ρ.ver k ∧ ρ'.foot k = ρ.foot k)
 (fi : ∀ b ∈ ρ'.foot i, (b ∈ ρ.foot i ∨ b ∈ ρ.foot j ∨ w.heap.size ≤ b) ∧ b < w'.heap.size)
 (fj : ∀ b ∈ ρ'.foot j, (b ∈ ρ.foot i ∨ b ∈ ρ.foot j ∨ w.heap.size ≤ b) ∧ b < w'.heap.size)
 (dis : ∀ b ∈ ρ'.foot i, b ∉ ρ'.foot j)
 (blocks : ∀ b, b < w.heap.size → b ∉ ρ.foot i → b ∉ ρ.foot j → w'.heap[b]? = w.heap[b]?)
 (os : w'.os = w.os) (tape : w'.tape = w.tape) (output : w'.output = w.output) (size : w.heap.size ≤ w'.heap.size)
 (hi : aQ AI ρ' w' i ci) (hj : aQ AI ρ' w' j cj) : Holds AI G ⟨s.tm, aO s.H [i, j] [ci, cj]⟩ ρ' tmps w' := by
 refine h.step (fun k => k = i ∨ k = j) le hM (fun k hk => ?_) (fun k hk b hb => ?_) (fun k l b hk hl hkl h1 h2 => ?_) (fun b hb hn => blocks b hb (hn i (.inl rfl)) (hn j (.inr rfl))) os tape output size (fun k hk => ?_)
 · have h1 : k ≠ i := fun e => hk (.inl e)
   have h2 : k ≠ j := fun e => hk (.inr e)
   obtain ⟨e1, e2, e3⟩ := same k h1 h2
   exact ⟨e1, e2, e3, by simp [aO, aP, h1, h2]⟩
 · have key : ∀ b, (b ∈ ρ.foot i ∨ b ∈ ρ.foot j ∨ w.heap.size ≤ b) → (∃ k, (k = i ∨ k = j) ∧ b ∈ ρ.foot k) ∨ w.heap.size ≤ b := by
    rintro b (h1 | h1 | h1)
    · exact .inl ⟨i, .inl rfl, h1⟩
    · exact .inl ⟨j, .inr rfl, h1⟩
    · exact .inr h1
   rcases hk with rfl | rfl
   · exact ⟨key b (fi b hb).1, (fi b hb).2⟩
   · exact ⟨key b (fj b hb).1, (fj b hb).2⟩
 · rcases hk with rfl | rfl <;> rcases hl with rfl | rfl
   · exact hkl rfl
   · exact dis b h1 h2
   · exact dis b h2 h1
   · exact hkl rfl
 · show aQ AI ρ' w' k (aC (aO s.H [i, j] [ci, cj]) k)
   rcases hk with rfl | rfl
   · simpa [aO, aP, hij] using hi
   · simpa [aO, aP] using hj
theorem ui {t : TypeId} {M : Mem} {e : Ty} {L : List e.T} {r : Value} {F : List Nat} (h : bg t M w e L r F) : ∃ ao l c, r = .slice ao l c := by
 rcases h with ⟨⟨ao, rfl⟩, _⟩ | ⟨b, off, cap, rfl, _⟩
 · exact ⟨_, _, _, rfl⟩
 · exact ⟨_, _, _, rfl⟩
def C9 (b : Nat) (n : Nat) (blk : Nat → List Nat) : List Nat := b :: (List.range n).flatMap blk
theorem fZ {b n : Nat} {blk : Nat → List Nat} (z : Nat) : z ∈ C9 b n blk ↔ z = b ∨ ∃ m, m < n ∧ z ∈ blk m := by
 simp [C9, List.mem_flatMap]
theorem bR.take {tb : TypeId} {L : List (List Int)} {b : Nat} {F : List Nat} {hdr : Nat → Option Value} (hs : bR tb ρ w L none b F hdr) {q : Nat} {x : List Int} (hq : L[q]? = some x) :
 ∃ v B F', hdr q = some v ∧ bg tb ρ.M w (.int .i64) x v B ∧ (∀ z ∈ B, z ∈ F ∧ z ∉ F') ∧ (∀ z ∈ F', z ∈ F) ∧
   ∀ (ρ' : Ev) (j : Nat), ρ'.M = ρ.M → aK ρ' (.hd j 0) v → bR tb ρ' w L (some (q, j)) b F' hdr := by
 obtain ⟨blk, h4, h5, h6, h7⟩ := hs
 have hlt := (List.getElem?_eq_some_iff.1 hq).1
 obtain ⟨v, c1, hr⟩ := h7 q x hq
 let blk' : Nat → List Nat := fun m => if m = q then [] else blk m
 have hsub : ∀ m z, z ∈ blk' m → m ≠ q ∧ z ∈ blk m := by
  intro m z hz
  simp only [blk'] at hz
  split at hz
  · cases hz
  · rename_i hne; exact ⟨hne, hz⟩
 refine ⟨v, blk q, C9 b L.length blk', c1, hr, fun z hz => ⟨(h4 z).2 (.inr ⟨q, hlt, hz⟩), fun hz' => ?_⟩, fun z hz => ?_, fun ρ' j hM hd => ⟨blk', fZ, fun m hm hb => h5 m hm (hsub m b hb).2, fun m m' z hm hm' hne hz hz' => h6 m m' z hm hm' hne (hsub m z hz).2 (hsub m' z hz').2, fun m y hy => ⟨fun e => ?_, fun e => ?_⟩⟩⟩
 · rcases (fZ z).1 hz' with rfl | ⟨m, hm, hz2⟩
   · exact h5 q hlt hz
   · exact h6 m q z hm hlt (hsub m z hz2).1 (hsub m z hz2).2 hz
 · rcases (fZ z).1 hz with rfl | ⟨m, hm, hz2⟩
   · exact (h4 _).2 (.inl rfl)
   · exact (h4 z).2 (.inr ⟨m, hm, (hsub m z hz2).2⟩)
 · subst e
   exact ⟨⟨v, c1, hd⟩, by simp [blk']⟩
 · obtain ⟨u, h1, h2⟩ := h7 m y hy
   simp only [blk']
   rw [if_neg e]
   exact ⟨u, h1, by rw [hM]; exact h2⟩
theorem bR.put {tb : TypeId} {L : List (List Int)} {q j : Nat} {b : Nat} {F : List Nat} {hdr hdr' : Nat → Option Value} (hs : bR tb ρ w L (some (q, j)) b F hdr) (hq : q < L.length) {D : List Int} {v : Value} {B : List Nat} {ρ' : Ev} {w' : World} (hM : ρ'.M = ρ.M)
 (hr : bg tb ρ.M w' (.int .i64) D v B) (hB : ∀ z ∈ B, z ∉ F) (hw : ∀ z ∈ F, z ≠ b → w'.heap[z]? = w.heap[z]?) (hh : hdr' q = some v) (hh2 : ∀ n, n ≠ q → n < L.length → hdr' n = hdr n) :
 ∃ F', (∀ z ∈ F', z ∈ F ∨ z ∈ B) ∧ bR tb ρ' w' (L.set q D) none b F' hdr' := by
 obtain ⟨blk, h4, h5, h6, h7⟩ := hs
 let blk' : Nat → List Nat := fun m => if m = q then B else blk m
 have hsub : ∀ m z, z ∈ blk' m → (m = q ∧ z ∈ B) ∨ (m ≠ q ∧ z ∈ blk m) := by
  intro m z hz
  simp only [blk'] at hz
  split at hz
  · rename_i e; exact .inl ⟨e, hz⟩
  · rename_i e; exact .inr ⟨e, hz⟩
 have hbF : b ∈ F := (h4 b).2 (.inl rfl)
 refine ⟨C9 b L.length blk', fun z hz => ?_, blk', fun z => by rw [List.length_set]; exact fZ z, fun m hm hb => ?_, fun m m' z hm hm' hne hz hz' => ?_, fun m y hy => ?_⟩
 · rcases (fZ z).1 hz with rfl | ⟨m, hm, hz2⟩
   · exact .inl hbF
   · rcases hsub m z hz2 with ⟨_, h1⟩ | ⟨_, h1⟩
     · exact .inr h1
     · exact .inl ((h4 z).2 (.inr ⟨m, hm, h1⟩))
 · rw [List.length_set] at hm
   rcases hsub m b hb with ⟨_, h1⟩ | ⟨_, h1⟩
   · exact hB b h1 hbF
   · exact h5 m hm h1
 · rw [List.length_set] at hm hm'
   rcases hsub m z hz with ⟨e, hz⟩ | ⟨e, hz⟩ <;> rcases hsub m' z hz' with ⟨e', hz'⟩ | ⟨e', hz'⟩
   · exact hne (e.trans e'.symm)
   · exact hB z hz ((h4 z).2 (.inr ⟨m', hm', hz'⟩))
   · exact hB z hz' ((h4 z).2 (.inr ⟨m, hm, hz⟩))
   · exact h6 m m' z hm hm' hne hz hz'
 · rw [List.getElem?_set] at hy
   split at hy
   · rename_i e
     subst e
     try rw [if_pos hq] at hy
     cases hy
     refine ⟨v, hh, ?_⟩
     simp only [blk', if_pos]
     rw [hM]; exact hr
   · rename_i e
     have hm := (List.getElem?_eq_some_iff.1 hy).1
     obtain ⟨u, h1, h2⟩ := (h7 m y hy).2 (Ne.symm e)
     simp only [blk']
     rw [if_neg (Ne.symm e)]
     refine ⟨u, (hh2 m (Ne.symm e) hm).trans h1, ?_⟩
     rw [hM]
     exact h2.stays (fun _ _ _ h => h) fun z hz => hw z ((h4 z).2 (.inr ⟨m, hm, hz⟩)) fun e => h5 m hm (e ▸ hz)
theorem bR.push {tb : TypeId} {L : List (List Int)} {b : Nat} {F : List Nat} {hdr hdr' : Nat → Option Value} (hs : bR tb ρ w L none b F hdr) {D : List Int} {v : Value} {B : List Nat} {ρ' : Ev} {w' : World} (hM : ρ'.M = ρ.M)
 (hr : bg tb ρ.M w' (.int .i64) D v B) (hB : ∀ z ∈ B, z ∉ F) (hw : ∀ z ∈ F, z ≠ b → w'.heap[z]? = w.heap[z]?) (hh : hdr' L.length = some v) (hh2 : ∀ n, n < L.length → hdr' n = hdr n) :
 ∃ F', (∀ z ∈ F', z ∈ F ∨ z ∈ B) ∧ bR tb ρ' w' (L ++ [D]) none b F' hdr' := by
 obtain ⟨blk, h4, h5, h6, h7⟩ := hs
 let blk' : Nat → List Nat := fun m => if m = L.length then B else blk m
 have hsub : ∀ m z, m < (L ++ [D]).length → z ∈ blk' m → (m = L.length ∧ z ∈ B) ∨ (m < L.length ∧ z ∈ blk m) := by
  intro m z hm hz
  simp at hm
  simp only [blk'] at hz
  split at hz
  · rename_i e; exact .inl ⟨e, hz⟩
  · rename_i e; exact .inr ⟨by omega, hz⟩
 have hbF : b ∈ F := (h4 b).2 (.inl rfl)
 refine ⟨C9 b (L ++ [D]).length blk', fun z hz => ?_, blk', fZ, fun m hm hb => ?_, fun m m' z hm hm' hne hz hz' => ?_, fun m y hy => ?_⟩
 · rcases (fZ z).1 hz with rfl | ⟨m, hm, hz2⟩
   · exact .inl hbF
   · rcases hsub m z hm hz2 with ⟨_, h1⟩ | ⟨h0, h1⟩
     · exact .inr h1
     · exact .inl ((h4 z).2 (.inr ⟨m, h0, h1⟩))
 · rcases hsub m b hm hb with ⟨_, h1⟩ | ⟨h0, h1⟩
   · exact hB b h1 hbF
   · exact h5 m h0 h1
 · rcases hsub m z hm hz with ⟨e, hz⟩ | ⟨e, hz⟩ <;> rcases hsub m' z hm' hz' with ⟨e', hz'⟩ | ⟨e', hz'⟩
   · exact hne (e.trans e'.symm)
   · exact hB z hz ((h4 z).2 (.inr ⟨m', e', hz'⟩))
   · exact hB z hz' ((h4 z).2 (.inr ⟨m, e, hz⟩))
   · exact h6 m m' z e e' hne hz hz'
 · by_cases hm : m < L.length
   · rw [List.getElem?_append_left hm] at hy
     obtain ⟨u, h1, h2⟩ := h7 m y hy
     simp only [blk']
     rw [if_neg (by omega)]
     refine ⟨u, (hh2 m hm).trans h1, ?_⟩
     rw [hM]
     exact h2.stays (fun _ _ _ h => h) fun z hz => hw z ((h4 z).2 (.inr ⟨m, hm, hz⟩)) fun e => h5 m hm (e ▸ hz)
   · have hl := (List.getElem?_eq_some_iff.1 hy).1
     simp at hl
     obtain rfl : m = L.length := by omega
     rw [List.getElem?_append_right (Nat.le_refl _)] at hy
     simp at hy
     subst hy
     refine ⟨v, hh, ?_⟩
     simp only [blk', if_pos]
     rw [hM]; exact hr
theorem kM {tmps : Array Value} (h : Holds AI G s ρ tmps w) {i fresh : Nat} (hif : i ≠ fresh) (hf : aC s.H fresh = .emp) {ci : Chunk A} {v : Value} {B F' : List Nat} {tb : TypeId} {x : List Int} (hr : bg tb ρ.M w (.int .i64) x v B)
 (hB : ∀ z ∈ B, z ∈ ρ.foot i ∧ z ∉ F') (hF : ∀ z ∈ F', z ∈ ρ.foot i)
 (hci : ∀ ρ' : Ev, ρ'.M = ρ.M → ρ'.root i = ρ.root i → ρ'.ver i = ρ.ver i → ρ'.foot i = F' → aK ρ' (.hd fresh 0) v → aQ AI ρ' w i ci) :
 ∃ ρ', Holds AI G ⟨s.tm, aO s.H [i, fresh] [ci, .row tb (.int .i64) 0 (fun _ => x)]⟩ ρ' tmps w ∧ aK ρ' (.hd fresh 0) v ∧ ρ.Le ρ' := by
 have hcf := h.ch fresh
 rw [hf] at hcf
 obtain ⟨f1, f2, f3⟩ := hcf
 let ρ' : Ev := { root := fun q => if q = fresh then v else ρ.root q, ver := ρ.ver, M := ρ.M, foot := fun q => if q = fresh then B else if q = i then F' else ρ.foot q }
 have le : ρ.Le ρ' := by
  refine ⟨fun _ _ _ h => h, fun q z hq => ?_, fun _ => Nat.le_refl _, fun q _ hq => ?_⟩
  · simp only [ρ']; split
    · rename_i e; rw [e, f2] at hq; cases hq
    · exact hq
  · simp only [ρ']; split
    · rename_i e; rw [e, f2] at hq; obtain ⟨_, _, _, hq⟩ := hq; cases hq
    · rfl
 have ri : ρ'.root i = ρ.root i := by simp [ρ', hif]
 have fi : ρ'.foot i = F' := by simp [ρ', hif]
 have rf : ρ'.root fresh = v := by simp [ρ']
 have ff : ρ'.foot fresh = B := by simp [ρ']
 have hd0 : aK ρ' (.hd fresh 0) v := ⟨ui hr, Nat.zero_le _, fun _ => rf.symm⟩
 refine ⟨ρ', h.two hif le rfl (fun q h1 h2 => ⟨by simp [ρ', h2], rfl, by simp [ρ', h1, h2]⟩) (fun z hz => ?_) (fun z hz => ?_) (fun z hz hz' => ?_) (fun _ _ _ _ => rfl) rfl rfl rfl (Nat.le_refl _) (hci ρ' rfl ri rfl fi hd0) ⟨f3.symm, by rw [rf, ff]; exact hr⟩, hd0, le⟩
 · rw [fi] at hz; exact ⟨.inl (hF z hz), h.lt i z (hF z hz)⟩
 · rw [ff] at hz; exact ⟨.inl (hB z hz).1, h.lt i z (hB z hz).1⟩
 · rw [fi] at hz; rw [ff] at hz'; exact (hB z hz').2 hz
theorem je {tmps : Array Value} (h : Holds AI G s ρ tmps w) {i j : Nat} (hij : i ≠ j) {ci : Chunk A} {w' : World} {F' : List Nat} (hF : ∀ z ∈ F', z ∈ ρ.foot i ∨ z ∈ ρ.foot j)
 (blocks : ∀ b, b < w.heap.size → b ∉ ρ.foot i → b ∉ ρ.foot j → w'.heap[b]? = w.heap[b]?) (os : w'.os = w.os) (tape : w'.tape = w.tape) (output : w'.output = w.output) (size : w.heap.size ≤ w'.heap.size)
 (hci : ∀ ρ' : Ev, ρ'.M = ρ.M → ρ'.root i = ρ.root i → ρ'.ver i = ρ.ver i → ρ'.foot i = F' → aQ AI ρ' w' i ci) :
 ∃ ρ', Holds AI G ⟨s.tm, aO s.H [i, j] [ci, .gone]⟩ ρ' tmps w' ∧ ρ.Le ρ' := by
 let ρ' : Ev := { root := ρ.root, ver := ρ.ver, M := ρ.M, foot := fun q => if q = j then [] else if q = i then F' else ρ.foot q }
 have le : ρ.Le ρ' := ⟨fun _ _ _ h => h, fun _ _ h => h, fun _ => Nat.le_refl _, fun _ _ _ => rfl⟩
 have fi : ρ'.foot i = F' := by simp [ρ', hij]
 have fj : ρ'.foot j = [] := by simp [ρ']
 refine ⟨ρ', h.two hij le rfl (fun q h1 h2 => ⟨rfl, rfl, by simp [ρ', h1, h2]⟩) (fun z hz => ?_) (fun z hz => by rw [fj] at hz; cases hz) (fun z _ hz => by rw [fj] at hz; cases hz) blocks os tape output size (hci ρ' rfl rfl rfl fi) trivial, le⟩
 rw [fi] at hz
 rcases hF z hz with h1 | h1
 · exact ⟨.inl h1, Nat.lt_of_lt_of_le (h.lt i z h1) size⟩
 · exact ⟨.inr (.inl h1), Nat.lt_of_lt_of_le (h.lt j z h1) size⟩
theorem sX {z off : Nat} {L : U (List (List Int))} {k : U Int} (hin : inN z L k ()) (ho : off < z) {n : Nat} (hn : (L ()).length = n * z) : ∃ m, k () = (m : Nat) ∧ m < n ∧ (dy z off k ()).toNat = m * z + off ∧ 0 ≤ dy z off k () ∧ dy z off k () < (L ()).length := by
 unfold inN at hin
 unfold dy
 cases hz : aG z 1 with
 | true =>
   rw [hz] at hin
   have hz := beq_eq hz
   subst hz
   obtain ⟨h1, h2⟩ := hin
   obtain rfl : off = 0 := by omega
   exact ⟨(k ()).toNat, by omega, by omega, by simp, h1, h2⟩
 | false =>
   rw [hz] at hin
   obtain ⟨h1, h2⟩ := hin
   obtain ⟨m, hm⟩ : ∃ m : Nat, k () = m := ⟨(k ()).toNat, by omega⟩
   have h2 : k () * (z : Int) + (z : Int) ≤ ((L ()).length : Nat) := h2
   rw [hm, hn] at h2
   have h3 : (m + 1) * z ≤ n * z := by rw [Nat.add_mul, Nat.one_mul]; exact_mod_cast h2
   have h4 : m + 1 ≤ n := Nat.le_of_mul_le_mul_right h3 (by omega)
   have e : k () * Int.ofNat z + Int.ofNat off = ((m * z + off : Nat) : Int) := by rw [hm]; simp
   have h5 : m * z + off < n * z := by
    have : (m + 1) * z = m * z + z := by rw [Nat.add_mul, Nat.one_mul]
    omega
   refine ⟨m, hm, h4, ?_, ?_, ?_⟩
   · show (k () * Int.ofNat z + Int.ofNat off).toNat = _
     rw [e]; rfl
   · show 0 ≤ k () * Int.ofNat z + Int.ofNat off
     rw [e]; exact Int.natCast_nonneg _
   · show k () * Int.ofNat z + Int.ofNat off < _
     rw [e, hn]; exact_mod_cast h5
theorem pj {t : TypeId} {ti : TI} (hT : af P t ti) (hagg : ti.isAgg = false) (h : Holds AI G s ρ a.tmps w) {i ver z off fresh : Nat} {k : U Int} {u : Value} (hx : Den ρ (one (.ep i ver z k off)) u)
 {rt tb : TypeId} {L : U (List (List Int))} (hi : aC s.H i = .nest rt tb z ver L none) (hf : aC s.H fresh = .emp) (hk : inN z L k ()) (ho : off < z) :
 bV AI G P s a w ρ (Instr.loadAt t u) (aO s.H [i, fresh] [.nest rt tb z ver L (some (dy z off k, fresh)), .row tb (.int .i64) 0 (fun _ => sh L (dy z off k))]) (one (.hd fresh 0)) := by
 have hif : i ≠ fresh := fun e => by rw [e, hf] at hi; cases hi
 have hc := h.ch i
 rw [hi] at hc
 obtain ⟨hv, b, o, n, cap, h1, h2, h3, h4, h5, h6, h7⟩ := hc
 obtain ⟨p, rfl, _, hx⟩ := hx
 obtain ⟨_, b1, o1, len1, cap1, e1, hp⟩ := hx hv
 rw [h1] at e1
 obtain ⟨rfl, rfl⟩ : b = b1 ∧ o = o1 := by cases e1; exact ⟨rfl, rfl⟩
 subst hp
 obtain ⟨m, q1, q2, q3, q4, q5⟩ := sX hk ho h2
 have hlt : (dy z off k ()).toNat < (L ()).length := by omega
 have hg : (L ())[(dy z off k ()).toNat]? = some (sh L (dy z off k)) := by
  rw [sh, List.getD_eq_getElem?_getD, List.getElem?_eq_getElem hlt]; rfl
 obtain ⟨v, B, F', c1, hr, hB, hF, hR⟩ := h5.take hg
 obtain ⟨ρ', h8, h9, h10⟩ := kM h hif hf hr hB hF (ci := .nest rt tb z ver L (some (dy z off k, fresh))) fun ρ' hM hroot hver hfoot hd => ⟨hv.trans hver.symm, b, o, n, cap, hroot.trans h1, h2, h3, h4, by rw [hfoot]; exact hR ρ' fresh hM hd, h6, fun _ _ e => by cases e; exact ⟨q4, q5⟩⟩
 refine ⟨v, ρ', w, j0 hT hagg ?_, h8, h9, h10⟩
 have c1 : w.cell? ⟨b, o + (dy z off k ()).toNat, none⟩ = some v := c1
 rw [q3] at c1
 rw [show (k ()).toNat = m by omega, Nat.add_assoc]; exact c1
theorem wz {tmps : Array Value} (h : Holds AI G s ρ tmps w) {i j z v : Nat} {t tb : TypeId} {L : U (List (List Int))} {k : U Int} {D : U (List Int)} (hij : i ≠ j) (hi : aC s.H i = .nest t tb z v L (some (k, j))) (hj : aC s.H j = .row tb (.int .i64) 0 D) :
 ∃ ρ', Holds AI G ⟨s.tm, bX (bX s.H j .gone) i (.nest t tb z v (fun _ => (L ()).set (k ()).toNat (D ())) none)⟩ ρ' tmps w ∧ ρ.Le ρ' := by
 have hc := h.ch i
 rw [hi] at hc
 have hcj := h.ch j
 rw [hj] at hcj
 obtain ⟨hv0, hr⟩ := hcj
 obtain ⟨hv, b, o, n, cap, h1, h2, h3, h4, h5, h6, h7⟩ := hc
 have hk := h7 k j rfl
 have hlt : (k ()).toNat < (L ()).length := by omega
 obtain ⟨⟨u, c1, _, _, hu⟩, _⟩ : (∃ u, w.cell? ⟨b, o + (k ()).toNat, none⟩ = some u ∧ aK ρ (.hd j 0) u) ∧ True := by
  obtain ⟨blk, _, _, _, h8⟩ := h5
  obtain ⟨⟨u, c1, c2⟩, _⟩ := (h8 _ _ (List.getElem?_eq_getElem hlt)).1 rfl
  exact ⟨⟨u, c1, c2⟩, trivial⟩
 have hu := hu hv0
 subst hu
 obtain ⟨F', f1, f2⟩ := h5.put (ρ' := ρ) (w' := w) (hdr' := fun m => w.cell? ⟨b, o + m, none⟩) hlt rfl hr (fun y hy hy' => h.dis i j y hij hy' hy) (fun _ _ _ => rfl) c1 (fun _ _ _ => rfl)
 obtain ⟨ρ', h8, h9⟩ := je h hij (ci := .nest t tb z v (fun _ => (L ()).set (k ()).toNat (D ())) none) f1 (fun _ _ _ _ => rfl) rfl rfl rfl (Nat.le_refl _) fun ρ' hM hroot hver hfoot =>
  ⟨hv.trans hver.symm, b, o, n, cap, hroot.trans h1, by rw [List.length_set]; exact h2, h3, h4, by rw [hfoot]; exact f2.congr (fun _ _ _ h => by rw [hM]; exact h) (fun _ _ e => by cases e) (fun _ _ => rfl) fun _ _ _ => rfl, h6, fun _ _ e => by cases e⟩
 refine ⟨ρ', h8.bt fun q => ?_, h9⟩
 simp only [aO, aP]
 by_cases e1 : q = i <;> by_cases e2 : q = j <;> simp [e1, e2, hij, Ne.symm hij] <;> (subst e1; exact absurd e2 hij)
theorem rB {t : TypeId} {ti : TI} (hT : af P t ti) (hsz : ti.size = 1) (h : Holds AI G s ρ a.tmps w) {i j ver ver2 z off : Nat} {k q : U Int} {u v : Value} (hij : i ≠ j) (hx : Den ρ (one (.ep i ver z k off)) u) (hv : Den ρ (one (.hd j ver2)) v)
 {rt tb : TypeId} {L : U (List (List Int))} {D : U (List Int)} (hi : aC s.H i = .nest rt tb z ver L (some (q, j))) (hj : aC s.H j = .row tb (.int .i64) ver2 D) (hk : inN z L k ()) (hq : dy z off k () = q ()) (ho : off < z) :
 ∃ ρ' w', (Instr.storeAt t u v).run P w = .ok () w' ∧ Holds AI G ⟨s.tm, aO s.H [i, j] [.nest rt tb z ver (fun _ => (L ()).set (q ()).toNat (D ())) none, .gone]⟩ ρ' a.tmps w' := by
 have hc := h.ch i
 rw [hi] at hc
 have hcj := h.ch j
 rw [hj] at hcj
 obtain ⟨hvj, hr⟩ := hcj
 obtain ⟨hver, b, o, n, cap, h1, h2, h3, h4, h5, h6, h7⟩ := hc
 obtain ⟨p, rfl, _, hx⟩ := hx
 obtain ⟨_, b1, o1, len1, cap1, e1, hp⟩ := hx hver
 rw [h1] at e1
 obtain ⟨rfl, rfl⟩ : b = b1 ∧ o = o1 := by cases e1; exact ⟨rfl, rfl⟩
 subst hp
 obtain ⟨⟨ao, ln, cp, hvs⟩, _, hv⟩ := hv
 have hv := hv hvj
 obtain ⟨m, q1, q2, q3, q4, q5⟩ := sX hk ho h2
 have hlt : (dy z off k ()).toNat < (L ()).length := by omega
 have hone : v.oneCell' = true := by rw [hvs]; rfl
 have hvc : v.cells.toList = [v] := by rw [hvs]; rfl
 have hplace : o + (k ()).toNat * z + off = o + (dy z off k ()).toNat := by rw [q3, show (k ()).toNat = m by omega, Nat.add_assoc]
 rw [hplace]
 generalize hsl : (dy z off k ()).toNat = sl at *
 have hcapz : sl < cap * z := by
  have : n * z ≤ cap * z := Nat.mul_le_mul_right z h3
  omega
 have hw8 := h6 sl hcapz
 have hsome : ∀ y, y < [v].length → (w.cell? ⟨b, o + sl + y, none⟩).isSome = true := by
  intro y hy; simp at hy; subst hy; exact hw8.1
 have hfree : ∀ y, y < [v].length → w.frozen? ⟨b, o + sl + y, none⟩ = false := by
  intro y hy; simp at hy; subst hy; exact hw8.2
 have hrun := run_storeCells_cells (P := P) b (o + sl) [v] 0 w (by simpa using hsome) (by simpa using hfree) (by simpa using hone)
 simp only [Nat.add_zero] at hrun
 have hrun2 : (Instr.storeAt t (.pointer (some ⟨b, o + sl, none⟩)) v).run P w = .ok () (w.setCells b (o + sl) [v]) := by
  have hcs : v.cells.size = 1 := by rw [← Array.length_toList, hvc]; rfl
  simp [Instr.storeAt, Instr.sureAddr, storeVar, hT.sizeOf, hcs, hsz, hvc]
  exact hrun
 have hbi : b ∈ ρ.foot i := h5.own
 have hcell : ∀ y, (w.setCells b (o + sl) [v]).cell? ⟨b, y, none⟩ = if y = o + sl then some v else w.cell? ⟨b, y, none⟩ := by
  intro y
  rw [ca hsome]
  by_cases e : y = o + sl
  · rw [if_pos (by simp; omega), if_pos e, e]; simp
  · rw [if_neg (by simp; omega), if_neg e]
 have hoth : ∀ y, y ≠ b → (w.setCells b (o + sl) [v]).heap[y]? = w.heap[y]? := fun y hy => di b _ _ _ _ hy
 have hq2 : (q ()).toNat = sl := by rw [← hq]; exact hsl
 have h5 : bR tb ρ w (L ()) (some (sl, j)) b (ρ.foot i) (fun m => w.cell? ⟨b, o + m, none⟩) := by have := h5; simp only [vW, hq2] at this; exact this
 have hr' : bg tb ρ.M (w.setCells b (o + sl) [v]) (.int .i64) (D ()) v (ρ.foot j) := by
  have hr0 : bg tb ρ.M w (.int .i64) (D ()) v (ρ.foot j) := by rw [hv]; exact hr
  exact hr0.stays (fun _ _ _ h => h) fun y hy => hoth y fun e => h.dis i j b hij hbi (e ▸ hy)
 obtain ⟨F', f1, f2⟩ := h5.put (ρ' := ρ) (w' := w.setCells b (o + sl) [v]) (hdr' := fun m => (w.setCells b (o + sl) [v]).cell? ⟨b, o + m, none⟩) hlt rfl hr' (fun y hy hy' => h.dis i j y hij hy' hy) (fun y _ hy => hoth y hy) (by rw [hcell, if_pos rfl]) (fun y hy _ => by rw [hcell, if_neg (by omega)])
 obtain ⟨ρ', h8, h9⟩ := je h hij (ci := .nest rt tb z ver (fun _ => (L ()).set (q ()).toNat (D ())) none) f1 (fun y _ hy _ => hoth y fun e => hy (e ▸ hbi)) (bJ _ _ _ _).1 (bJ _ _ _ _).2.1 (bJ _ _ _ _).2.2 (by rw [cZ]; exact Nat.le_refl _) fun ρ' hM hroot hver' hfoot =>
  ⟨hver.trans hver'.symm, b, o, n, cap, hroot.trans h1, by rw [List.length_set]; exact h2, h3, h4, by rw [hfoot, hq2]; exact f2.congr (fun _ _ _ h => by rw [hM]; exact h) (fun _ _ e => by cases e) (fun _ _ => rfl) fun _ _ _ => rfl, fun y hy => ⟨by
    rw [hcell]; split
    · rfl
    · exact (h6 y hy).1, by rw [World.frozen?_setCells]; exact (h6 y hy).2⟩, fun _ _ e => by cases e⟩
 exact ⟨ρ', _, hrun2, h8⟩
theorem rD {t : TypeId} {ti : TI} (hT : af P t ti) (h : Holds AI G s ρ a.tmps w) {et : TypeId} {ty : Option Ty} (hkd : ti.kind = .slice et ty) {z : Nat} (hz : (Go.sizeOf et).run P w = .ok z w) {i ver : Nat} {kk : IntKind} {k : U Int} {u j : Value} (hx : Den ρ (one (.hd i ver)) u) (hj : j = .int kk (k ()))
 {rt tb : TypeId} {L : U (List (List Int))} {q : Option (U Int × Nat)} (hi : aC s.H i = .nest rt tb z ver L q) (hk : inN z L k ()) (hz0 : 0 < z) : ∃ y, (Instr.indexAt t u j).run P w = .ok y w ∧ Den ρ (one (.ep i ver z k 0)) y := by
 have hkind := hT.kind
 rw [hkd] at hkind
 obtain ⟨hu, _⟩ := hkind
 have hc := h.ch i
 rw [hi] at hc
 obtain ⟨hver, b, o, n, cap, h1, h2, h3, h4, h5, h6, h7⟩ := hc
 obtain ⟨_, _, hx⟩ := hx
 have hx := hx hver
 subst hx; subst hj
 obtain ⟨m, q1, q2, q3, q4, q5⟩ := sX (off := 0) hk hz0 h2
 refine ⟨.pointer (some ⟨b, o + (k ()).toNat * z + 0, none⟩), ?_, _, rfl, Nat.le_of_eq hver, fun _ => ⟨by omega, b, o, _, _, h1, rfl⟩⟩
 rw [h1]
 rw [q1]
 have h9 : (0 : Int) ≤ (m : Int) ∧ (m : Int) < (n : Int) := by omega
 simp [Instr.indexAt, asIntOf, run_underlying hu, Instr.sureAddr, h9, hz, q2, add_lit]
theorem nil_of {v : Value} (h : BQ (cy v) = true) : v = .slice none 0 0 := by
 unfold cy at h
 split at h <;> first | rfl | (cases h; done)
theorem y9 {l : List SV1} {vs : List Value} (e : l = vs.map cy) (h : l.all BQ = true) : ∀ v ∈ vs, v = .slice none 0 0 := by
 subst e
 intro v hv
 exact nil_of (List.all_eq_true.1 h _ (List.mem_map_of_mem hv))
theorem tI {t et tb : TypeId} {i ie : TI} (hT : af P t i) (hte : Ag i.kind = some et) (hTe : af P et ie) (h : Holds AI G s ρ a.tmps w) {x y : SV} {u v : Value} (hx : Den ρ x u) (hy : Den ρ y v) {fresh : Nat} {p : aZ A} (hp : tJ tb i ie x y fresh = some p)
 {d : List Bool} {C : U Prop} {r : SV} {cs : List (Chunk A)} (he : p.eff (aD s.H p.ids) d = .done C r cs) (hC : C ()) :
 bV AI G P s a w ρ (Instr.makeSlice t u v) (aO s.H p.ids cs) r := by
 have hk := hT.kind
 unfold tJ at hp
 split at hp <;> (try (cases hp; done))
 rename_i et' e ho
 rw [ho] at hk hte
 cases hte
 obtain ⟨hu, g, hg1, hg2⟩ := hk
 obtain ⟨hsz, hpos, hby, _, z1, hz1, hz2, _⟩ := hg2 e rfl
 obtain ⟨f, hf1, hf2, z, hz, hzz⟩ := hTe.info
 rw [hg1] at hf1
 cases hf1
 split at hp <;> (try (cases hp; done))
 rename_i hb
 simp only [Bool.and_eq_true] at hb
 obtain ⟨⟨hb1, hb2⟩, hb3⟩ := hb
 have hb2 := beq_eq hb2
 have hgs : g.size = slotsOf e := hf2.trans hb2
 split at hp <;> (try (cases hp; done))
 rename_i kl l hl
 split at hp <;> cases hp
 rename_i kc c hc'
 simp only [aD] at he
 have hc := h.ch fresh
 generalize hg : aC s.H fresh = ch at he hc
 cases ch <;> (try (simp at he; done))
 simp at he
 obtain ⟨rfl, rfl, rfl⟩ := he
 obtain ⟨hc1, hc2, hc3⟩ := hc
 obtain ⟨c0, c1, c2⟩ := hC
 have c2 : c () ≤ 1099511627776 := c2
 have e1 := bF hl hx
 have e2 := bF hc' hy
 subst e1; subst e2
 have hbb : (g.bytes : Int) * c () ≤ 281474976710656 := by
  have : (g.bytes : Int) * c () ≤ 128 * c () := Int.mul_le_mul_of_nonneg_right (by omega) (by omega)
  omega
 have hrun := run_make (P := P) w t et g z hu hg1 hz kl kc (l ()) (c ()) c0 c1 hbb (by omega)
 have hzl : z.cells.size = g.size := by
  rw [hz] at hz1
  cases hz1
  omega
 have hnil := y9 hzz hb3
 have hcell : ∀ k, k < (c ()).toNat * g.size → (w.alloc (.cells (madeCells z.cells ((c ()).toNat * g.size)) et)).cell? ⟨w.heap.size, 0 + k, none⟩ = some (.slice none 0 0) := by
  intro k hk
  rw [Nat.zero_add, World.cell?_alloc_new, gF, if_pos hk]
  have hlt : k % z.cells.size < z.cells.size := Nat.mod_lt _ (by omega)
  rw [getElem!_pos z.cells _ hlt]
  congr 1
  exact hnil _ (Array.mem_toList_iff.2 (Array.getElem_mem hlt))
 let F : List (List Int) := List.replicate ((l ()).toNat * slotsOf e) []
 obtain ⟨h9, h10⟩ := h.dx fresh (.slice (some ⟨w.heap.size, 0, none⟩) (l ()).toNat (c ()).toNat) 0 [w.heap.size] (.nest et tb (slotsOf e) 0 (fun _ => F) none) (w.alloc (.cells (madeCells z.cells ((c ()).toNat * g.size)) et))
  (by rw [hc2]; simp) (by omega) (by rw [hc2]; simp) (fun b' hb' => by obtain rfl : b' = w.heap.size := (by simpa using hb'); exact ⟨.inr (Nat.le_refl _), by rw [World.size_alloc]; exact Nat.lt_succ_self _⟩) (fun b hb _ => dC w _ hb) rfl rfl rfl (by simp)
  (by
    refine ⟨by simp [Ev.upd], w.heap.size, 0, (l ()).toNat, (c ()).toNat, by simp [Ev.upd], by simp [F], by omega, by unfold maxLen; omega, ⟨fun _ => [], fun z => (by simp [Ev.upd]), fun _ _ h => (by cases h), fun _ _ _ _ _ _ h => (by cases h), fun n x hn => ?_⟩, fun j hj => ?_, fun _ _ e => (by cases e)⟩
    · obtain ⟨hn1, rfl⟩ : n < (l ()).toNat * slotsOf e ∧ x = [] := by
       have := List.getElem?_eq_some_iff.1 hn
       obtain ⟨h3, h4⟩ := this
       simp [F] at h3 h4
       exact ⟨h3, h4⟩
      refine ⟨_, hcell n ?_, .inl ⟨⟨none, rfl⟩, rfl, rfl⟩⟩
      rw [hgs]
      exact Nat.lt_of_lt_of_le hn1 (Nat.mul_le_mul_right _ (by omega))
    · refine ⟨?_, World.frozen?_alloc_new w _ _ _⟩
      rw [hcell j (by rw [hgs]; exact hj)]; rfl)
 exact ⟨_, _, _, hrun, h9, ⟨⟨_, _, _, rfl⟩, by simp [Ev.upd], fun _ => by simp [Ev.upd]⟩, h10⟩
theorem zi {t tb : TypeId} (h : Holds AI G s ρ a.tmps w) {fresh : Nat} (hg : aC s.H fresh = .emp) :
 bV AI G P s a w ρ (Instr.makeMap t none) (aO s.H [fresh] [.mnest tb (fun _ => []) none]) (one (.mp fresh)) := by
 have hc := h.ch fresh
 rw [hg] at hc
 obtain ⟨hc1, hc2, hc3⟩ := hc
 obtain ⟨h4, h5⟩ := h.dx fresh (.pointer (some ⟨w.heap.size, 0, none⟩)) 0 [w.heap.size] (.mnest tb (fun _ => []) none) (w.alloc (.map #[] 0))
  (by rw [hc2]; simp) (by omega) (by rw [hc2]; simp) (fun b' hb' => by obtain rfl : b' = w.heap.size := (by simpa using hb'); exact ⟨.inr (Nat.le_refl _), by rw [World.size_alloc]; exact Nat.lt_succ_self _⟩) (fun b hb _ => dC w _ hb) rfl rfl rfl (by simp)
  ⟨w.heap.size, #[], 0, by simp [Ev.upd], ju w _, .nil, by simp, by simp, fun _ => [], fun z => (by simp [Ev.upd]), fun _ _ h => (by cases h), fun _ _ _ _ _ _ h => (by cases h), fun n x hn => (by simp at hn)⟩
 exact ⟨.map (some w.heap.size), _, _, by simp [Instr.makeMap, Result.andThen], h4, ⟨_, by simp [Ev.upd], rfl⟩, h5⟩
theorem mfind {kt : TypeId} (hk : P.underlying kt = some (.int .i64)) {L : List (Int × List Int)} {es : List MapEntry} (h : aL (fun p (m : MapEntry) => m.key = .int .i64 p.1) L es) (k : Int) :
 (∀ em w, (Instr.checkKey em 10000 kt (.int .i64 k)).run P w = .ok () w) ∧ (∀ w, (Instr.keyThatStays (.int .i64 k) (.int .i64 k)).run P w = .ok (.int .i64 k) w) ∧
   (((∀ w, (Instr.findKey kt (.int .i64 k) es).run P w = .ok none w) ∧ bB (K := Int) L k = none ∧ (∀ y, ak (K := Int) L k y = L ++ [(k, y)])) ∨
   ∃ j v m, es[j]? = some m ∧ L[j]? = some (k, v) ∧ m.key = .int .i64 k ∧ (∀ w, (Instr.findKey kt (.int .i64 k) es).run P w = .ok (some (j, m.val)) w) ∧ bB (K := Int) L k = some v ∧ (∀ y, ak (K := Int) L k y = L.set j (k, y))) := by
 have hi : IsKey (.int .i64) (.int .i64 k) := by simp [IsKey]
 refine ⟨fun em w => run_checkKey hk hi em 9999, fun w => run_keyThatStays hi, ?_⟩
 rcases od (K := Int) (mk := fun n => .int .i64 n) (ok := fun _ => True) (R := fun (_ : List Int) _ => True) (d := .int .i64) (fun x y _ _ => by simp [Instr.sameNow]; rfl) (k := k) trivial 0 (h.mono fun _ _ e => ⟨e, trivial, trivial⟩) with ⟨h1, h2, h3, _⟩ | ⟨j, v, m, h1, h2, _, h4, h5, h6, h7, _⟩
 · exact .inl ⟨fun w => run_findKey hk h1, h2, h3⟩
 · exact .inr ⟨j, v, m, h1, h2, h4, fun w => by rw [Nat.zero_add] at h5; exact run_findKey hk h5, h6, h7⟩
theorem vI {t et tb : TypeId} {i ie : TI} (hT : af P t i) (hte : kL i.kind = some et) (hTe : af P et ie) (hz1 : ie.zero.all BQ = true) (hz2 : ie.size = 1) (h : Holds AI G s ρ a.tmps w) {m fresh : Nat} {u v : Value} {k : U Int} (hx : Den ρ (one (.mp m)) u) (hv : v = .int .i64 (k ()))
 {L : U (List (Int × List Int))} (hi : aC s.H m = .mnest tb L none) (hf : aC s.H fresh = .emp) :
 bV AI G P s a w ρ (Instr.lookup t u v false) (aO s.H [m, fresh] [.mnest tb L (some (k, fresh)), .row tb (.int .i64) 0 (fun _ => iJ L k)]) (one (.hd fresh 0)) := by
 have hif : m ≠ fresh := fun e => by rw [e, hf] at hi; cases hi
 have hk := hT.kind
 unfold kL at hte
 split at hte <;> cases hte
 rename_i kt hik
 rw [hik] at hk
 obtain ⟨hu, hk2⟩ := hk
 obtain ⟨hkey, g, z, hg1, hz, hzv⟩ := hk2 _ _ rfl
 have hkey : P.underlying kt = some (.int .i64) := hkey
 obtain ⟨f, hf1, hf2, z', hz', hzz⟩ := hTe.info
 rw [hg1] at hf1
 cases hf1
 rw [hz] at hz'
 cases hz'
 have hzn : z = .slice none 0 0 := by
  obtain ⟨vs, _, ⟨v, hv0, ao, cap, e, _⟩, hag⟩ := hzv (fun _ _ => none)
  have hag : vs = [z] := hag
  subst hag
  have hv0 : z = v := by simpa using hv0
  subst hv0
  refine y9 hzz hz1 z ?_
  rw [e]; simp [Value.cells]
 have hc := h.ch m
 rw [hi] at hc
 obtain ⟨b, es, clock, h1, h2, h3, h4, h5, h6⟩ := hc
 obtain ⟨b', h7, rfl⟩ := hx
 rw [h1] at h7
 cases h7
 subst hv
 obtain ⟨hck, _, hfd⟩ := mfind hkey h3 (k ())
 have ho : bR tb ρ w ((L ()).map (·.2)) none b (ρ.foot m) (fun n => es[n]?.map (·.val)) := h6
 rcases hfd with ⟨hn, hgn, hput⟩ | ⟨j, x, e, he, hL, hmk, hn, hgn, hput⟩
 · obtain ⟨ρ', h8, h9, h10⟩ := kM h hif hf (tb := tb) (x := iJ L k) (v := .slice none 0 0) (B := []) (F' := ρ.foot m) (.inl ⟨⟨none, rfl⟩, by simp [iJ, hgn], rfl⟩) (fun _ h => by cases h) (fun _ h => h) (ci := .mnest tb L (some (k, fresh))) fun ρ' hM hroot hver hfoot hd =>
    ⟨b, es, clock, hroot.trans h1, h2, h3, h4, h5, .inr ⟨hgn, hput, by rw [hfoot]; exact ho.congr (fun _ _ _ h => by rw [hM]; exact h) (fun _ _ e => by cases e) (fun _ _ => rfl) fun _ _ _ => rfl⟩⟩
   refine ⟨.slice none 0 0, ρ', w, ?_, h8, h9, h10⟩
   simp [Instr.lookup, run_underlying hu, MapKept.run_getObj_map h2, hck, hn, Go.zeroValue, typeInfo, hg1, hz, hzn, Result.andThen]
 · obtain ⟨y, B, F', c1, hr, hB, hF, hR⟩ := ho.take (q := j) (x := x) (by rw [List.getElem?_map, hL]; rfl)
   have hj : es[j]? = some e := by simpa using he
   have c1 : y = e.val := by rw [hj] at c1; exact (Option.some.inj c1).symm
   have ex : iJ L k = x := by simp [iJ, hgn]
   obtain ⟨ρ', h8, h9, h10⟩ := kM h hif hf (tb := tb) (x := iJ L k) (by rw [ex]; exact hr) hB hF (ci := .mnest tb L (some (k, fresh))) fun ρ' hM hroot hver hfoot hd =>
    ⟨b, es, clock, hroot.trans h1, h2, h3, h4, h5, .inl ⟨j, x, hL, hgn, hput, by rw [hfoot]; exact hR ρ' fresh hM hd⟩⟩
   refine ⟨y, ρ', w, ?_, h8, h9, h10⟩
   rw [c1]
   simp [Instr.lookup, run_underlying hu, MapKept.run_getObj_map h2, hck, hn, Result.andThen]
theorem we {t : TypeId} {i : TI} (hT : af P t i) {et : TypeId} (hte : kL i.kind = some et) (h : Holds AI G s ρ a.tmps w) {m j ver2 : Nat} (hij : m ≠ j) {u v z : Value} {k q : U Int} (hx : Den ρ (one (.mp m)) u) (hv : v = .int .i64 (k ())) (hzv : Den ρ (one (.hd j ver2)) z)
 {tb : TypeId} {L : U (List (Int × List Int))} {D : U (List Int)} (hi : aC s.H m = .mnest tb L (some (q, j))) (hj : aC s.H j = .row tb (.int .i64) ver2 D) (hkq : k () = q ()) :
 ∃ ρ' w', (Instr.mapUpdate t u v z).run P w = .ok () w' ∧ Holds AI G ⟨s.tm, aO s.H [m, j] [.mnest tb (fun _ => ak (K := Int) (L ()) (q ()) (D ())) none, .gone]⟩ ρ' a.tmps w' := by
 have hk := hT.kind
 unfold kL at hte
 split at hte <;> cases hte
 rename_i kt hik
 rw [hik] at hk
 obtain ⟨hu, hk2⟩ := hk
 obtain ⟨hkey, -⟩ := hk2 _ _ rfl
 have hkey : P.underlying kt = some (.int .i64) := hkey
 have hc := h.ch m
 rw [hi] at hc
 have hcj := h.ch j
 rw [hj] at hcj
 obtain ⟨hvj, hr⟩ := hcj
 obtain ⟨b, es, clock, h1, h2, h3, h4, h5, h6⟩ := hc
 obtain ⟨b', h7, rfl⟩ := hx
 rw [h1] at h7
 cases h7
 subst hv
 obtain ⟨_, _, hz⟩ := hzv
 have hz := hz hvj
 rw [hkq]
 obtain ⟨hck, hst, hfd⟩ := mfind hkey h3 (q ())
 have hlt : b < w.heap.size := (Array.getElem?_eq_some_iff.1 h2).1
 have hown : b ∈ ρ.foot m := by rcases h6 with ⟨_, _, _, _, _, h7⟩ | ⟨_, _, h7⟩ <;> exact h7.own
 have hoth : ∀ (o : Obj) y, y ≠ b → ({ w with heap := w.heap.setIfInBounds b o } : World).heap[y]? = w.heap[y]? := fun o y hy => by simp [Ne.symm hy]
 have hrow : ∀ o : Obj, bg tb ρ.M ({ w with heap := w.heap.setIfInBounds b o } : World) (.int .i64) (D ()) z (ρ.foot j) := fun o => by
  have h0 : bg tb ρ.M w (.int .i64) (D ()) z (ρ.foot j) := by rw [hz]; exact hr
  exact h0.stays (fun _ _ _ h => h) fun y hy => hoth o y fun e => h.dis m j b hij hown (e ▸ hy)
 rcases hfd with ⟨hn, hgn, hput⟩ | ⟨jx, x, e, he, hL, hmk, hn, hgn, hput⟩
 · rcases h6 with ⟨q0, x0, a1, a2, a3, _⟩ | ⟨_, _, h7⟩
   · rw [hgn] at a2; cases a2
   · have hlen : es.size = (L ()).length := by have := h3.length; simpa using this.symm
     obtain ⟨F', f1, f2⟩ := h7.push (ρ' := ρ) (D := D ()) (hdr' := fun n => (es.push ⟨.int .i64 (q ()), z, clock⟩)[n]?.map (·.val)) rfl (hrow (.map (es.push ⟨.int .i64 (q ()), z, clock⟩) (clock + 1))) (fun y hy hy' => h.dis m j y hij hy' hy) (fun y _ hy => hoth _ y hy)
      (by simp only [List.length_map, ← hlen]; simp) (fun n hn => by simp only [List.length_map, ← hlen] at hn; rw [Array.getElem?_push_lt hn, Array.getElem?_eq_getElem hn])
     obtain ⟨ρ', h8, h9⟩ := je h hij (ci := .mnest tb (fun _ => ak (K := Int) (L ()) (q ()) (D ())) none) f1 (w' := { w with heap := w.heap.setIfInBounds b (.map (es.push ⟨.int .i64 (q ()), z, clock⟩) (clock + 1)) }) (fun y _ hy _ => hoth _ y fun e => hy (e ▸ hown)) rfl rfl rfl (by simp) fun ρ' hM hroot hver hfoot =>
      ⟨b, es.push ⟨.int .i64 (q ()), z, clock⟩, clock + 1, hroot.trans h1, by simp [hlt], by rw [hput, Array.toList_push]; exact h3.append (.cons rfl .nil), by
        rw [Array.toList_push, List.map_append, List.pairwise_append]
        refine ⟨h4, by simp, fun a ha b hb => ?_⟩
        simp only [List.map_cons, List.map_nil, List.mem_singleton] at hb
        subst hb
        obtain ⟨m, hm, rfl⟩ := List.mem_map.1 ha
        exact h5 m hm, by
        intro m hm
        rw [Array.toList_push, List.mem_append] at hm
        rcases hm with hm | hm
        · have := h5 m hm; omega
        · simp at hm; subst hm; simp, by
        show bR tb ρ' _ ((ak (K := Int) (L ()) (q ()) (D ())).map (·.2)) none b (ρ'.foot m) _
        rw [hfoot, hput, List.map_append]
        exact f2.congr (fun _ _ _ h => by rw [hM]; exact h) (fun _ _ e => by cases e) (fun _ _ => rfl) fun _ _ _ => rfl⟩
     refine ⟨ρ', _, ?_, h8⟩
     simp [Instr.mapUpdate, run_underlying hu, MapKept.run_getObj_map h2, hck, hn, run_setObj_map _ h2, Result.andThen]
 · have hmj : es[jx]? = some e := by simpa using he
   have hjlt := (Array.getElem?_eq_some_iff.1 hmj).1
   rcases h6 with ⟨q0, x0, a1, a2, a3, h7⟩ | ⟨a1, _, _⟩
   · have hq0 : q0 = jx := by
      refine Classical.byContradiction fun hne => ?_
      have hlq := (List.getElem?_eq_some_iff.1 a1).1
      have e1 := (a3 (0 :: x0)).symm.trans (hput (0 :: x0))
      have e2 := congrArg (fun l => l[q0]?) e1
      simp only [List.getElem?_set] at e2
      rw [if_neg (Ne.symm hne), a1] at e2
      simp [hlq] at e2
     subst hq0
     have hlen : q0 < ((L ()).map (·.2)).length := by rw [List.length_map]; exact (List.getElem?_eq_some_iff.1 a1).1
     have e1 : (es.modify q0 fun e => { e with key := .int .i64 (q ()), val := z }).toList = es.toList.set q0 ⟨.int .i64 (q ()), z, e.born⟩ := by
      apply List.ext_getElem?
      intro y
      rw [Array.getElem?_toList, Array.getElem?_modify, List.getElem?_set, Array.getElem?_toList]
      split
      · rename_i hy
        subst hy
        rw [hmj]
        simp [hjlt]
      · rfl
     obtain ⟨F', f1, f2⟩ := h7.put (ρ' := ρ) (D := D ()) (hdr' := fun n => (es.modify q0 fun e => { e with key := .int .i64 (q ()), val := z })[n]?.map (·.val)) hlen rfl (hrow (.map (es.modify q0 fun e => { e with key := .int .i64 (q ()), val := z }) clock)) (fun y hy hy' => h.dis m j y hij hy' hy) (fun y _ hy => hoth _ y hy)
      (by simp [Array.getElem?_modify, hmj]) (fun n hn _ => by simp [Array.getElem?_modify, Ne.symm hn])
     obtain ⟨ρ', h8, h9⟩ := je h hij (ci := .mnest tb (fun _ => ak (K := Int) (L ()) (q ()) (D ())) none) f1 (w' := { w with heap := w.heap.setIfInBounds b (.map (es.modify q0 fun e => { e with key := .int .i64 (q ()), val := z }) clock) }) (fun y _ hy _ => hoth _ y fun e => hy (e ▸ hown)) rfl rfl rfl (by simp) fun ρ' hM hroot hver hfoot =>
      ⟨b, es.modify q0 fun e => { e with key := .int .i64 (q ()), val := z }, clock, hroot.trans h1, by simp [hlt], by rw [hput, e1]; exact h3.set rfl q0, by
        rw [e1, List.map_set]
        have : (es.toList.map (·.born)).set q0 e.born = es.toList.map (·.born) := by
         apply List.ext_getElem?
         intro y
         rw [List.getElem?_set]
         split
         · rename_i hy
           subst hy
           rw [List.getElem?_map, he, if_pos (by simpa using hjlt)]
           rfl
         · rfl
        rw [this]; exact h4, by
        intro y hy
        rw [e1] at hy
        rcases List.mem_or_eq_of_mem_set hy with hy | rfl
        · exact h5 y hy
        · exact h5 e (List.mem_of_getElem? he), by
        show bR tb ρ' _ ((ak (K := Int) (L ()) (q ()) (D ())).map (·.2)) none b (ρ'.foot m) _
        rw [hfoot, hput, List.map_set]
        exact f2.congr (fun _ _ _ h => by rw [hM]; exact h) (fun _ _ e => by cases e) (fun _ _ => rfl) fun _ _ _ => rfl⟩
     refine ⟨ρ', _, ?_, h8⟩
     simp [Instr.mapUpdate, run_underlying hu, MapKept.run_getObj_map h2, hck, hn, hmj, hmk, hst, run_setObj_map _ h2, Result.andThen]
   · rw [hgn] at a1; cases a1
end Go.Sx
namespace Go.Sx
set_option linter.all false
open Go.RowKit
variable {A : Type} {AI : Abs A} {G : Fr} {s : SS A} {ρ : Ev} {a : Act} {w : World} {P : Program}
theorem sA {t : TI} {esz i ver : Nat} {ix : SV} {et : TypeId} {ty : Option Ty} (ht : t.kind = .slice et ty) {p : aZ A} (h : fR t esz (.val (.one (.hd i ver))) ix = some p) : p.ids = [i] ∧ p.w = false := by
 unfold fR at h
 rw [ht] at h
 dsimp only at h
 split at h <;> cases h
 exact ⟨rfl, rfl⟩
theorem A9 {t : TypeId} {i : TI} (hT : af P t i) (h : Holds AI G s ρ a.tmps w) {esz : Nat} (hz : ∀ e, jn i.kind = some e → (Go.sizeOf e).run P w = .ok esz w) {x : SV} {lo hi : Option SV} {u : Value} {lv hv : Option Value}
 (hx : Den ρ x u) (d1 : eJ ρ lo lv) (d2 : eJ ρ hi hv) {p : aZ A} (hp : AA i esz x lo hi = some p) {d : List Bool} {C : U Prop} {v : SV} {cs : List (Chunk A)}
 (he : p.eff (aD s.H p.ids) d = .done C v cs) (hC : C ()) : bV AI G P s a w ρ (Instr.sliceAt t u lv hv none) (aO s.H p.ids cs) v := by
 have hk := hT.kind
 unfold AA at hp
 split at hp <;> (try (cases hp; done))
 rename_i hsl
 obtain ⟨et, ty, ho⟩ : ∃ et ty, i.kind = .slice et ty := by
  unfold Bc at hsl
  split at hsl
  · exact ⟨_, _, by assumption⟩
  · cases hsl
 rw [ho] at hk hz
 obtain ⟨hu, _⟩ := hk
 have hz := hz et rfl
 split at hp <;> (try (cases hp; done))
 rename_i lo' h1
 split at hp <;> (try (cases hp; done))
 rename_i hi' h2
 split at hp <;> (try (cases hp; done))
 rename_i i' ver
 cases hp
 simp only [aD] at he
 have hc := h.ch i'
 generalize hg : aC s.H i' = c at he hc
 cases c <;> (try (simp at he; done))
 rename_i rt e ver' L
 dsimp only at he
 split at he <;> (try (cases he; done))
 rename_i hb
 obtain ⟨hb1, hb2⟩ := Bool.and_eq_true_iff.1 hb
 have hb1 := beq_eq hb1
 have hb2 := beq_eq hb2
 subst hb1; subst hb2
 cases he
 obtain ⟨h5, h6⟩ := hc
 obtain ⟨_, h7, h8⟩ := hx
 have h8 := h8 h5
 subst h8
 obtain ⟨c0, c1, c2⟩ := hC
 obtain ⟨ao, cap, hr, hlc⟩ : ∃ ao cap, ρ.root i' = .slice ao (L ()).length cap ∧ (L ()).length ≤ cap := by
  rcases h6 with ⟨⟨ao, h3⟩, h4, _⟩ | ⟨b', off', cap', h3, _, h4, _⟩
  · exact ⟨ao, 0, by rw [h3, h4]; rfl, by rw [h4]; simp⟩
  · exact ⟨_, _, h3, h4⟩
 have hrun := eX (P := P) (w := w) (ρ := ρ) hu hz (ao := ao) hlc h1 h2 d1 d2 (fun _ => ((L ()).length : Int)) rfl c0 c1 c2
 generalize eZ lo' = l at *
 generalize fm hi' (fun _ => ((L ()).length : Int)) = hh at *
 have hlen : (((L ()).take (hh ()).toNat).drop (l ()).toNat).length = (hh () - l ()).toNat := by rw [List.length_drop, List.length_take]; omega
 rw [hr]
 obtain ⟨F, hF, hrow⟩ : ∃ F, (∀ b ∈ F, b ∈ ρ.foot i') ∧ bg rt ρ.M w e (((L ()).take (hh ()).toNat).drop (l ()).toNat) (.slice (if cap = (l ()).toNat then ao else ao.map (·.add ((l ()).toNat * e.size))) (hh () - l ()).toNat (cap - (l ()).toNat)) F := by
  by_cases hcap : cap = (l ()).toNat
  · refine ⟨[], by simp, .inl ⟨⟨_, by rw [show (hh () - l ()).toNat = 0 from by omega, show cap - (l ()).toNat = 0 from by omega]⟩, List.eq_nil_of_length_eq_zero (by rw [hlen]; omega), rfl⟩⟩
  · rcases h6 with ⟨⟨ao', h3⟩, h4, _⟩ | ⟨b, off, cap', h3, hfo, h4, hcm, h9, h10, h11⟩
    · exfalso
      rw [h3] at hr
      injection hr with _ e1 e2
      have : (L ()).length = 0 := by rw [h4]; rfl
      omega
    · rw [h3] at hr
      injection hr with e0 e1 e2
      subst e2; subst e0
      refine ⟨[b], by simp [hfo], .inr ⟨b, off + (l ()).toNat * e.size, cap' - (l ()).toNat, ?_, rfl, by rw [hlen]; omega, by omega, fun j x hj => ?_, fun j hj => ?_, fun he => ?_⟩⟩
      · rw [if_neg hcap, hlen]; simp [add_lit]
      · rw [List.getElem?_drop, List.getElem?_take] at hj
        split at hj
        · have := h9 _ _ hj
          refine aI.congr _ this fun k v _ hv => ?_
          rw [← hv]
          congr 2
          rw [Nat.add_mul]; omega
        · cases hj
      · have hle : (l ()).toNat * e.size + j < cap' * e.size := by
         have h12 : (cap' - (l ()).toNat) * e.size + (l ()).toNat * e.size = cap' * e.size := by rw [← Nat.add_mul]; congr 1; omega
         omega
        have := h10 _ hle
        rw [← Nat.add_assoc] at this
        exact this
      · obtain ⟨n, hn1, hn2⟩ := h11 he
        refine ⟨n, hn1, ?_⟩
        subst he
        simp only [Ty.size]
        omega
 obtain ⟨h12, h13⟩ := h.dx i' (.slice (if cap = (l ()).toNat then ao else ao.map (·.add ((l ()).toNat * e.size))) (hh () - l ()).toNat (cap - (l ()).toNat)) (ver + 1) F (.row rt e (ver + 1) (fun _ => ((L ()).take (hh ()).toNat).drop (l ()).toNat)) w
  (by rw [hr]; simp) (by omega) (by omega) (fun b hb => ⟨.inl (hF b hb), h.lt i' b (hF b hb)⟩) (fun _ _ _ => rfl) rfl rfl rfl (Nat.le_refl _)
  ⟨by simp [Ev.upd], by simpa [Ev.upd] using hrow⟩
 exact ⟨_, _, _, hrun, h12, ⟨⟨_, _, _, rfl⟩, by simp [Ev.upd], fun _ => by simp [Ev.upd]⟩, h13⟩
theorem vG {E : Env A} (hE : aU P AI E) (h : Holds AI G s ρ a.tmps w) (hdf : a.defers = []) {o : Oper} {fresh : Nat} {p : aZ A} (hp : dm E s.tm fresh o.op = some p) {d : List Bool} {C : U Prop} {v : SV} {cs : List (Chunk A)}
 (he : p.eff (aD s.H p.ids) d = .done C v cs) (hC : C ()) (hdst : ∀ t, o.dst = some t → t < G.size) {K : Act → World → Prop} {Q : Exit → Act → World → Prop}
 (hK : fc AI G ⟨jz s.tm o.dst v, aO s.H p.ids cs⟩ K) : o.wp P a w K Q := by
 have unit : ∀ (x : Go.Sem Unit) (hx : execOp a.eval o = (do x; pure .skip)) (ρ2 : Ev) (w' : World) (hr : x.run P w = .ok () w') (h2 : Holds AI G ⟨s.tm, aO s.H p.ids cs⟩ ρ2 a.tmps w') (hv : v = one .any), o.wp P a w K Q := by
  intro x hx ρ2 w' hr h2 hv
  unfold Oper.wp
  rw [hx, Sem.run_bind, hr]
  simp only [Result.andThen, Sem.run_pure, Oper.upon_skip]
  subst hv
  exact hK _ _ (by rw [Act.cv, hdf]) ⟨ρ2, h2.put hdst (by trivial)⟩
 cases hop : o.op <;> rw [hop] at hp <;> simp only [dm, reduceCtorEq] at hp
 case load t x =>
  split at hp <;> (try cases hp)
  rename_i i hi
  split at hp <;> (try cases hp)
  rename_i u hu
  have hx := h.eval hu
  have hT := hE.ti t i hi
  refine aN (ρ := ρ) (Instr.loadAt t (a.eval x)) (by unfold execOp; rw [hop]) hdf ?_ hdst hK
  unfold fO at hp
  split at hp <;> (try (cases hp; done))
  rename_i i' ver z k off
  split at hp <;> cases hp
  rename_i hsl
  have hagg : i.isAgg = false := by
   unfold Bc at hsl
   split at hsl
   · rename_i e; unfold TI.isAgg; rw [e]
   · cases hsl
  simp only [aD, rV] at he
  generalize hgi : aC s.H i' = ci at he
  generalize hgf : aC s.H fresh = cf at he
  cases ci <;> (try (simp at he; done))
  rename_i rt tb z' ver' L q
  cases q <;> (try (simp at he; done))
  cases cf <;> (try (simp at he; done))
  dsimp only at he
  split at he <;> cases he
  rename_i hb
  simp only [Bool.and_eq_true] at hb
  obtain ⟨⟨hb1, hb2⟩, hb3⟩ := hb
  have hb1 := beq_eq hb1
  have hb2 := beq_eq hb2
  subst hb1; subst hb2
  exact pj hT hagg h hx hgi hgf hC (leN hb3)
 case store t x y =>
  split at hp <;> (try cases hp)
  rename_i i hi
  split at hp <;> (try cases hp)
  rename_i u hu
  split at hp <;> (try cases hp)
  rename_i u' hu'
  have hx := h.eval hu
  have hy := h.eval hu'
  have hT := hE.ti t i hi
  unfold eC at hp
  split at hp <;> (try (cases hp; done))
  rename_i i' ver z k off
  split at hp <;> (try (cases hp; done))
  rename_i j ver2
  split at hp <;> cases hp
  rename_i hb
  simp only [Bool.and_eq_true] at hb
  obtain ⟨⟨hb0, hb1⟩, hb2⟩ := hb
  have hb1 := beq_eq hb1
  have hij : i' ≠ j := fun e => by rw [e] at hb2; simp at hb2
  simp only [aD, putE] at he
  generalize hgi : aC s.H i' = ci at he
  generalize hgj : aC s.H j = cj at he
  split at he <;> (try (cases he; done))
  rename_i rt tb z' ver' L q j' tb' ver2' D hcs
  simp only [List.cons.injEq, and_true] at hcs
  obtain ⟨rfl, rfl⟩ := hcs
  split at he <;> cases he
  rename_i hb
  simp only [Bool.and_eq_true] at hb
  obtain ⟨⟨⟨⟨⟨c1, c2⟩, c3⟩, c4⟩, c5⟩, c6⟩ := hb
  have c1 := beq_eq c1
  have c2 := beq_eq c2
  have c4 := beq_eq c4
  have c5 := beq_eq c5
  have c6 := beq_eq c6
  subst c1; subst c2; subst c4; subst c5; subst c6
  obtain ⟨ρ2, w', h1, h2⟩ := rB hT hb1 h hij hx hy hgi hgj hC.1 hC.2 (leN c3)
  exact unit (Instr.storeAt t (a.eval x) (a.eval y)) (by unfold execOp; rw [hop]) ρ2 w' h1 h2 rfl
 case slice t x lo hi mx =>
  cases mx <;> (try (simp only [reduceCtorEq] at hp; done))
  dsimp only at hp
  split at hp <;> (try cases hp)
  rename_i i hi'
  split at hp <;> (try cases hp)
  split at hp <;> (try cases hp)
  rename_i u hu
  split at hp <;> (try cases hp)
  rename_i l hl
  split at hp <;> (try cases hp)
  rename_i l2 hl2
  split at hp <;> (try cases hp)
  rename_i z hzz
  refine aN (ρ := ρ) (Instr.sliceAt t (a.eval x) (lo.map a.eval) (hi.map a.eval) none) (by unfold execOp; rw [hop]; rfl) hdf (A9 (hE.ti t i hi') h (iv (w := w) hE hzz) (h.eval hu) (j4 h hl) (j4 h hl2) hp he hC) hdst hK
 case indexAddr t x ix =>
  split at hp <;> (try cases hp)
  rename_i i hi
  split at hp <;> (try cases hp)
  rename_i u hu
  split at hp <;> (try cases hp)
  rename_i u' hu'
  split at hp <;> (try cases hp)
  rename_i z hzz
  have hz := iv (w := w) hE hzz
  have hT := hE.ti t i hi
  refine aN (ρ := ρ) (Instr.indexAt t (a.eval x) (a.eval ix)) (by unfold execOp; rw [hop]) hdf ?_ hdst hK
  unfold iG at hp
  split at hp <;> (try (cases hp; done))
  rename_i i' ver
  split at hp <;> (try (cases hp; done))
  rename_i et ty hkd
  split at hp <;> (try (cases hp; done))
  rename_i kk k hk
  split at hp <;> cases hp
  rename_i p0 hp0
  obtain ⟨hids, hw⟩ := sA hkd hp0
  simp only [aD] at he
  unfold lS at he
  split at he
  · rename_i rt tb z' ver' L q hcs
    simp only [List.cons.injEq, and_true] at hcs
    split at he <;> cases he
    rename_i hb'
    simp only [Bool.and_eq_true] at hb'
    obtain ⟨⟨c1, c2⟩, c3⟩ := hb'
    have c1 := beq_eq c1
    have c2 := beq_eq c2
    subst c1; subst c2
    exact bV.looks h (by simp [dD, aD, hcs]) (rD hT h hkd (hz et (by rw [hkd]; rfl)) (h.eval hu) (bF hk (h.eval hu')) hcs hC (leN c3))
  · obtain ⟨h1, h2⟩ := nz hT h hz (h.eval hu) (h.eval hu') hp0 (d := d) (by rw [hids]; exact he) hC
    refine bV.looks h ?_ h2
    rw [dD, hids] at h1
    exact h1
 case makeSlice t l c =>
  split at hp <;> (try cases hp)
  rename_i i hi
  split at hp <;> (try cases hp)
  split at hp <;> (try cases hp)
  rename_i et het
  split at hp <;> (try cases hp)
  rename_i ie hie
  split at hp <;> (try cases hp)
  rename_i u hu
  split at hp <;> (try cases hp)
  rename_i u' hu'
  refine aN (ρ := ρ) (Instr.makeSlice t (a.eval l) (a.eval c)) (by unfold execOp; rw [hop]) hdf (tI (hE.ti t i hi) het (hE.ti et ie hie) h (h.eval hu) (h.eval hu') hp he hC) hdst hK
 case makeMap t n =>
  cases n <;> (try (simp only [reduceCtorEq] at hp; done))
  dsimp only at hp
  split at hp <;> (try cases hp)
  rename_i i hi
  split at hp <;> cases hp
  refine aN (ρ := ρ) (Instr.makeMap t none) (by unfold execOp; rw [hop]; rfl) hdf ?_ hdst hK
  simp only [aD] at he
  generalize hgf : aC s.H fresh = cf at he
  cases cf <;> (try (simp at he; done))
  simp at he
  obtain ⟨rfl, rfl, rfl⟩ := he
  exact zi h hgf
 case lookup t x ix ok =>
  cases ok <;> (try (simp only [reduceCtorEq] at hp; done))
  dsimp only at hp
  split at hp <;> (try cases hp)
  rename_i i hi
  split at hp <;> (try cases hp)
  split at hp <;> (try cases hp)
  rename_i et het
  split at hp <;> (try cases hp)
  rename_i ie hie
  split at hp <;> (try cases hp)
  rename_i hb
  obtain ⟨hb1, hb2⟩ := Bool.and_eq_true_iff.1 hb
  split at hp <;> (try cases hp)
  rename_i m hm
  split at hp <;> cases hp
  rename_i u hu
  refine aN (ρ := ρ) (Instr.lookup t (a.eval x) (a.eval ix) false) (by unfold execOp; rw [hop]) hdf ?_ hdst hK
  simp only [aD, BT] at he
  generalize hgi : aC s.H m = ci at he
  generalize hgf : aC s.H fresh = cf at he
  cases ci <;> (try (simp at he; done))
  rename_i tb L q
  cases q <;> (try (simp at he; done))
  cases cf <;> (try (simp at he; done))
  dsimp only at he
  split at he <;> cases he
  rename_i k hk
  exact vI (hE.ti t i hi) het (hE.ti et ie hie) hb1 (beq_eq hb2) h (h.eval hm) (j9 hk hC (h.eval hu)).1 hgi hgf
 case mapUpdate t x ix y =>
  split at hp <;> (try cases hp)
  rename_i i hi
  split at hp <;> (try cases hp)
  rename_i hb
  obtain ⟨hb1, hb2⟩ := Bool.and_eq_true_iff.1 hb
  obtain ⟨et, het⟩ : ∃ et, kL i.kind = some et := by
   unfold wv at hb2
   split at hb2
   · exact ⟨_, by assumption⟩
   · cases hb2
  split at hp <;> (try cases hp)
  rename_i m hm
  split at hp <;> (try cases hp)
  rename_i u hu
  split at hp <;> (try cases hp)
  rename_i j ver2 hj
  split at hp <;> cases hp
  rename_i hne
  have hij : m ≠ j := fun e => by rw [e] at hne; simp at hne
  simp only [aD, mputE] at he
  generalize hgi : aC s.H m = ci at he
  generalize hgj : aC s.H j = cj at he
  split at he <;> (try (cases he; done))
  rename_i tb L q j' tb' ver2' D hcs
  simp only [List.cons.injEq, and_true] at hcs
  obtain ⟨rfl, rfl⟩ := hcs
  split at he <;> (try (cases he; done))
  rename_i hb
  simp only [Bool.and_eq_true] at hb
  obtain ⟨⟨c4, c5⟩, c6⟩ := hb
  have c4 := beq_eq c4
  have c5 := beq_eq c5
  have c6 := beq_eq c6
  subst c4; subst c5; subst c6
  split at he <;> cases he
  rename_i C' k hk
  obtain ⟨ρ2, w', h1, h2⟩ := we (hE.ti t i hi) het h hij (h.eval hm) (j9 hk hC.1 (h.eval hu)).1 (h.eval hj) hgi hgj hC.2
  exact unit (Instr.mapUpdate t (a.eval x) (a.eval ix) (a.eval y)) (by unfold execOp; rw [hop]) ρ2 w' h1 h2 rfl
theorem rZ {E : Env A} (hE : aU P AI E) (h : Holds AI G s ρ a.tmps w) (hdf : a.defers = []) {o : Oper} {fresh : Nat} {p : aZ A} (hp : sop E s.tm fresh o.op = .plan p) (hfr : ∀ i ∈ p.ids, fresh ≤ i → aC s.H i = .emp) {d : List Bool} {C : U Prop} {v : SV} {cs : List (Chunk A)}
 (he : p.eff (aD s.H p.ids) d = .done C v cs) (hC : C ()) (hdst : ∀ t, o.dst = some t → t < G.size) {K : Act → World → Prop} {Q : Exit → Act → World → Prop}
 (hK : fc AI G ⟨jz s.tm o.dst v, aO s.H p.ids cs⟩ K) : o.wp P a w K Q := by
 unfold sop at hp
 split at hp
 · exact pC hE h hdf hp hfr he hC hdst hK
 · split at hp
   · rename_i q hq
     cases hp
     exact vG hE h hdf hq he hC hdst hK
   · exact pC hE h hdf hp hfr he hC hdst hK
theorem yw {E : Env A} {tm tm' : List (Nat × SV)} {fresh : Nat} {o : Op} (h : ∀ t, .tmp t ∈ o.operands → look tm t = look tm' t) : sop E tm fresh o = sop E tm' fresh o := by
 unfold sop
 rw [wO h]
 have e1 : ∀ x ∈ o.operands, evalOp tm x = evalOp tm' x := fun x hx => dI fun t e => h t (e ▸ hx)
 have hn : dm E tm fresh o = dm E tm' fresh o := by
  cases o <;> simp only [dm] <;> simp only [Op.operands] at h e1
  case load t x => rw [e1 x (by simp)]
  case store t x y => rw [e1 x (by simp), e1 y (by simp)]
  case indexAddr t x i => rw [e1 x (by simp), e1 i (by simp)]
  case makeSlice t l c => rw [e1 l (by simp), e1 c (by simp)]
  case makeMap t n => cases n <;> rfl
  case lookup t x i ok => cases ok <;> (first | rfl | (dsimp only; rw [e1 x (by simp), e1 i (by simp)]))
  case mapUpdate t x i y => rw [e1 x (by simp), e1 i (by simp), e1 y (by simp)]
  case slice t x lo hi mx =>
   cases mx <;> (first | rfl | skip)
   have e2 : ∀ y : Option Operand, (∀ z, y = some z → z ∈ x :: (lo.toList ++ hi.toList)) → cV tm y = cV tm' y := fun y hy => by
    cases y with
    | none => rfl
    | some z => simp only [cV]; rw [e1 z (by have := hy z rfl; simpa using this)]
   dsimp only
   rw [e1 x (by simp), e2 lo (fun z hz => by simp [hz]), e2 hi (fun z hz => by simp [hz])]
 rw [hn]
theorem rC {E : Env A} {tm : List (Nat × SV)} {fresh : Nat} {o : Op} {p : aZ A} (h : dm E tm fresh o = some p) : bc p := by
 cases o <;> simp only [dm, reduceCtorEq] at h
 case indexAddr t x i =>
  split at h <;> (try cases h)
  split at h <;> (try cases h)
  split at h <;> (try cases h)
  split at h <;> (try cases h)
  unfold iG at h
  split at h <;> (try (cases h; done))
  split at h <;> (try (cases h; done))
  rename_i hkd
  split at h <;> (try (cases h; done))
  split at h <;> cases h
  rename_i p0 hp0
  obtain ⟨hids, hw⟩ := sA hkd hp0
  have hn := kC hp0 hw
  intro _ H d C v cs he
  dsimp only [lS] at he
  split at he
  · rename_i hcs
    split at he <;> cases he
    exact hcs.symm
  · have := hn H d C v cs (by rw [hids]; exact he)
    rw [hids] at this; exact this
 case makeMap t n =>
  cases n <;> (try (simp only [reduceCtorEq] at h; done))
  dsimp only at h
  repeat' (first | (cases h; exact ar rfl) | (split at h))
  all_goals cases h
 case lookup t x i ok =>
  cases ok <;> (try (simp only [reduceCtorEq] at h; done))
  dsimp only at h
  repeat' (first | (cases h; exact ar rfl) | (split at h))
  all_goals cases h
 case slice t x lo hi mx =>
  cases mx <;> (try (simp only [reduceCtorEq] at h; done))
  dsimp only at h
  unfold AA at h
  repeat' (first | (cases h; exact ar rfl) | (split at h))
  all_goals (first | (cases h; done) | skip)
 all_goals (try unfold fO at h); (try unfold eC at h); (try unfold tJ at h)
 all_goals repeat' (first | (cases h; exact ar rfl) | (split at h))
 all_goals (first | (cases h; done) | skip)
theorem nq {E : Env A} (hE : aU P AI E) {tm : List (Nat × SV)} {fresh : Nat} {o : Op} {p : aZ A} (h : sop E tm fresh o = .plan p) : bc p := by
 unfold sop at h
 split at h
 · exact lC hE h
 · split at h
   · rename_i q hq
     cases h
     exact rC hq
   · exact lC hE h
theorem Au {E : Env A} {tm : List (Nat × SV)} {fresh : Nat} {o : Op} {p : aZ A} (ha : dt E o = true) (h : sop E tm fresh o = .plan p) : CO p := by
 unfold dt at ha
 split at ha
 · cases ha
 · rename_i hn
   unfold sop at h
   rw [hn] at h
   exact yx ha h
inductive gn : Chunk A → Chunk A → Prop
 | mk (t tb z v : Nat) (L L' : U (List (List Int))) (h h' : Option (U Int × Nat)) (e : (L ()).length = (L' ()).length) : gn (.nest t tb z v L h) (.nest t tb z v L' h')
theorem gn.symm {c c' : Chunk A} (h : gn c c') : gn c' c := by cases h with | mk t tb z v L L' h h' e => exact .mk t tb z v L' L h' h e.symm
theorem gn.trans {c c' c2 : Chunk A} (h : gn c c') (h2 : gn c' c2) : gn c c2 := by
 cases h with
 | mk t tb z v L L' h h' e =>
   cases h2 with
   | mk _ _ _ _ _ L2 _ h2 e2 => exact .mk t tb z v L L2 h h2 (e.trans e2)
theorem zf {E : Env A} {tm : List (Nat × SV)} {fresh : Nat} {o : Op} {p : aZ A} (hk : wZ o = 2) (hp : dm E tm fresh o = some p) {H : List (Chunk A)} {d : List Bool} {C : U Prop} {v : SV} {cs : List (Chunk A)}
 (he : p.eff (aD H p.ids) d = .done C v cs) : ∃ i j c c2, p.ids = [i, j] ∧ cs = [c, c2] ∧ gn c (aC H i) := by
 cases o <;> (try (cases hk; done)) <;> simp only [dm] at hp
 case load t x =>
  split at hp <;> (try (cases hp; done))
  split at hp <;> (try (cases hp; done))
  unfold fO at hp
  split at hp <;> (try (cases hp; done))
  rename_i i ver z k off _
  split at hp <;> cases hp
  simp only [aD, rV] at he
  split at he <;> (try (cases he; done))
  rename_i rt tb z' ver' L hcs
  simp only [List.cons.injEq, and_true] at hcs
  split at he <;> cases he
  refine ⟨_, _, _, _, rfl, rfl, ?_⟩
  rw [hcs.1]
  exact .mk _ _ _ _ _ _ _ _ rfl
 case store t x y =>
  split at hp <;> (try (cases hp; done))
  split at hp <;> (try (cases hp; done))
  split at hp <;> (try (cases hp; done))
  unfold eC at hp
  split at hp <;> (try (cases hp; done))
  split at hp <;> (try (cases hp; done))
  split at hp <;> cases hp
  simp only [aD, putE] at he
  split at he <;> (try (cases he; done))
  rename_i hcs
  simp only [List.cons.injEq, and_true] at hcs
  split at he <;> cases he
  refine ⟨_, _, _, _, rfl, rfl, ?_⟩
  rw [hcs.1]
  exact .mk _ _ _ _ _ _ _ _ (by simp)
theorem inN_len {z : Nat} {L L' : U (List (List Int))} {k : U Int} (e : (L ()).length = (L' ()).length) (h : inN z L' k ()) : inN z L k () := by
 unfold inN at h ⊢
 cases hz : aG z 1 <;> rw [hz] at h <;> dsimp only at h ⊢ <;> rw [e] <;> exact h
theorem Av {E : Env A} (hn : kZ E.ti = true) {tm : List (Nat × SV)} {fresh t : Nat} {x ix : Operand} {p : aZ A} (hp : sop E tm fresh (.indexAddr t x ix) = .plan p) {H : List (Chunk A)} {d : List Bool} {C : U Prop} {v : SV} {cs : List (Chunk A)}
 (he : p.eff (aD H p.ids) d = .done C v cs) (hh : iQ (aD H p.ids) = true) :
 ∃ i, p.ids = [i] ∧ ∀ c2, gn c2 (aC H i) → ∃ C', p.eff [c2] d = .done C' v [c2] ∧ (C () → C' ()) := by
 unfold sop at hp
 rw [hn] at hp
 dsimp only at hp
 split at hp
 · rename_i q hq
   cases hp
   simp only [dm] at hq
   split at hq <;> (try (cases hq; done))
   split at hq <;> (try (cases hq; done))
   split at hq <;> (try (cases hq; done))
   split at hq <;> (try (cases hq; done))
   unfold iG at hq
   split at hq <;> (try (cases hq; done))
   rename_i i ver _
   split at hq <;> (try (cases hq; done))
   rename_i hkd
   split at hq <;> (try (cases hq; done))
   split at hq <;> cases hq
   rename_i p0 hp0
   refine ⟨i, rfl, fun c2 hc2 => ?_⟩
   simp only [aD] at he hh
   cases hc : aC H i <;> rw [hc] at he hh hc2 <;> (try (cases hh; done))
   cases hc2 with
   | mk t tb z v L L' h h' e =>
     simp only [lS] at he ⊢
     split at he <;> cases he
     refine ⟨_, rfl, fun hC => ?_⟩
     exact inN_len e hC
 · exfalso
   simp only [cO] at hp
   split at hp <;> (try (cases hp; done))
   split at hp <;> (try (cases hp; done))
   split at hp <;> (try (cases hp; done))
   split at hp <;> (try (cases hp; done))
   have hp := PO.aW hp
   unfold fR at hp
   split at hp
   · split at hp
     · split at hp <;> (try (cases hp; done))
       split at hp <;> cases hp <;> cases hh
     · split at hp <;> cases hp
       cases hh
   · split at hp <;> (try (cases hp; done))
     split at hp
     · split at hp <;> cases hp
       cases hh
     · cases hp
       simp only [aD] at he hh
       rename_i i ver _
       cases hc : aC H i <;> rw [hc] at he hh <;> (try (cases hh; done))
       cases he
     · cases hp
   · cases hp
end Go.Sx
namespace Go.Sx
set_option linter.all false
open Go.RowKit
variable {A : Type} {AI : Abs A} {G : Fr} {s : SS A} {ρ : Ev} {a : Act} {w : World} {P : Program}
theorem eY {α : Type} : ∀ (l : List α) (i : Nat), nth l i = l[i]?
 | [], i => rfl
 | x :: r, 0 => rfl
 | x :: r, i + 1 => by simp [nth, eY r i]
theorem zv {ops : List Oper} (h : Holds AI G s ρ a.tmps w) {o : Oper} (hg : guardOf ops s.tm o.guard = .yes) : Region.wanted o (yielded ops.toArray a.tmps) = true := by
 unfold Region.wanted
 cases hgd : o.guard with
 | none => rfl
 | some q =>
   obtain ⟨j, want⟩ := q
   rw [hgd] at hg
   simp only [guardOf, eY] at hg
   split at hg <;> (try cases hg)
   rename_i oj hoj
   split at hg <;> (try cases hg)
   rename_i t ht
   split at hg <;> (try cases hg)
   · rename_i b hb
     split at hg <;> (try cases hg)
     rename_i hbw
     obtain ⟨u, h1, h2⟩ := h.tm t _ hb
     cases h2
     have hbw : b = want := by simpa using hbw
     subst hbw
     simp [yielded, hoj, ht, h1]
   · split at hg <;> cases hg
theorem Bg {ops : List Oper} (h : Holds AI G s ρ a.tmps w) {o : Oper} (hg : guardOf ops s.tm o.guard = .no) : Region.wanted o (yielded ops.toArray a.tmps) = false := by
 unfold Region.wanted
 cases hgd : o.guard with
 | none => rw [hgd] at hg; cases hg
 | some q =>
   obtain ⟨j, want⟩ := q
   rw [hgd] at hg
   simp only [guardOf, eY] at hg
   split at hg <;> (try cases hg)
   rename_i oj hoj
   split at hg <;> (try cases hg)
   rename_i t ht
   split at hg <;> (try cases hg)
   · rename_i b hb
     split at hg <;> (try cases hg)
     rename_i hbw
     obtain ⟨u, h1, h2⟩ := h.tm t _ hb
     cases h2
     simp [yielded, hoj, ht, h1]
     simpa using hbw
   · rename_i x hx
     split at hg <;> (try cases hg)
     rename_i hb
     obtain ⟨u, h1, h2⟩ := h.tm t _ hx
     cases h2
     cases x <;> simp [ob] at hb <;> simp [yielded, hoj, ht, h1]
inductive gl (E : Env A) (ops : List Oper) (d : Dec) (s : SS A) (o : Oper) (j : Nat) : Eff A → List (U Prop) → Prop
 | no (h : guardOf ops s.tm o.guard = .no) : gl E ops d s o j ⟨o.dst, oq, [], [], [], false, false⟩ []
 | yes (p : aZ A) (C : U Prop) (v : SV) (cs : List (Chunk A)) (v' : SV) (C2 : List (U Prop)) (hg : guardOf ops s.tm o.guard = .yes) (hp : sop E s.tm s.H.length o.op = .plan p)
   (he : p.eff (aD s.H p.ids) (Dec.wa d.op j) = .done C v cs) (hd : gA d.sl o.dst v = (v', C2)) : gl E ops d s o j (dn (dt E o.op) (lQ E s.tm s.H.length o.op) o.dst v' p cs) (C :: C2)
def gU (es : List (Eff A)) (s : SS A) : SS A := es.foldl (fun s e => bH e s) s
theorem rY {E : Env A} {ops : List Oper} {d : Dec} : ∀ (l : List Oper) (j : Nat) (s : SS A) (Cs : List (U Prop)) (es : List (Eff A)) {Cs' : List (U Prop)} {s' : SS A} {es' : List (Eff A)}, pA E ops d l j s Cs es = .done Cs' s' es' →
 (∀ C ∈ Cs, C ∈ Cs') ∧ ∃ effs, es' = es.reverse ++ effs ∧ effs.length = l.length ∧ s' = gU effs s ∧
   ∀ i o, l[i]? = some o → ∃ e Ce, effs[i]? = some e ∧ gl E ops d (gU (effs.take i) s) o (j + i) e Ce ∧ ∀ C ∈ Ce, C ∈ Cs'
 | [], j, s, Cs, es, Cs', s', es', h => by
   simp only [pA, RO.done.injEq] at h
   obtain ⟨rfl, rfl, rfl⟩ := h
   exact ⟨fun _ h => h, [], by simp, rfl, rfl, by simp⟩
 | o :: r, j, s, Cs, es, Cs', s', es', h => by
   have step : ∀ (e : Eff A) (Ce : List (U Prop)), gl E ops d s o j e Ce → pA E ops d r (j + 1) (bH e s) (Ce ++ Cs) (e :: es) = .done Cs' s' es' →
    (∀ C ∈ Cs, C ∈ Cs') ∧ ∃ effs, es' = es.reverse ++ effs ∧ effs.length = (o :: r).length ∧ s' = gU effs s ∧
      ∀ i o', (o :: r)[i]? = some o' → ∃ e Ce, effs[i]? = some e ∧ gl E ops d (gU (effs.take i) s) o' (j + i) e Ce ∧ ∀ C ∈ Ce, C ∈ Cs' := by
    intro e Ce hdid hr
    obtain ⟨h1, effs, h2, h3, h4, h5⟩ := rY r (j + 1) _ _ _ hr
    refine ⟨fun C hC => h1 C (List.mem_append.2 (.inr hC)), e :: effs, by simp [h2], by simp [h3], h4, fun i o' hi => ?_⟩
    cases i with
    | zero =>
      simp at hi
      subst hi
      exact ⟨e, Ce, rfl, hdid, fun C hC => h1 C (List.mem_append.2 (.inl hC))⟩
    | succ i =>
      obtain ⟨e', Ce', h6, h7, h8⟩ := h5 i o' (by simpa using hi)
      refine ⟨e', Ce', by simpa using h6, ?_, h8⟩
      rw [show j + (i + 1) = j + 1 + i by omega]
      exact h7
   simp only [pA] at h
   split at h <;> (try cases h)
   · rename_i hg
     exact step _ [] (.no hg) h
   · rename_i hg
     split at h <;> (try cases h)
     rename_i p hp
     split at h <;> (try cases h)
     rename_i C v cs he
     cases hd : gA d.sl o.dst v with
     | mk v' C2 =>
       rw [hd] at h
       exact step _ (C :: C2) (.yes p C v cs v' C2 hg hp he hd) (by simpa using h)
def AR (s s' : SS A) : Prop := (∀ t, look s.tm t = look s'.tm t) ∧ ∀ c, aC s.H c = aC s'.H c
theorem Holds.same {s' : SS A} {tmps : Array Value} (h : Holds AI G s ρ tmps w) (e : AR s s') : Holds AI G s' ρ tmps w :=
 ⟨h.sz, h.gt, fun t v ht => h.tm t v (by rw [e.1]; exact ht), fun i => by rw [← e.2]; exact h.ch i, h.dis, h.lt, h.im, h.os, h.tape, h.output, h.grow, h.kept, h.fro, h.rt, h.rts, h.mono, h.mfr⟩
theorem fc.same {s' : SS A} {K : Act → World → Prop} (h : fc AI G s K) (e : AR s' s) : fc AI G s' K :=
 fun a' w' hd ⟨ρ, hh⟩ => h a' w' hd ⟨ρ, hh.same e⟩
theorem mH {sl : List (Nat × Bool)} {tm : List (Nat × SV)} {H : List (Chunk A)} {dst : Option Nat} {v v' : SV} {C2 : List (U Prop)} (hd : gA sl dst v = (v', C2)) (hC : ∀ C ∈ C2, C ()) {K : Act → World → Prop} (hK : fc AI G ⟨jz tm dst v', H⟩ K) :
 fc AI G ⟨jz tm dst v, H⟩ K := by
 have key : (∀ ρ u, Den ρ v u → Den ρ v' u) → fc AI G ⟨jz tm dst v, H⟩ K := by
  intro hv a' w' hdf ⟨ρ, hh⟩
  refine hK a' w' hdf ⟨ρ, ⟨hh.sz, hh.gt, fun t x ht => ?_, hh.ch, hh.dis, hh.lt, hh.im, hh.os, hh.tape, hh.output, hh.grow, hh.kept, hh.fro, hh.rt, hh.rts, hh.mono, hh.mfr⟩⟩
  cases dst with
  | none => exact hh.tm t x ht
  | some q =>
    simp only [jz, look] at ht
    split at ht
    · rename_i hb
      cases ht
      obtain ⟨u, h1, h2⟩ := hh.tm t v (by simp only [jz, look, hb])
      exact ⟨u, h1, hv ρ u h2⟩
    · rename_i hb
      exact hh.tm t x (by simp only [jz, look, hb]; exact ht)
 cases dst with
 | none => simp only [gA, Prod.mk.injEq] at hd; obtain ⟨rfl, rfl⟩ := hd; exact hK
 | some t =>
   simp only [gA] at hd
   unfold og at hd
   split at hd
   · rename_i g
     split at hd
     · rename_i b hb
       simp at hd
       obtain ⟨rfl, rfl⟩ := hd
       have := hC _ (List.mem_singleton.2 rfl)
       refine key fun ρ u hu => ?_
       simp only [one, Den, cM, aK] at hu ⊢
       rw [hu, this]
     · simp at hd; obtain ⟨rfl, rfl⟩ := hd; exact hK
   · simp at hd; obtain ⟨rfl, rfl⟩ := hd; exact hK
theorem bf {H : List (Chunk A)} {i : Nat} (h : H.length ≤ i) : aC H i = .emp := by
 unfold aC
 rw [eY, List.getElem?_eq_none h]
theorem fy {H H' : List (Chunk A)} : ∀ {ids : List Nat}, (∀ c ∈ ids, aC H c = aC H' c) → aD H ids = aD H' ids
 | [], _ => rfl
 | i :: r, h => by simp only [aD, h i (by simp), fy (ids := r) fun c hc => h c (by simp [hc])]
theorem rF {ops : List Oper} {tm tm' : List (Nat × SV)} {o : Oper} (h : ∀ t ∈ dQ ops o, look tm t = look tm' t) : guardOf ops tm o.guard = guardOf ops tm' o.guard := by
 cases hg : o.guard with
 | none => rfl
 | some q =>
   obtain ⟨j, want⟩ := q
   simp only [guardOf]
   cases hj : nth ops j with
   | none => rfl
   | some oj =>
     dsimp only
     cases hd : oj.dst with
     | none => rfl
     | some t =>
       dsimp only
       rw [h t (by simp [dQ, hg, hj, hd])]
theorem sH {E : Env A} (hE : aU P AI E) {ops : List Oper} {d : Dec} {s2 : SS A} (h : Holds AI G s2 ρ a.tmps w) (hdf : a.defers = []) {o : Oper} {j : Nat} {e : Eff A} {Ce : List (U Prop)} (hdid : gl E ops d s o j e Ce) (hCe : ∀ C ∈ Ce, C ())
 (hslots : ∀ t ∈ dQ ops o, look s2.tm t = look s.tm t) (hch : e.soft = false → ∀ c ∈ e.looks, aC s2.H c = aC s.H c) (hso : e.soft = true → ∀ c ∈ e.looks, aC s2.H c = aC s.H c ∨ gn (aC s2.H c) (aC s.H c)) (hdst : ∀ t, o.dst = some t → t < G.size) {K : Act → World → Prop} {Q : Exit → Act → World → Prop} (hK : fc AI G (bH e s2) K) :
 if Region.wanted o (yielded ops.toArray a.tmps) = true then o.wp P a w K Q else K (a.put o.dst undef) w := by
 have hgc := rF hslots
 cases hdid with
 | no hg =>
   rw [← hgc] at hg
   rw [if_neg (by rw [Bg h hg]; simp)]
   exact hK _ _ (by rw [Act.cv, hdf]) ⟨ρ, h.put hdst rfl⟩
 | yes p C v cs v' C2 hg hp he hd =>
   rw [← hgc] at hg
   rw [if_pos (zv h hg)]
   have hlooks : (dn (dt E o.op) (lQ E s.tm s.H.length o.op) o.dst v' p cs).looks = p.ids := by unfold dn; split <;> (try split) <;> (try split) <;> rfl
   rw [hlooks] at hch hso
   have hp2 : sop E s2.tm s.H.length o.op = .plan p := by
    rw [← hp]
    refine yw fun t ht => hslots t ?_
    simp only [dQ, List.mem_append, List.mem_filterMap]
    exact .inl ⟨.tmp t, by simpa using ht, rfl⟩
   by_cases hsf : (dn (dt E o.op) (lQ E s.tm s.H.length o.op) o.dst v' p cs).soft = true
   ·
    have hso := hso hsf
    have hw : p.w = false := by
     cases hw : p.w with
     | false => rfl
     | true =>
       unfold dn at hsf
       rw [hw] at hsf
       dsimp only at hsf
       split at hsf <;> (try split at hsf) <;> cases hsf
    have heq : dn (dt E o.op) (lQ E s.tm s.H.length o.op) o.dst v' p cs = ⟨o.dst, v', [], [], p.ids, aG (lQ E s.tm s.H.length o.op) 1 && iQ cs, false⟩ := by unfold dn; rw [hw]
    rw [heq] at hsf hK
    dsimp only at hsf
    obtain ⟨hk1, hk2⟩ := Bool.and_eq_true_iff.1 hsf
    have hk1 := beq_eq hk1
    have hcs := nq hE hp hw s.H _ _ _ _ he
    rw [hcs] at hk2
    unfold lQ at hk1
    split at hk1
    rotate_left
    · cases hk1
    rename_i hn
    split at hk1
    rotate_left
    · cases hk1
    obtain ⟨t, x, ix, hop⟩ : ∃ t x ix, o.op = .indexAddr t x ix := by
     cases ho : o.op <;> rw [ho] at hk1 <;> (try (cases hk1; done))
     exact ⟨_, _, _, rfl⟩
    rw [hop] at hp
    obtain ⟨i, hi, hst⟩ := Av hn hp he hk2
    have hr : aC s2.H i = aC s.H i ∨ gn (aC s2.H i) (aC s.H i) := hso i (by rw [hi]; simp)
    have hh : gn (aC s2.H i) (aC s.H i) := by
     rcases hr with hr | hr
     · rw [hr]
       rw [hi] at hk2
       simp only [aD] at hk2
       cases hc : aC s.H i <;> rw [hc] at hk2 <;> (try (cases hk2; done))
       exact .mk _ _ _ _ _ _ _ _ rfl
     · exact hr
    obtain ⟨C', he2, hCC⟩ := hst _ hh
    have he3 : p.eff (aD s2.H p.ids) (Dec.wa d.op j) = .done C' v (aD s2.H p.ids) := by rw [hi]; exact he2
    rw [← hop] at hp
    refine rZ hE h hdf hp2 (fun k hk hle => ?_) he3 (hCC (hCe C (by simp))) hdst ?_
    · exfalso
      rw [hi] at hk
      obtain rfl : k = i := by simpa using hk
      have h3 : aC s.H k = .emp := bf hle
      rw [h3] at hh
      generalize aC s2.H k = y at hh
      cases hh
    · refine mH hd (fun C hC => hCe C (by simp [hC])) (hK.same ⟨fun _ => rfl, fun c => ?_⟩)
      simp only [bH, aO]
      exact cw _ _ _ (fun _ => rfl) c
   have hsf : (dn (dt E o.op) (lQ E s.tm s.H.length o.op) o.dst v' p cs).soft = false := by simpa using hsf
   have hch := hch hsf
   have hcs : aD s2.H p.ids = aD s.H p.ids := fy hch
   rw [← hcs] at he
   refine rZ hE h hdf hp2 (fun i hi hle => ?_) he (hCe C (by simp)) hdst ?_
   · rw [hch i hi]; exact bf hle
   · refine mH hd (fun C hC => hCe C (by simp [hC])) (hK.same ?_)
     unfold dn
     split
     · split
       · rename_i ha
         obtain ⟨i, r, c', h1, h2, h3⟩ := Au ha hp2 s2.H _ _ _ _ he
         rw [h1, h3]
         refine ⟨fun _ => rfl, fun c => ?_⟩
         simp only [bH, aO]
         rw [fy (H := s2.H) (H' := bX s2.H i c') (ids := r) fun k hk => by rw [aP, if_neg (fun (e : k = i) => h2 (by rw [← e]; exact hk))]]
         exact cw _ _ _ (fun _ => rfl) c
       · exact ⟨fun _ => rfl, fun _ => rfl⟩
     · rename_i hw
       have := nq hE hp2 hw s2.H _ _ _ _ he
       refine ⟨fun _ => rfl, fun c => ?_⟩
       simp only [bH, aO]
       rw [this]
       exact cw _ _ _ (fun _ => rfl) c
theorem ug {E : Env A} (hE : aU P AI E) {ops : List Oper} {d : Dec} {Q : Exit → Act → World → Prop} : ∀ (l : List Oper) (j : Nat) (s : SS A) (effs : List (Eff A)) (a : Act) (w : World), effs.length = l.length →
 (∀ i o, l[i]? = some o → ∃ e Ce, effs[i]? = some e ∧ gl E ops d (gU (effs.take i) s) o (j + i) e Ce ∧ ∀ C ∈ Ce, C ()) → (∀ o ∈ l, ∀ t, o.dst = some t → t < G.size) → Sat AI G s a w → fc AI G (gU effs s) (Q .normal) → wpList P ops.toArray Q l a w
 | [], j, s, effs, a, w, hl, _, _, hs, hK => by
   have := List.eq_nil_of_length_eq_zero hl
   subst this
   exact hK a w hs.1 hs.2
 | o :: r, j, s, effs, a, w, hl, hdid, hdst, hs, hK => by
   obtain ⟨hdf, ρ, hh⟩ := hs
   obtain ⟨e, Ce, h1, h2, h3⟩ := hdid 0 o rfl
   cases effs with
   | nil => cases h1
   | cons e' es =>
     simp at h1
     subst h1
     refine wpList_step fun K hKK => ?_
     refine sH hE hh hdf h2 h3 (fun _ _ => rfl) (fun _ _ _ => rfl) (fun _ _ _ => .inl rfl) (hdst o (by simp)) fun a' w' hd' ⟨ρ', hh'⟩ => hKK a' w' ?_
     refine ug (d := d) hE r (j + 1) (bH e' s) es a' w' (by simpa using hl) (fun i o' hi => ?_) (fun o' ho' => hdst o' (by simp [ho'])) ⟨hd', ρ', hh'⟩ hK
     obtain ⟨e2, Ce2, h4, h5, h6⟩ := hdid (i + 1) o' (by simpa using hi)
     refine ⟨e2, Ce2, by simpa using h4, ?_, h6⟩
     rw [show j + 1 + i = j + (i + 1) by omega]
     exact h5
end Go.Sx
namespace Go.Sx
set_option linter.all false
open Go.RowKit
variable {A : Type} {AI : Abs A} {G : Fr} {s : SS A} {ρ : Ev} {a : Act} {w : World} {P : Program}
def stL : List (Eff A) → Nat → (Nat → Bool) → SS A → SS A
 | [], _, _, s => s
 | e :: r, k, L, s => stL r (k + 1) L (if L k then bH e s else s)
theorem dV (e : Eff A) (s : SS A) (t : Nat) : look (bH e s).tm t = if e.dst = some t then some e.v else look s.tm t := by
 unfold bH jz
 cases hd : e.dst with
 | none => simp
 | some q =>
   simp only [look]
   by_cases hq : q = t
   · subst hq; simp
   · rw [show aG q t = false by cases hb : aG q t; rfl; exact absurd (beq_eq hb) hq]
     simp [hq]
theorem bl : ∀ (ids : List Nat) (H : List (Chunk A)) (cs : List (Chunk A)) (c : Nat), c ∉ ids → aC (aO H ids cs) c = aC H c
 | [], H, cs, c, _ => by simp [aO]
 | i :: r, H, [], c, _ => by simp [aO]
 | i :: r, H, x :: cs, c, h => by
   simp only [List.mem_cons, not_or] at h
   simp only [aO]
   rw [bl r _ cs c h.2, aP, if_neg h.1]
theorem dH : ∀ (ids : List Nat) (H H' : List (Chunk A)) (cs : List (Chunk A)) (c : Nat), aC H c = aC H' c → aC (aO H ids cs) c = aC (aO H' ids cs) c
 | [], H, H', cs, c, h => by simpa [aO] using h
 | i :: r, H, H', [], c, h => by simpa [aO] using h
 | i :: r, H, H', x :: cs, c, h => by
   simp only [aO]
   refine dH r _ _ cs c ?_
   rw [aP, aP, h]
theorem lB (t : Nat) : ∀ (l : List (Eff A)) (k : Nat) (L L' : Nat → Bool) (s s' : SS A), look s.tm t = look s'.tm t → (∀ j e, l[j]? = some e → e.dst = some t → L (k + j) = L' (k + j)) → look (stL l k L s).tm t = look (stL l k L' s').tm t
 | [], _, _, _, _, _, h, _ => h
 | e :: r, k, L, L', s, s', h, hL => by
   simp only [stL]
   refine lB t r (k + 1) L L' _ _ ?_ fun j e' hj hd => by have := hL (j + 1) e' (by simpa using hj) hd; rwa [show k + (j + 1) = k + 1 + j by omega] at this
   by_cases hd : e.dst = some t
   · have := hL 0 e rfl hd
     simp only [Nat.add_zero] at this
     rw [this]
     split
     · rw [dV, dV, if_pos hd, if_pos hd]
     · exact h
   · have h1 : ∀ b : Bool, ∀ s : SS A, look (if b = true then bH e s else s).tm t = look s.tm t := by
      intro b s
      split
      · rw [dV, if_neg hd]
      · rfl
     rw [h1, h1]; exact h
theorem jW (c : Nat) : ∀ (l : List (Eff A)) (k : Nat) (L L' : Nat → Bool) (s s' : SS A), aC s.H c = aC s'.H c → (∀ j e, l[j]? = some e → c ∈ e.ids → L (k + j) = L' (k + j)) → aC (stL l k L s).H c = aC (stL l k L' s').H c
 | [], _, _, _, _, _, h, _ => h
 | e :: r, k, L, L', s, s', h, hL => by
   simp only [stL]
   refine jW c r (k + 1) L L' _ _ ?_ fun j e' hj hd => by have := hL (j + 1) e' (by simpa using hj) hd; rwa [show k + (j + 1) = k + 1 + j by omega] at this
   by_cases hd : c ∈ e.ids
   · have := hL 0 e rfl hd
     simp only [Nat.add_zero] at this
     rw [this]
     split
     · exact dH _ _ _ _ _ h
     · exact h
   · have h1 : ∀ b : Bool, ∀ s : SS A, aC (if b = true then bH e s else s).H c = aC s.H c := by
      intro b s
      split
      · exact bl _ _ _ _ hd
      · rfl
     rw [h1, h1]; exact h
theorem xj : ∀ (l : List (Eff A)) (k : Nat) (L : Nat → Bool) (s : SS A) (i : Nat) (e : Eff A), l[i]? = some e → L (k + i) = false →
 (∀ j e', i < j → l[j]? = some e' → L (k + j) = true → (∀ t, e.dst = some t → e'.dst ≠ some t) ∧ ∀ c ∈ e.ids, c ∉ e'.ids) →
 AR (stL l k (fun j => L j || aG j (k + i)) s) (bH e (stL l k L s))
 | [], _, _, _, _, _, h, _, _ => by cases h
 | x :: r, k, L, s, 0, e, h, hn, hc => by
   simp at h
   subst h
   simp only [Nat.add_zero] at hn
   simp only [stL, Nat.add_zero, hn]
   rw [if_pos (by simp), if_neg (by simp)]
   have hsame : ∀ j, L (k + 1 + j) = ((fun j => L j || aG j k) (k + 1 + j)) := by
    intro j
    have : aG (k + 1 + j) k = false := by cases hb : aG (k + 1 + j) k; rfl; have := beq_eq hb; omega
    simp only [this, Bool.or_false]
   have key : ∀ (q : List (Eff A)) (m : Nat) (L L' : Nat → Bool) (s : SS A), (∀ j, L (m + j) = L' (m + j)) →
    (∀ j e', q[j]? = some e' → L (m + j) = true → (∀ t, x.dst = some t → e'.dst ≠ some t) ∧ ∀ c ∈ x.ids, c ∉ e'.ids) → AR (stL q m L' (bH x s)) (bH x (stL q m L s)) := by
    intro q
    induction q with
    | nil => intro m L L' s _ _; exact ⟨fun _ => rfl, fun _ => rfl⟩
    | cons y q ih =>
      intro m L L' s hLL hq
      simp only [stL]
      have h0 := hLL 0
      simp only [Nat.add_zero] at h0
      rw [← h0]
      have ih' := fun s => ih (m + 1) L L' s (fun j => by have := hLL (j + 1); rwa [show m + (j + 1) = m + 1 + j by omega] at this)
       (fun j e' hj hl => hq (j + 1) e' (by simpa using hj) (by rwa [show m + (j + 1) = m + 1 + j by omega]))
      split
      · rename_i hl
        obtain ⟨h1, h2⟩ := hq 0 y rfl (by simpa using hl)
        have e1 : AR (stL q (m + 1) L' (bH y (bH x s))) (stL q (m + 1) L' (bH x (bH y s))) := by
         refine ⟨fun t => lB t q _ _ _ _ _ ?_ fun _ _ _ _ => rfl, fun c => jW c q _ _ _ _ _ ?_ fun _ _ _ _ => rfl⟩
         · rw [dV, dV, dV, dV]
           by_cases hx : x.dst = some t
           · simp [h1 t hx, hx]
           · simp only [if_neg hx]
         · show aC (aO (aO s.H x.ids x.cs) y.ids y.cs) c = aC (aO (aO s.H y.ids y.cs) x.ids x.cs) c
           by_cases hx : c ∈ x.ids
           · rw [bl y.ids _ _ _ (h2 c hx)]
             exact dH _ _ _ _ _ (bl y.ids _ _ _ (h2 c hx)).symm
           · rw [bl x.ids (aO s.H y.ids y.cs) _ _ hx]
             exact dH _ _ _ _ _ (bl x.ids _ _ _ hx)
        have e2 := ih' (bH y s)
        exact ⟨fun t => (e1.1 t).trans (e2.1 t), fun c => (e1.2 c).trans (e2.2 c)⟩
      · exact ih' s
   exact key r (k + 1) L _ s hsame fun j e' hj hl => hc (j + 1) e' (by omega) (by simpa using hj) (by rwa [show k + (j + 1) = k + 1 + j by omega])
 | x :: r, k, L, s, i + 1, e, h, hn, hc => by
   simp only [stL]
   have hb : aG k (k + (i + 1)) = false := by cases hb : aG k (k + (i + 1)); rfl; have := beq_eq hb; omega
   simp only [hb, Bool.or_false]
   rw [show k + (i + 1) = k + 1 + i by omega]
   exact xj r (k + 1) L _ i e (by simpa using h) (by rw [show k + 1 + i = k + (i + 1) by omega]; exact hn) fun j e' hij hj hl => hc (j + 1) e' (by omega) (by simpa using hj) (by rwa [show k + (j + 1) = k + 1 + j by omega])
theorem gO : ∀ (l : List (Eff A)) (k i : Nat) (s : SS A), stL l k (fun j => aq j (k + i)) s = gU (l.take i) s
 | [], k, i, s => by simp [stL, gU]
 | e :: r, k, 0, s => by
   have : ∀ (l : List (Eff A)) (m : Nat), k ≤ m → stL l m (fun j => aq j (k + 0)) s = s := by
    intro l
    induction l with
    | nil => intro m _; rfl
    | cons e r ih =>
      intro m hm
      simp only [stL]
      have hb : aq m (k + 0) = false := by
       cases hb : aq m (k + 0); rfl; have := leN hb; omega
      rw [if_neg (by rw [hb]; simp)]
      exact ih (m + 1) (by omega)
   rw [this _ _ (Nat.le_refl _)]
   rfl
 | e :: r, k, i + 1, s => by
   simp only [stL]
   have hb : aq k (k + (i + 1)) = true := geN (by omega)
   rw [if_pos hb]
   have := gO r (k + 1) i (bH e s)
   rw [show k + 1 + i = k + (i + 1) by omega] at this
   simpa [gU] using this
theorem eD : ∀ {l : List Nat} {x : Nat}, x ∈ l → (dq l).testBit x = true
 | [], x, h => by cases h
 | i :: r, x, h => by
   simp only [dq, Nat.testBit_or, Bool.or_eq_true]
   rcases List.mem_cons.1 h with rfl | h
   · left; simp [Nat.testBit_shiftLeft]
   · right; exact eD h
theorem qk {acc : List Nat} : ∀ {l : List Edge} {k : Nat}, (vy acc l).testBit k = true → ∃ e ∈ l, Region.binds .any e = true ∧ (k = e.on ∨ ∃ q, acc[e.on]? = some q ∧ q.testBit k = true)
 | [], k, h => by simp [vy] at h
 | e :: r, k, h => by
   simp only [vy] at h
   split at h
   · rename_i hb
     simp only [Nat.testBit_or, Bool.or_eq_true] at h
     rcases h with (h | h) | h
     · refine ⟨e, by simp, hb, .inl ?_⟩
       simp only [Nat.testBit_shiftLeft, Bool.and_eq_true, decide_eq_true_eq] at h
       have h2 : k - e.on = 0 := by
        have := h.2
        rcases Nat.eq_zero_or_pos (k - e.on) with h0 | h0
        · exact h0
        · rw [Nat.testBit_eq_decide_div_mod_eq, Nat.div_eq_of_lt (Nat.one_lt_two_pow (by omega))] at this; simp at this
       have := h.1
       omega
     · split at h
       · rename_i q hq; rw [eY] at hq; exact ⟨e, by simp, hb, .inr ⟨q, hq, h⟩⟩
       · simp at h
     · obtain ⟨e', h1, h2, h3⟩ := qk h
       exact ⟨e', by simp [h1], h2, h3⟩
   · obtain ⟨e', h1, h2, h3⟩ := qk h
     exact ⟨e', by simp [h1], h2, h3⟩
theorem oC {L : Nat → Bool} : ∀ (l : List Oper) (acc : List Nat), (∀ i (an : Nat), acc[i]? = some an → L i = true → ∀ k, an.testBit k = true → L k = true) →
 (∀ i o, l[i]? = some o → L (acc.length + i) = true → ∀ e ∈ o.after, Region.binds .any e = true → L e.on = true) →
 ∀ i (an : Nat), (AN l acc)[i]? = some an → L i = true → ∀ k, an.testBit k = true → L k = true
 | [], acc, hacc, _ => fun i an h hl k hk => hacc i an h hl k hk
 | o :: r, acc, hacc, hl => by
   simp only [AN]
   refine oC r _ (fun i an h hli k hk => ?_) (fun i o' h hli => ?_)
   · by_cases hi : i < acc.length
     · rw [List.getElem?_append_left hi] at h
       exact hacc i an h hli k hk
     · rw [List.getElem?_append_right (by omega)] at h
       have h0 : i - acc.length = 0 := by
        have := (List.getElem?_eq_some_iff.1 h).1; simp at this; omega
       rw [h0] at h
       simp at h
       subst h
       have hi' : i = acc.length := by omega
       subst hi'
       have h0 := hl 0 o rfl (by simpa using hli)
       obtain ⟨e, he, hb, h3⟩ := qk hk
       have h1 := h0 e (by simpa using he) hb
       rcases h3 with rfl | ⟨q, hq, h4⟩
       · exact h1
       · exact hacc _ q hq h1 k h4
   · refine hl (i + 1) o' (by simpa using h) ?_
     rw [← hli]; congr 1; simp; omega
theorem pS {an : Nat} {b : Rec} : ∀ {l : List Rec} {k : Nat}, rn an b k l = true → ∀ i a, l[i]? = some a → an.testBit (k + i) = true ∨ sJ a b = false
 | [], _, _, _, _, h => by simp at h
 | x :: r, k, h, i, a, hi => by
   simp only [rn, Bool.and_eq_true, Bool.or_eq_true, Bool.not_eq_true'] at h
   cases i with
   | zero =>
     simp at hi
     subst hi
     exact h.1
   | succ i =>
     have := pS h.2 i a (by simpa using hi)
     rwa [show k + 1 + i = k + (i + 1) by omega] at this
theorem nu : ∀ {ans : List Nat} {bs before : List Rec}, kX ans bs before = true → ∀ j b, bs[j]? = some b → ∃ an, ans[j]? = some an ∧ ∀ i a, i < before.length + j → (before ++ bs)[i]? = some a → an.testBit i = true ∨ sJ a b = false
 | _, [], _, _, j, b, h => by simp at h
 | [], _ :: _, _, h, _, _, _ => by simp [kX] at h
 | an :: ans, x :: bs, before, h, j, b, hj => by
   simp only [kX, Bool.and_eq_true] at h
   cases j with
   | zero =>
     simp at hj
     subst hj
     refine ⟨an, rfl, fun i a hi ha => ?_⟩
     simp only [Nat.add_zero] at hi
     rw [List.getElem?_append_left hi] at ha
     have := pS h.1 i a ha
     rwa [Nat.zero_add] at this
   | succ j =>
     obtain ⟨an', h1, h2⟩ := nu h.2 j b (by simpa using hj)
     refine ⟨an', by simpa using h1, fun i a hi ha => h2 i a (by simp; omega) ?_⟩
     simpa [List.append_assoc] using ha
theorem fw {a b : Nat} (h : meets a b = false) : ∀ x, a.testBit x = true → b.testBit x = false := by
 intro x hx
 unfold meets at h
 have h0 : a &&& b = 0 := beq_eq (by simpa using h)
 have h1 : (a &&& b).testBit x = false := by rw [h0]; simp
 rw [Nat.testBit_and, hx] at h1
 simpa using h1
structure CQ (ops : List Oper) (o o' : Oper) (e e' : Eff A) : Prop where
 r1 : ∀ t, o.dst = some t → t ∉ dQ ops o'
 r2 : ∀ t, o'.dst = some t → t ∉ dQ ops o
 d : ∀ t, o.dst = some t → o'.dst ≠ some t
 c1 : ∀ c ∈ e.ids, c ∉ e'.lk
 c2 : ∀ c ∈ e'.ids, c ∉ e.lk
theorem kS : ∀ {ops l : List Oper} {q : List (List Nat × List Nat)} {i : Nat} {o : Oper} {x : List Nat × List Nat}, l[i]? = some o → q[i]? = some x → (mn ops l q)[i]? = some ⟨dq o.dst.toList, dq (dQ ops o), dq x.1, dq x.2⟩
 | ops, [], q, i, o, x, h, _ => by simp at h
 | ops, y :: r, [], i, o, x, _, h => by simp at h
 | ops, y :: r, z :: q, 0, o, x, h, h' => by simp at h h'; subst h; subst h'; rfl
 | ops, y :: r, z :: q, i + 1, o, x, h, h' => by simpa [mn] using kS (ops := ops) (l := r) (q := q) (i := i) (by simpa using h) (by simpa using h')
theorem mE {ops : List Oper} {effs : List (Eff A)} (h : nT ops (effs.map fun e => (e.ids, e.lk)) = true) {L : Nat → Bool} (hL : ∀ i o, ops[i]? = some o → L i = true → ∀ e ∈ o.after, Region.binds .any e = true → L e.on = true)
 {i j : Nat} {o o' : Oper} {e e' : Eff A} (hi : ops[i]? = some o) (hj : ops[j]? = some o') (hei : effs[i]? = some e) (hej : effs[j]? = some e') (hij : i < j) (hl : L i = false) (hlj : L j = true) : CQ ops o o' e e' := by
 unfold nT at h
 simp only [Bool.and_eq_true] at h
 obtain ⟨⟨⟨h1, h2⟩, h3⟩, h4⟩ := h
 have r1 := kS (ops := ops) hi (q := effs.map fun e => (e.ids, e.lk)) (x := (e.ids, e.lk)) (by simp [hei])
 have r2 := kS (ops := ops) hj (q := effs.map fun e => (e.ids, e.lk)) (x := (e'.ids, e'.lk)) (by simp [hej])
 obtain ⟨an, h5, h6⟩ := nu h1 j _ r2
 have h7 := oC (L := L) ops [] (by simp) (fun i o h hl => hL i o h (by simpa using hl)) j an h5 hlj
 rcases h6 i _ (by simpa using hij) (by simpa using r1) with h8 | h8
 · have := h7 i h8; rw [hl] at this; cases this
 · simp only [sJ, Bool.or_eq_false_iff] at h8
   obtain ⟨⟨⟨m1, m3⟩, m4⟩, m5⟩ := h8
   have no : ∀ {l : List Nat} {x : Nat}, (dq l).testBit x = false → x ∉ l := fun {l x} hb hx => by rw [eD hx] at hb; cases hb
   have m1' : ∀ t, o.dst = some t → t ∉ dQ ops o' ∧ t ∉ o'.dst.toList := fun t ht => by
    have h9 := fw m1 t (eD (by simp [ht]))
    simp only [Nat.testBit_or, Bool.or_eq_false_iff] at h9
    exact ⟨no h9.1, no h9.2⟩
   refine ⟨fun t ht => (m1' t ht).1, fun t ht => no (fw m3 t (eD (by simp [ht]))), fun t ht ht' => (m1' t ht).2 (by simp [ht']), fun c hc => no (fw m4 c (eD hc)), fun c hc => no (fw m5 c (eD hc))⟩
theorem kD {E : Env A} {ops : List Oper} {d : Dec} {s : SS A} {o : Oper} {j : Nat} {e : Eff A} {Ce : List (U Prop)} (h : gl E ops d s o j e Ce) : (∀ c ∈ e.ids, c ∈ e.lk) ∧ e.dst = o.dst := by
 cases h with
 | no => exact ⟨by simp, rfl⟩
 | yes p C v cs v' C2 =>
   unfold dn
   split
   · split
     · split
       · rename_i hp _; exact ⟨fun c hc => by show c ∈ p.ids; rw [hp]; simp only [List.mem_singleton] at hc; subst hc; exact List.mem_cons_self, rfl⟩
       · exact ⟨fun _ h => h, rfl⟩
     · exact ⟨fun _ h => h, rfl⟩
   · exact ⟨fun c hc => (by cases hc), rfl⟩
theorem Bq {E : Env A} {ops : List Oper} {d : Dec} {s : SS A} {o : Oper} {j : Nat} {e : Eff A} {Ce : List (U Prop)} (h : gl E ops d s o j e Ce) {c : Nat} (hk : keeps c e = true) (hc : c ∈ e.ids) :
 ∃ c', (∀ X : SS A, aC (bH e X).H c = c') ∧ gn c' (aC s.H c) := by
 have hany : e.ids.any (aG c) = true := List.any_eq_true.2 ⟨c, hc, gj⟩
 unfold keeps at hk
 rw [hany] at hk
 dsimp only at hk
 split at hk <;> (try (cases hk; done))
 rename_i i r hids
 simp only [Bool.and_eq_true] at hk
 obtain ⟨⟨hk1, hk2⟩, hk3⟩ := hk
 have hk2 := beq_eq hk2
 subst hk2
 cases h with
 | no => cases hc
 | yes p C v cs v' C2 hg hp he hd =>
   have hw : p.w = true := by
    cases hw : p.w with
    | true => rfl
    | false => unfold dn at hk1; rw [hw] at hk1; cases hk1
   have ha : dt E o.op = false := by
    cases ha : dt E o.op with
    | false => rfl
    | true => unfold dn at hk1; rw [hw, ha] at hk1; dsimp only at hk1; split at hk1 <;> cases hk1
   have heq : dn (dt E o.op) (lQ E s.tm s.H.length o.op) o.dst v' p cs = ⟨o.dst, v', p.ids, cs, p.ids, false, aG (lQ E s.tm s.H.length o.op) 2 && iQ cs⟩ := by unfold dn; rw [hw, ha]
   rw [heq] at hk1 hids ⊢
   dsimp only at hk1 hids
   obtain ⟨hk4, _⟩ := Bool.and_eq_true_iff.1 hk1
   have hk4 := beq_eq hk4
   unfold lQ at hk4
   split at hk4
   rotate_left
   · cases hk4
   rename_i hn
   split at hk4
   rotate_left
   · cases hk4
   rename_i q hq
   have hpq : p = q := by
    unfold sop at hp
    rw [hn] at hp
    dsimp only at hp
    rw [hq] at hp
    cases hp; rfl
   subst hpq
   obtain ⟨i', j', c1, c2, h1, h2, h3⟩ := zf hk4 hq he
   rw [h1] at hids
   cases hids
   have hne : c ≠ j' := fun e => by subst e; simp at hk3
   refine ⟨c1, fun X => ?_, h3⟩
   simp only [bH, h1, h2, aO]
   rw [aP, if_neg hne, aP, if_pos rfl]
theorem p9 (c : Nat) (x0 : Chunk A) : ∀ (l : List (Eff A)) (k : Nat) (L : Nat → Bool) (s : SS A), (∀ e ∈ l, c ∈ e.ids → ∃ c', (∀ X : SS A, aC (bH e X).H c = c') ∧ gn c' x0) → (aC s.H c = x0 ∨ gn (aC s.H c) x0) → (aC (stL l k L s).H c = x0 ∨ gn (aC (stL l k L s).H c) x0)
 | [], _, _, _, _, h => h
 | e :: r, k, L, s, hl, h => by
   simp only [stL]
   refine p9 c x0 r (k + 1) L _ (fun e' he' => hl e' (List.mem_cons_of_mem _ he')) ?_
   split
   · by_cases hd : c ∈ e.ids
     · obtain ⟨c', h1, h2⟩ := hl e (List.mem_cons_self ..) hd
       exact .inr (by rw [h1]; exact h2)
     · rw [show aC (bH e s).H c = aC s.H c from bl _ _ _ _ hd]; exact h
   · exact h
theorem rb {E : Env A} {ops : List Oper} {d : Dec} {s : SS A} {effs : List (Eff A)} {c : Nat} (hdid : ∀ (i : Nat) (e : Eff A), effs[i]? = some e → ∃ o Ce, gl E ops d (gU (effs.take i) s) o i e Ce) (hk : ∀ e ∈ effs, keeps c e = true) :
 ∀ (L : Nat → Bool), aC (stL effs 0 L s).H c = aC s.H c ∨ gn (aC (stL effs 0 L s).H c) (aC s.H c) := by
 have key : ∀ (j : Nat) (e : Eff A), effs[j]? = some e → c ∈ e.ids → ∃ c', (∀ X : SS A, aC (bH e X).H c = c') ∧ gn c' (aC s.H c) := by
  intro j
  induction j using Nat.strongRecOn with
  | _ j ih =>
    intro e he hc
    obtain ⟨o, Ce, hd⟩ := hdid j e he
    obtain ⟨c', h1, h2⟩ := Bq hd (hk e (List.mem_of_getElem? he)) hc
    refine ⟨c', h1, ?_⟩
    have h3 := p9 c (aC s.H c) (effs.take j) 0 (fun m => aq m (0 + j)) s (fun e' he' hc' => by
     obtain ⟨k, hk1, hk2⟩ := List.getElem_of_mem he'
     have hkj : k < j := by rw [List.length_take] at hk1; omega
     refine ih k hkj e' ?_ hc'
     rw [← hk2, List.getElem_take, List.getElem?_eq_getElem]) (.inl rfl)
    rw [gO, List.take_take, Nat.min_self] at h3
    rcases h3 with h3 | h3
    · rw [← h3]; exact h2
    · exact h2.trans h3
 intro L
 refine p9 c (aC s.H c) effs 0 L s (fun e he hc => ?_) (.inl rfl)
 obtain ⟨k, hk1, hk2⟩ := List.getElem_of_mem he
 exact key k e (by rw [← hk2, List.getElem?_eq_getElem]) hc
theorem B0 {E : Env A} (hE : aU P AI E) {opsA : Array Oper} {d : Dec} {s : SS A} {effs : List (Eff A)} {Q : Exit → Act → World → Prop} (hlen : effs.length = opsA.toList.length)
 (hdid : ∀ i o, opsA.toList[i]? = some o → ∃ e Ce, effs[i]? = some e ∧ gl E opsA.toList d (gU (effs.take i) s) o i e Ce ∧ ∀ C ∈ Ce, C ())
 (hokE : o6 opsA.toList effs = true) (hdst : ∀ o ∈ opsA.toList, ∀ t, o.dst = some t → t < G.size) (hK : fc AI G (gU effs s) (Q .normal)) :
 ∀ (fuel : Nat) (listed : Array Bool) (a : Act) (w : World), listed.size = opsA.size → (∀ i o, opsA.toList[i]? = some o → listed.getD i false = true → ∀ e ∈ o.after, Region.binds .any e = true → listed.getD e.on false = true) →
   opsA.size ≤ fuel + (listed.toList.filter id).length → Sat AI G (stL effs 0 (fun i => listed.getD i false) s) a w → wpAny P .any opsA Q fuel listed a w := by
 obtain ⟨hok, hsoft⟩ := Bool.and_eq_true_iff.1 hokE
 have hlt : ∀ i o, opsA.toList[i]? = some o → ∀ e ∈ o.after, Region.binds .any e = true → e.on < i := by
  intro i o ho e he hb
  unfold nT at hok
  simp only [Bool.and_eq_true] at hok
  have h1 := List.all_eq_true.1 hok.1.2 (o, i) (by rw [List.mem_zipIdx_iff_getElem?]; exact ho)
  have h2 := List.all_eq_true.1 h1 e (by simpa using he)
  simp only [hb, Bool.not_true, Bool.false_or] at h2
  exact leN h2
 have hall : ∀ listed : Array Bool, listed.size = opsA.size → Region.ready .any opsA listed = [] → ∀ i, i < opsA.size → listed.getD i false = true := by
  intro listed hsz hr i
  induction i using Nat.strongRecOn with
  | _ i ih =>
    intro hi
    cases hl : listed.getD i false with
    | true => rfl
    | false =>
      exfalso
      have ho : opsA[i]? = some opsA[i] := Array.getElem?_eq_getElem hi
      have hi' : i < listed.size := by omega
      have hgt : listed.getD i true = false := by simp [hi'] at hl ⊢; exact hl
      have hmem : i ∈ Region.ready .any opsA listed := mem_ready.2 ⟨hgt, _, ho, fun e he hb => ih e.on (hlt i opsA[i] (by simpa using ho) e he hb) (by have := hlt i opsA[i] (by simpa using ho) e he hb; omega)⟩
      rw [hr] at hmem; cases hmem
 have hend : ∀ (listed : Array Bool) (a : Act) (w : World), listed.size = opsA.size → Region.ready .any opsA listed = [] → Sat AI G (stL effs 0 (fun i => listed.getD i false) s) a w → Q .normal a w := by
  intro listed a w hsz hr hs
  have h1 := hall listed hsz hr
  have e1 : AR (stL effs 0 (fun i => listed.getD i false) s) (gU effs s) := by
   have h2 := gO effs 0 effs.length s
   rw [List.take_length] at h2
   rw [← h2]
   have h3 : ∀ j e, effs[j]? = some e → listed.getD (0 + j) false = aq (0 + j) (0 + effs.length) := by
    intro j e hj
    have hj' := (List.getElem?_eq_some_iff.1 hj).1
    rw [Nat.zero_add, Nat.zero_add, h1 j (by rw [hlen] at hj'; simpa using hj')]
    exact (geN (by omega)).symm
   exact ⟨fun t => lB t _ _ _ _ _ _ rfl fun j e hj _ => h3 j e hj, fun c => jW c _ _ _ _ _ _ rfl fun j e hj _ => h3 j e hj⟩
  obtain ⟨hd, ρ, hh⟩ := hs
  exact hK a w hd ⟨ρ, hh.same e1⟩
 intro fuel
 induction fuel with
 | zero =>
   intro listed a w hsz _ hf hs
   have hr : Region.ready .any opsA listed = [] := by
    cases hr : Region.ready .any opsA listed with
    | nil => rfl
    | cons i r =>
      exfalso
      have hi : i ∈ Region.ready .any opsA listed := by rw [hr]; simp
      obtain ⟨h1, o, h2, h3⟩ := mem_ready.1 hi
      have hi2 : i < listed.size := by have := (Array.getElem?_eq_some_iff.1 h2).1; omega
      have h4 : listed.toList[i]? = some false := by simp [hi2] at h1 ⊢; exact h1
      have h5 : (listed.toList.filter id).length < listed.toList.length := by
       rcases Nat.lt_or_ge (listed.toList.filter id).length listed.toList.length with h | h
       · exact h
       · exfalso
         have h6 := List.length_filter_le id listed.toList
         have h7 : listed.toList.filter id = listed.toList := (List.filter_sublist).eq_of_length (by omega)
         have h8 := List.filter_eq_self.1 h7 false (List.mem_of_getElem? h4)
         cases h8
      simp at h5 hf
      omega
   exact ⟨hr, hend listed a w hsz hr hs⟩
 | succ fuel ih =>
   intro listed a w hsz hcl hf hs
   refine ⟨fun hr => hend listed a w hsz hr hs, fun i hi => ?_⟩
   obtain ⟨hn, o, ho, hready⟩ := mem_ready.1 hi
   have hi1 : i < opsA.size := (Array.getElem?_eq_some_iff.1 ho).1
   have hi2 : i < listed.size := by omega
   have hnf : listed.getD i false = false := by simp [hi2] at hn ⊢; exact hn
   have hoL : opsA.toList[i]? = some o := by simpa using ho
   obtain ⟨e, Ce, he, hd, hCe⟩ := hdid i o hoL
   obtain ⟨hsub, hdste⟩ := kD hd
   obtain ⟨hdf, ρ, hh⟩ := hs
   have hset : ∀ j, (listed.setIfInBounds i true).getD j false = (listed.getD j false || aG j (0 + i)) := by
    intro j
    by_cases hj : i = j
    · subst hj; simp [hi2]
    · rw [getD_set_ne false hj]
      have : aG j (0 + i) = false := by cases hb : aG j (0 + i); rfl; have := beq_eq hb; omega
      rw [this, Bool.or_false]
   have hcl' : ∀ k o', opsA.toList[k]? = some o' → (listed.setIfInBounds i true).getD k false = true → ∀ e' ∈ o'.after, Region.binds .any e' = true → (listed.setIfInBounds i true).getD e'.on false = true := by
    intro k o' hk hlk e' he' hb
    by_cases hki : i = k
    · subst hki
      rw [hoL] at hk
      cases hk
      exact getD_set_true (hready e' he' hb)
    · rw [getD_set_ne false hki] at hlk
      exact getD_set_true (hcl k o' hk hlk e' he' hb)
   have apart_after : ∀ j o' e', i < j → opsA.toList[j]? = some o' → effs[j]? = some e' → listed.getD j false = true → CQ opsA.toList o o' e e' := fun j o' e' hij hj hej hl =>
    mE hok (L := fun k => listed.getD k false) hcl hoL hj he hej hij hnf hl
   have apart_before : ∀ j o' e', j < i → opsA.toList[j]? = some o' → effs[j]? = some e' → listed.getD j false = false → CQ opsA.toList o' o e' e := fun j o' e' hij hj hej hl =>
    mE hok (L := fun k => (listed.setIfInBounds i true).getD k false) hcl' hj hoL hej he hij (by rw [getD_set_ne false (by omega)]; exact hl) (by simp [hi2])
   have hop : ∀ {j : Nat} {e' : Eff A}, effs[j]? = some e' → ∃ o', opsA.toList[j]? = some o' ∧ e'.dst = o'.dst ∧ ∀ c ∈ e'.ids, c ∈ e'.lk := by
    intro j e' hj
    have hj' := (List.getElem?_eq_some_iff.1 hj).1
    have h1 : opsA.toList[j]? = some (opsA.toList[j]'(by omega)) := List.getElem?_eq_getElem _
    obtain ⟨e2, Ce2, h2, h3, _⟩ := hdid j _ h1
    rw [hj] at h2
    cases h2
    obtain ⟨h4, h5⟩ := kD h3
    exact ⟨_, h1, h5, h4⟩
   have hslots : ∀ t ∈ dQ opsA.toList o, look (stL effs 0 (fun i => listed.getD i false) s).tm t = look (gU (effs.take i) s).tm t := by
    intro t ht
    rw [← gO effs 0 i s]
    refine lB t _ _ _ _ _ _ rfl fun j e' hj hdj => ?_
    obtain ⟨o', h1, h2, _⟩ := hop hj
    rw [h2] at hdj
    rw [Nat.zero_add, Nat.zero_add]
    rcases Nat.lt_trichotomy j i with hji | hji | hji
    · rw [show aq j i = true from geN hji]
      cases hl : listed.getD j false with
      | true => rfl
      | false => exact absurd ht ((apart_before j o' e' hji h1 hj hl).r1 t hdj)
    · subst hji
      rw [hnf]
      cases hb : aq j j with
      | false => rfl
      | true => have := leN hb; omega
    · have : aq j i = false := by cases hb : aq j i; rfl; have := leN hb; omega
      rw [this]
      cases hl : listed.getD j false with
      | false => rfl
      | true => exact absurd ht ((apart_after j o' e' hji h1 hj hl).r2 t hdj)
   have hchunks : ∀ c ∈ e.lk, aC (stL effs 0 (fun i => listed.getD i false) s).H c = aC (gU (effs.take i) s).H c := by
    intro c hc
    rw [← gO effs 0 i s]
    refine jW c _ _ _ _ _ _ rfl fun j e' hj hdj => ?_
    obtain ⟨o', h1, _, _⟩ := hop hj
    rw [Nat.zero_add, Nat.zero_add]
    rcases Nat.lt_trichotomy j i with hji | hji | hji
    · rw [show aq j i = true from geN hji]
      cases hl : listed.getD j false with
      | true => rfl
      | false => exact absurd hc ((apart_before j o' e' hji h1 hj hl).c1 c hdj)
    · subst hji
      rw [hnf]
      cases hb : aq j j with
      | false => rfl
      | true => have := leN hb; omega
    · have : aq j i = false := by cases hb : aq j i; rfl; have := leN hb; omega
      rw [this]
      cases hl : listed.getD j false with
      | false => rfl
      | true => exact absurd hc ((apart_after j o' e' hji h1 hj hl).c2 c hdj)
   have hsofts : e.soft = true → ∀ c ∈ e.looks, aC (stL effs 0 (fun i => listed.getD i false) s).H c = aC (gU (effs.take i) s).H c ∨ gn (aC (stL effs 0 (fun i => listed.getD i false) s).H c) (aC (gU (effs.take i) s).H c) := by
    intro hs c hc
    have hkp : ∀ e' ∈ effs, keeps c e' = true := by
     have h1 := List.all_eq_true.1 hsoft e (List.mem_of_getElem? he)
     rw [hs] at h1
     simp only [Bool.not_true, Bool.false_or] at h1
     exact fun e' he' => List.all_eq_true.1 (List.all_eq_true.1 h1 c hc) e' he'
    have hdid' : ∀ (i : Nat) (e : Eff A), effs[i]? = some e → ∃ o Ce, gl E opsA.toList d (gU (effs.take i) s) o i e Ce := fun i e hi => by
     have hi' := (List.getElem?_eq_some_iff.1 hi).1
     obtain ⟨e2, Ce2, h2, h3, _⟩ := hdid i _ (List.getElem?_eq_getElem (show i < opsA.toList.length by omega))
     rw [hi] at h2
     cases h2
     exact ⟨_, _, h3⟩
    have h1 := rb hdid' hkp (fun i => listed.getD i false)
    have h2 := rb hdid' hkp (fun j => aq j (0 + i))
    rw [gO] at h2
    rcases h1 with h1 | h1 <;> rcases h2 with h2 | h2
    · exact .inl (h1.trans h2.symm)
    · exact .inr (by rw [h1]; exact h2.symm)
    · exact .inr (by rw [h2]; exact h1)
    · exact .inr (h1.trans h2.symm)
   have hadd := xj effs 0 (fun i => listed.getD i false) s i e he (by rw [Nat.zero_add]; exact hnf) (fun j e' hij hj hl => by
    rw [Nat.zero_add] at hl
    obtain ⟨o', h1, h2, h3⟩ := hop hj
    have hap := apart_after j o' e' hij h1 hj hl
    exact ⟨fun t ht => by rw [h2]; exact hap.d t (hdste ▸ ht), fun c hc hc' => hap.c1 c hc (h3 c hc')⟩)
   have hres := sH hE hh hdf hd hCe hslots (fun hs c hc => hchunks c (by unfold Eff.lk; rw [hs]; exact hc)) hsofts (hdst o (List.mem_of_getElem? hoL)) (Q := Q) (K := wpAny P .any opsA Q fuel (listed.setIfInBounds i true)) (fun a' w' hdf' ⟨ρ', hh'⟩ => by
    refine ih (listed.setIfInBounds i true) a' w' (by simpa using hsz) hcl' ?_ ⟨hdf', ρ', ?_⟩
    · have : ((listed.setIfInBounds i true).toList.filter id).length = (listed.toList.filter id).length + 1 := by
       have h4 : listed.toList[i]? = some false := by simp [hi2] at hn ⊢; exact hn
       simp only [Array.toList_setIfInBounds]
       have key : ∀ (l : List Bool) (i : Nat), l[i]? = some false → ((l.set i true).filter id).length = (l.filter id).length + 1 := by
        intro l
        induction l with
        | nil => intro i h; simp at h
        | cons x r ih =>
          intro i h
          cases i with
          | zero => simp at h; subst h; simp
          | succ i =>
            have := ih i (by simpa using h)
            cases x <;> simp [this]
       exact key _ _ h4
      omega
    · have e2 : (fun k => (listed.setIfInBounds i true).getD k false) = fun k => listed.getD k false || aG k (0 + i) := funext hset
      rw [e2]
      exact hh'.same ⟨fun t => (hadd.1 t).symm, fun c => (hadd.2 c).symm⟩)
   unfold wpOp
   rw [ho]
   dsimp only
   rw [show opsA.toList.toArray = opsA from by simp] at hres
   split
   · rename_i hw; rw [if_pos hw] at hres; exact .inl hres
   · rename_i hw; rw [if_neg hw] at hres; exact hres
end Go.Sx
namespace Go.Sx
set_option linter.all false
open Go.RowKit
variable {A : Type} {AI : Abs A} {G : Fr} {s : SS A} {ρ : Ev} {a : Act} {w : World} {P : Program}
theorem iT : ∀ {Cs : List (U Prop)} {R : Prop}, conds R Cs → (∀ C ∈ Cs, C ()) ∧ R
 | [], R, h => ⟨by simp, h⟩
 | C :: r, R, h => by
   obtain ⟨h1, h2⟩ := iT (Cs := r) h
   cases h2 with
   | mk h3 h4 => exact ⟨fun D hD => (List.mem_cons.1 hD).elim (fun e => e ▸ h3) (h1 D), h4⟩
theorem bz.elim {n : Nat} {p : Prop} (h : bz n) : p := by cases h
theorem Holds.retm {tmps : Array Value} {tm' : List (Nat × SV)} (h : Holds AI G s ρ tmps w) (ht : ∀ t v, look tm' t = some v → ∃ u, tmps[t]? = some u ∧ Den ρ v u) : Holds AI G ⟨tm', s.H⟩ ρ tmps w :=
 ⟨h.sz, h.gt, ht, h.ch, h.dis, h.lt, h.im, h.os, h.tape, h.output, h.grow, h.kept, h.fro, h.rt, h.rts, h.mono, h.mfr⟩
theorem ax {α : Type} (t : Nat) (v : α) (tm : List (Nat × α)) (k : Nat) : look ((t, v) :: tm) k = if t = k then some v else look tm k := by
 simp only [look]
 by_cases h : t = k
 · subst h; simp
 · rw [show aG t k = false by cases hb : aG t k; rfl; exact absurd (beq_eq hb) h]; simp [h]
theorem Sat.lb (h : Sat AI G s a w) {t : Nat} {g : U Bool} (ht : look s.tm t = some (.val (.one (.sb g)))) {b : Bool} (hb : g () = b) : Sat AI G ⟨(t, one (.lb b)) :: s.tm, s.H⟩ a w := by
 obtain ⟨hd, ρ, hh⟩ := h
 refine ⟨hd, ρ, hh.retm fun k v hk => ?_⟩
 rw [ax] at hk
 split at hk
 · rename_i e
   subst e
   cases hk
   obtain ⟨u, h1, h2⟩ := hh.tm t _ ht
   refine ⟨u, h1, ?_⟩
   simp only [one, Den, cM, aK] at h2 ⊢
   rw [h2, hb]
 · exact hh.tm k v hk
theorem Sat.nb (h : Sat AI G s a w) {t : Nat} {neg : Bool} {C : U Prop} (ht : look s.tm t = some (.val (.one (.nb neg C)))) : ∃ b, a.eval (.tmp t) = .bool b ∧ (b = !neg → C ()) ∧ Sat AI G ⟨(t, one (.lb b)) :: s.tm, s.H⟩ a w := by
 obtain ⟨hd, ρ, hh⟩ := h
 obtain ⟨u, h1, h2⟩ := hh.tm t _ ht
 obtain ⟨b, rfl, h3⟩ := h2
 refine ⟨b, ?_, h3, hd, ρ, hh.retm fun k v hk => ?_⟩
 · have := hh.eval (x := .tmp t) (v := .val (.one (.nb neg C))) ht
   obtain ⟨b', e1, _⟩ := this
   have : a.eval (.tmp t) = .bool b := by simp [Act.eval, h1]
   exact this
 · rw [ax] at hk
   split at hk
   · rename_i e; subst e; cases hk; exact ⟨_, h1, rfl⟩
   · exact hh.tm k v hk
theorem j3 {sl0 : List (Nat × Bool)} : ∀ (sl : List (Nat × Bool)) {tm' : List (Nat × SV)} {Cs : List (U Prop)}, ic sl0 sl s.tm = (tm', Cs) → (∀ C ∈ Cs, C ()) → Sat AI G s a w → Sat AI G ⟨tm', s.H⟩ a w
 | [], tm', Cs, h, _, hs => by simp only [ic, Prod.mk.injEq] at h; obtain ⟨rfl, rfl⟩ := h; exact hs
 | (t, b) :: r, tm', Cs, h, hC, hs => by
   simp only [ic] at h
   cases hp : ic sl0 r s.tm with
   | mk tm2 Cs2 =>
     rw [hp] at h
     dsimp only at h
     split at h
     · rename_i g hg
       simp only [Prod.mk.injEq] at h
       obtain ⟨rfl, rfl⟩ := h
       obtain ⟨hd, ρ, hh⟩ := j3 r hp (fun C hC' => hC C (by simp [hC'])) hs
       have h0 := hC _ (List.mem_cons_self ..)
       obtain ⟨_, ρ0, hh0⟩ := hs
       refine ⟨hd, ρ, hh.retm fun k v hk => ?_⟩
       rw [ax] at hk
       split at hk
       · rename_i e
         subst e
         cases hk
         obtain ⟨u, h1, h2⟩ := hh0.tm t _ hg
         refine ⟨u, h1, ?_⟩
         simp only [one, Den, cM, aK] at h2 ⊢
         rw [h2, h0]
       · exact hh.tm k v hk
     · simp only [Prod.mk.injEq] at h
       obtain ⟨rfl, rfl⟩ := h
       exact j3 r hp hC hs
def XE.out : XE → Exit
 | .normal => .normal
 | .ret => .ret
 | .exit id => .exit id
theorem Sat.drew (h : Sat AI G s a w) : Sat AI G s a { w with drawn := w.drawn + 1 } := by
 obtain ⟨hd, ρ, hh⟩ := h
 exact ⟨hd, ρ, hh.drew⟩
theorem dT {E : Env A} (hE : aU P AI E) (hm : P.follows .mixedOrders = true) {id : Nat} {opsA : Array Oper} {draw : Bool} (hdst : ∀ o ∈ opsA.toList, ∀ t, o.dst = some t → t < G.size) {Q : SS A → Prop} {Qx : Exit → Act → World → Prop}
 (hQ : ∀ s', Q s' → fc AI G s' (Qx .normal)) : ∀ (n : Nat) (d : Dec), pB E opsA.toList draw s Q n d → Sat AI G s a w → (Code.region id opsA draw).wp P Qx a w
 | 0, d, h, _ => h.elim
 | n + 1, d, h, hs => by
   simp only [pB] at h
   cases hp : ic d.sl d.sl s.tm with
   | mk tm C0 =>
     rw [hp] at h
     dsimp only at h
     split at h
     · exact h.elim
     · rename_i t b _
       cases h with
       | mk h1 h2 =>
         cases hb : b () with
         | true => exact dT hE hm hdst hQ n _ (h1 hb) hs
         | false => exact dT hE hm hdst hQ n _ (h2 hb) hs
     · rename_i j b _
       cases h with
       | mk h1 h2 =>
         cases hb : b () with
         | true => exact dT hE hm hdst hQ n _ (h1 hb) hs
         | false => exact dT hE hm hdst hQ n _ (h2 hb) hs
     · rename_i Cs s' effs hrun
       obtain ⟨h1, effs', h2, h3, h4, h5⟩ := rY _ _ _ _ _ hrun
       simp only [List.reverse_nil, List.nil_append] at h2
       subst h2
       have fin : (∀ C ∈ Cs, C ()) → Q s' → Sat AI G ⟨tm, s.H⟩ a w ∧ (∀ i o, opsA.toList[i]? = some o → ∃ e Ce, effs[i]? = some e ∧ gl E opsA.toList d (gU (effs.take i) ⟨tm, s.H⟩) o (0 + i) e Ce ∧ ∀ C ∈ Ce, C ()) ∧ fc AI G (gU effs ⟨tm, s.H⟩) (Qx .normal) := by
        intro hC hq
        refine ⟨j3 _ hp (fun C hC' => hC C (h1 C hC')) hs, fun i o hi => ?_, h4 ▸ hQ s' hq⟩
        obtain ⟨e, Ce, h6, h7, h8⟩ := h5 i o hi
        exact ⟨e, Ce, h6, h7, fun C hC' => hC C (h8 C hC')⟩
       split at h
       · obtain ⟨hC, hq⟩ := iT h
         obtain ⟨f1, f2, f3⟩ := fin hC hq
         refine wp_region_list ?_
         have := ug hE opsA.toList 0 ⟨tm, s.H⟩ effs a w h3 f2 hdst f1 f3
         simpa using this
       · cases h with
         | mk hok h =>
           obtain ⟨hC, hq⟩ := iT h
           obtain ⟨f1, f2, f3⟩ := fin hC hq
           refine wp_region_any hm ?_
           refine B0 hE h3 (fun i o hi => by have := f2 i o hi; simpa using this) hok hdst f3 opsA.size _ a _ (by simp) (fun i o hi hl => by
            exfalso
            have : (Array.replicate opsA.size false).getD i false = false := getD_replicate_false _ _
            rw [this] at hl; cases hl) (by omega) ?_
           have e1 : stL effs 0 (fun i => (Array.replicate opsA.size false).getD i false) (⟨tm, s.H⟩ : SS A) = ⟨tm, s.H⟩ := by
            have key : ∀ (l : List (Eff A)) (k : Nat) (s : SS A), stL l k (fun i => (Array.replicate opsA.size false).getD i false) s = s := by
             intro l
             induction l with
             | nil => intro k s; rfl
             | cons e r ih =>
               intro k s
               simp only [stL]
               rw [if_neg (by rw [getD_replicate_false]; simp)]
               exact ih _ _
            exact key _ _ _
           rw [e1]
           exact f1.drew
def Ev.trim (ρ : Ev) (n : Nat) : Ev :=
 { root := fun i => if i < n then ρ.root i else .bool false, ver := fun i => if i < n then ρ.ver i else 0, M := ρ.M, foot := fun i => if i < n then ρ.foot i else [] }
theorem sM {n : Nat} : ∀ {l : List Nat} {us : List Value}, aL (fun i u => ∃ b, ρ.root i = .pointer (some ⟨b, 0, none⟩) ∧ u = .pointer (some ⟨b, 0, none⟩)) l us → (l.all fun i => aq i n) = true → aL (fun i u => ∃ b, (ρ.trim n).root i = .pointer (some ⟨b, 0, none⟩) ∧ u = .pointer (some ⟨b, 0, none⟩)) l us := by
 intro l us h
 induction h with
 | nil => intro _; exact .nil
 | cons h6 _ ih =>
   intro h3
   simp only [List.all_cons, Bool.and_eq_true] at h3
   obtain ⟨b, h7, h8⟩ := h6
   have h9 : _ < n := leN h3.1
   exact .cons ⟨b, by simp [Ev.trim, h9, h7], h8⟩ (ih h3.2)
theorem tc : ∀ {l m : List Nat}, x6 l m = true → l = m
 | [], [], _ => rfl
 | a :: l, b :: m, h => by
   simp only [x6, Bool.and_eq_true] at h
   rw [beq_eq h.1, tc h.2]
 | [], _ :: _, h => by cases h
 | _ :: _, [], h => by cases h
theorem p6 {n : Nat} {x y : SV1} {C : U Prop} (h : yo n x y = some C) (hC : C ()) {v : Value} (hv : aK ρ x v) : aK (ρ.trim n) y v := by
 unfold yo at h
 split at h
 · trivial
 · split at h <;> simp at h
   rename_i hk
   simp at hk
   subst hk; subst h
   simp only [aK] at hv ⊢; rw [hv, hC]
 · split at h <;> simp at h
   rename_i hk
   simp at hk
   subst hk; subst h
   simp only [aK] at hv ⊢; rw [hv, hC]
 · split at h <;> simp at h
   rename_i hk
   obtain ⟨h1, h2⟩ := Bool.and_eq_true_iff.1 hk
   simp at h1 h2
   subst h1; subst h2
   exact hv
 · simp at h; subst h; simp only [aK] at hv ⊢; rw [hv, hC]
 · simp at h; subst h; simp only [aK] at hv ⊢; rw [hv, hC]
 · simp at h; subst h; simp only [aK] at hv ⊢; rw [hv, hC]
 · split at h <;> simp at h
   rename_i hk
   simp at hk
   subst hk
   exact hv
 · simp at h; subst h; simp only [aK] at hv ⊢; rw [hv, hC]
 · exact hv
 · rename_i e L
   simp at h
   subst h
   simp only [aK] at hv ⊢
   subst hv
   have hC : L () = [] := hC
   exact ⟨none, 0, by rw [hC]; rfl, by rw [hC]; simp, by rw [hC]; simp⟩
 · exact hv
 · split at h <;> simp at h
   rename_i hk
   obtain ⟨h1, h3⟩ := Bool.and_eq_true_iff.1 hk
   obtain ⟨h1, h2⟩ := Bool.and_eq_true_iff.1 h1
   have h1 := beq_eq h1
   have h2 := beq_eq h2
   have h3 : _ < n := leN h3
   subst h1; subst h2
   obtain ⟨b, h4, h5⟩ := hv
   exact ⟨b, by simp [Ev.trim, h3, h4], h5⟩
 · split at h <;> simp at h
   rename_i hk
   obtain ⟨h1, h3⟩ := Bool.and_eq_true_iff.1 hk
   have h1 := beq_eq h1
   have h3 : _ < n := leN h3
   subst h1
   obtain ⟨b, h4, h5⟩ := hv
   exact ⟨b, by simp [Ev.trim, h3, h4], h5⟩
 · split at h <;> simp at h
   rename_i f hf
   subst h
   obtain ⟨rfl, h1⟩ := dA hf
   simp only [aK] at hv ⊢
   have : _ = _ := hC
   rw [h1] at this
   rw [← this]; exact hv
 · split at h <;> simp at h
   rename_i hk
   obtain ⟨h1, h3⟩ := Bool.and_eq_true_iff.1 hk
   obtain ⟨h1, h2⟩ := Bool.and_eq_true_iff.1 h1
   have h1 := beq_eq h1
   have h2 := beq_eq h2
   have h3 : _ < n := leN h3
   subst h1; subst h2
   obtain ⟨h4, h5, h6⟩ := hv
   exact ⟨h4, by simpa [Ev.trim, h3] using h5, by simpa [Ev.trim, h3] using h6⟩
 · split at h <;> simp at h
   rename_i hk
   obtain ⟨h1, h3⟩ := Bool.and_eq_true_iff.1 hk
   obtain ⟨h1, h2⟩ := Bool.and_eq_true_iff.1 h1
   have h1 := beq_eq h1
   have h2 := tc h2
   subst h1; subst h2
   obtain ⟨vs, h4, h5⟩ := hv
   refine ⟨vs, h4, ?_⟩
   exact sM h5 h3
 · cases h
theorem ft {n : Nat} : ∀ {l m : List SV1} {Cs : List (U Prop)} {vs : List Value}, nj n l m = some Cs → (∀ C ∈ Cs, C ()) → aL (aK ρ) l vs → aL (aK (ρ.trim n)) m vs
 | [], [], Cs, vs, h, _, hv => by cases hv; exact .nil
 | x :: l, y :: m, Cs, vs, h, hC, hv => by
   simp only [nj] at h
   split at h <;> (try cases h)
   rename_i C h1
   split at h <;> cases h
   rename_i Cs h2
   cases hv with
   | cons hx hl => exact .cons (p6 h1 (hC C (by simp)) hx) (ft h2 (fun D hD => hC D (by simp [hD])) hl)
 | [], _ :: _, _, _, h, _, _ => by cases h
 | _ :: _, [], _, _, h, _, _ => by cases h
theorem p5 {n : Nat} {x y : SV2} {Cs : List (U Prop)} (h : yn n x y = some Cs) (hC : ∀ C ∈ Cs, C ()) {v : Value} (hv : cM ρ x v) : cM (ρ.trim n) y v := by
 unfold yn at h
 split at h
 · trivial
 · split at h <;> cases h
   rename_i C h1
   exact p6 h1 (hC C (by simp)) hv
 · obtain ⟨vs, h1, h2⟩ := hv; exact ⟨vs, h1, ft h hC h2⟩
 · split at h <;> (try cases h)
   rename_i hb
   have hb := beq_eq hb
   subst hb
   obtain ⟨vs, h1, h2⟩ := hv; exact ⟨vs, h1, ft h hC h2⟩
 · cases h
theorem ni {n : Nat} : ∀ {l m : List SV2} {Cs : List (U Prop)} {vs : List Value}, rW n l m = some Cs → (∀ C ∈ Cs, C ()) → aL (cM ρ) l vs → aL (cM (ρ.trim n)) m vs
 | [], [], Cs, vs, h, _, hv => by cases hv; exact .nil
 | x :: l, y :: m, Cs, vs, h, hC, hv => by
   simp only [rW] at h
   split at h <;> (try cases h)
   rename_i C h1
   split at h <;> cases h
   rename_i Cs h2
   cases hv with
   | cons hx hl => exact .cons (p5 h1 (fun D hD => hC D (by simp [hD])) hx) (ni h2 (fun D hD => hC D (by simp [hD])) hl)
 | [], _ :: _, _, _, h, _, _ => by cases h
 | _ :: _, [], _, _, h, _, _ => by cases h
theorem wI {n : Nat} {x y : SV} {Cs : List (U Prop)} (h : yl n x y = some Cs) (hC : ∀ C ∈ Cs, C ()) {v : Value} (hv : Den ρ x v) : Den (ρ.trim n) y v := by
 unfold yl at h
 split at h
 · trivial
 · exact p5 h hC hv
 · obtain ⟨vs, h1, h2⟩ := hv; exact ⟨vs, h1, ni h hC h2⟩
 · cases h
theorem oz {n : Nat} {tm : List (Nat × SV)} : ∀ {l : List (Nat × SV)} {Cs : List (U Prop)}, wJ n tm l = some Cs → (∀ C ∈ Cs, C ()) → ∀ t y, look l t = some y → ∃ x Ds, look tm t = some x ∧ yl n x y = some Ds ∧ ∀ C ∈ Ds, C ()
 | [], Cs, h, _, t, y, hl => by cases hl
 | (k, z) :: r, Cs, h, hC, t, y, hl => by
   simp only [wJ] at h
   split at h <;> (try cases h)
   rename_i x hx
   split at h <;> (try cases h)
   rename_i C h1
   split at h <;> cases h
   rename_i Cs h2
   rw [ax] at hl
   split at hl
   · rename_i e
     subst e
     cases hl
     exact ⟨x, C, hx, h1, fun D hD => hC D (by simp [hD])⟩
   · exact oz h2 (fun D hD => hC D (by simp [hD])) t y hl
theorem vn {ks ks' : KT} {e e' : Ty} {f : List (ks.T × e.T) → List (ks'.T × e'.T)} (h : sL ks ks' e e' = some f) : ∃ (h1 : ks = ks') (h2 : e = e'), ∀ x, f x = (by subst h1; subst h2; exact x) := by
 unfold sL at h
 split at h
 · rename_i fk hk
   split at h
   · rename_i g hg
     obtain ⟨rfl, h3⟩ := eW hg
     have : ∃ h1 : ks = ks', ∀ x, fk x = h1 ▸ x := by
      cases ks <;> cases ks' <;> simp only [yM, reduceCtorEq] at hk
      · split at hk <;> simp at hk
        rename_i he
        simp at he
        subst he; subst hk
        exact ⟨rfl, fun _ => rfl⟩
      · simp at hk; subst hk; exact ⟨rfl, fun _ => rfl⟩
      · obtain ⟨rfl, h5⟩ := eW hk
        exact ⟨rfl, h5⟩
     obtain ⟨rfl, h4⟩ := this
     refine ⟨rfl, rfl, fun x => ?_⟩
     simp only [Option.some.injEq] at h
     subst h
     simp [h3, h4]
   · cases h
 · cases h
theorem wK [fo A] {n i : Nat} (hi : i < n) {c d : Chunk A} {Cs : List (U Prop)} (h : ym n c d = some Cs) (hC : ∀ C ∈ Cs, C ()) (hc : aQ AI ρ w i c) : aQ AI (ρ.trim n) w i d := by
 have e1 : (ρ.trim n).root i = ρ.root i := by simp [Ev.trim, hi]
 have e2 : (ρ.trim n).ver i = ρ.ver i := by simp [Ev.trim, hi]
 have e3 : (ρ.trim n).foot i = ρ.foot i := by simp [Ev.trim, hi]
 unfold ym at h
 split at h
 · trivial
 · simp only [aQ, e1, e2, e3] at hc ⊢; exact hc
 · split at h <;> (try cases h)
   rename_i hb
   have hb := beq_eq hb
   subst hb
   obtain ⟨b, vs, h1, h2, h3, h4⟩ := hc
   exact ⟨b, vs, e1.trans h1, e3.trans h2, h3, ft h hC h4⟩
 · split at h <;> (try cases h)
   rename_i hb
   obtain ⟨hb1, hb2⟩ := Bool.and_eq_true_iff.1 hb
   have hb1 := beq_eq hb1
   subst hb1
   have hb2 := beq_eq hb2
   subst hb2
   split at h <;> cases h
   rename_i f hf
   obtain ⟨rfl, h1⟩ := dA hf
   have h2 := hC _ (List.mem_cons_self ..)
   rw [h1] at h2
   obtain ⟨h3, h4⟩ := hc
   exact ⟨h3.trans e2.symm, by rw [e1, e3, ← h2]; exact h4⟩
 · split at h <;> (try cases h)
   rename_i f hf
   obtain ⟨rfl, rfl, h1⟩ := vn hf
   have h2 := hC _ (List.mem_cons_self ..)
   rw [h1] at h2
   obtain ⟨b, es, clock, h3, h4, h5, h6⟩ := hc
   exact ⟨b, es, clock, e1.trans h3, e3.trans h4, h5, by rw [← h2]; exact h6⟩
 · split at h <;> (try cases h)
   rename_i hb
   obtain ⟨hb1, hb2⟩ := Bool.and_eq_true_iff.1 hb
   have hb1 := beq_eq hb1
   subst hb1
   have hj : _ < n := leN hb2
   split at h <;> (try cases h)
   rename_i f hf
   obtain ⟨rfl, rfl, h1⟩ := vn hf
   have h2 := hC _ (List.mem_cons_self ..)
   have h2' := hC _ (List.mem_cons_of_mem _ (List.mem_cons_self ..))
   rw [h1] at h2 h2'
   obtain ⟨b, r, h3, h4, h5, h6, es, clock, since, seen, a1, a2, a3, a4, a5, a6, a7⟩ := hc
   refine ⟨b, r, e1.trans h3, by simp only [Ev.trim, if_pos hj]; exact h4, e3.trans h5, h6, es, clock, since, seen, a1, a2, by rw [← h2]; exact a3, a4, a5, by rw [← h2']; exact a6, fun p e => by cases e⟩
 · split at h <;> (try cases h)
   obtain ⟨h1, r, h2⟩ := hc
   exact ⟨e3.trans h1, r, e1.trans h2⟩
 · split at h <;> cases h
   rename_i hb
   simp only [Bool.and_eq_true, ad] at hb
   obtain ⟨⟨⟨rfl, rfl⟩, rfl⟩, rfl⟩ := hb
   have h2 := hC _ (List.mem_cons_self ..)
   obtain ⟨h3, h4⟩ := hc
   exact ⟨h3.trans e2.symm, by rw [e1, e3, ← h2]; exact h4.kn rfl⟩
 · split at h <;> cases h
   rename_i hb
   simp only [Bool.and_eq_true, ad] at hb
   obtain ⟨⟨⟨⟨⟨rfl, rfl⟩, rfl⟩, rfl⟩, rfl⟩, hj⟩ := hb
   have hj : _ < n := leN hj
   have h2 := hC _ (List.mem_cons_self ..)
   have h2' := hC _ (List.mem_cons_of_mem _ (List.mem_cons_self ..))
   obtain ⟨h3, h4⟩ := hc
   exact ⟨h3.trans e2.symm, by rw [e1, e3, ← h2]; exact cc.bt (ρ := ρ) rfl h2' (fun v hv => by simpa only [aK, Ev.trim, if_pos hj] using hv) h4⟩
 · split at h <;> cases h
   rename_i hb
   have hb := beq_eq hb
   subst hb
   have h2 := hC _ (List.mem_cons_self ..)
   have hc : mY _ ρ w _ none (ρ.root i) (ρ.foot i) := hc
   show mY _ (ρ.trim n) w _ none ((ρ.trim n).root i) ((ρ.trim n).foot i)
   rw [e1, e3, ← h2]
   exact hc.kN (fun _ _ _ h => h) (fun _ _ e => by cases e) fun _ _ => rfl
 · split at h <;> cases h
   rename_i C h1
   have := fo.sound _ _ _ h1 (hC C (by simp))
   subst this
   simp only [aQ, e1, e3] at hc ⊢; exact hc
 · cases h
theorem nh [fo A] {n : Nat} : ∀ {l m : List (Chunk A)} {Cs : List (U Prop)}, p4 n l m = some Cs → (∀ C ∈ Cs, C ()) → ∀ (i : Nat) d, m[i]? = some d → ∃ c Ds, l[i]? = some c ∧ ym n c d = some Ds ∧ ∀ C ∈ Ds, C ()
 | _, [], _, _, _, i, d, h => by simp at h
 | c :: l, x :: m, Cs, h, hC, i, d, hi => by
   simp only [p4] at h
   split at h <;> (try cases h)
   rename_i C h1
   split at h <;> cases h
   rename_i Cs h2
   cases i with
   | zero => simp at hi; subst hi; exact ⟨c, C, rfl, h1, fun D hD => hC D (by simp [hD])⟩
   | succ i =>
     obtain ⟨c', Ds, h3, h4, h5⟩ := nh h2 (fun D hD => hC D (by simp [hD])) i d (by simpa using hi)
     exact ⟨c', Ds, by simpa using h3, h4, h5⟩
 | [], _ :: _, _, h, _, _, _, _ => by cases h
theorem Ai [fo A] {t : SS A} {n0 : Nat} (hn0 : G.n0 = n0) {C D : List (U Prop)} (h1 : wJ t.H.length s.tm t.tm = some C) (h2 : p4 t.H.length s.H t.H = some D) (h3 : n0 ≤ t.H.length) (hC : ∀ X ∈ C, X ()) (hD : ∀ X ∈ D, X ()) (hs : Sat AI G s a w) : Sat AI G t a w := by
 obtain ⟨hd, ρ, hh⟩ := hs
 have hfoot : ∀ i b, b ∈ (ρ.trim t.H.length).foot i → b ∈ ρ.foot i := by
  intro i b hb
  simp only [Ev.trim] at hb
  split at hb
  · exact hb
  · cases hb
 refine ⟨hd, ρ.trim t.H.length, ⟨hh.sz, hh.gt, fun k y hk => ?_, fun i => ?_, fun i j b hij hi hj => hh.dis i j b hij (hfoot i b hi) (hfoot j b hj), fun i b hb => hh.lt i b (hfoot i b hb), fun b o v hm => ⟨(hh.im b o v hm).1, fun i hb => (hh.im b o v hm).2 i (hfoot i b hb)⟩,
  hh.os, hh.tape, hh.output, hh.grow, hh.kept, fun i b hb => hh.fro i b (hfoot i b hb), fun i b hi hb => ?_, fun i hi => ?_, hh.mono, hh.mfr⟩⟩
 · obtain ⟨x, Ds, h4, h5, h6⟩ := oz h1 hC k y hk
   obtain ⟨u, h7, h8⟩ := hh.tm k x h4
   exact ⟨u, h7, wI h5 h6 h8⟩
 · by_cases hi : i < t.H.length
   · obtain ⟨c, Ds, h4, h5, h6⟩ := nh h2 hD i _ (List.getElem?_eq_getElem hi)
     have e1 : aC t.H i = t.H[i] := by unfold aC; rw [eY, List.getElem?_eq_getElem hi]
     have e2 : aC s.H i = c := by unfold aC; rw [eY, h4]
     rw [e1]
     exact wK hi h5 h6 (e2 ▸ hh.ch i)
   · rw [bf (by omega)]
     simp [aQ, Ev.trim, hi]
 · have : i < t.H.length := by omega
   simp only [Ev.trim, if_pos this]
   exact hh.rt i b hi hb
 · have : i < t.H.length := by omega
   simp only [Ev.trim, if_pos this]
   exact hh.rts i hi
def Ev.jL (ρ : Ev) (n0 : Nat) : Ev := { ρ with ver := fun i => if i < n0 then ρ.ver i else 0 }
theorem uF : ∀ {H : List (Chunk A)} {i u : Nat}, nth (ir H) i = some (some u) → (∃ t e L, aC H i = .row t e u L) ∨ ∃ t tb z L q, aC H i = .nest t tb z u L q
 | [], i, u, h => by cases h
 | c :: r, 0, u, h => by
   cases c <;> simp [ir, nth] at h
   · subst h
     exact .inl ⟨_, _, _, rfl⟩
   · subst h
     exact .inr ⟨_, _, _, _, _, rfl⟩
 | c :: r, i + 1, u, h => by
   have : nth (ir r) i = some (some u) := by cases c <;> simpa [ir, nth] using h
   rcases uF this with ⟨t, e, L, h1⟩ | ⟨t, tb, z, L, q, h1⟩
   · exact .inl ⟨t, e, L, by simpa [aC, nth] using h1⟩
   · exact .inr ⟨t, tb, z, L, q, by simpa [aC, nth] using h1⟩
theorem gV {n0 : Nat} {H : List (Chunk A)} (hH : ∀ i, aQ AI ρ w i (aC H i)) {x : SV1} {v : Value} (hv : aK ρ x v) : aK (ρ.jL n0) (fu n0 (ir H) x) v := by
 have low : ∀ {i : Nat}, aq i n0 = true → (ρ.jL n0).ver i = ρ.ver i := by
  intro i h
  have : i < n0 := leN h
  simp [Ev.jL, this]
 cases x <;> simp only [fu]
 case hd i ver =>
  split
  · rename_i h
    simp only [aK] at hv ⊢
    rw [low h]; exact hv
  · rename_i h
    have hge : ¬ i < n0 := fun e => by rw [show aq i n0 = true from geN e] at h; cases h
    split
    · rename_i u hu
      split
      · rename_i hb
        have hb := beq_eq hb
        subst hb
        have h2 := hH i
        have h3 : u = ρ.ver i := by
         rcases uF hu with ⟨t, e, L, h1⟩ | ⟨t, tb, z, L, q, h1⟩
         · rw [h1] at h2; exact h2.1
         · rw [h1] at h2; exact h2.1
        obtain ⟨h4, h5, h6⟩ := hv
        exact ⟨h4, by simp, fun _ => h6 h3⟩
      · trivial
    · trivial
 case vw i ver esz lo n =>
  split
  · rename_i h
    simp only [aK] at hv ⊢
    rw [low h]; exact hv
  · trivial
 case ep i ver esz k off =>
  split
  · rename_i h
    simp only [aK] at hv ⊢
    rw [low h]; exact hv
  · trivial
 all_goals exact hv
theorem aL.nI {α β γ : Type} {R : α → β → Prop} {R' : γ → β → Prop} {f : α → γ} {l : List α} {m : List β} (h : aL R l m) (hf : ∀ a b, R a b → R' (f a) b) : aL R' (l.map f) m := by
 induction h with
 | nil => exact .nil
 | cons h _ ih => exact .cons (hf _ _ h) ih
theorem rz {n0 : Nat} {H : List (Chunk A)} (hH : ∀ i, aQ AI ρ w i (aC H i)) {x : SV2} {v : Value} (hv : cM ρ x v) : cM (ρ.jL n0) (pa n0 (ir H) x) v := by
 cases x with
 | one x => exact gV hH hv
 | agg l => obtain ⟨vs, h1, h2⟩ := hv; exact ⟨vs, h1, h2.nI fun _ _ => gV hH⟩
 | fn f l => obtain ⟨vs, h1, h2⟩ := hv; exact ⟨vs, h1, h2.nI fun _ _ => gV hH⟩
theorem zb {n0 : Nat} {H : List (Chunk A)} (hH : ∀ i, aQ AI ρ w i (aC H i)) {x : SV} {v : Value} (hv : Den ρ x v) : Den (ρ.jL n0) (rv n0 (ir H) x) v := by
 cases x with
 | val x => exact rz hH hv
 | tup l => obtain ⟨vs, h1, h2⟩ := hv; exact ⟨vs, h1, h2.nI fun _ _ => rz hH⟩
theorem pX {n0 : Nat} {vs : List (Option Nat)} : ∀ {tm : List (Nat × SV)} {t : Nat} {v : SV}, look (nx n0 vs tm) t = some v → ∃ u, look tm t = some u ∧ v = rv n0 vs u
 | [], t, v, h => by cases h
 | (k, x) :: r, t, v, h => by
   simp only [nx] at h
   rw [ax] at h
   split at h
   · rename_i e; cases h; exact ⟨x, by rw [ax, if_pos e], rfl⟩
   · rename_i e
     obtain ⟨u, h1, h2⟩ := pX h
     exact ⟨u, by rw [ax, if_neg e]; exact h1, h2⟩
theorem pY {n0 : Nat} {vs : List (Option Nat)} : ∀ {H : List (Chunk A)} {k i : Nat}, aC (iF n0 vs k H) i = pZ n0 vs (k + i) (aC H i)
 | [], k, i => rfl
 | c :: r, k, 0 => rfl
 | c :: r, k, i + 1 => by
   have := pY (n0 := n0) (vs := vs) (H := r) (k := k + 1) (i := i)
   simp only [aC, iF, nth] at this ⊢
   rw [this, show k + 1 + i = k + (i + 1) by omega]
theorem iE {n0 : Nat} (hn0 : G.n0 = n0) (hs : Sat AI G s a w) : Sat AI G (norm n0 s) a w := by
 obtain ⟨hd, ρ, hh⟩ := hs
 refine ⟨hd, ρ.jL n0, ⟨hh.sz, hh.gt, fun t v ht => ?_, fun i => ?_, hh.dis, hh.lt, hh.im, hh.os, hh.tape, hh.output, hh.grow, hh.kept, hh.fro, hh.rt, fun i hi => ?_, hh.mono, hh.mfr⟩⟩
 · obtain ⟨u, h1, rfl⟩ := pX ht
   obtain ⟨x, h2, h3⟩ := hh.tm t u h1
   exact ⟨x, h2, zb hh.ch h3⟩
 · show aQ AI (ρ.jL n0) w i (aC (iF n0 (ir s.H) 0 s.H) i)
   rw [pY, Nat.zero_add]
   have hc := hh.ch i
   cases hg : aC s.H i with
   | emp =>
     rw [hg] at hc
     obtain ⟨h1, h2, h3⟩ := hc
     exact ⟨h1, h2, by simp [Ev.jL, h3]⟩
   | gone => trivial
   | cells t cs =>
     rw [hg] at hc
     obtain ⟨b, vs, h1, h2, h3, h4⟩ := hc
     exact ⟨b, vs, h1, h2, h3, h4.nI fun _ _ => gV hh.ch⟩
   | map ks e L => rw [hg] at hc; exact hc
   | rmap ks e L R c j => rw [hg] at hc; exact hc
   | itp q => rw [hg] at hc; exact hc
   | row t e v L =>
     rw [hg] at hc
     obtain ⟨h1, h2⟩ := hc
     simp only [pZ]
     split
     · rename_i h
       have : i < n0 := leN h
       exact ⟨by simp [Ev.jL, this]; exact h1, h2⟩
     · rename_i h
       have hge : ¬ i < n0 := fun e => by rw [show aq i n0 = true from geN e] at h; cases h
       exact ⟨by simp [Ev.jL, hge], h2⟩
   | mnest tb L q =>
     rw [hg] at hc
     cases q with
     | some q => trivial
     | none =>
       have hc : mY tb ρ w (L ()) none (ρ.root i) (ρ.foot i) := hc
       exact hc.kN (ρ' := ρ.jL n0) (fun _ _ _ h => h) (fun _ _ e => by cases e) fun _ _ => rfl
   | nest t tb z v L q =>
     rw [hg] at hc
     cases q with
     | some q =>
       obtain ⟨k, j⟩ := q
       obtain ⟨h1, h2⟩ := hc
       simp only [pZ]
       split
       · rename_i i' u' hj
         have hden : ∀ v, aK ρ (.hd j 0) v → aK (ρ.jL n0) (.hd j 0) v := by
          intro v hv
          have h3 := gV (n0 := n0) hh.ch hv
          have e : fu n0 (ir s.H) (.hd j 0) = .hd j 0 := by
           simp only [fu] at hj ⊢
           repeat' (split at hj)
           all_goals first | rfl | cases hj
          rwa [e] at h3
         split
         · rename_i h
           have : i < n0 := leN h
           exact ⟨by simp [Ev.jL, this]; exact h1, cc.bt (ρ := ρ) rfl rfl hden h2⟩
         · rename_i h
           have hge : ¬ i < n0 := fun e => by rw [show aq i n0 = true from geN e] at h; cases h
           exact ⟨by simp [Ev.jL, hge], cc.bt (ρ := ρ) rfl rfl hden h2⟩
       · trivial
     | none =>
       obtain ⟨h1, h2⟩ := hc
       simp only [pZ]
       split
       · rename_i h
         have : i < n0 := leN h
         exact ⟨by simp [Ev.jL, this]; exact h1, h2.kn rfl⟩
       · rename_i h
         have hge : ¬ i < n0 := fun e => by rw [show aq i n0 = true from geN e] at h; cases h
         exact ⟨by simp [Ev.jL, hge], h2.kn rfl⟩
   | abs x => rw [hg] at hc; exact hc
 · have : i < n0 := by omega
   simp only [Ev.jL, if_pos this]
   exact hh.rts i hi
theorem vL {ρ' : Ev} {f : SV1 → SV1} (hf : ∀ x v, aK ρ x v → aK ρ' (f x) v) {x : SV2} {v : Value} (hv : cM ρ x v) : cM ρ' (BX f x) v := by
 cases x with
 | one x => exact hf _ _ hv
 | agg l => obtain ⟨vs, h1, h2⟩ := hv; exact ⟨vs, h1, h2.nI hf⟩
 | fn f l => obtain ⟨vs, h1, h2⟩ := hv; exact ⟨vs, h1, h2.nI hf⟩
theorem gY {ρ' : Ev} {f : SV1 → SV1} (hf : ∀ x v, aK ρ x v → aK ρ' (f x) v) {x : SV} {v : Value} (hv : Den ρ x v) : Den ρ' (lX f x) v := by
 cases x with
 | val x => exact vL hf hv
 | tup l => obtain ⟨vs, h1, h2⟩ := hv; exact ⟨vs, h1, h2.nI fun _ _ => vL hf⟩
theorem ji {f : SV1 → SV1} : ∀ {tm : List (Nat × SV)} {t : Nat} {v : SV}, look (vK f tm) t = some v → ∃ u, look tm t = some u ∧ v = lX f u
 | [], t, v, h => by cases h
 | (k, x) :: r, t, v, h => by
   simp only [vK] at h
   rw [ax] at h
   split at h
   · rename_i e; cases h; exact ⟨x, by rw [ax, if_pos e], rfl⟩
   · rename_i e
     obtain ⟨u, h1, h2⟩ := ji h
     exact ⟨u, by rw [ax, if_neg e]; exact h1, h2⟩
theorem sC {n : Nat} {H0 : List (Chunk A)} : ∀ {H : List (Chunk A)} {k i : Nat}, aC (qK n H0 k H) i = oP n H0 (k + i) (aC H i)
 | [], k, i => rfl
 | c :: r, k, 0 => rfl
 | c :: r, k, i + 1 => by
   have := sC (n := n) (H0 := H0) (H := r) (k := k + 1) (i := i)
   simp only [aC, qK, nth] at this ⊢
   rw [this, show k + 1 + i = k + (i + 1) by omega]
theorem pD {M : Mem} {e : Ty} {L : List e.T} {r : Value} (h : ba M e L r) {lo n : Int} {v : Value} (hv : VwAt r e.size lo n v) : ba M e ((L.drop lo.toNat).take n.toNat) v := by
 obtain ⟨ao, cap, rfl, h1, h2⟩ := h
 obtain ⟨ao', len, cap', h3, h4, h5, h6, h7, rfl⟩ := hv
 cases h3
 have hlen : ((L.drop lo.toNat).take n.toNat).length = n.toNat := by rw [List.length_take, List.length_drop]; omega
 refine ⟨_, _, by rw [hlen], by rw [hlen]; omega, fun hpos => ?_⟩
 rw [hlen] at hpos
 obtain ⟨b, off, rfl, h8⟩ := h2 (by omega)
 rw [if_neg (by omega)]
 refine ⟨b, off + lo.toNat * e.size, by simp [add_lit], fun j x hj => ?_⟩
 rw [List.getElem?_take] at hj
 split at hj
 · rw [List.getElem?_drop] at hj
   refine aI.congr e (h8 _ x hj) fun k v _ hv => ?_
   rw [← hv]
   congr 1
   rw [Nat.add_mul]; omega
 · cases hj
theorem s4 {tb : TypeId} {z : Nat} {L : List (List Int)} {r : Value} {F : List Nat} {M' : Mem} (hn : cc tb z ρ w L none r F) (hM : ∀ b o v, ρ.M b o = some v → M' b o = some v) (hF : ∀ b ∈ F, ∀ o, M' b o = w.cell? ⟨b, o, none⟩) :
 ∃ b off n cap, r = .slice (some ⟨b, off, none⟩) n cap ∧ L.length = n * z ∧ n ≤ cap ∧ ∀ m x, L[m]? = some x → ∃ v, M' b (off + m) = some v ∧ ba M' (.int .i64) x v := by
 obtain ⟨b, off, n, cap, h1, h2, h3, h4, ⟨blk, b1, b2, b3, b4⟩, h6, h7⟩ := hn
 refine ⟨b, off, n, cap, h1, h2, h3, fun m x hm => ?_⟩
 obtain ⟨v, c1, hr⟩ := b4 m x hm
 refine ⟨v, (hF b ((b1 b).2 (.inl rfl)) _).trans c1, lI hr hM fun y hy o => hF y ((b1 y).2 (.inr ⟨m, (List.getElem?_eq_some_iff.1 hm).1, hy⟩)) o⟩
theorem vF {tb : TypeId} {L : List (List Int)} {r : Value} {F : List Nat} {M' : Mem} (hn : cc tb 1 ρ w L none r F) (hM : ∀ b o v, ρ.M b o = some v → M' b o = some v) (hF : ∀ b ∈ F, ∀ o, M' b o = w.cell? ⟨b, o, none⟩) : ba M' (.lst (.int .i64)) L r := by
 obtain ⟨b, off, n, cap, h1, h2, h3, h4⟩ := s4 hn hM hF
 refine ⟨some ⟨b, off, none⟩, cap, by rw [h1, h2, Nat.mul_one], by omega, fun _ => ⟨b, off, rfl, fun j x hj => ?_⟩⟩
 obtain ⟨v, e1, e2⟩ := h4 j x hj
 refine bn.2 ⟨v, ?_, e2⟩
 show M' b (off + j * 1 + 0) = some v
 rw [Nat.mul_one, Nat.add_zero]; exact e1
theorem kA {α : Type} : ∀ {L : List α} {n : Nat}, L.length = n * 2 → (pairUp L).length = n
 | [], n, h => by simp at h; simp [pairUp]; omega
 | [a], n, h => by simp at h; omega
 | a :: b :: r, n, h => by
   simp only [List.length_cons] at h
   simp only [pairUp, List.length_cons]
   have := kA (L := r) (n := n - 1) (by omega)
   omega
theorem pP {α : Type} : ∀ {L : List α} {j : Nat} {x : α × α}, (pairUp L)[j]? = some x → L[j * 2]? = some x.1 ∧ L[j * 2 + 1]? = some x.2
 | [], j, x, h => by simp [pairUp] at h
 | [a], j, x, h => by simp [pairUp] at h
 | a :: b :: r, 0, x, h => by simp [pairUp] at h; subst h; exact ⟨rfl, rfl⟩
 | a :: b :: r, j + 1, x, h => by
   simp only [pairUp, List.getElem?_cons_succ] at h
   have := pP (L := r) h
   rw [show (j + 1) * 2 = j * 2 + 1 + 1 by omega]
   simpa using this
theorem vE {tb : TypeId} {L : List (List Int)} {r : Value} {F : List Nat} {M' : Mem} (hn : cc tb 2 ρ w L none r F) (hM : ∀ b o v, ρ.M b o = some v → M' b o = some v) (hF : ∀ b ∈ F, ∀ o, M' b o = w.cell? ⟨b, o, none⟩) : ba M' (.pair (.lst (.int .i64)) (.lst (.int .i64))) (pairUp L) r := by
 obtain ⟨b, off, n, cap, h1, h2, h3, h4⟩ := s4 hn hM hF
 have hl : (pairUp L).length = n := kA h2
 refine ⟨some ⟨b, off, none⟩, cap, by rw [h1, hl], by omega, fun _ => ⟨b, off, rfl, fun j x hj => ?_⟩⟩
 obtain ⟨g1, g2⟩ := pP hj
 obtain ⟨v1, e1, e2⟩ := h4 _ _ g1
 obtain ⟨v2, e3, e4⟩ := h4 _ _ g2
 refine ⟨bn.2 ⟨v1, ?_, e2⟩, bn.2 ⟨v2, ?_, e4⟩⟩
 · show M' b (off + j * 2 + 0) = some v1
   rw [Nat.add_zero]; exact e1
 · show M' b (off + j * 2 + (1 + 0)) = some v2
   rw [Nat.add_zero, Nat.add_assoc]; exact e3
theorem zx (n : Nat) (hs : Sat AI G s a w) : Sat AI G (frz n s) a w := by
 obtain ⟨hd, ρ, hh⟩ := hs
 let S : Nat → Prop := fun i => n ≤ i ∧ isRow (aC s.H i) = true
 have hM : ∀ b o v, ρ.M b o = some v → (ρ.froze S w).M b o = some v := by
  intro b o v h
  simp only [Ev.froze]
  rw [if_neg]
  · exact h
  · rintro ⟨i, _, hi⟩; exact (hh.im b o v h).2 i hi
 have le : ρ.Le (ρ.froze S w) := ⟨hM, fun _ _ h => h, fun _ => Nat.le_refl _, fun _ _ _ => rfl⟩
 have hfoot : ∀ i b, b ∈ (ρ.froze S w).foot i → ¬ S i ∧ b ∈ ρ.foot i := by
  intro i b hb
  simp only [Ev.froze] at hb
  split at hb
  · cases hb
  · rename_i hn; exact ⟨hn, hb⟩
 have hval : ∀ x v, aK ρ x v → aK (ρ.froze S w) (zy n s.H x) v := by
  intro x v hv
  cases x <;> simp only [zy]
  case hd i ver =>
   split
   · exact aK.mono le hv
   · rename_i hb
     have hge : n ≤ i := by
      rcases Nat.lt_or_ge i n with h | h
      · rw [show aq i n = true from geN h] at hb; cases hb
      · exact h
     have hc := hh.ch i
     generalize hg : aC s.H i = c at hc
     cases c <;> (try trivial)
     · rename_i t e u L
       dsimp only
       split
       · rename_i hbu
         have hbu := beq_eq hbu
         subst hbu
         obtain ⟨h1, h2⟩ := hc
         obtain ⟨_, _, h3⟩ := hv
         rw [h3 h1]
         exact db hh (S := S) ⟨hge, by rw [hg]; rfl⟩ h2 hM
       · trivial
     · rename_i t tb z u L q
       cases q <;> (try trivial)
       dsimp only
       split
       · rename_i hbu
         have hbu := beq_eq hbu
         subst hbu
         obtain ⟨h1, h2⟩ := hc
         obtain ⟨_, _, h3⟩ := hv
         have hF : ∀ b ∈ ρ.foot i, ∀ o, (ρ.froze S w).M b o = w.cell? ⟨b, o, none⟩ := fun b hb o => by
          simp only [Ev.froze]
          rw [if_pos ⟨i, ⟨hge, by rw [hg]; rfl⟩, hb⟩]
         rw [h3 h1]
         split
         · rename_i hz
           have hz := beq_eq hz
           subst hz
           exact vF h2 hM hF
         · split
           · rename_i hz
             have hz := beq_eq hz
             subst hz
             exact vE h2 hM hF
           · trivial
       · trivial
  case vw i ver esz lo k =>
   split
   · exact aK.mono le hv
   · rename_i hb
     have hge : n ≤ i := by
      rcases Nat.lt_or_ge i n with h | h
      · rw [show aq i n = true from geN h] at hb; cases hb
      · exact h
     have hc := hh.ch i
     generalize hg : aC s.H i = c at hc
     cases c <;> (try trivial)
     rename_i t e u L
     dsimp only
     split
     · rename_i hbu
       obtain ⟨hbu, hbz⟩ := Bool.and_eq_true_iff.1 hbu
       have hbu := beq_eq hbu
       have hbz := beq_eq hbz
       subst hbu; subst hbz
       obtain ⟨h1, h2⟩ := hc
       obtain ⟨_, _, _, h3⟩ := hv
       exact pD (db hh (S := S) ⟨hge, by rw [hg]; rfl⟩ h2 hM) (h3 h1)
     · trivial
  all_goals exact aK.mono le hv
 refine ⟨hd, ρ.froze S w, ⟨hh.sz, hh.gt, fun t v ht => ?_, fun i => ?_, fun i j b hij hi hj => hh.dis i j b hij (hfoot i b hi).2 (hfoot j b hj).2, fun i b hb => hh.lt i b (hfoot i b hb).2, fun b o v hm => ?_, hh.os, hh.tape, hh.output, hh.grow, hh.kept,
  fun i b hb => hh.fro i b (hfoot i b hb).2, hh.rt, hh.rts, fun b o v hm => hM _ _ _ (hh.mono b o v hm), fun b o v hm => ?_⟩⟩
 · obtain ⟨u, h1, rfl⟩ := ji ht
   obtain ⟨x, h2, h3⟩ := hh.tm t u h1
   exact ⟨x, h2, gY hval h3⟩
 · show aQ AI (ρ.froze S w) w i (aC (qK n s.H 0 s.H) i)
   rw [sC, Nat.zero_add]
   have hc := hh.ch i
   have same : ¬ S i → aQ AI (ρ.froze S w) w i (aC s.H i) := fun hn => hc.stays le rfl rfl (by simp only [Ev.froze]; rw [if_neg hn]) fun _ _ => rfl
   cases hg : aC s.H i with
   | cells t cs =>
     rw [hg] at hc
     obtain ⟨b, vs, h1, h2, h3, h4⟩ := hc
     exact ⟨b, vs, h1, by simp only [Ev.froze]; rw [if_neg (fun h => by have := h.2; rw [hg] at this; cases this)]; exact h2, h3, h4.nI hval⟩
   | row t e v L =>
     simp only [oP]
     split
     · rename_i hb
       have : i < n := leN hb
       rw [← hg]; exact same fun h => absurd h.1 (by omega)
     · trivial
   | emp => simp only [oP]; rw [← hg]; exact same fun h => by have := h.2; rw [hg] at this; cases this
   | gone => trivial
   | map ks e L => simp only [oP]; rw [← hg]; exact same fun h => by have := h.2; rw [hg] at this; cases this
   | rmap ks e L R c j => simp only [oP]; rw [← hg]; exact same fun h => by have := h.2; rw [hg] at this; cases this
   | itp q => simp only [oP]; rw [← hg]; exact same fun h => by have := h.2; rw [hg] at this; cases this
   | nest t tb z v L q =>
     simp only [oP]
     split
     · rename_i hb
       have : i < n := leN hb
       rw [← hg]; exact same fun h => absurd h.1 (by omega)
     · trivial
   | mnest tb L q => simp only [oP]; rw [← hg]; exact same fun h => by have := h.2; rw [hg] at this; cases this
   | abs x => simp only [oP]; rw [← hg]; exact same fun h => by have := h.2; rw [hg] at this; cases this
 · simp only [Ev.froze] at hm
   split at hm
   · rename_i hex
     obtain ⟨k, hk, hbk⟩ := hex
     refine ⟨hm, fun i hb => ?_⟩
     obtain ⟨h1, h2⟩ := hfoot i b hb
     exact hh.dis i k b (fun e => h1 (e ▸ hk)) h2 hbk
   · exact ⟨(hh.im b o v hm).1, fun i hb => (hh.im b o v hm).2 i (hfoot i b hb).2⟩
 · simp only [Ev.froze] at hm
   split at hm
   · rename_i hex
     obtain ⟨k, hk, hbk⟩ := hex
     exact .inr (hh.fro k b hbk)
   · exact hh.mfr b o v hm
theorem Holds.BR {tmps : Array Value} (h : Holds AI G s ρ tmps w) {k : Nat} (hk : aC s.H k = .emp) (rt : TypeId) (e : Ty) :
 ∃ ρ', Holds AI G ⟨s.tm, bX s.H k (.row rt e 0 (fun _ => []))⟩ ρ' tmps w ∧ ρ.Le ρ' ∧ aK ρ' (.hd k 0) (.slice none 0 0) := by
 have hc := h.ch k
 rw [hk] at hc
 obtain ⟨h1, h2, h3⟩ := hc
 obtain ⟨h4, h5⟩ := h.dx k (.slice none 0 0) 0 [] (.row rt e 0 (fun _ => [])) w (by rw [h2]; simp) (by omega) (by rw [h2]; simp) (by simp) (fun _ _ _ => rfl) rfl rfl rfl (Nat.le_refl _)
  ⟨by simp [Ev.upd], .inl ⟨⟨none, by simp [Ev.upd]⟩, rfl, by simp [Ev.upd]⟩⟩
 exact ⟨_, h4, h5, ⟨⟨_, _, _, rfl⟩, by simp [Ev.upd], fun _ => by simp [Ev.upd]⟩⟩
theorem eI {H' : List (Chunk A)} : ∀ {l : List (Nat × SV)} {s : SS A}, Sat AI G s a w → Sat AI G (rM H' l s) a w
 | [], s, hs => hs
 | (t, y) :: r, s, hs => by
   simp only [rM]
   split
   · rename_i k
     split
     · rename_i ht
       split
       · rename_i hk
         split
         · rename_i rt e _ _
           refine eI ?_
           obtain ⟨hd, ρ, hh⟩ := hs
           obtain ⟨ρ', h1, h2, h3⟩ := hh.BR hk rt e
           refine ⟨hd, ρ', h1.retm fun q v hq => ?_⟩
           rw [ax] at hq
           split at hq
           · rename_i e; subst e; cases hq
             obtain ⟨u, h4, h5⟩ := hh.tm t _ ht
             have h5 : u = .slice none 0 0 := h5
             subst h5
             exact ⟨_, h4, h3⟩
           · exact h1.tm q v hq
         · exact eI hs
       · exact eI hs
     · exact eI hs
   · exact eI hs
theorem aL.iy {ρ : Ev} {l : List SV1} {vs : List Value} (h : aL (aK ρ) l vs) {y : SV1} : ∀ {j : Nat}, (∀ v, vs[j]? = some v → aK ρ y v) → aL (aK ρ) (Sx.iy l j y) vs := by
 induction h with
 | nil => intro j _; cases j <;> exact .nil
 | cons h1 h2 ih =>
   intro j hy
   cases j with
   | zero => exact .cons (hy _ rfl) h2
   | succ j => exact .cons h1 (ih fun v hv => hy v (by simpa using hv))
theorem dZ {H' : List (Chunk A)} {c : Nat} : ∀ {l : List SV1} {j : Nat} {s : SS A}, Sat AI G s a w → Sat AI G (qq H' c j l s) a w
 | [], j, s, hs => hs
 | y :: r, j, s, hs => by
   simp only [qq]
   split
   · rename_i k
     split
     · rename_i ct l hc
       split
       · rename_i hn
         split
         · rename_i hk
           split
           · rename_i rt e _ _
             refine dZ ?_
             obtain ⟨hd, ρ, hh⟩ := hs
             obtain ⟨ρ', h1, h2, h3⟩ := hh.BR hk rt e
             have hne : c ≠ k := fun e => by rw [e, hk] at hc; cases hc
             have h4 := h1.ch c
             dsimp only at h4
             rw [aP, if_neg hne, hc] at h4
             obtain ⟨b, vs, h5, h6, h7, h8⟩ := h4
             have h9 := hh.ch c
             rw [hc] at h9
             obtain ⟨b', vs', h5', h6', h7', h8'⟩ := h9
             have : vs' = vs := by
              have hb : b' = b := by have := h2.ptr c b' h5'; rw [h5] at this; cases this; rfl
              subst hb
              rw [h7] at h7'
              simpa using (Option.some.inj h7').symm
             subst this
             obtain ⟨u, h10, h11⟩ := h8'.nth hn
             have h11 : u = .slice none 0 0 := h11
             subst h11
             refine ⟨hd, ρ', ?_⟩
             have h12 : aL (aK ρ') (Sx.iy l j (.hd k 0)) vs' := h8.iy fun v hv => by rw [h10] at hv; cases hv; exact h3
             refine ⟨h1.sz, h1.gt, h1.tm, fun q => ?_, h1.dis, h1.lt, h1.im, h1.os, h1.tape, h1.output, h1.grow, h1.kept, h1.fro, h1.rt, h1.rts, h1.mono, h1.mfr⟩
             show aQ AI ρ' w q (aC (bX (bX s.H k _) c _) q)
             rw [aP]
             split
             · rename_i e; subst e; exact ⟨b, vs', h5, h6, h7, h12⟩
             · exact h1.ch q
           · exact dZ hs
         · exact dZ hs
       · exact dZ hs
     · exact dZ hs
   · exact dZ hs
theorem kx {H' : List (Chunk A)} : ∀ {l : List (Chunk A)} {c : Nat} {s : SS A}, Sat AI G s a w → Sat AI G (xU H' c l s) a w
 | [], c, s, hs => hs
 | d :: r, c, s, hs => by
   simp only [xU]
   split
   · exact kx (dZ hs)
   · exact kx hs
theorem uC {t : SS A} (hs : Sat AI G s a w) : Sat AI G (qp t s) a w := kx (eI hs)
theorem xc : ∀ {H H' : List (Chunk A)} {i : Nat}, aC (unr H H') i = ye (aC H i) (aC H' i) ∨ aC (unr H H') i = aC H i
 | [], [], i => .inr rfl
 | c :: r, [], i => .inr rfl
 | [], d :: m, i => .inr rfl
 | c :: r, d :: m, 0 => .inl rfl
 | c :: r, d :: m, i + 1 => xc (H := r) (H' := m) (i := i)
theorem unrC_or (c d : Chunk A) : ye c d = c ∨ ∃ ks e L R p j, c = .rmap ks e L R p j ∧ ye c d = .map ks e L := by
 cases c <;> try exact .inl rfl
 cases d <;> try exact .inl rfl
 exact .inr ⟨_, _, _, _, _, _, rfl, rfl⟩
open Classical in
theorem yc {H' : List (Chunk A)} (hs : Sat AI G s a w) : Sat AI G ⟨s.tm, unr s.H H'⟩ a w := by
 obtain ⟨hd, ρ, hh⟩ := hs
 let S : Nat → Prop := fun i => ∃ ks e L R p j, aC s.H i = .rmap ks e L R p j ∧ aC (unr s.H H') i = .map ks e L
 let ρ' : Ev := { root := ρ.root, ver := ρ.ver, M := ρ.M, foot := fun i => if S i then (ρ.foot i).take 1 else ρ.foot i }
 have le : ρ.Le ρ' := ⟨fun _ _ _ h => h, fun _ _ h => h, fun _ => Nat.le_refl _, fun _ _ _ => rfl⟩
 have hfoot : ∀ i b, b ∈ ρ'.foot i → b ∈ ρ.foot i := by
  intro i b hb
  simp only [ρ'] at hb
  split at hb
  · exact List.mem_of_mem_take hb
  · exact hb
 refine ⟨hd, ρ', ⟨hh.sz, hh.gt, fun t v ht => ?_, fun i => ?_, fun i j b hij hi hj => hh.dis i j b hij (hfoot i b hi) (hfoot j b hj), fun i b hb => hh.lt i b (hfoot i b hb), fun b o v hm => ⟨(hh.im b o v hm).1, fun i hb => (hh.im b o v hm).2 i (hfoot i b hb)⟩, hh.os, hh.tape, hh.output, hh.grow, hh.kept,
  fun i b hb => hh.fro i b (hfoot i b hb), hh.rt, hh.rts, hh.mono, hh.mfr⟩⟩
 · obtain ⟨u, h1, h2⟩ := hh.tm t v ht; exact ⟨u, h1, h2.mono le⟩
 · show aQ AI ρ' w i (aC (unr s.H H') i)
   by_cases hS : S i
   · obtain ⟨ks, e, L, R, p, j, h1, h2⟩ := id hS
     rw [h2]
     have hc := hh.ch i
     rw [h1] at hc
     obtain ⟨b, r, h3, h4, h5, h6, es, clock, since, seen, a1, a2, a3, a4, a5, a6, a7⟩ := hc
     refine ⟨b, es, clock, h3, ?_, a1, a3⟩
     simp only [ρ', if_pos hS, h5]
     rfl
   · have hsame : aC (unr s.H H') i = aC s.H i := by
      rcases xc (H := s.H) (H' := H') (i := i) with h1 | h1
      · rcases unrC_or (aC s.H i) (aC H' i) with h2 | ⟨ks, e, L, R, p, j, h2, h3⟩
        · rw [h1, h2]
        · exact absurd ⟨ks, e, L, R, p, j, h2, by rw [h1, h3]⟩ hS
      · exact h1
     rw [hsame]
     exact (hh.ch i).stays le rfl rfl (by simp only [ρ', if_neg hS]) fun _ _ => rfl
theorem aL.of_get {α β : Type} {R R' : α → β → Prop} {l : List α} {m : List β} (h : aL R l m) (hr : ∀ (n : Nat) a b, l[n]? = some a → m[n]? = some b → R a b → R' a b) : aL R' l m := by
 induction h with
 | nil => exact .nil
 | cons h1 _ ih => exact .cons (hr 0 _ _ rfl rfl h1) (ih fun n a b ha hb => hr (n + 1) a b (by simpa using ha) (by simpa using hb))
theorem xd : ∀ {H H' : List (Chunk A)} {i : Nat}, aC (unm H H') i = unmC (aC H i) (aC H' i) ∨ aC (unm H H') i = aC H i
 | [], [], i => .inr rfl
 | c :: r, [], i => .inr rfl
 | [], d :: m, i => .inr rfl
 | c :: r, d :: m, 0 => .inl rfl
 | c :: r, d :: m, i + 1 => xd (H := r) (H' := m) (i := i)
theorem unmC_or (c d : Chunk A) : unmC c d = c ∨ ∃ tb L, c = .mnest tb L none ∧ unmC c d = .map (.int .i64) (.lst (.int .i64)) L := by
 cases c <;> try exact .inl rfl
 rename_i tb L q
 cases q <;> try exact .inl rfl
 cases d <;> try exact .inl rfl
 exact .inr ⟨_, _, rfl, rfl⟩
def xr (v : Value) : Nat := match v with
 | .pointer (some a) => a.block
 | _ => 0
open Classical in
theorem yf {H' : List (Chunk A)} (hs : Sat AI G s a w) : Sat AI G ⟨s.tm, unm s.H H'⟩ a w := by
 obtain ⟨hd, ρ, hh⟩ := hs
 let S : Nat → Prop := fun i => ∃ tb L, aC s.H i = .mnest tb L none ∧ aC (unm s.H H') i = .map (.int .i64) (.lst (.int .i64)) L
 let ρ' : Ev := { root := ρ.root, ver := ρ.ver, M := fun b o => if ∃ i, S i ∧ b ∈ ρ.foot i ∧ b ≠ xr (ρ.root i) then w.cell? ⟨b, o, none⟩ else ρ.M b o, foot := fun i => if S i then [xr (ρ.root i)] else ρ.foot i }
 have hS : ∀ i, S i → ∃ tb L, aC s.H i = .mnest tb L none ∧ mY tb ρ w (L ()) none (ρ.root i) (ρ.foot i) := by
  rintro i ⟨tb, L, h1, h2⟩
  have hc := hh.ch i
  rw [h1] at hc
  exact ⟨tb, L, h1, hc⟩
 have hroot : ∀ i, S i → xr (ρ.root i) ∈ ρ.foot i := by
  intro i hi
  obtain ⟨tb, L, _, b, es, clock, h1, _, _, _, _, h6⟩ := hS i hi
  rw [h1]
  exact bR.own h6
 have hM : ∀ b o v, ρ.M b o = some v → ρ'.M b o = some v := by
  intro b o v h
  simp only [ρ']
  rw [if_neg]
  · exact h
  · rintro ⟨i, _, hi, _⟩; exact (hh.im b o v h).2 i hi
 have le : ρ.Le ρ' := ⟨hM, fun _ _ h => h, fun _ => Nat.le_refl _, fun _ _ _ => rfl⟩
 have hfoot : ∀ i b, b ∈ ρ'.foot i → b ∈ ρ.foot i := by
  intro i b hb
  simp only [ρ'] at hb
  split at hb
  · rename_i hi
    obtain rfl := List.mem_singleton.1 hb
    exact hroot i hi
  · exact hb
 refine ⟨hd, ρ', ⟨hh.sz, hh.gt, fun t v ht => ?_, fun i => ?_, fun i j b hij hi hj => hh.dis i j b hij (hfoot i b hi) (hfoot j b hj), fun i b hb => hh.lt i b (hfoot i b hb), fun b o v hm => ?_, hh.os, hh.tape, hh.output, hh.grow, hh.kept,
  fun i b hb => hh.fro i b (hfoot i b hb), hh.rt, hh.rts, fun b o v hm => hM _ _ _ (hh.mono b o v hm), fun b o v hm => ?_⟩⟩
 · obtain ⟨u, h1, h2⟩ := hh.tm t v ht; exact ⟨u, h1, h2.mono le⟩
 · show aQ AI ρ' w i (aC (unm s.H H') i)
   by_cases hi : S i
   · obtain ⟨tb, L, h1, h2⟩ := id hi
     rw [h2]
     have hc := hh.ch i
     rw [h1] at hc
     obtain ⟨b, es, clock, r1, r2, r3, r4, r5, r6⟩ := hc
     have hb : xr (ρ.root i) = b := by rw [r1]; rfl
     refine ⟨b, es, clock, r1, by simp only [ρ', if_pos hi, hb], r2, ?_, r4, r5⟩
     obtain ⟨blk, b1, b2, b3, b4⟩ : bR tb ρ w ((L ()).map (·.2)) none b (ρ.foot i) (fun m => es[m]?.map (·.val)) := r6
     refine r3.of_get fun n p m hp hm hk => ⟨hk, trivial, ?_⟩
     have hn : ((L ()).map (·.2))[n]? = some p.2 := by rw [List.getElem?_map, hp]; rfl
     have hlt := (List.getElem?_eq_some_iff.1 hn).1
     obtain ⟨v, c1, hr⟩ := b4 n p.2 hn
     have hm2 : es[n]? = some m := by simpa using hm
     have e1 : v = m.val := by
      have c1 : es[n]?.map (·.val) = some v := c1
      rw [hm2] at c1; exact (Option.some.inj c1).symm
     subst e1
     refine ⟨[m.val], rfl, bn.2 ⟨m.val, rfl, lI hr hM fun y hy o => ?_⟩, rfl⟩
     simp only [ρ']
     rw [if_pos ⟨i, hi, (b1 y).2 (.inr ⟨n, hlt, hy⟩), by rw [hb]; exact fun e => b2 n hlt (e ▸ hy)⟩]
   · have hsame : aC (unm s.H H') i = aC s.H i := by
      rcases xd (H := s.H) (H' := H') (i := i) with h1 | h1
      · rcases unmC_or (aC s.H i) (aC H' i) with h2 | ⟨tb, L, h2, h3⟩
        · rw [h1, h2]
        · exact absurd ⟨tb, L, h2, by rw [h1, h3]⟩ hi
      · exact h1
     rw [hsame]
     exact (hh.ch i).stays le rfl rfl (by simp only [ρ', if_neg hi]) fun _ _ => rfl
 · simp only [ρ'] at hm
   split at hm
   · rename_i hex
     obtain ⟨k, hk, hbk, hne⟩ := hex
     refine ⟨hm, fun i hb => ?_⟩
     simp only [ρ'] at hb
     split at hb
     · rename_i hi
       obtain rfl := List.mem_singleton.1 hb
       by_cases e : i = k
       · subst e; exact hne rfl
       · exact hh.dis i k _ e (hroot i hi) hbk
     · rename_i hi
       exact hh.dis i k b (fun e => hi (e ▸ hk)) hb hbk
   · exact ⟨(hh.im b o v hm).1, fun i hb => (hh.im b o v hm).2 i (hfoot i b hb)⟩
 · simp only [ρ'] at hm
   split at hm
   · rename_i hex
     obtain ⟨k, hk, hbk, _⟩ := hex
     exact .inr (hh.fro k b hbk)
   · exact hh.mfr b o v hm
theorem tU (hs : Sat AI G s a w) (i : Nat) : Sat AI G ⟨s.tm, qH s.H i⟩ a w := by
 unfold qH
 split
 · rename_i t tb z v L k j hi
   split
   · rename_i rt D hj
     split
     · rename_i hb
       obtain ⟨hb1, hb2⟩ := Bool.and_eq_true_iff.1 hb
       have hb1 := beq_eq hb1
       subst hb1
       have hij : i ≠ j := fun e => by rw [e] at hb2; simp at hb2
       obtain ⟨hd, ρ, hh⟩ := hs
       obtain ⟨ρ', h1, _⟩ := wz hh hij hi hj
       exact ⟨hd, ρ', h1⟩
     · exact hs
   · exact hs
 · exact hs
theorem vV {T : List (Chunk A)} (hs : Sat AI G s a w) : Sat AI G ⟨s.tm, homes s.H T⟩ a w := by
 unfold homes
 split
 · exact hs
 · exact tU hs _
theorem kd {tm : List (Nat × SV)} : ∀ {l : List (Nat × SV)} {t : Nat} {v : SV}, look (lf tm l) t = some v → look tm t = some v
 | [], _, _, h => by cases h
 | (k, _) :: r, t, v, h => by
   simp only [lf] at h
   split at h
   · rename_i x hx
     rw [ax] at h
     split at h
     · rename_i e; subst e; cases h; exact hx
     · exact kd h
   · exact kd h
theorem vQ {l : List (Nat × SV)} (hs : Sat AI G s a w) : Sat AI G ⟨lf s.tm l, s.H⟩ a w := by
 obtain ⟨hd, ρ, hh⟩ := hs
 exact ⟨hd, ρ, ⟨hh.sz, hh.gt, fun t v ht => hh.tm t v (kd ht), hh.ch, hh.dis, hh.lt, hh.im, hh.os, hh.tape, hh.output, hh.grow, hh.kept, hh.fro, hh.rt, hh.rts, hh.mono, hh.mfr⟩⟩
theorem Sub.sound [fo A] {t : SS A} {n0 : Nat} (hn0 : G.n0 = n0) (h : Sub n0 s t) (hs : Sat AI G s a w) : Sat AI G t a w := by
 have h0 := iE hn0 (zx t.H.length (uC (t := t) (vQ (l := t.tm) (yc (H' := t.H) (yf (H' := t.H) (vV (T := t.H) hs))))))
 unfold Sub at h
 generalize norm n0 (frz t.H.length (qp t ⟨lf s.tm t.tm, unr (unm (homes s.H t.H) t.H) t.H⟩)) = s' at h h0
 dsimp only at h
 split at h
 · rename_i C h1
   split at h
   · rename_i D h2
     split at h
     · rename_i h3
       obtain ⟨h⟩ := h
       obtain ⟨h4, _⟩ := iT h
       exact Ai hn0 h1 h2 (leN h3) (fun X hX => h4 X (List.mem_append.2 (.inl hX))) (fun X hX => h4 X (List.mem_append.2 (.inr hX))) h0
     · exact h.elim
   · exact h.elim
 · exact h.elim
theorem aL.splitAt {α β : Type} {R : α → β → Prop} {l : List α} {m1 m2 : List β} {y : β} (h : aL R l (m1 ++ y :: m2)) : ∃ l1 x l2, l = l1 ++ x :: l2 ∧ aL R l1 m1 ∧ R x y ∧ aL R l2 m2 := by
 induction m1 generalizing l with
 | nil => cases h with | cons h1 h2 => exact ⟨[], _, _, rfl, .nil, h1, h2⟩
 | cons z m1 ih =>
   cases h with
   | cons h1 h2 =>
     obtain ⟨l1, x, l2, rfl, h3, h4, h5⟩ := ih h2
     exact ⟨_ :: l1, x, l2, rfl, .cons h1 h3, h4, h5⟩
theorem zq {es : Array MapEntry} {seen : Array Nat} {m1 m2 : List MapEntry} {m : MapEntry} (hp : (es.toList.map (·.born)).Pairwise (· < ·)) (h : (leftOf es seen).toList = m1 ++ m :: m2) : (leftOf es (seen.push m.born)).toList = m1 ++ m2 := by
 have e1 : (leftOf es (seen.push m.born)).toList = (leftOf es seen).toList.filter fun x => !(x.born == m.born) := by
  simp only [leftOf, Array.toList_filter, List.filter_filter]
  congr 1
  funext x
  simp only [Array.contains_push]
  cases h1 : (x.born == m.born) <;> simp
 have hn : (((leftOf es seen).toList).map (·.born)).Pairwise (· < ·) := by
  simp only [leftOf, Array.toList_filter]
  exact hp.sublist (List.Sublist.map _ List.filter_sublist)
 rw [e1, h]
 rw [h] at hn
 simp only [List.map_append, List.map_cons, List.pairwise_append, List.pairwise_cons, List.mem_map, List.mem_cons] at hn
 obtain ⟨n1, ⟨n2, n3⟩, n4⟩ := hn
 rw [List.filter_append, List.filter_cons]
 have f1 : m1.filter (fun x => !(x.born == m.born)) = m1 := List.filter_eq_self.2 fun x hx => by
  have := n4 x.born ⟨x, hx, rfl⟩ m.born (.inl rfl)
  simp; omega
 have f2 : m2.filter (fun x => !(x.born == m.born)) = m2 := List.filter_eq_self.2 fun x hx => by
  have := n2 x.born ⟨x, hx, rfl⟩
  simp; omega
 rw [f1, f2]
 simp
theorem uY {opsA : Array Oper} {id t d0 d1 : Nat} (hn : pf opsA.toList = some (t, d0, d1)) (hdst : ∀ o ∈ opsA.toList, ∀ t, o.dst = some t → t < G.size) {Q : SS A → Prop} {Qx : Exit → Act → World → Prop} (hQ : ∀ s', Q s' → fc AI G s' (Qx .normal)) (h : uZ t d0 d1 s Q) (hs : Sat AI G s a w) :
 (Code.region id opsA false).wp P Qx a w := by
 refine wp_region_list ?_
 generalize opsA.toList = ops at hn hdst
 unfold pf at hn
 split at hn <;> (try cases hn)
 rename_i o o'
 split at hn <;> (try cases hn)
 rename_i t' d0' d d1' ho1 ho2 ho3 ho4 ho5 ho6
 split at hn <;> cases hn
 rename_i hb
 have hb := beq_eq hb
 subst hb
 have l0 := hdst o (by simp) d ho2
 have l1 := hdst o' (by simp) d1 ho5
 obtain ⟨hd, ρ, hh⟩ := hs
 unfold uZ at h
 split at h <;> (try exact h.elim)
 rename_i j hj
 split at h <;> (try exact h.elim)
 rename_i i hji
 split at h <;> (try exact h.elim)
 rename_i ks e L R c j' hi
 split at h <;> (try exact h.elim)
 rename_i hjj
 have hjj := beq_eq hjj
 subst hjj
 obtain ⟨u, hu1, hu2⟩ := hh.tm t _ hj
 have hc := hh.ch i
 rw [hi] at hc
 obtain ⟨b, r, h1, h2, h3, h4, es, clock, since, seen, a1, a2, a3, a4, a5, a6, a7⟩ := hc
 obtain ⟨r', e1, rfl⟩ := hu2
 have : r' = r := by rw [h2] at e1; cases e1; rfl
 subst this
 have hev : a.eval (.tmp t) = .pointer (some ⟨r', 0, none⟩) := by simp [Act.eval, hu1]
 cases h with
 | mk p q =>
 have hsz := hh.sz
 have fin : ∀ (bv : Bool) (y : Value) (w' : World) (H' : List (Chunk A)) (ρ' : Ev), ρ.Le ρ' → Holds AI G ⟨s.tm, H'⟩ ρ' a.tmps w' → (∃ l, y = .tuple (.bool bv :: l).toArray) → Q ⟨(d1, one (.lb bv)) :: (d, one .any) :: s.tm, H'⟩ → wpList P opsA Qx [o'] (a.put o.dst y) w' := by
  rintro bv y w' H' ρ' le h5 ⟨l, rfl⟩ hq
  refine wpList_plain ho6 fun K hK => ?_
  have h6 := h5.put (dst := some d) (v := one .any) (u := .tuple (.bool bv :: l).toArray) (a := a) (fun t e => by cases e; exact l0) trivial
  have h7 := h6.put (dst := some d1) (v := one (.lb bv)) (u := .bool bv) (a := a.put (some d) (.tuple (.bool bv :: l).toArray)) (fun t e => by cases e; exact l1) rfl
  have hev2 : (a.put o.dst (.tuple (.bool bv :: l).toArray)).eval (.tmp d) = .tuple (.bool bv :: l).toArray := by
   rw [ho2]
   have : d < a.tmps.size := by rw [hsz]; exact l0
   simp [Act.eval, Act.put, this]
  unfold Oper.wp
  have hex : (execOp (a.put o.dst (.tuple (.bool bv :: l).toArray)).eval o').run P w' = .ok (.value (.bool bv)) w' := by
   unfold execOp
   rw [ho4]
   simp only [hev2]
   simp [Instr.extract]
  rw [hex, Oper.upon_value]
  refine hK _ _ ?_
  rw [ho5, ho2]
  unfold wpList
  exact hQ _ hq _ _ (by rw [Act.cv, Act.cv, hd]) ⟨ρ', h7⟩
 refine wpList_plain ho3 fun K hK => ?_
 unfold Oper.wp
 have hex : (execOp a.eval o).run P w = ((Instr.next (.pointer (some ⟨r', 0, none⟩)) false o.type).run P w).andThen fun y w' => .ok (.value y) w' := by
  unfold execOp
  rw [ho1]
  simp only [hev]
  simp [Sem.run_bind]
 rw [hex]
 rcases run_next_at (P := P) w o.type r' b since clock seen es clock a2 a1 a4 a5 with ⟨h0, hrun⟩ | ⟨m, hm, w1, hw1, hrun⟩
 · rw [hrun]
   simp only [Result.andThen, Oper.upon_value]
   refine hK _ _ (fin false _ w s.H ρ (.refl ρ) hh ⟨[], rfl⟩ (p ?_))
   have : (leftOf es seen).toList = [] := by
    have := List.eq_nil_of_length_eq_zero (l := (leftOf es seen).toList) (by simpa using h0)
    exact this
   rw [this] at a6
   cases hR : R () with
   | nil => rfl
   | cons x l => rw [hR] at a6; cases a6
 · rw [hrun]
   simp only [Result.andThen, Oper.upon_value]
   obtain ⟨m1, m2, hsp⟩ := List.append_of_mem hm
   rw [hsp] at a6
   obtain ⟨l1, x, l2, hR, b1, b2, b3⟩ := a6.splitAt
   have hw1h : w1.heap = w.heap ∧ w1.os = w.os ∧ w1.tape = w.tape ∧ w1.output = w.output := by rcases hw1 with rfl | rfl <;> exact ⟨rfl, rfl, rfl, rfl⟩
   have hrlt : r' < w.heap.size := by
    rcases Nat.lt_or_ge r' w.heap.size with h | h
    · exact h
    · rw [Array.getElem?_eq_none h] at a2; cases a2
   have hmem : m ∈ es.toList := by
    have := hm
    simp only [leftOf, Array.toList_filter, List.mem_filter] at this
    exact this.1
   obtain ⟨h8, h9⟩ := hh.dx i (ρ.root i) (ρ.ver i) (ρ.foot i) (.rmap ks e L (fun _ => l1 ++ l2) (some (fun _ => x)) j) (Go.ChangeMaps.setBlock w1 r' (.mapIter (some b) since (seen.push m.born) clock)) (fun _ h => h) (Nat.le_refl _) (fun _ _ => rfl) (fun bb hbb => ⟨.inl hbb, by simpa [Go.ChangeMaps.setBlock, hw1h.1] using hh.lt i bb hbb⟩)
    (fun b2 _ hn => by
      have : r' ≠ b2 := fun e => hn (by rw [h3, e]; simp)
      simp [Go.ChangeMaps.setBlock, hw1h.1, this]) hw1h.2.1 hw1h.2.2.1 hw1h.2.2.2 (by simp [Go.ChangeMaps.setBlock, hw1h.1])
    ⟨b, r', by simp [Ev.upd, h1], by
        simp only [Ev.upd]
        split
        · rename_i e; subst e; exact h2
        · exact h2, by simp [Ev.upd, h3], h4, es, clock, since, seen.push m.born, by simp [Go.ChangeMaps.setBlock, hw1h.1, h4.symm, a1], by simp [Go.ChangeMaps.setBlock, hw1h.1, hrlt], a3, a4, a5, by
        rw [zq a3.2.1 hsp]
        exact b1.append b3, fun p hp => by cases hp; exact ⟨m, seen, hmem, rfl, b2⟩⟩
   exact hK _ _ (fin true _ _ _ _ h9 h8 ⟨[m.key, m.val], rfl⟩ (q l1 x l2 hR))
theorem jV [fo A] {E : Env A} (hE : aU P AI E) (hm : P.follows .mixedOrders = true) {n0 : Nat} (hn0 : G.n0 = n0) : ∀ (c : Code), codeOk G.size c = true → ∀ (s : SS A) (Q : XE → SS A → Prop) (Qx : Exit → Act → World → Prop) (a : Act) (w : World),
 svc E n0 c s Q → Sat AI G s a w → (∀ e s', Q e s' → fc AI G s' (Qx e.out)) → c.wp P Qx a w := by
 have th : ∀ {s : SS A} {a : Act} {w : World} {K : Act → World → Prop}, fc AI G s K → Sat AI G s a w → K a w := fun h hs => h _ _ hs.1 hs.2
 intro c
 induction c with
 | skip => intro _ s Q Qx a w h hs hQ; exact wp_skip (th (hQ _ _ h) hs)
 | region id ops draw =>
   intro hok s Q Qx a w h hs hQ
   have hdst : ∀ o ∈ ops.toList, ∀ t, o.dst = some t → t < G.size := fun o ho t ht => by
    have h1 := Array.all_eq_true'.1 hok o (by simpa using ho)
    rw [ht] at h1
    exact leN h1
   simp only [svc] at h
   split at h
   · exact dT hE hm hdst (fun s' hs' => hQ _ _ hs') 24 ⟨[], []⟩ h hs
   · split at h
     · rename_i t d0 d1 hn
       exact uY hn hdst (fun s' hs' => hQ _ _ hs') h hs
     · exact dT hE hm hdst (fun s' hs' => hQ _ _ hs') 24 ⟨[], []⟩ h hs
 | seq x y ihx ihy =>
   intro hok s Q Qx a w h hs hQ
   obtain ⟨o1, o2⟩ := Bool.and_eq_true_iff.1 hok
   refine wp_seq (ihx o1 s _ _ a w h hs fun e s' hq => ?_)
   cases e with
   | normal => exact fun a' w' hd hh => ihy o2 s' Q Qx a' w' hq ⟨hd, hh⟩ hQ
   | ret => exact hQ .ret s' hq
   | exit id => exact hQ (.exit id) s' hq
 | cond c x y ihx ihy =>
   intro hok s Q Qx a w h hs hQ
   obtain ⟨o1, o2⟩ := Bool.and_eq_true_iff.1 hok
   obtain ⟨hd, ρ, hh⟩ := id hs
   simp only [svc] at h
   split at h
   · rename_i hc; exact wp_cond_true (hh.eval hc) (ihx o1 s Q Qx a w h hs hQ)
   · rename_i hc; exact wp_cond_false (hh.eval hc) (ihy o2 s Q Qx a w h hs hQ)
   · rename_i g hc
     have hg := hh.eval hc
     split at h
     · rename_i t
       cases h with
       | mk h1 h2 =>
         cases hb : g () with
         | true => exact wp_cond_true (by rw [show a.eval (.tmp t) = .bool (g ()) from hg, hb]) (ihx o1 _ Q Qx a w (h1 hb) (hs.lb hc hb) hQ)
         | false => exact wp_cond_false (by rw [show a.eval (.tmp t) = .bool (g ()) from hg, hb]) (ihy o2 _ Q Qx a w (h2 hb) (hs.lb hc hb) hQ)
     · exact h.elim
   · rename_i neg C hc
     split at h
     · rename_i t
       cases h with
       | mk h1 h2 =>
         obtain ⟨b, e1, e2, e3⟩ := hs.nb hc
         cases b with
         | true => exact wp_cond_true e1 (ihx o1 _ Q Qx a w (h1 fun e => e2 (by rw [e]; rfl)) e3 hQ)
         | false => exact wp_cond_false e1 (ihy o2 _ Q Qx a w (h2 fun e => e2 (by rw [e]; rfl)) e3 hQ)
     · exact h.elim
   · exact h.elim
 | block id c ih =>
   intro hok s Q Qx a w h hs hQ
   refine wp_block (ih hok s _ _ a w h hs fun e s' hq => ?_)
   cases e with
   | normal => exact hQ .normal s' hq
   | ret => exact hQ .ret s' hq
   | exit id' =>
     dsimp only at hq
     split at hq
     · rename_i hb
       have hb := beq_eq hb
       subst hb
       have := hQ .normal s' hq
       intro a' w' hd hh
       simp only [XE.out, Exit.inBlock, if_pos]
       exact this a' w' hd hh
     · rename_i hb
       have hne : ¬ id' = id := by rintro rfl; simp at hb
       have := hQ (.exit id') s' hq
       intro a' w' hd hh
       simp only [XE.out, Exit.inBlock, if_neg hne]
       exact this a' w' hd hh
 | loop c ih =>
   intro hok s Q Qx a w h hs hQ
   obtain ⟨I, h0, h1⟩ := h
   refine wp_loop_ghost (fun n a w => ∃ x, I.m x = n ∧ Sat AI G (I.inv x) a w) (I.m I.x0) ⟨I.x0, rfl, h0.sound hn0 hs⟩ fun n a w hx => ?_
   obtain ⟨x, rfl, hx⟩ := hx
   refine ih hok (I.inv x) _ _ a w (h1 x) hx fun e s' hq => ?_
   cases e with
   | normal =>
     obtain ⟨y, h2, h3⟩ := hq
     exact fun a' w' hd hh => ⟨I.m y, h2, y, rfl, h3.sound hn0 ⟨hd, hh⟩⟩
   | ret => exact hQ .ret s' hq
   | exit id => exact hQ (.exit id) s' hq
 | exit id => intro _ s Q Qx a w h hs hQ; exact wp_exit (th (hQ _ _ h) hs)
 | ret => intro _ s Q Qx a w h hs hQ; exact wp_ret (th (hQ _ _ h) hs)
 | scope c ih =>
   intro hok s Q Qx a w h hs hQ
   refine wp_scope_straight (ih hok s Q _ a w h hs fun e s' hq => ?_)
   cases e <;> exact hQ _ s' hq
 | label l => intro _ s Q Qx a w h; exact h.elim
 | goto l => intro _ s Q Qx a w h; exact h.elim
 | refuse y => intro _ s Q Qx a w h; exact h.elim
 | rangeFunc f p x y _ _ => intro _ s Q Qx a w h; exact h.elim
end Go.Sx
