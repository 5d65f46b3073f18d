/-
  Symbolic execution: regions.
-/
import Derived.Test.YtebhcmgfhkjmcaaSxN
namespace Go.Sx
set_option linter.all false
set_option linter.unusedVariables false
set_option linter.unusedSimpArgs false
set_option linter.unusedSectionVars false
open Go.RowKit

variable {A : Type} {AI : Abs A} {G : Fr} {s : SS A} {ρ : Ev} {a : Act} {w : World} {P : Program}

theorem nth_eq {α : Type} : ∀ (l : List α) (i : Nat), nth l i = l[i]?
  | [], i => rfl
  | x :: r, 0 => rfl
  | x :: r, i + 1 => by simp [nth, nth_eq r i]

theorem guard_yes {ops : List Oper} (h : Holds AI G s ρ a.tmps w) {o : Oper} (hg : guardOf ops s.tm o.guard = .yes) : Region.wanted o (yielded ops.toArray a.tmps) = true := by
  unfold Region.wanted
  cases hgd : o.guard with
  | none => rfl
  | some q =>
    obtain ⟨j, want⟩ := q
    rw [hgd] at hg
    simp only [guardOf, nth_eq] at hg
    split at hg <;> (try cases hg)
    rename_i oj hoj
    split at hg <;> (try cases hg)
    rename_i t ht
    split at hg <;> (try cases hg)
    · rename_i b hb
      split at hg <;> (try cases hg)
      rename_i hbw
      obtain ⟨u, h1, h2⟩ := h.tm t _ hb
      cases h2
      have hbw : b = want := by simpa using hbw
      subst hbw
      simp [yielded, hoj, ht, h1]
    · split at hg <;> cases hg

theorem guard_no {ops : List Oper} (h : Holds AI G s ρ a.tmps w) {o : Oper} (hg : guardOf ops s.tm o.guard = .no) : Region.wanted o (yielded ops.toArray a.tmps) = false := by
  unfold Region.wanted
  cases hgd : o.guard with
  | none => rw [hgd] at hg; cases hg
  | some q =>
    obtain ⟨j, want⟩ := q
    rw [hgd] at hg
    simp only [guardOf, nth_eq] at hg
    split at hg <;> (try cases hg)
    rename_i oj hoj
    split at hg <;> (try cases hg)
    rename_i t ht
    split at hg <;> (try cases hg)
    · rename_i b hb
      split at hg <;> (try cases hg)
      rename_i hbw
      obtain ⟨u, h1, h2⟩ := h.tm t _ hb
      cases h2
      simp [yielded, hoj, ht, h1]
      simpa using hbw
    · rename_i x hx
      split at hg <;> (try cases hg)
      rename_i hb
      obtain ⟨u, h1, h2⟩ := h.tm t _ hx
      cases h2
      cases x <;> simp [isBoolV] at hb <;> simp [yielded, hoj, ht, h1]

/-- What the run says that an operation did. -/
inductive OpDid (E : Env A) (ops : List Oper) (d : Dec) (s : SS A) (o : Oper) (j : Nat) : Eff A → List (U Prop) → Prop
  | no (h : guardOf ops s.tm o.guard = .no) : OpDid E ops d s o j ⟨o.dst, undefV, [], [], []⟩ []
  | yes (p : Plan A) (C : U Prop) (v : SV) (cs : List (Chunk A)) (v' : SV) (C2 : List (U Prop)) (hg : guardOf ops s.tm o.guard = .yes) (hp : sop E s.tm s.H.length o.op = .plan p)
    (he : p.eff (getCs s.H p.ids) (Dec.ofOp d.op j) = .done C v cs) (hd : decideD d.sl o.dst v = (v', C2)) : OpDid E ops d s o j (mkEff o.dst v' p cs) (C :: C2)

def runE (es : List (Eff A)) (s : SS A) : SS A := es.foldl (fun s e => applyE e s) s

theorem srun_spec {E : Env A} {ops : List Oper} {d : Dec} : ∀ (l : List Oper) (j : Nat) (s : SS A) (Cs : List (U Prop)) (es : List (Eff A)) {Cs' : List (U Prop)} {s' : SS A} {es' : List (Eff A)}, srun E ops d l j s Cs es = .done Cs' s' es' →
    (∀ C ∈ Cs, C ∈ Cs') ∧ ∃ effs, es' = es.reverse ++ effs ∧ effs.length = l.length ∧ s' = runE effs s ∧
      ∀ i o, l[i]? = some o → ∃ e Ce, effs[i]? = some e ∧ OpDid E ops d (runE (effs.take i) s) o (j + i) e Ce ∧ ∀ C ∈ Ce, C ∈ Cs'
  | [], j, s, Cs, es, Cs', s', es', h => by
    simp only [srun, RO.done.injEq] at h
    obtain ⟨rfl, rfl, rfl⟩ := h
    exact ⟨fun _ h => h, [], by simp, rfl, rfl, by simp⟩
  | o :: r, j, s, Cs, es, Cs', s', es', h => by
    have step : ∀ (e : Eff A) (Ce : List (U Prop)), OpDid E ops d s o j e Ce → srun E ops d r (j + 1) (applyE e s) (Ce ++ Cs) (e :: es) = .done Cs' s' es' →
        (∀ C ∈ Cs, C ∈ Cs') ∧ ∃ effs, es' = es.reverse ++ effs ∧ effs.length = (o :: r).length ∧ s' = runE effs s ∧
          ∀ i o', (o :: r)[i]? = some o' → ∃ e Ce, effs[i]? = some e ∧ OpDid E ops d (runE (effs.take i) s) o' (j + i) e Ce ∧ ∀ C ∈ Ce, C ∈ Cs' := by
      intro e Ce hdid hr
      obtain ⟨h1, effs, h2, h3, h4, h5⟩ := srun_spec r (j + 1) _ _ _ hr
      refine ⟨fun C hC => h1 C (List.mem_append.2 (.inr hC)), e :: effs, by simp [h2], by simp [h3], h4, fun i o' hi => ?_⟩
      cases i with
      | zero =>
        simp at hi
        subst hi
        exact ⟨e, Ce, rfl, hdid, fun C hC => h1 C (List.mem_append.2 (.inl hC))⟩
      | succ i =>
        obtain ⟨e', Ce', h6, h7, h8⟩ := h5 i o' (by simpa using hi)
        refine ⟨e', Ce', by simpa using h6, ?_, h8⟩
        rw [show j + (i + 1) = j + 1 + i by omega]
        exact h7
    simp only [srun] at h
    split at h <;> (try cases h)
    · rename_i hg
      exact step _ [] (.no hg) h
    · rename_i hg
      split at h <;> (try cases h)
      rename_i p hp
      split at h <;> (try cases h)
      rename_i C v cs he
      cases hd : decideD d.sl o.dst v with
      | mk v' C2 =>
        rw [hd] at h
        exact step _ (C :: C2) (.yes p C v cs v' C2 hg hp he hd) (by simpa using h)

/-- States that say the same. -/
def Same (s s' : SS A) : Prop := (∀ t, look s.tm t = look s'.tm t) ∧ ∀ c, getC s.H c = getC s'.H c
theorem Holds.same {s' : SS A} {tmps : Array Value} (h : Holds AI G s ρ tmps w) (e : Same s s') : Holds AI G s' ρ tmps w :=
  ⟨h.sz, fun t v ht => h.tm t v (by rw [e.1]; exact ht), fun i => by rw [← e.2]; exact h.ch i, h.dis, h.lt, h.im, h.os, h.tape, h.output, h.grow, h.kept, h.fro, h.rt, h.rts, h.mono, h.mfr⟩
theorem Then.same {s' : SS A} {K : Act → World → Prop} (h : Then AI G s K) (e : Same s' s) : Then AI G s' K :=
  fun a' w' hd ⟨ρ, hh⟩ => h a' w' hd ⟨ρ, hh.same e⟩

theorem decideD_then {sl : List (Nat × Bool)} {tm : List (Nat × SV)} {H : List (Chunk A)} {dst : Option Nat} {v v' : SV} {C2 : List (U Prop)} (hd : decideD sl dst v = (v', C2)) (hC : ∀ C ∈ C2, C ()) {K : Act → World → Prop} (hK : Then AI G ⟨putT tm dst v', H⟩ K) :
    Then AI G ⟨putT tm dst v, H⟩ K := by
  have key : (∀ ρ u, Den ρ v u → Den ρ v' u) → Then AI G ⟨putT tm dst v, H⟩ K := by
    intro hv a' w' hdf ⟨ρ, hh⟩
    refine hK a' w' hdf ⟨ρ, ⟨hh.sz, fun t x ht => ?_, hh.ch, hh.dis, hh.lt, hh.im, hh.os, hh.tape, hh.output, hh.grow, hh.kept, hh.fro, hh.rt, hh.rts, hh.mono, hh.mfr⟩⟩
    cases dst with
    | none => exact hh.tm t x ht
    | some q =>
      simp only [putT, look] at ht
      split at ht
      · rename_i hb
        cases ht
        obtain ⟨u, h1, h2⟩ := hh.tm t v (by simp only [putT, look, hb])
        exact ⟨u, h1, hv ρ u h2⟩
      · rename_i hb
        exact hh.tm t x (by simp only [putT, look, hb]; exact ht)
  cases dst with
  | none => simp only [decideD, Prod.mk.injEq] at hd; obtain ⟨rfl, rfl⟩ := hd; exact hK
  | some t =>
    simp only [decideD] at hd
    unfold decide1 at hd
    split at hd
    · rename_i g
      split at hd
      · rename_i b hb
        simp at hd
        obtain ⟨rfl, rfl⟩ := hd
        have := hC _ (List.mem_singleton.2 rfl)
        refine key fun ρ u hu => ?_
        simp only [one, Den, Den2, Den1] at hu ⊢
        rw [hu, this]
      · simp at hd; obtain ⟨rfl, rfl⟩ := hd; exact hK
    · simp at hd; obtain ⟨rfl, rfl⟩ := hd; exact hK

theorem getC_beyond {H : List (Chunk A)} {i : Nat} (h : H.length ≤ i) : getC H i = .emp := by
  unfold getC
  rw [nth_eq, List.getElem?_eq_none h]

theorem getCs_congr {H H' : List (Chunk A)} : ∀ {ids : List Nat}, (∀ c ∈ ids, getC H c = getC H' c) → getCs H ids = getCs H' ids
  | [], _ => rfl
  | i :: r, h => by simp only [getCs, h i (by simp), getCs_congr (ids := r) fun c hc => h c (by simp [hc])]

theorem guardOf_congr {ops : List Oper} {tm tm' : List (Nat × SV)} {o : Oper} (h : ∀ t ∈ readsOf ops o, look tm t = look tm' t) : guardOf ops tm o.guard = guardOf ops tm' o.guard := by
  cases hg : o.guard with
  | none => rfl
  | some q =>
    obtain ⟨j, want⟩ := q
    simp only [guardOf]
    cases hj : nth ops j with
    | none => rfl
    | some oj =>
      dsimp only
      cases hd : oj.dst with
      | none => rfl
      | some t =>
        dsimp only
        rw [h t (by simp [readsOf, hg, hj, hd])]

theorem did_sound {E : Env A} (hE : EnvOk P AI E) {ops : List Oper} {d : Dec} {s2 : SS A} (h : Holds AI G s2 ρ a.tmps w) (hdf : a.defers = []) {o : Oper} {j : Nat} {e : Eff A} {Ce : List (U Prop)} (hdid : OpDid E ops d s o j e Ce) (hCe : ∀ C ∈ Ce, C ())
    (hslots : ∀ t ∈ readsOf ops o, look s2.tm t = look s.tm t) (hch : ∀ c ∈ e.looks, getC s2.H c = getC s.H c) (hdst : ∀ t, o.dst = some t → t < G.size) {K : Act → World → Prop} {Q : Exit → Act → World → Prop} (hK : Then AI G (applyE e s2) K) :
    if Region.wanted o (yielded ops.toArray a.tmps) = true then o.wp P a w K Q else K (a.put o.dst undef) w := by
  have hgc := guardOf_congr hslots
  cases hdid with
  | no hg =>
    rw [← hgc] at hg
    rw [if_neg (by rw [guard_no h hg]; simp)]
    exact hK _ _ (by rw [Act.put_defers', hdf]) ⟨ρ, h.put hdst rfl⟩
  | yes p C v cs v' C2 hg hp he hd =>
    rw [← hgc] at hg
    rw [if_pos (guard_yes h hg)]
    have hlooks : (mkEff o.dst v' p cs).looks = p.ids := by unfold mkEff; split <;> rfl
    rw [hlooks] at hch
    have hp2 : sop E s2.tm s.H.length o.op = .plan p := by
      rw [← hp]
      refine sop_congr fun t ht => hslots t ?_
      simp only [readsOf, List.mem_append, List.mem_filterMap]
      exact .inl ⟨.tmp t, by simpa using ht, rfl⟩
    have hcs : getCs s2.H p.ids = getCs s.H p.ids := getCs_congr hch
    rw [← hcs] at he
    refine sop_sound hE h hdf hp2 (fun i hi hle => ?_) he (hCe C (by simp)) hdst ?_
    · rw [hch i hi]; exact getC_beyond hle
    · refine decideD_then hd (fun C hC => hCe C (by simp [hC])) (hK.same ?_)
      unfold mkEff
      split
      · exact ⟨fun _ => rfl, fun _ => rfl⟩
      · rename_i hw
        have := sop_noWrite hE hp2 hw s2.H _ _ _ _ he
        refine ⟨fun _ => rfl, fun c => ?_⟩
        simp only [applyE, putCs]
        rw [this]
        exact putCs_self _ _ _ (fun _ => rfl) c

/-- A region in the order of the text. -/
theorem run_text {E : Env A} (hE : EnvOk P AI E) {ops : List Oper} {d : Dec} {Q : Exit → Act → World → Prop} : ∀ (l : List Oper) (j : Nat) (s : SS A) (effs : List (Eff A)) (a : Act) (w : World), effs.length = l.length →
    (∀ i o, l[i]? = some o → ∃ e Ce, effs[i]? = some e ∧ OpDid E ops d (runE (effs.take i) s) o (j + i) e Ce ∧ ∀ C ∈ Ce, C ()) → (∀ o ∈ l, ∀ t, o.dst = some t → t < G.size) → Sat AI G s a w → Then AI G (runE effs s) (Q .normal) → wpList P ops.toArray Q l a w
  | [], j, s, effs, a, w, hl, _, _, hs, hK => by
    have := List.eq_nil_of_length_eq_zero hl
    subst this
    exact hK a w hs.1 hs.2
  | o :: r, j, s, effs, a, w, hl, hdid, hdst, hs, hK => by
    obtain ⟨hdf, ρ, hh⟩ := hs
    obtain ⟨e, Ce, h1, h2, h3⟩ := hdid 0 o rfl
    cases effs with
    | nil => cases h1
    | cons e' es =>
      simp at h1
      subst h1
      refine wpList_step fun K hKK => ?_
      refine did_sound hE hh hdf h2 h3 (fun _ _ => rfl) (fun _ _ => rfl) (hdst o (by simp)) fun a' w' hd' ⟨ρ', hh'⟩ => hKK a' w' ?_
      refine run_text (d := d) hE r (j + 1) (applyE e' s) es a' w' (by simpa using hl) (fun i o' hi => ?_) (fun o' ho' => hdst o' (by simp [ho'])) ⟨hd', ρ', hh'⟩ hK
      obtain ⟨e2, Ce2, h4, h5, h6⟩ := hdid (i + 1) o' (by simpa using hi)
      refine ⟨e2, Ce2, by simpa using h4, ?_, h6⟩
      rw [show j + 1 + i = j + (i + 1) by omega]
      exact h5

end Go.Sx
