/-
  Symbolic execution: code.
-/
import Derived.Test.YtebhcmgfhkjmcaaSxP
import Derived.Deep.LoopGhost
import Derived.Scope
namespace Go.Sx
set_option linter.all false
set_option linter.unusedVariables false
set_option linter.unusedSimpArgs false
set_option linter.unusedSectionVars false
open Go.RowKit

variable {A : Type} {AI : Abs A} {G : Fr} {s : SS A} {ρ : Ev} {a : Act} {w : World} {P : Program}

theorem conds_spec : ∀ {Cs : List (U Prop)} {R : Prop}, conds R Cs → (∀ C ∈ Cs, C ()) ∧ R
  | [], R, h => ⟨by simp, h⟩
  | C :: r, R, h => by
    obtain ⟨h1, h2⟩ := conds_spec (Cs := r) h
    cases h2 with
    | mk h3 h4 => exact ⟨fun D hD => (List.mem_cons.1 hD).elim (fun e => e ▸ h3) (h1 D), h4⟩

theorem Failed.elim {n : Nat} {p : Prop} (h : Failed n) : p := by cases h

theorem Holds.retm {tmps : Array Value} {tm' : List (Nat × SV)} (h : Holds AI G s ρ tmps w) (ht : ∀ t v, look tm' t = some v → ∃ u, tmps[t]? = some u ∧ Den ρ v u) : Holds AI G ⟨tm', s.H⟩ ρ tmps w :=
  ⟨h.sz, ht, h.ch, h.dis, h.lt, h.im, h.os, h.tape, h.output, h.grow, h.kept, h.fro, h.rt, h.rts, h.mono, h.mfr⟩

theorem look_cons {α : Type} (t : Nat) (v : α) (tm : List (Nat × α)) (k : Nat) : look ((t, v) :: tm) k = if t = k then some v else look tm k := by
  simp only [look]
  by_cases h : t = k
  · subst h; simp
  · rw [show beqN t k = false by cases hb : beqN t k; rfl; exact absurd (beq_eq hb) h]; simp [h]

theorem Sat.lb (h : Sat AI G s a w) {t : Nat} {g : U Bool} (ht : look s.tm t = some (.val (.one (.sb g)))) {b : Bool} (hb : g () = b) : Sat AI G ⟨(t, one (.lb b)) :: s.tm, s.H⟩ a w := by
  obtain ⟨hd, ρ, hh⟩ := h
  refine ⟨hd, ρ, hh.retm fun k v hk => ?_⟩
  rw [look_cons] at hk
  split at hk
  · rename_i e
    subst e
    cases hk
    obtain ⟨u, h1, h2⟩ := hh.tm t _ ht
    refine ⟨u, h1, ?_⟩
    simp only [one, Den, Den2, Den1] at h2 ⊢
    rw [h2, hb]
  · exact hh.tm k v hk

theorem Sat.nb (h : Sat AI G s a w) {t : Nat} {neg : Bool} {C : U Prop} (ht : look s.tm t = some (.val (.one (.nb neg C)))) : ∃ b, a.eval (.tmp t) = .bool b ∧ (b = !neg → C ()) ∧ Sat AI G ⟨(t, one (.lb b)) :: s.tm, s.H⟩ a w := by
  obtain ⟨hd, ρ, hh⟩ := h
  obtain ⟨u, h1, h2⟩ := hh.tm t _ ht
  obtain ⟨b, rfl, h3⟩ := h2
  refine ⟨b, ?_, h3, hd, ρ, hh.retm fun k v hk => ?_⟩
  · have := hh.eval (x := .tmp t) (v := .val (.one (.nb neg C))) ht
    obtain ⟨b', e1, _⟩ := this
    have : a.eval (.tmp t) = .bool b := by simp [Act.eval, h1]
    exact this
  · rw [look_cons] at hk
    split at hk
    · rename_i e; subst e; cases hk; exact ⟨_, h1, rfl⟩
    · exact hh.tm k v hk

theorem preSl_sound {sl0 : List (Nat × Bool)} : ∀ (sl : List (Nat × Bool)) {tm' : List (Nat × SV)} {Cs : List (U Prop)}, preSl sl0 sl s.tm = (tm', Cs) → (∀ C ∈ Cs, C ()) → Sat AI G s a w → Sat AI G ⟨tm', s.H⟩ a w
  | [], tm', Cs, h, _, hs => by simp only [preSl, Prod.mk.injEq] at h; obtain ⟨rfl, rfl⟩ := h; exact hs
  | (t, b) :: r, tm', Cs, h, hC, hs => by
    simp only [preSl] at h
    cases hp : preSl sl0 r s.tm with
    | mk tm2 Cs2 =>
      rw [hp] at h
      dsimp only at h
      split at h
      · rename_i g hg
        simp only [Prod.mk.injEq] at h
        obtain ⟨rfl, rfl⟩ := h
        obtain ⟨hd, ρ, hh⟩ := preSl_sound r hp (fun C hC' => hC C (by simp [hC'])) hs
        have h0 := hC _ (List.mem_cons_self ..)
        -- both states hold of one world: the slot's value is known from the first
        obtain ⟨_, ρ0, hh0⟩ := hs
        refine ⟨hd, ρ, hh.retm fun k v hk => ?_⟩
        rw [look_cons] at hk
        split at hk
        · rename_i e
          subst e
          cases hk
          obtain ⟨u, h1, h2⟩ := hh0.tm t _ hg
          refine ⟨u, h1, ?_⟩
          simp only [one, Den, Den2, Den1] at h2 ⊢
          rw [h2, h0]
        · exact hh.tm k v hk
      · simp only [Prod.mk.injEq] at h
        obtain ⟨rfl, rfl⟩ := h
        exact preSl_sound r hp hC hs

def XE.out : XE → Exit
  | .normal => .normal
  | .ret => .ret
  | .exit id => .exit id

theorem Sat.drew (h : Sat AI G s a w) : Sat AI G s a { w with drawn := w.drawn + 1 } := by
  obtain ⟨hd, ρ, hh⟩ := h
  exact ⟨hd, ρ, hh.drew⟩

theorem sreg_sound {E : Env A} (hE : EnvOk P AI E) (hm : P.follows .mixedOrders = true) {id : Nat} {opsA : Array Oper} {draw : Bool} (hdst : ∀ o ∈ opsA.toList, ∀ t, o.dst = some t → t < G.size) {Q : SS A → Prop} {Qx : Exit → Act → World → Prop}
    (hQ : ∀ s', Q s' → Then AI G s' (Qx .normal)) : ∀ (n : Nat) (d : Dec), sreg E opsA.toList draw s Q n d → Sat AI G s a w → (Code.region id opsA draw).wp P Qx a w
  | 0, d, h, _ => h.elim
  | n + 1, d, h, hs => by
    simp only [sreg] at h
    cases hp : preSl d.sl d.sl s.tm with
    | mk tm C0 =>
      rw [hp] at h
      dsimp only at h
      split at h
      · exact h.elim
      · rename_i t b _
        cases h with
        | mk h1 h2 =>
          cases hb : b () with
          | true => exact sreg_sound hE hm hdst hQ n _ (h1 hb) hs
          | false => exact sreg_sound hE hm hdst hQ n _ (h2 hb) hs
      · rename_i j b _
        cases h with
        | mk h1 h2 =>
          cases hb : b () with
          | true => exact sreg_sound hE hm hdst hQ n _ (h1 hb) hs
          | false => exact sreg_sound hE hm hdst hQ n _ (h2 hb) hs
      · rename_i Cs s' effs hrun
        obtain ⟨h1, effs', h2, h3, h4, h5⟩ := srun_spec _ _ _ _ _ hrun
        simp only [List.reverse_nil, List.nil_append] at h2
        subst h2
        have fin : (∀ C ∈ Cs, C ()) → Q s' → Sat AI G ⟨tm, s.H⟩ a w ∧ (∀ i o, opsA.toList[i]? = some o → ∃ e Ce, effs[i]? = some e ∧ OpDid E opsA.toList d (runE (effs.take i) ⟨tm, s.H⟩) o (0 + i) e Ce ∧ ∀ C ∈ Ce, C ()) ∧ Then AI G (runE effs ⟨tm, s.H⟩) (Qx .normal) := by
          intro hC hq
          refine ⟨preSl_sound _ hp (fun C hC' => hC C (h1 C hC')) hs, fun i o hi => ?_, h4 ▸ hQ s' hq⟩
          obtain ⟨e, Ce, h6, h7, h8⟩ := h5 i o hi
          exact ⟨e, Ce, h6, h7, fun C hC' => hC C (h8 C hC')⟩
        split at h
        · obtain ⟨hC, hq⟩ := conds_spec h
          obtain ⟨f1, f2, f3⟩ := fin hC hq
          refine wp_region_list ?_
          have := run_text hE opsA.toList 0 ⟨tm, s.H⟩ effs a w h3 f2 hdst f1 f3
          simpa using this
        · cases h with
          | mk hok h =>
            obtain ⟨hC, hq⟩ := conds_spec h
            obtain ⟨f1, f2, f3⟩ := fin hC hq
            refine wp_region_any hm ?_
            refine run_draw hE h3 (fun i o hi => by have := f2 i o hi; simpa using this) hok hdst f3 opsA.size _ a _ (by simp) (fun i o hi hl => by
              exfalso
              have : (Array.replicate opsA.size false).getD i false = false := getD_replicate_false _ _
              rw [this] at hl; cases hl) (by omega) ?_
            have e1 : stL effs 0 (fun i => (Array.replicate opsA.size false).getD i false) (⟨tm, s.H⟩ : SS A) = ⟨tm, s.H⟩ := by
              have key : ∀ (l : List (Eff A)) (k : Nat) (s : SS A), stL l k (fun i => (Array.replicate opsA.size false).getD i false) s = s := by
                intro l
                induction l with
                | nil => intro k s; rfl
                | cons e r ih =>
                  intro k s
                  simp only [stL]
                  rw [if_neg (by rw [getD_replicate_false]; simp)]
                  exact ih _ _
              exact key _ _ _
            rw [e1]
            exact f1.drew

/-! ### weakening -/
def Ev.trim (ρ : Ev) (n : Nat) : Ev :=
  { root := fun i => if i < n then ρ.root i else .bool false, ver := fun i => if i < n then ρ.ver i else 0, M := ρ.M, foot := fun i => if i < n then ρ.foot i else [] }

theorem sub1_sound {n : Nat} {x y : SV1} {C : U Prop} (h : sub1 n x y = some C) (hC : C ()) {v : Value} (hv : Den1 ρ x v) : Den1 (ρ.trim n) y v := by
  unfold sub1 at h
  split at h
  · trivial
  · split at h <;> simp at h
    rename_i hk
    simp at hk
    subst hk; subst h
    simp only [Den1] at hv ⊢; rw [hv, hC]
  · split at h <;> simp at h
    rename_i hk
    simp at hk
    subst hk; subst h
    simp only [Den1] at hv ⊢; rw [hv, hC]
  · split at h <;> simp at h
    rename_i hk
    obtain ⟨h1, h2⟩ := Bool.and_eq_true_iff.1 hk
    simp at h1 h2
    subst h1; subst h2
    exact hv
  · simp at h; subst h; simp only [Den1] at hv ⊢; rw [hv, hC]
  · simp at h; subst h; simp only [Den1] at hv ⊢; rw [hv, hC]
  · simp at h; subst h; simp only [Den1] at hv ⊢; rw [hv, hC]
  · split at h <;> simp at h
    rename_i hk
    simp at hk
    subst hk
    exact hv
  · simp at h; subst h; simp only [Den1] at hv ⊢; rw [hv, hC]
  · exact hv
  · rename_i e L
    simp at h
    subst h
    simp only [Den1] at hv ⊢
    subst hv
    have hC : L () = [] := hC
    exact ⟨none, 0, by rw [hC]; rfl, by rw [hC]; simp, by rw [hC]; simp⟩
  · exact hv
  · split at h <;> simp at h
    rename_i hk
    obtain ⟨h1, h3⟩ := Bool.and_eq_true_iff.1 hk
    obtain ⟨h1, h2⟩ := Bool.and_eq_true_iff.1 h1
    have h1 := beq_eq h1
    have h2 := beq_eq h2
    have h3 : _ < n := leN h3
    subst h1; subst h2
    obtain ⟨b, h4, h5⟩ := hv
    exact ⟨b, by simp [Ev.trim, h3, h4], h5⟩
  · split at h <;> simp at h
    rename_i hk
    obtain ⟨h1, h3⟩ := Bool.and_eq_true_iff.1 hk
    have h1 := beq_eq h1
    have h3 : _ < n := leN h3
    subst h1
    obtain ⟨b, h4, h5⟩ := hv
    exact ⟨b, by simp [Ev.trim, h3, h4], h5⟩
  · split at h <;> simp at h
    rename_i f hf
    subst h
    obtain ⟨rfl, h1⟩ := castL_id hf
    simp only [Den1] at hv ⊢
    have : _ = _ := hC
    rw [h1] at this
    rw [← this]; exact hv
  · split at h <;> simp at h
    rename_i hk
    obtain ⟨h1, h3⟩ := Bool.and_eq_true_iff.1 hk
    obtain ⟨h1, h2⟩ := Bool.and_eq_true_iff.1 h1
    have h1 := beq_eq h1
    have h2 := beq_eq h2
    have h3 : _ < n := leN h3
    subst h1; subst h2
    obtain ⟨h4, h5, h6⟩ := hv
    exact ⟨h4, by simpa [Ev.trim, h3] using h5, by simpa [Ev.trim, h3] using h6⟩
  · cases h

theorem sub1s_sound {n : Nat} : ∀ {l m : List SV1} {Cs : List (U Prop)} {vs : List Value}, sub1s n l m = some Cs → (∀ C ∈ Cs, C ()) → All2 (Den1 ρ) l vs → All2 (Den1 (ρ.trim n)) m vs
  | [], [], Cs, vs, h, _, hv => by cases hv; exact .nil
  | x :: l, y :: m, Cs, vs, h, hC, hv => by
    simp only [sub1s] at h
    split at h <;> (try cases h)
    rename_i C h1
    split at h <;> cases h
    rename_i Cs h2
    cases hv with
    | cons hx hl => exact .cons (sub1_sound h1 (hC C (by simp)) hx) (sub1s_sound h2 (fun D hD => hC D (by simp [hD])) hl)
  | [], _ :: _, _, _, h, _, _ => by cases h
  | _ :: _, [], _, _, h, _, _ => by cases h
theorem sub2_sound {n : Nat} {x y : SV2} {Cs : List (U Prop)} (h : sub2 n x y = some Cs) (hC : ∀ C ∈ Cs, C ()) {v : Value} (hv : Den2 ρ x v) : Den2 (ρ.trim n) y v := by
  unfold sub2 at h
  split at h
  · trivial
  · split at h <;> cases h
    rename_i C h1
    exact sub1_sound h1 (hC C (by simp)) hv
  · obtain ⟨vs, h1, h2⟩ := hv; exact ⟨vs, h1, sub1s_sound h hC h2⟩
  · split at h <;> (try cases h)
    rename_i hb
    have hb := beq_eq hb
    subst hb
    obtain ⟨vs, h1, h2⟩ := hv; exact ⟨vs, h1, sub1s_sound h hC h2⟩
  · cases h
theorem sub2s_sound {n : Nat} : ∀ {l m : List SV2} {Cs : List (U Prop)} {vs : List Value}, sub2s n l m = some Cs → (∀ C ∈ Cs, C ()) → All2 (Den2 ρ) l vs → All2 (Den2 (ρ.trim n)) m vs
  | [], [], Cs, vs, h, _, hv => by cases hv; exact .nil
  | x :: l, y :: m, Cs, vs, h, hC, hv => by
    simp only [sub2s] at h
    split at h <;> (try cases h)
    rename_i C h1
    split at h <;> cases h
    rename_i Cs h2
    cases hv with
    | cons hx hl => exact .cons (sub2_sound h1 (fun D hD => hC D (by simp [hD])) hx) (sub2s_sound h2 (fun D hD => hC D (by simp [hD])) hl)
  | [], _ :: _, _, _, h, _, _ => by cases h
  | _ :: _, [], _, _, h, _, _ => by cases h
theorem subV_sound {n : Nat} {x y : SV} {Cs : List (U Prop)} (h : subV n x y = some Cs) (hC : ∀ C ∈ Cs, C ()) {v : Value} (hv : Den ρ x v) : Den (ρ.trim n) y v := by
  unfold subV at h
  split at h
  · trivial
  · exact sub2_sound h hC hv
  · obtain ⟨vs, h1, h2⟩ := hv; exact ⟨vs, h1, sub2s_sound h hC h2⟩
  · cases h
theorem subT_sound {n : Nat} {tm : List (Nat × SV)} : ∀ {l : List (Nat × SV)} {Cs : List (U Prop)}, subT n tm l = some Cs → (∀ C ∈ Cs, C ()) → ∀ t y, look l t = some y → ∃ x Ds, look tm t = some x ∧ subV n x y = some Ds ∧ ∀ C ∈ Ds, C ()
  | [], Cs, h, _, t, y, hl => by cases hl
  | (k, z) :: r, Cs, h, hC, t, y, hl => by
    simp only [subT] at h
    split at h <;> (try cases h)
    rename_i x hx
    split at h <;> (try cases h)
    rename_i C h1
    split at h <;> cases h
    rename_i Cs h2
    rw [look_cons] at hl
    split at hl
    · rename_i e
      subst e
      cases hl
      exact ⟨x, C, hx, h1, fun D hD => hC D (by simp [hD])⟩
    · exact subT_sound h2 (fun D hD => hC D (by simp [hD])) t y hl

theorem castM_id {ks ks' : KT} {e e' : Ty} {f : List (ks.T × e.T) → List (ks'.T × e'.T)} (h : castM ks ks' e e' = some f) : ∃ (h1 : ks = ks') (h2 : e = e'), ∀ x, f x = (by subst h1; subst h2; exact x) := by
  unfold castM at h
  split at h
  · rename_i fk hk
    split at h
    · rename_i g hg
      obtain ⟨rfl, h3⟩ := castT_id hg
      have : ∃ h1 : ks = ks', ∀ x, fk x = h1 ▸ x := by
        cases ks <;> cases ks' <;> simp only [castK, reduceCtorEq] at hk
        · split at hk <;> simp at hk
          rename_i he
          simp at he
          subst he; subst hk
          exact ⟨rfl, fun _ => rfl⟩
        · simp at hk; subst hk; exact ⟨rfl, fun _ => rfl⟩
      obtain ⟨rfl, h4⟩ := this
      refine ⟨rfl, rfl, fun x => ?_⟩
      simp only [Option.some.injEq] at h
      subst h
      simp [h3, h4]
    · cases h
  · cases h

theorem subC_sound [SubA A] {n i : Nat} (hi : i < n) {c d : Chunk A} {Cs : List (U Prop)} (h : subC n c d = some Cs) (hC : ∀ C ∈ Cs, C ()) (hc : HoldsC AI ρ w i c) : HoldsC AI (ρ.trim n) w i d := by
  have e1 : (ρ.trim n).root i = ρ.root i := by simp [Ev.trim, hi]
  have e2 : (ρ.trim n).ver i = ρ.ver i := by simp [Ev.trim, hi]
  have e3 : (ρ.trim n).foot i = ρ.foot i := by simp [Ev.trim, hi]
  unfold subC at h
  split at h
  · trivial
  · simp only [HoldsC, e1, e2, e3] at hc ⊢; exact hc
  · split at h <;> (try cases h)
    rename_i hb
    have hb := beq_eq hb
    subst hb
    obtain ⟨b, vs, h1, h2, h3, h4⟩ := hc
    exact ⟨b, vs, e1.trans h1, e3.trans h2, h3, sub1s_sound h hC h4⟩
  · split at h <;> (try cases h)
    rename_i hb
    obtain ⟨hb1, hb2⟩ := Bool.and_eq_true_iff.1 hb
    have hb2 := beq_eq hb2
    subst hb2
    split at h <;> cases h
    rename_i f hf
    obtain ⟨rfl, h1⟩ := castL_id hf
    have h2 := hC _ (List.mem_cons_self ..)
    rw [h1] at h2
    obtain ⟨h3, h4⟩ := hc
    exact ⟨h3.trans e2.symm, by rw [e1, e3, ← h2]; exact h4⟩
  · split at h <;> (try cases h)
    rename_i f hf
    obtain ⟨rfl, rfl, h1⟩ := castM_id hf
    have h2 := hC _ (List.mem_cons_self ..)
    rw [h1] at h2
    obtain ⟨b, es, clock, h3, h4, h5, h6⟩ := hc
    exact ⟨b, es, clock, e1.trans h3, e3.trans h4, h5, by rw [← h2]; exact h6⟩
  · split at h <;> (try cases h)
    rename_i hb
    obtain ⟨hb1, hb2⟩ := Bool.and_eq_true_iff.1 hb
    have hb1 := beq_eq hb1
    subst hb1
    have hj : _ < n := leN hb2
    split at h <;> (try cases h)
    rename_i f hf
    obtain ⟨rfl, rfl, h1⟩ := castM_id hf
    have h2 := hC _ (List.mem_cons_self ..)
    have h2' := hC _ (List.mem_cons_of_mem _ (List.mem_cons_self ..))
    rw [h1] at h2 h2'
    obtain ⟨b, r, h3, h4, h5, h6, es, clock, since, seen, a1, a2, a3, a4, a5, a6, a7⟩ := hc
    refine ⟨b, r, e1.trans h3, by simp only [Ev.trim, if_pos hj]; exact h4, e3.trans h5, h6, es, clock, since, seen, a1, a2, by rw [← h2]; exact a3, a4, a5, by rw [← h2']; exact a6, fun p e => by cases e⟩
  · split at h <;> (try cases h)
    obtain ⟨h1, r, h2⟩ := hc
    exact ⟨e3.trans h1, r, e1.trans h2⟩
  · split at h <;> cases h
    rename_i C h1
    have := SubA.sound _ _ _ h1 (hC C (by simp))
    subst this
    simp only [HoldsC, e1, e3] at hc ⊢; exact hc
  · cases h

theorem subCs_sound [SubA A] {n : Nat} : ∀ {l m : List (Chunk A)} {Cs : List (U Prop)}, subCs n l m = some Cs → (∀ C ∈ Cs, C ()) → ∀ (i : Nat) d, m[i]? = some d → ∃ c Ds, l[i]? = some c ∧ subC n c d = some Ds ∧ ∀ C ∈ Ds, C ()
  | _, [], _, _, _, i, d, h => by simp at h
  | c :: l, x :: m, Cs, h, hC, i, d, hi => by
    simp only [subCs] at h
    split at h <;> (try cases h)
    rename_i C h1
    split at h <;> cases h
    rename_i Cs h2
    cases i with
    | zero => simp at hi; subst hi; exact ⟨c, C, rfl, h1, fun D hD => hC D (by simp [hD])⟩
    | succ i =>
      obtain ⟨c', Ds, h3, h4, h5⟩ := subCs_sound h2 (fun D hD => hC D (by simp [hD])) i d (by simpa using hi)
      exact ⟨c', Ds, by simpa using h3, h4, h5⟩
  | [], _ :: _, _, h, _, _, _, _ => by cases h

theorem sub_core [SubA A] {t : SS A} {n0 : Nat} (hn0 : G.n0 = n0) {C D : List (U Prop)} (h1 : subT t.H.length s.tm t.tm = some C) (h2 : subCs t.H.length s.H t.H = some D) (h3 : n0 ≤ t.H.length) (hC : ∀ X ∈ C, X ()) (hD : ∀ X ∈ D, X ()) (hs : Sat AI G s a w) : Sat AI G t a w := by
  obtain ⟨hd, ρ, hh⟩ := hs
  have hfoot : ∀ i b, b ∈ (ρ.trim t.H.length).foot i → b ∈ ρ.foot i := by
    intro i b hb
    simp only [Ev.trim] at hb
    split at hb
    · exact hb
    · cases hb
  refine ⟨hd, ρ.trim t.H.length, ⟨hh.sz, fun k y hk => ?_, fun i => ?_, fun i j b hij hi hj => hh.dis i j b hij (hfoot i b hi) (hfoot j b hj), fun i b hb => hh.lt i b (hfoot i b hb), fun b o v hm => ⟨(hh.im b o v hm).1, fun i hb => (hh.im b o v hm).2 i (hfoot i b hb)⟩,
    hh.os, hh.tape, hh.output, hh.grow, hh.kept, fun i b hb => hh.fro i b (hfoot i b hb), fun i b hi hb => ?_, fun i hi => ?_, hh.mono, hh.mfr⟩⟩
  · obtain ⟨x, Ds, h4, h5, h6⟩ := subT_sound h1 hC k y hk
    obtain ⟨u, h7, h8⟩ := hh.tm k x h4
    exact ⟨u, h7, subV_sound h5 h6 h8⟩
  · by_cases hi : i < t.H.length
    · obtain ⟨c, Ds, h4, h5, h6⟩ := subCs_sound h2 hD i _ (List.getElem?_eq_getElem hi)
      have e1 : getC t.H i = t.H[i] := by unfold getC; rw [nth_eq, List.getElem?_eq_getElem hi]
      have e2 : getC s.H i = c := by unfold getC; rw [nth_eq, h4]
      rw [e1]
      exact subC_sound hi h5 h6 (e2 ▸ hh.ch i)
    · rw [getC_beyond (by omega)]
      simp [HoldsC, Ev.trim, hi]
  · have : i < t.H.length := by omega
    simp only [Ev.trim, if_pos this]
    exact hh.rt i b hi hb
  · have : i < t.H.length := by omega
    simp only [Ev.trim, if_pos this]
    exact hh.rts i hi

/-! ### versions -/
def Ev.anew (ρ : Ev) (n0 : Nat) : Ev := { ρ with ver := fun i => if i < n0 then ρ.ver i else 0 }

theorem vers_get : ∀ {H : List (Chunk A)} {i u : Nat}, nth (vers H) i = some (some u) → ∃ t e L, getC H i = .row t e u L
  | [], i, u, h => by cases h
  | c :: r, 0, u, h => by
    cases c <;> simp [vers, nth] at h
    subst h
    exact ⟨_, _, _, rfl⟩
  | c :: r, i + 1, u, h => by
    have : nth (vers r) i = some (some u) := by cases c <;> simpa [vers, nth] using h
    obtain ⟨t, e, L, h1⟩ := vers_get this
    exact ⟨t, e, L, by simpa [getC, nth] using h1⟩

theorem norm1_den {n0 : Nat} {H : List (Chunk A)} (hH : ∀ i, HoldsC AI ρ w i (getC H i)) {x : SV1} {v : Value} (hv : Den1 ρ x v) : Den1 (ρ.anew n0) (norm1 n0 (vers H) x) v := by
  have low : ∀ {i : Nat}, bltN i n0 = true → (ρ.anew n0).ver i = ρ.ver i := by
    intro i h
    have : i < n0 := leN h
    simp [Ev.anew, this]
  cases x <;> simp only [norm1]
  case hd i ver =>
    split
    · rename_i h
      simp only [Den1] at hv ⊢
      rw [low h]; exact hv
    · rename_i h
      have hge : ¬ i < n0 := fun e => by rw [show bltN i n0 = true from geN e] at h; cases h
      split
      · rename_i u hu
        split
        · rename_i hb
          have hb := beq_eq hb
          subst hb
          obtain ⟨t, e, L, h1⟩ := vers_get hu
          have h2 := hH i
          rw [h1] at h2
          obtain ⟨h3, _⟩ := h2
          obtain ⟨h4, h5, h6⟩ := hv
          exact ⟨h4, by simp, fun _ => h6 h3⟩
        · trivial
      · trivial
  case vw i ver esz lo n =>
    split
    · rename_i h
      simp only [Den1] at hv ⊢
      rw [low h]; exact hv
    · trivial
  case ep i ver esz k off =>
    split
    · rename_i h
      simp only [Den1] at hv ⊢
      rw [low h]; exact hv
    · trivial
  all_goals exact hv

theorem All2.mapL {α β γ : Type} {R : α → β → Prop} {R' : γ → β → Prop} {f : α → γ} {l : List α} {m : List β} (h : All2 R l m) (hf : ∀ a b, R a b → R' (f a) b) : All2 R' (l.map f) m := by
  induction h with
  | nil => exact .nil
  | cons h _ ih => exact .cons (hf _ _ h) ih

theorem norm2_den {n0 : Nat} {H : List (Chunk A)} (hH : ∀ i, HoldsC AI ρ w i (getC H i)) {x : SV2} {v : Value} (hv : Den2 ρ x v) : Den2 (ρ.anew n0) (norm2 n0 (vers H) x) v := by
  cases x with
  | one x => exact norm1_den hH hv
  | agg l => obtain ⟨vs, h1, h2⟩ := hv; exact ⟨vs, h1, h2.mapL fun _ _ => norm1_den hH⟩
  | fn f l => obtain ⟨vs, h1, h2⟩ := hv; exact ⟨vs, h1, h2.mapL fun _ _ => norm1_den hH⟩
theorem normV_den {n0 : Nat} {H : List (Chunk A)} (hH : ∀ i, HoldsC AI ρ w i (getC H i)) {x : SV} {v : Value} (hv : Den ρ x v) : Den (ρ.anew n0) (normV n0 (vers H) x) v := by
  cases x with
  | val x => exact norm2_den hH hv
  | tup l => obtain ⟨vs, h1, h2⟩ := hv; exact ⟨vs, h1, h2.mapL fun _ _ => norm2_den hH⟩

theorem normT_look {n0 : Nat} {vs : List (Option Nat)} : ∀ {tm : List (Nat × SV)} {t : Nat} {v : SV}, look (normT n0 vs tm) t = some v → ∃ u, look tm t = some u ∧ v = normV n0 vs u
  | [], t, v, h => by cases h
  | (k, x) :: r, t, v, h => by
    simp only [normT] at h
    rw [look_cons] at h
    split at h
    · rename_i e; cases h; exact ⟨x, by rw [look_cons, if_pos e], rfl⟩
    · rename_i e
      obtain ⟨u, h1, h2⟩ := normT_look h
      exact ⟨u, by rw [look_cons, if_neg e]; exact h1, h2⟩
theorem normCs_get {n0 : Nat} {vs : List (Option Nat)} : ∀ {H : List (Chunk A)} {k i : Nat}, getC (normCs n0 vs k H) i = normC n0 vs (k + i) (getC H i)
  | [], k, i => rfl
  | c :: r, k, 0 => rfl
  | c :: r, k, i + 1 => by
    have := normCs_get (n0 := n0) (vs := vs) (H := r) (k := k + 1) (i := i)
    simp only [getC, normCs, nth] at this ⊢
    rw [this, show k + 1 + i = k + (i + 1) by omega]

theorem norm_sound {n0 : Nat} (hn0 : G.n0 = n0) (hs : Sat AI G s a w) : Sat AI G (norm n0 s) a w := by
  obtain ⟨hd, ρ, hh⟩ := hs
  refine ⟨hd, ρ.anew n0, ⟨hh.sz, fun t v ht => ?_, fun i => ?_, hh.dis, hh.lt, hh.im, hh.os, hh.tape, hh.output, hh.grow, hh.kept, hh.fro, hh.rt, fun i hi => ?_, hh.mono, hh.mfr⟩⟩
  · obtain ⟨u, h1, rfl⟩ := normT_look ht
    obtain ⟨x, h2, h3⟩ := hh.tm t u h1
    exact ⟨x, h2, normV_den hh.ch h3⟩
  · show HoldsC AI (ρ.anew n0) w i (getC (normCs n0 (vers s.H) 0 s.H) i)
    rw [normCs_get, Nat.zero_add]
    have hc := hh.ch i
    cases hg : getC s.H i with
    | emp =>
      rw [hg] at hc
      obtain ⟨h1, h2, h3⟩ := hc
      exact ⟨h1, h2, by simp [Ev.anew, h3]⟩
    | gone => trivial
    | cells t cs =>
      rw [hg] at hc
      obtain ⟨b, vs, h1, h2, h3, h4⟩ := hc
      exact ⟨b, vs, h1, h2, h3, h4.mapL fun _ _ => norm1_den hh.ch⟩
    | map ks e L => rw [hg] at hc; exact hc
    | rmap ks e L R c j => rw [hg] at hc; exact hc
    | itp q => rw [hg] at hc; exact hc
    | row t e v L =>
      rw [hg] at hc
      obtain ⟨h1, h2⟩ := hc
      simp only [normC]
      split
      · rename_i h
        have : i < n0 := leN h
        exact ⟨by simp [Ev.anew, this]; exact h1, h2⟩
      · rename_i h
        have hge : ¬ i < n0 := fun e => by rw [show bltN i n0 = true from geN e] at h; cases h
        exact ⟨by simp [Ev.anew, hge], h2⟩
    | abs x => rw [hg] at hc; exact hc
  · have : i < n0 := by omega
    simp only [Ev.anew, if_pos this]
    exact hh.rts i hi

/-! ### freezing -/
def isRow : Chunk A → Bool
  | .row _ _ _ _ => true
  | _ => false

theorem map2_den {ρ' : Ev} {f : SV1 → SV1} (hf : ∀ x v, Den1 ρ x v → Den1 ρ' (f x) v) {x : SV2} {v : Value} (hv : Den2 ρ x v) : Den2 ρ' (map2 f x) v := by
  cases x with
  | one x => exact hf _ _ hv
  | agg l => obtain ⟨vs, h1, h2⟩ := hv; exact ⟨vs, h1, h2.mapL hf⟩
  | fn f l => obtain ⟨vs, h1, h2⟩ := hv; exact ⟨vs, h1, h2.mapL hf⟩
theorem mapV_den {ρ' : Ev} {f : SV1 → SV1} (hf : ∀ x v, Den1 ρ x v → Den1 ρ' (f x) v) {x : SV} {v : Value} (hv : Den ρ x v) : Den ρ' (mapV f x) v := by
  cases x with
  | val x => exact map2_den hf hv
  | tup l => obtain ⟨vs, h1, h2⟩ := hv; exact ⟨vs, h1, h2.mapL fun _ _ => map2_den hf⟩
theorem mapT_look {f : SV1 → SV1} : ∀ {tm : List (Nat × SV)} {t : Nat} {v : SV}, look (mapT f tm) t = some v → ∃ u, look tm t = some u ∧ v = mapV f u
  | [], t, v, h => by cases h
  | (k, x) :: r, t, v, h => by
    simp only [mapT] at h
    rw [look_cons] at h
    split at h
    · rename_i e; cases h; exact ⟨x, by rw [look_cons, if_pos e], rfl⟩
    · rename_i e
      obtain ⟨u, h1, h2⟩ := mapT_look h
      exact ⟨u, by rw [look_cons, if_neg e]; exact h1, h2⟩
theorem frzCs_get {n : Nat} {H0 : List (Chunk A)} : ∀ {H : List (Chunk A)} {k i : Nat}, getC (frzCs n H0 k H) i = frzC n H0 (k + i) (getC H i)
  | [], k, i => rfl
  | c :: r, k, 0 => rfl
  | c :: r, k, i + 1 => by
    have := frzCs_get (n := n) (H0 := H0) (H := r) (k := k + 1) (i := i)
    simp only [getC, frzCs, nth] at this ⊢
    rw [this, show k + 1 + i = k + (i + 1) by omega]

open Classical in
/-- The rows with the property S stay as they are from now on. -/
noncomputable def Ev.froze (ρ : Ev) (S : Nat → Prop) (w : World) : Ev :=
  { root := ρ.root, ver := ρ.ver, M := fun b o => if ∃ i, S i ∧ b ∈ ρ.foot i then w.cell? ⟨b, o, none⟩ else ρ.M b o, foot := fun i => if S i then [] else ρ.foot i }

theorem rowAt_shows {S : Nat → Prop} {tmps : Array Value} (h : Holds AI G s ρ tmps w) {i : Nat} (hS : S i) {e : Ty} {L : List e.T} {r : Value} (hr : RowAt ρ.M w e L r (ρ.foot i)) (hM : ∀ b o v, ρ.M b o = some v → (ρ.froze S w).M b o = some v) :
    ShowsM (ρ.froze S w).M e L r := by
  rcases hr with ⟨⟨ao, rfl⟩, rfl, -⟩ | ⟨b, off, cap, rfl, hF, h1, h2, h3, -⟩
  · exact ⟨ao, 0, rfl, by simp, by simp⟩
  · refine ⟨_, cap, rfl, h1, fun _ => ⟨b, off, rfl, fun j x hj => ?_⟩⟩
    refine CellsM.congr e (CellsM.mono hM e (h3 j x hj)) fun k v _ hv => ?_
    have : (ρ.froze S w).M b (off + j * e.size + k) = w.cell? ⟨b, off + j * e.size + k, none⟩ := by
      simp only [Ev.froze]
      rw [if_pos ⟨i, hS, by rw [hF]; simp⟩]
    rw [this]; exact hv

theorem shows_part {M : Mem} {e : Ty} {L : List e.T} {r : Value} (h : ShowsM M e L r) {lo n : Int} {v : Value} (hv : VwAt r e.size lo n v) : ShowsM M e ((L.drop lo.toNat).take n.toNat) v := by
  obtain ⟨ao, cap, rfl, h1, h2⟩ := h
  obtain ⟨ao', len, cap', h3, h4, h5, h6, h7, rfl⟩ := hv
  cases h3
  have hlen : ((L.drop lo.toNat).take n.toNat).length = n.toNat := by rw [List.length_take, List.length_drop]; omega
  refine ⟨_, _, by rw [hlen], by rw [hlen]; omega, fun hpos => ?_⟩
  rw [hlen] at hpos
  obtain ⟨b, off, rfl, h8⟩ := h2 (by omega)
  rw [if_neg (by omega)]
  refine ⟨b, off + lo.toNat * e.size, by simp [add_lit], fun j x hj => ?_⟩
  rw [List.getElem?_take] at hj
  split at hj
  · rw [List.getElem?_drop] at hj
    refine CellsM.congr e (h8 _ x hj) fun k v _ hv => ?_
    rw [← hv]
    congr 1
    rw [Nat.add_mul]; omega
  · cases hj

theorem frz_sound (n : Nat) (hs : Sat AI G s a w) : Sat AI G (frz n s) a w := by
  obtain ⟨hd, ρ, hh⟩ := hs
  let S : Nat → Prop := fun i => n ≤ i ∧ isRow (getC s.H i) = true
  have hM : ∀ b o v, ρ.M b o = some v → (ρ.froze S w).M b o = some v := by
    intro b o v h
    simp only [Ev.froze]
    rw [if_neg]
    · exact h
    · rintro ⟨i, _, hi⟩; exact (hh.im b o v h).2 i hi
  have le : ρ.Le (ρ.froze S w) := ⟨hM, fun _ _ h => h, fun _ => Nat.le_refl _, fun _ _ _ => rfl⟩
  have hfoot : ∀ i b, b ∈ (ρ.froze S w).foot i → ¬ S i ∧ b ∈ ρ.foot i := by
    intro i b hb
    simp only [Ev.froze] at hb
    split at hb
    · cases hb
    · rename_i hn; exact ⟨hn, hb⟩
  have hval : ∀ x v, Den1 ρ x v → Den1 (ρ.froze S w) (frz1 n s.H x) v := by
    intro x v hv
    cases x <;> simp only [frz1]
    case hd i ver =>
      split
      · exact Den1.mono le hv
      · rename_i hb
        have hge : n ≤ i := by
          rcases Nat.lt_or_ge i n with h | h
          · rw [show bltN i n = true from geN h] at hb; cases hb
          · exact h
        have hc := hh.ch i
        generalize hg : getC s.H i = c at hc
        cases c <;> (try trivial)
        rename_i t e u L
        dsimp only
        split
        · rename_i hbu
          have hbu := beq_eq hbu
          subst hbu
          obtain ⟨h1, h2⟩ := hc
          obtain ⟨_, _, h3⟩ := hv
          rw [h3 h1]
          exact rowAt_shows hh (S := S) ⟨hge, by rw [hg]; rfl⟩ h2 hM
        · trivial
    case vw i ver esz lo k =>
      split
      · exact Den1.mono le hv
      · rename_i hb
        have hge : n ≤ i := by
          rcases Nat.lt_or_ge i n with h | h
          · rw [show bltN i n = true from geN h] at hb; cases hb
          · exact h
        have hc := hh.ch i
        generalize hg : getC s.H i = c at hc
        cases c <;> (try trivial)
        rename_i t e u L
        dsimp only
        split
        · rename_i hbu
          obtain ⟨hbu, hbz⟩ := Bool.and_eq_true_iff.1 hbu
          have hbu := beq_eq hbu
          have hbz := beq_eq hbz
          subst hbu; subst hbz
          obtain ⟨h1, h2⟩ := hc
          obtain ⟨_, _, _, h3⟩ := hv
          exact shows_part (rowAt_shows hh (S := S) ⟨hge, by rw [hg]; rfl⟩ h2 hM) (h3 h1)
        · trivial
    all_goals exact Den1.mono le hv
  refine ⟨hd, ρ.froze S w, ⟨hh.sz, fun t v ht => ?_, fun i => ?_, fun i j b hij hi hj => hh.dis i j b hij (hfoot i b hi).2 (hfoot j b hj).2, fun i b hb => hh.lt i b (hfoot i b hb).2, fun b o v hm => ?_, hh.os, hh.tape, hh.output, hh.grow, hh.kept,
    fun i b hb => hh.fro i b (hfoot i b hb).2, hh.rt, hh.rts, fun b o v hm => hM _ _ _ (hh.mono b o v hm), fun b o v hm => ?_⟩⟩
  · obtain ⟨u, h1, rfl⟩ := mapT_look ht
    obtain ⟨x, h2, h3⟩ := hh.tm t u h1
    exact ⟨x, h2, mapV_den hval h3⟩
  · show HoldsC AI (ρ.froze S w) w i (getC (frzCs n s.H 0 s.H) i)
    rw [frzCs_get, Nat.zero_add]
    have hc := hh.ch i
    have same : ¬ S i → HoldsC AI (ρ.froze S w) w i (getC s.H i) := fun hn => hc.stays le rfl rfl (by simp only [Ev.froze]; rw [if_neg hn]) fun _ _ => rfl
    cases hg : getC s.H i with
    | cells t cs =>
      rw [hg] at hc
      obtain ⟨b, vs, h1, h2, h3, h4⟩ := hc
      exact ⟨b, vs, h1, by simp only [Ev.froze]; rw [if_neg (fun h => by have := h.2; rw [hg] at this; cases this)]; exact h2, h3, h4.mapL hval⟩
    | row t e v L =>
      simp only [frzC]
      split
      · rename_i hb
        have : i < n := leN hb
        rw [← hg]; exact same fun h => absurd h.1 (by omega)
      · trivial
    | emp => simp only [frzC]; rw [← hg]; exact same fun h => by have := h.2; rw [hg] at this; cases this
    | gone => trivial
    | map ks e L => simp only [frzC]; rw [← hg]; exact same fun h => by have := h.2; rw [hg] at this; cases this
    | rmap ks e L R c j => simp only [frzC]; rw [← hg]; exact same fun h => by have := h.2; rw [hg] at this; cases this
    | itp q => simp only [frzC]; rw [← hg]; exact same fun h => by have := h.2; rw [hg] at this; cases this
    | abs x => simp only [frzC]; rw [← hg]; exact same fun h => by have := h.2; rw [hg] at this; cases this
  · simp only [Ev.froze] at hm
    split at hm
    · rename_i hex
      obtain ⟨k, hk, hbk⟩ := hex
      refine ⟨hm, fun i hb => ?_⟩
      obtain ⟨h1, h2⟩ := hfoot i b hb
      exact hh.dis i k b (fun e => h1 (e ▸ hk)) h2 hbk
    · exact ⟨(hh.im b o v hm).1, fun i hb => (hh.im b o v hm).2 i (hfoot i b hb).2⟩
  · simp only [Ev.froze] at hm
    split at hm
    · rename_i hex
      obtain ⟨k, hk, hbk⟩ := hex
      exact .inr (hh.fro k b hbk)
    · exact hh.mfr b o v hm

/-! ### nil slices -/
theorem Holds.nilRow {tmps : Array Value} (h : Holds AI G s ρ tmps w) {k : Nat} (hk : getC s.H k = .emp) (rt : TypeId) (e : Ty) :
    ∃ ρ', Holds AI G ⟨s.tm, putC s.H k (.row rt e 0 (fun _ => []))⟩ ρ' tmps w ∧ ρ.Le ρ' ∧ Den1 ρ' (.hd k 0) (.slice none 0 0) := by
  have hc := h.ch k
  rw [hk] at hc
  obtain ⟨h1, h2, h3⟩ := hc
  obtain ⟨h4, h5⟩ := h.upd1 k (.slice none 0 0) 0 [] (.row rt e 0 (fun _ => [])) w (by rw [h2]; simp) (by omega) (by rw [h2]; simp) (by simp) (fun _ _ _ => rfl) rfl rfl rfl (Nat.le_refl _)
    ⟨by simp [Ev.upd], .inl ⟨⟨none, by simp [Ev.upd]⟩, rfl, by simp [Ev.upd]⟩⟩
  exact ⟨_, h4, h5, ⟨⟨_, _, _, rfl⟩, by simp [Ev.upd], fun _ => by simp [Ev.upd]⟩⟩

theorem absT_sound {H' : List (Chunk A)} : ∀ {l : List (Nat × SV)} {s : SS A}, Sat AI G s a w → Sat AI G (absT H' l s) a w
  | [], s, hs => hs
  | (t, y) :: r, s, hs => by
    simp only [absT]
    split
    · rename_i k
      split
      · rename_i ht
        split
        · rename_i hk
          split
          · rename_i rt e _ _
            refine absT_sound ?_
            obtain ⟨hd, ρ, hh⟩ := hs
            obtain ⟨ρ', h1, h2, h3⟩ := hh.nilRow hk rt e
            refine ⟨hd, ρ', h1.retm fun q v hq => ?_⟩
            rw [look_cons] at hq
            split at hq
            · rename_i e; subst e; cases hq
              obtain ⟨u, h4, h5⟩ := hh.tm t _ ht
              have h5 : u = .slice none 0 0 := h5
              subst h5
              exact ⟨_, h4, h3⟩
            · exact h1.tm q v hq
          · exact absT_sound hs
        · exact absT_sound hs
      · exact absT_sound hs
    · exact absT_sound hs

theorem All2.setNth {ρ : Ev} {l : List SV1} {vs : List Value} (h : All2 (Den1 ρ) l vs) {y : SV1} : ∀ {j : Nat}, (∀ v, vs[j]? = some v → Den1 ρ y v) → All2 (Den1 ρ) (Sx.setNth l j y) vs := by
  induction h with
  | nil => intro j _; cases j <;> exact .nil
  | cons h1 h2 ih =>
    intro j hy
    cases j with
    | zero => exact .cons (hy _ rfl) h2
    | succ j => exact .cons h1 (ih fun v hv => hy v (by simpa using hv))

theorem absL_sound {H' : List (Chunk A)} {c : Nat} : ∀ {l : List SV1} {j : Nat} {s : SS A}, Sat AI G s a w → Sat AI G (absL H' c j l s) a w
  | [], j, s, hs => hs
  | y :: r, j, s, hs => by
    simp only [absL]
    split
    · rename_i k
      split
      · rename_i ct l hc
        split
        · rename_i hn
          split
          · rename_i hk
            split
            · rename_i rt e _ _
              refine absL_sound ?_
              obtain ⟨hd, ρ, hh⟩ := hs
              obtain ⟨ρ', h1, h2, h3⟩ := hh.nilRow hk rt e
              have hne : c ≠ k := fun e => by rw [e, hk] at hc; cases hc
              have h4 := h1.ch c
              dsimp only at h4
              rw [getC_putC, if_neg hne, hc] at h4
              obtain ⟨b, vs, h5, h6, h7, h8⟩ := h4
              have h9 := hh.ch c
              rw [hc] at h9
              obtain ⟨b', vs', h5', h6', h7', h8'⟩ := h9
              have : vs' = vs := by
                have hb : b' = b := by have := h2.ptr c b' h5'; rw [h5] at this; cases this; rfl
                subst hb
                rw [h7] at h7'
                simpa using (Option.some.inj h7').symm
              subst this
              obtain ⟨u, h10, h11⟩ := h8'.nth hn
              have h11 : u = .slice none 0 0 := h11
              subst h11
              refine ⟨hd, ρ', ?_⟩
              have h12 : All2 (Den1 ρ') (Sx.setNth l j (.hd k 0)) vs' := h8.setNth fun v hv => by rw [h10] at hv; cases hv; exact h3
              refine ⟨h1.sz, h1.tm, fun q => ?_, h1.dis, h1.lt, h1.im, h1.os, h1.tape, h1.output, h1.grow, h1.kept, h1.fro, h1.rt, h1.rts, h1.mono, h1.mfr⟩
              show HoldsC AI ρ' w q (getC (putC (putC s.H k _) c _) q)
              rw [getC_putC]
              split
              · rename_i e; subst e; exact ⟨b, vs', h5, h6, h7, h12⟩
              · exact h1.ch q
            · exact absL_sound hs
          · exact absL_sound hs
        · exact absL_sound hs
      · exact absL_sound hs
    · exact absL_sound hs

theorem absC_sound {H' : List (Chunk A)} : ∀ {l : List (Chunk A)} {c : Nat} {s : SS A}, Sat AI G s a w → Sat AI G (absC H' c l s) a w
  | [], c, s, hs => hs
  | d :: r, c, s, hs => by
    simp only [absC]
    split
    · exact absC_sound (absL_sound hs)
    · exact absC_sound hs

theorem absorb_sound {t : SS A} (hs : Sat AI G s a w) : Sat AI G (absorb t s) a w := absC_sound (absT_sound hs)

/-! ### maps that are not ranged over any more -/
theorem unr_get : ∀ {H H' : List (Chunk A)} {i : Nat}, getC (unr H H') i = unrC (getC H i) (getC H' i) ∨ getC (unr H H') i = getC H i
  | [], [], i => .inr rfl
  | c :: r, [], i => .inr rfl
  | [], d :: m, i => .inr rfl
  | c :: r, d :: m, 0 => .inl rfl
  | c :: r, d :: m, i + 1 => unr_get (H := r) (H' := m) (i := i)
theorem unrC_or (c d : Chunk A) : unrC c d = c ∨ ∃ ks e L R p j, c = .rmap ks e L R p j ∧ unrC c d = .map ks e L := by
  cases c <;> try exact .inl rfl
  cases d <;> try exact .inl rfl
  exact .inr ⟨_, _, _, _, _, _, rfl, rfl⟩
open Classical in
theorem unr_sound {H' : List (Chunk A)} (hs : Sat AI G s a w) : Sat AI G ⟨s.tm, unr s.H H'⟩ a w := by
  obtain ⟨hd, ρ, hh⟩ := hs
  let S : Nat → Prop := fun i => ∃ ks e L R p j, getC s.H i = .rmap ks e L R p j ∧ getC (unr s.H H') i = .map ks e L
  let ρ' : Ev := { root := ρ.root, ver := ρ.ver, M := ρ.M, foot := fun i => if S i then (ρ.foot i).take 1 else ρ.foot i }
  have le : ρ.Le ρ' := ⟨fun _ _ _ h => h, fun _ _ h => h, fun _ => Nat.le_refl _, fun _ _ _ => rfl⟩
  have hfoot : ∀ i b, b ∈ ρ'.foot i → b ∈ ρ.foot i := by
    intro i b hb
    simp only [ρ'] at hb
    split at hb
    · exact List.mem_of_mem_take hb
    · exact hb
  refine ⟨hd, ρ', ⟨hh.sz, fun t v ht => ?_, fun i => ?_, fun i j b hij hi hj => hh.dis i j b hij (hfoot i b hi) (hfoot j b hj), fun i b hb => hh.lt i b (hfoot i b hb), fun b o v hm => ⟨(hh.im b o v hm).1, fun i hb => (hh.im b o v hm).2 i (hfoot i b hb)⟩, hh.os, hh.tape, hh.output, hh.grow, hh.kept,
    fun i b hb => hh.fro i b (hfoot i b hb), hh.rt, hh.rts, hh.mono, hh.mfr⟩⟩
  · obtain ⟨u, h1, h2⟩ := hh.tm t v ht; exact ⟨u, h1, h2.mono le⟩
  · show HoldsC AI ρ' w i (getC (unr s.H H') i)
    by_cases hS : S i
    · obtain ⟨ks, e, L, R, p, j, h1, h2⟩ := id hS
      rw [h2]
      have hc := hh.ch i
      rw [h1] at hc
      obtain ⟨b, r, h3, h4, h5, h6, es, clock, since, seen, a1, a2, a3, a4, a5, a6, a7⟩ := hc
      refine ⟨b, es, clock, h3, ?_, a1, a3⟩
      simp only [ρ', if_pos hS, h5]
      rfl
    · have hsame : getC (unr s.H H') i = getC s.H i := by
        rcases unr_get (H := s.H) (H' := H') (i := i) with h1 | h1
        · rcases unrC_or (getC s.H i) (getC H' i) with h2 | ⟨ks, e, L, R, p, j, h2, h3⟩
          · rw [h1, h2]
          · exact absurd ⟨ks, e, L, R, p, j, h2, by rw [h1, h3]⟩ hS
        · exact h1
      rw [hsame]
      exact (hh.ch i).stays le rfl rfl (by simp only [ρ', if_neg hS]) fun _ _ => rfl

theorem keepT_look {tm : List (Nat × SV)} : ∀ {l : List (Nat × SV)} {t : Nat} {v : SV}, look (keepT tm l) t = some v → look tm t = some v
  | [], _, _, h => by cases h
  | (k, _) :: r, t, v, h => by
    simp only [keepT] at h
    split at h
    · rename_i x hx
      rw [look_cons] at h
      split at h
      · rename_i e; subst e; cases h; exact hx
      · exact keepT_look h
    · exact keepT_look h
theorem keepT_sound {l : List (Nat × SV)} (hs : Sat AI G s a w) : Sat AI G ⟨keepT s.tm l, s.H⟩ a w := by
  obtain ⟨hd, ρ, hh⟩ := hs
  exact ⟨hd, ρ, ⟨hh.sz, fun t v ht => hh.tm t v (keepT_look ht), hh.ch, hh.dis, hh.lt, hh.im, hh.os, hh.tape, hh.output, hh.grow, hh.kept, hh.fro, hh.rt, hh.rts, hh.mono, hh.mfr⟩⟩

theorem Sub.sound [SubA A] {t : SS A} {n0 : Nat} (hn0 : G.n0 = n0) (h : Sub n0 s t) (hs : Sat AI G s a w) : Sat AI G t a w := by
  have h0 := norm_sound hn0 (frz_sound t.H.length (absorb_sound (t := t) (keepT_sound (l := t.tm) (unr_sound (H' := t.H) hs))))
  unfold Sub at h
  generalize norm n0 (frz t.H.length (absorb t ⟨keepT s.tm t.tm, unr s.H t.H⟩)) = s' at h h0
  dsimp only at h
  split at h
  · rename_i C h1
    split at h
    · rename_i D h2
      split at h
      · rename_i h3
        obtain ⟨h⟩ := h
        obtain ⟨h4, _⟩ := conds_spec h
        exact sub_core hn0 h1 h2 (leN h3) (fun X hX => h4 X (List.mem_append.2 (.inl hX))) (fun X hX => h4 X (List.mem_append.2 (.inr hX))) h0
      · exact h.elim
    · exact h.elim
  · exact h.elim

theorem All2.splitAt {α β : Type} {R : α → β → Prop} {l : List α} {m1 m2 : List β} {y : β} (h : All2 R l (m1 ++ y :: m2)) : ∃ l1 x l2, l = l1 ++ x :: l2 ∧ All2 R l1 m1 ∧ R x y ∧ All2 R l2 m2 := by
  induction m1 generalizing l with
  | nil => cases h with | cons h1 h2 => exact ⟨[], _, _, rfl, .nil, h1, h2⟩
  | cons z m1 ih =>
    cases h with
    | cons h1 h2 =>
      obtain ⟨l1, x, l2, rfl, h3, h4, h5⟩ := ih h2
      exact ⟨_ :: l1, x, l2, rfl, .cons h1 h3, h4, h5⟩

theorem left_push {es : Array MapEntry} {seen : Array Nat} {m1 m2 : List MapEntry} {m : MapEntry} (hp : (es.toList.map (·.born)).Pairwise (· < ·)) (h : (leftOf es seen).toList = m1 ++ m :: m2) : (leftOf es (seen.push m.born)).toList = m1 ++ m2 := by
  have e1 : (leftOf es (seen.push m.born)).toList = (leftOf es seen).toList.filter fun x => !(x.born == m.born) := by
    simp only [leftOf, Array.toList_filter, List.filter_filter]
    congr 1
    funext x
    simp only [Array.contains_push]
    cases h1 : (x.born == m.born) <;> simp
  have hn : (((leftOf es seen).toList).map (·.born)).Pairwise (· < ·) := by
    simp only [leftOf, Array.toList_filter]
    exact hp.sublist (List.Sublist.map _ List.filter_sublist)
  rw [e1, h]
  rw [h] at hn
  simp only [List.map_append, List.map_cons, List.pairwise_append, List.pairwise_cons, List.mem_map, List.mem_cons] at hn
  obtain ⟨n1, ⟨n2, n3⟩, n4⟩ := hn
  rw [List.filter_append, List.filter_cons]
  have f1 : m1.filter (fun x => !(x.born == m.born)) = m1 := List.filter_eq_self.2 fun x hx => by
    have := n4 x.born ⟨x, hx, rfl⟩ m.born (.inl rfl)
    simp; omega
  have f2 : m2.filter (fun x => !(x.born == m.born)) = m2 := List.filter_eq_self.2 fun x hx => by
    have := n2 x.born ⟨x, hx, rfl⟩
    simp; omega
  rw [f1, f2]
  simp

theorem snext_sound {opsA : Array Oper} {id t d0 d1 : Nat} (hn : nextOf opsA.toList = some (t, d0, d1)) (hdst : ∀ o ∈ opsA.toList, ∀ t, o.dst = some t → t < G.size) {Q : SS A → Prop} {Qx : Exit → Act → World → Prop} (hQ : ∀ s', Q s' → Then AI G s' (Qx .normal)) (h : snext t d0 d1 s Q) (hs : Sat AI G s a w) :
    (Code.region id opsA false).wp P Qx a w := by
  refine wp_region_list ?_
  generalize opsA.toList = ops at hn hdst
  unfold nextOf at hn
  split at hn <;> (try cases hn)
  rename_i o o'
  split at hn <;> (try cases hn)
  rename_i t' d0' d d1' ho1 ho2 ho3 ho4 ho5 ho6
  split at hn <;> cases hn
  rename_i hb
  have hb := beq_eq hb
  subst hb
  have l0 := hdst o (by simp) d ho2
  have l1 := hdst o' (by simp) d1 ho5
  obtain ⟨hd, ρ, hh⟩ := hs
  unfold snext at h
  split at h <;> (try exact h.elim)
  rename_i j hj
  split at h <;> (try exact h.elim)
  rename_i i hji
  split at h <;> (try exact h.elim)
  rename_i ks e L R c j' hi
  split at h <;> (try exact h.elim)
  rename_i hjj
  have hjj := beq_eq hjj
  subst hjj
  obtain ⟨u, hu1, hu2⟩ := hh.tm t _ hj
  have hc := hh.ch i
  rw [hi] at hc
  obtain ⟨b, r, h1, h2, h3, h4, es, clock, since, seen, a1, a2, a3, a4, a5, a6, a7⟩ := hc
  obtain ⟨r', e1, rfl⟩ := hu2
  have : r' = r := by rw [h2] at e1; cases e1; rfl
  subst this
  have hev : a.eval (.tmp t) = .pointer (some ⟨r', 0, none⟩) := by simp [Act.eval, hu1]
  cases h with
  | mk p q =>
  have hsz := hh.sz
  have fin : ∀ (bv : Bool) (y : Value) (w' : World) (H' : List (Chunk A)) (ρ' : Ev), ρ.Le ρ' → Holds AI G ⟨s.tm, H'⟩ ρ' a.tmps w' → (∃ l, y = .tuple (.bool bv :: l).toArray) → Q ⟨(d1, one (.lb bv)) :: (d, one .any) :: s.tm, H'⟩ → wpList P opsA Qx [o'] (a.put o.dst y) w' := by
    rintro bv y w' H' ρ' le h5 ⟨l, rfl⟩ hq
    refine wpList_plain ho6 fun K hK => ?_
    have h6 := h5.put (dst := some d) (v := one .any) (u := .tuple (.bool bv :: l).toArray) (a := a) (fun t e => by cases e; exact l0) trivial
    have h7 := h6.put (dst := some d1) (v := one (.lb bv)) (u := .bool bv) (a := a.put (some d) (.tuple (.bool bv :: l).toArray)) (fun t e => by cases e; exact l1) rfl
    have hev2 : (a.put o.dst (.tuple (.bool bv :: l).toArray)).eval (.tmp d) = .tuple (.bool bv :: l).toArray := by
      rw [ho2]
      have : d < a.tmps.size := by rw [hsz]; exact l0
      simp [Act.eval, Act.put, this]
    unfold Oper.wp
    have hex : (execOp (a.put o.dst (.tuple (.bool bv :: l).toArray)).eval o').run P w' = .ok (.value (.bool bv)) w' := by
      unfold execOp
      rw [ho4]
      simp only [hev2]
      simp [Instr.extract]
    rw [hex, Oper.upon_value]
    refine hK _ _ ?_
    rw [ho5, ho2]
    unfold wpList
    exact hQ _ hq _ _ (by rw [Act.put_defers', Act.put_defers', hd]) ⟨ρ', h7⟩
  refine wpList_plain ho3 fun K hK => ?_
  unfold Oper.wp
  have hex : (execOp a.eval o).run P w = ((Instr.next (.pointer (some ⟨r', 0, none⟩)) false o.type).run P w).andThen fun y w' => .ok (.value y) w' := by
    unfold execOp
    rw [ho1]
    simp only [hev]
    simp [Sem.run_bind]
  rw [hex]
  rcases run_next_at (P := P) w o.type r' b since clock seen es clock a2 a1 a4 a5 with ⟨h0, hrun⟩ | ⟨m, hm, w1, hw1, hrun⟩
  · rw [hrun]
    simp only [Result.andThen, Oper.upon_value]
    refine hK _ _ (fin false _ w s.H ρ (.refl ρ) hh ⟨[], rfl⟩ (p ?_))
    have : (leftOf es seen).toList = [] := by
      have := List.eq_nil_of_length_eq_zero (l := (leftOf es seen).toList) (by simpa using h0)
      exact this
    rw [this] at a6
    cases hR : R () with
    | nil => rfl
    | cons x l => rw [hR] at a6; cases a6
  · rw [hrun]
    simp only [Result.andThen, Oper.upon_value]
    obtain ⟨m1, m2, hsp⟩ := List.append_of_mem hm
    rw [hsp] at a6
    obtain ⟨l1, x, l2, hR, b1, b2, b3⟩ := a6.splitAt
    have hw1h : w1.heap = w.heap ∧ w1.os = w.os ∧ w1.tape = w.tape ∧ w1.output = w.output := by rcases hw1 with rfl | rfl <;> exact ⟨rfl, rfl, rfl, rfl⟩
    have hrlt : r' < w.heap.size := by
      rcases Nat.lt_or_ge r' w.heap.size with h | h
      · exact h
      · rw [Array.getElem?_eq_none h] at a2; cases a2
    have hmem : m ∈ es.toList := by
      have := hm
      simp only [leftOf, Array.toList_filter, List.mem_filter] at this
      exact this.1
    obtain ⟨h8, h9⟩ := hh.upd1 i (ρ.root i) (ρ.ver i) (ρ.foot i) (.rmap ks e L (fun _ => l1 ++ l2) (some (fun _ => x)) j) (Go.ChangeMaps.setBlock w1 r' (.mapIter (some b) since (seen.push m.born) clock)) (fun _ h => h) (Nat.le_refl _) (fun _ _ => rfl) (fun bb hbb => ⟨.inl hbb, by simpa [Go.ChangeMaps.setBlock, hw1h.1] using hh.lt i bb hbb⟩)
      (fun b2 _ hn => by
        have : r' ≠ b2 := fun e => hn (by rw [h3, e]; simp)
        simp [Go.ChangeMaps.setBlock, hw1h.1, this]) hw1h.2.1 hw1h.2.2.1 hw1h.2.2.2 (by simp [Go.ChangeMaps.setBlock, hw1h.1])
      ⟨b, r', by simp [Ev.upd, h1], by
          simp only [Ev.upd]
          split
          · rename_i e; subst e; exact h2
          · exact h2, by simp [Ev.upd, h3], h4, es, clock, since, seen.push m.born, by simp [Go.ChangeMaps.setBlock, hw1h.1, h4.symm, a1], by simp [Go.ChangeMaps.setBlock, hw1h.1, hrlt], a3, a4, a5, by
          rw [left_push a3.2.1 hsp]
          exact b1.append b3, fun p hp => by cases hp; exact ⟨m, seen, hmem, rfl, b2⟩⟩
    exact hK _ _ (fin true _ _ _ _ h9 h8 ⟨[m.key, m.val], rfl⟩ (q l1 x l2 hR))

theorem svc_sound [SubA A] {E : Env A} (hE : EnvOk P AI E) (hm : P.follows .mixedOrders = true) {n0 : Nat} (hn0 : G.n0 = n0) : ∀ (c : Code), codeOk G.size c = true → ∀ (s : SS A) (Q : XE → SS A → Prop) (Qx : Exit → Act → World → Prop) (a : Act) (w : World),
    svc E n0 c s Q → Sat AI G s a w → (∀ e s', Q e s' → Then AI G s' (Qx e.out)) → c.wp P Qx a w := by
  have th : ∀ {s : SS A} {a : Act} {w : World} {K : Act → World → Prop}, Then AI G s K → Sat AI G s a w → K a w := fun h hs => h _ _ hs.1 hs.2
  intro c
  induction c with
  | skip => intro _ s Q Qx a w h hs hQ; exact wp_skip (th (hQ _ _ h) hs)
  | region id ops draw =>
    intro hok s Q Qx a w h hs hQ
    have hdst : ∀ o ∈ ops.toList, ∀ t, o.dst = some t → t < G.size := fun o ho t ht => by
      have h1 := Array.all_eq_true'.1 hok o (by simpa using ho)
      rw [ht] at h1
      exact leN h1
    simp only [svc] at h
    split at h
    · exact sreg_sound hE hm hdst (fun s' hs' => hQ _ _ hs') 24 ⟨[], []⟩ h hs
    · split at h
      · rename_i t d0 d1 hn
        exact snext_sound hn hdst (fun s' hs' => hQ _ _ hs') h hs
      · exact sreg_sound hE hm hdst (fun s' hs' => hQ _ _ hs') 24 ⟨[], []⟩ h hs
  | seq x y ihx ihy =>
    intro hok s Q Qx a w h hs hQ
    obtain ⟨o1, o2⟩ := Bool.and_eq_true_iff.1 hok
    refine wp_seq (ihx o1 s _ _ a w h hs fun e s' hq => ?_)
    cases e with
    | normal => exact fun a' w' hd hh => ihy o2 s' Q Qx a' w' hq ⟨hd, hh⟩ hQ
    | ret => exact hQ .ret s' hq
    | exit id => exact hQ (.exit id) s' hq
  | cond c x y ihx ihy =>
    intro hok s Q Qx a w h hs hQ
    obtain ⟨o1, o2⟩ := Bool.and_eq_true_iff.1 hok
    obtain ⟨hd, ρ, hh⟩ := id hs
    simp only [svc] at h
    split at h
    · rename_i hc; exact wp_cond_true (hh.eval hc) (ihx o1 s Q Qx a w h hs hQ)
    · rename_i hc; exact wp_cond_false (hh.eval hc) (ihy o2 s Q Qx a w h hs hQ)
    · rename_i g hc
      have hg := hh.eval hc
      split at h
      · rename_i t
        cases h with
        | mk h1 h2 =>
          cases hb : g () with
          | true => exact wp_cond_true (by rw [show a.eval (.tmp t) = .bool (g ()) from hg, hb]) (ihx o1 _ Q Qx a w (h1 hb) (hs.lb hc hb) hQ)
          | false => exact wp_cond_false (by rw [show a.eval (.tmp t) = .bool (g ()) from hg, hb]) (ihy o2 _ Q Qx a w (h2 hb) (hs.lb hc hb) hQ)
      · exact h.elim
    · rename_i neg C hc
      split at h
      · rename_i t
        cases h with
        | mk h1 h2 =>
          obtain ⟨b, e1, e2, e3⟩ := hs.nb hc
          cases b with
          | true => exact wp_cond_true e1 (ihx o1 _ Q Qx a w (h1 fun e => e2 (by rw [e]; rfl)) e3 hQ)
          | false => exact wp_cond_false e1 (ihy o2 _ Q Qx a w (h2 fun e => e2 (by rw [e]; rfl)) e3 hQ)
      · exact h.elim
    · exact h.elim
  | block id c ih =>
    intro hok s Q Qx a w h hs hQ
    refine wp_block (ih hok s _ _ a w h hs fun e s' hq => ?_)
    cases e with
    | normal => exact hQ .normal s' hq
    | ret => exact hQ .ret s' hq
    | exit id' =>
      dsimp only at hq
      split at hq
      · rename_i hb
        have hb := beq_eq hb
        subst hb
        have := hQ .normal s' hq
        intro a' w' hd hh
        simp only [XE.out, Exit.inBlock, if_pos]
        exact this a' w' hd hh
      · rename_i hb
        have hne : ¬ id' = id := by rintro rfl; simp at hb
        have := hQ (.exit id') s' hq
        intro a' w' hd hh
        simp only [XE.out, Exit.inBlock, if_neg hne]
        exact this a' w' hd hh
  | loop c ih =>
    intro hok s Q Qx a w h hs hQ
    obtain ⟨I, h0, h1⟩ := h
    refine wp_loop_ghost (fun n a w => ∃ x, I.m x = n ∧ Sat AI G (I.inv x) a w) (I.m I.x0) ⟨I.x0, rfl, h0.sound hn0 hs⟩ fun n a w hx => ?_
    obtain ⟨x, rfl, hx⟩ := hx
    refine ih hok (I.inv x) _ _ a w (h1 x) hx fun e s' hq => ?_
    cases e with
    | normal =>
      obtain ⟨y, h2, h3⟩ := hq
      exact fun a' w' hd hh => ⟨I.m y, h2, y, rfl, h3.sound hn0 ⟨hd, hh⟩⟩
    | ret => exact hQ .ret s' hq
    | exit id => exact hQ (.exit id) s' hq
  | exit id => intro _ s Q Qx a w h hs hQ; exact wp_exit (th (hQ _ _ h) hs)
  | ret => intro _ s Q Qx a w h hs hQ; exact wp_ret (th (hQ _ _ h) hs)
  | scope c ih =>
    intro hok s Q Qx a w h hs hQ
    refine wp_scope_straight (ih hok s Q _ a w h hs fun e s' hq => ?_)
    cases e <;> exact hQ _ s' hq
  | label l => intro _ s Q Qx a w h; exact h.elim
  | goto l => intro _ s Q Qx a w h; exact h.elim
  | refuse y => intro _ s Q Qx a w h; exact h.elim
  | rangeFunc f p x y _ _ => intro _ s Q Qx a w h; exact h.elim

end Go.Sx
