/-
  Symbolic execution (part 3).
-/
import Derived.Test.YtgdiepbjdpmfbaaEng2
import Derived.Deep.LoopGhost
import Derived.Scope
import Derived.ChangeKeysEq
import Derived.Deep.Slices
import Derived.ChangeOld
import Derived.OpenShut
import Derived.ShutString
import Derived.Below
/-
  Symbolic execution: code.
-/
namespace Go.Sx
set_option linter.all false
set_option linter.unusedVariables false
set_option linter.unusedSimpArgs false
set_option linter.unusedSectionVars false
open Go.RowKit

variable {A : Type} {AI : Abs A} {G : Fr} {s : SS A} {ρ : Ev} {a : Act} {w : World} {P : Program}

theorem conds_spec : ∀ {Cs : List (U Prop)} {R : Prop}, conds R Cs → (∀ C ∈ Cs, C ()) ∧ R
  | [], R, h => ⟨by simp, h⟩
  | C :: r, R, h => by
    obtain ⟨h1, h2⟩ := conds_spec (Cs := r) h
    cases h2 with
    | mk h3 h4 => exact ⟨fun D hD => (List.mem_cons.1 hD).elim (fun e => e ▸ h3) (h1 D), h4⟩

theorem Failed.elim {n : Nat} {p : Prop} (h : Failed n) : p := by cases h

theorem Holds.retm {tmps : Array Value} {tm' : List (Nat × SV)} (h : Holds AI G s ρ tmps w) (ht : ∀ t v, look tm' t = some v → ∃ u, tmps[t]? = some u ∧ Den ρ v u) : Holds AI G ⟨tm', s.H⟩ ρ tmps w :=
  ⟨h.sz, h.gt, ht, h.ch, h.dis, h.lt, h.im, h.os, h.tape, h.output, h.grow, h.kept, h.fro, h.rt, h.rts, h.mono, h.mfr⟩

theorem look_cons {α : Type} (t : Nat) (v : α) (tm : List (Nat × α)) (k : Nat) : look ((t, v) :: tm) k = if t = k then some v else look tm k := by
  simp only [look]
  by_cases h : t = k
  · subst h; simp
  · rw [show beqN t k = false by cases hb : beqN t k; rfl; exact absurd (beq_eq hb) h]; simp [h]

theorem Sat.lb (h : Sat AI G s a w) {t : Nat} {g : U Bool} (ht : look s.tm t = some (.val (.one (.sb g)))) {b : Bool} (hb : g () = b) : Sat AI G ⟨(t, one (.lb b)) :: s.tm, s.H⟩ a w := by
  obtain ⟨hd, ρ, hh⟩ := h
  refine ⟨hd, ρ, hh.retm fun k v hk => ?_⟩
  rw [look_cons] at hk
  split at hk
  · rename_i e
    subst e
    cases hk
    obtain ⟨u, h1, h2⟩ := hh.tm t _ ht
    refine ⟨u, h1, ?_⟩
    simp only [one, Den, Den2, Den1] at h2 ⊢
    rw [h2, hb]
  · exact hh.tm k v hk

theorem Sat.nb (h : Sat AI G s a w) {t : Nat} {neg : Bool} {C : U Prop} (ht : look s.tm t = some (.val (.one (.nb neg C)))) : ∃ b, a.eval (.tmp t) = .bool b ∧ (b = !neg → C ()) ∧ Sat AI G ⟨(t, one (.lb b)) :: s.tm, s.H⟩ a w := by
  obtain ⟨hd, ρ, hh⟩ := h
  obtain ⟨u, h1, h2⟩ := hh.tm t _ ht
  obtain ⟨b, rfl, h3⟩ := h2
  refine ⟨b, ?_, h3, hd, ρ, hh.retm fun k v hk => ?_⟩
  · have := hh.eval (x := .tmp t) (v := .val (.one (.nb neg C))) ht
    obtain ⟨b', e1, _⟩ := this
    have : a.eval (.tmp t) = .bool b := by simp [Act.eval, h1]
    exact this
  · rw [look_cons] at hk
    split at hk
    · rename_i e; subst e; cases hk; exact ⟨_, h1, rfl⟩
    · exact hh.tm k v hk

theorem preSl_sound {sl0 : List (Nat × Bool)} : ∀ (sl : List (Nat × Bool)) {tm' : List (Nat × SV)} {Cs : List (U Prop)}, preSl sl0 sl s.tm = (tm', Cs) → (∀ C ∈ Cs, C ()) → Sat AI G s a w → Sat AI G ⟨tm', s.H⟩ a w
  | [], tm', Cs, h, _, hs => by simp only [preSl, Prod.mk.injEq] at h; obtain ⟨rfl, rfl⟩ := h; exact hs
  | (t, b) :: r, tm', Cs, h, hC, hs => by
    simp only [preSl] at h
    cases hp : preSl sl0 r s.tm with
    | mk tm2 Cs2 =>
      rw [hp] at h
      dsimp only at h
      split at h
      · rename_i g hg
        simp only [Prod.mk.injEq] at h
        obtain ⟨rfl, rfl⟩ := h
        obtain ⟨hd, ρ, hh⟩ := preSl_sound r hp (fun C hC' => hC C (by simp [hC'])) hs
        have h0 := hC _ (List.mem_cons_self ..)
        -- both states hold of one world: the slot's value is known from the first
        obtain ⟨_, ρ0, hh0⟩ := hs
        refine ⟨hd, ρ, hh.retm fun k v hk => ?_⟩
        rw [look_cons] at hk
        split at hk
        · rename_i e
          subst e
          cases hk
          obtain ⟨u, h1, h2⟩ := hh0.tm t _ hg
          refine ⟨u, h1, ?_⟩
          simp only [one, Den, Den2, Den1] at h2 ⊢
          rw [h2, h0]
        · exact hh.tm k v hk
      · simp only [Prod.mk.injEq] at h
        obtain ⟨rfl, rfl⟩ := h
        exact preSl_sound r hp hC hs

def XE.out : XE → Exit
  | .normal => .normal
  | .ret => .ret
  | .exit id => .exit id

theorem Sat.drew (h : Sat AI G s a w) : Sat AI G s a { w with drawn := w.drawn + 1 } := by
  obtain ⟨hd, ρ, hh⟩ := h
  exact ⟨hd, ρ, hh.drew⟩

theorem sreg_sound {E : Env A} (hE : EnvOk P AI E) (hm : P.follows .mixedOrders = true) {id : Nat} {opsA : Array Oper} {draw : Bool} (hdst : ∀ o ∈ opsA.toList, ∀ t, o.dst = some t → t < G.size) {Q : SS A → Prop} {Qx : Exit → Act → World → Prop}
    (hQ : ∀ s', Q s' → Then AI G s' (Qx .normal)) : ∀ (n : Nat) (d : Dec), sreg E opsA.toList draw s Q n d → Sat AI G s a w → (Code.region id opsA draw).wp P Qx a w
  | 0, d, h, _ => h.elim
  | n + 1, d, h, hs => by
    simp only [sreg] at h
    cases hp : preSl d.sl d.sl s.tm with
    | mk tm C0 =>
      rw [hp] at h
      dsimp only at h
      split at h
      · exact h.elim
      · rename_i t b _
        cases h with
        | mk h1 h2 =>
          cases hb : b () with
          | true => exact sreg_sound hE hm hdst hQ n _ (h1 hb) hs
          | false => exact sreg_sound hE hm hdst hQ n _ (h2 hb) hs
      · rename_i j b _
        cases h with
        | mk h1 h2 =>
          cases hb : b () with
          | true => exact sreg_sound hE hm hdst hQ n _ (h1 hb) hs
          | false => exact sreg_sound hE hm hdst hQ n _ (h2 hb) hs
      · rename_i Cs s' effs hrun
        obtain ⟨h1, effs', h2, h3, h4, h5⟩ := srun_spec _ _ _ _ _ hrun
        simp only [List.reverse_nil, List.nil_append] at h2
        subst h2
        have fin : (∀ C ∈ Cs, C ()) → Q s' → Sat AI G ⟨tm, s.H⟩ a w ∧ (∀ i o, opsA.toList[i]? = some o → ∃ e Ce, effs[i]? = some e ∧ OpDid E opsA.toList d (runE (effs.take i) ⟨tm, s.H⟩) o (0 + i) e Ce ∧ ∀ C ∈ Ce, C ()) ∧ Then AI G (runE effs ⟨tm, s.H⟩) (Qx .normal) := by
          intro hC hq
          refine ⟨preSl_sound _ hp (fun C hC' => hC C (h1 C hC')) hs, fun i o hi => ?_, h4 ▸ hQ s' hq⟩
          obtain ⟨e, Ce, h6, h7, h8⟩ := h5 i o hi
          exact ⟨e, Ce, h6, h7, fun C hC' => hC C (h8 C hC')⟩
        split at h
        · obtain ⟨hC, hq⟩ := conds_spec h
          obtain ⟨f1, f2, f3⟩ := fin hC hq
          refine wp_region_list ?_
          have := run_text hE opsA.toList 0 ⟨tm, s.H⟩ effs a w h3 f2 hdst f1 f3
          simpa using this
        · cases h with
          | mk hok h =>
            obtain ⟨hC, hq⟩ := conds_spec h
            obtain ⟨f1, f2, f3⟩ := fin hC hq
            refine wp_region_any hm ?_
            refine run_draw hE h3 (fun i o hi => by have := f2 i o hi; simpa using this) hok hdst f3 opsA.size _ a _ (by simp) (fun i o hi hl => by
              exfalso
              have : (Array.replicate opsA.size false).getD i false = false := getD_replicate_false _ _
              rw [this] at hl; cases hl) (by omega) ?_
            have e1 : stL effs 0 (fun i => (Array.replicate opsA.size false).getD i false) (⟨tm, s.H⟩ : SS A) = ⟨tm, s.H⟩ := by
              have key : ∀ (l : List (Eff A)) (k : Nat) (s : SS A), stL l k (fun i => (Array.replicate opsA.size false).getD i false) s = s := by
                intro l
                induction l with
                | nil => intro k s; rfl
                | cons e r ih =>
                  intro k s
                  simp only [stL]
                  rw [if_neg (by rw [getD_replicate_false]; simp)]
                  exact ih _ _
              exact key _ _ _
            rw [e1]
            exact f1.drew

/-! ### weakening -/
def Ev.trim (ρ : Ev) (n : Nat) : Ev :=
  { root := fun i => if i < n then ρ.root i else .bool false, ver := fun i => if i < n then ρ.ver i else 0, M := ρ.M, foot := fun i => if i < n then ρ.foot i else [] }

theorem sub1_sound {n : Nat} {x y : SV1} {C : U Prop} (h : sub1 n x y = some C) (hC : C ()) {v : Value} (hv : Den1 ρ x v) : Den1 (ρ.trim n) y v := by
  unfold sub1 at h
  split at h
  · trivial
  · split at h <;> simp at h
    rename_i hk
    simp at hk
    subst hk; subst h
    simp only [Den1] at hv ⊢; rw [hv, hC]
  · split at h <;> simp at h
    rename_i hk
    simp at hk
    subst hk; subst h
    simp only [Den1] at hv ⊢; rw [hv, hC]
  · split at h <;> simp at h
    rename_i hk
    obtain ⟨h1, h2⟩ := Bool.and_eq_true_iff.1 hk
    simp at h1 h2
    subst h1; subst h2
    exact hv
  · simp at h; subst h; simp only [Den1] at hv ⊢; rw [hv, hC]
  · simp at h; subst h; simp only [Den1] at hv ⊢; rw [hv, hC]
  · simp at h; subst h; simp only [Den1] at hv ⊢; rw [hv, hC]
  · split at h <;> simp at h
    rename_i hk
    simp at hk
    subst hk
    exact hv
  · simp at h; subst h; simp only [Den1] at hv ⊢; rw [hv, hC]
  · exact hv
  · rename_i e L
    simp at h
    subst h
    simp only [Den1] at hv ⊢
    subst hv
    have hC : L () = [] := hC
    exact ⟨none, 0, by rw [hC]; rfl, by rw [hC]; simp, by rw [hC]; simp⟩
  · exact hv
  · split at h <;> simp at h
    rename_i hk
    obtain ⟨h1, h3⟩ := Bool.and_eq_true_iff.1 hk
    obtain ⟨h1, h2⟩ := Bool.and_eq_true_iff.1 h1
    have h1 := beq_eq h1
    have h2 := beq_eq h2
    have h3 : _ < n := leN h3
    subst h1; subst h2
    obtain ⟨b, h4, h5⟩ := hv
    exact ⟨b, by simp [Ev.trim, h3, h4], h5⟩
  · split at h <;> simp at h
    rename_i hk
    obtain ⟨h1, h3⟩ := Bool.and_eq_true_iff.1 hk
    have h1 := beq_eq h1
    have h3 : _ < n := leN h3
    subst h1
    obtain ⟨b, h4, h5⟩ := hv
    exact ⟨b, by simp [Ev.trim, h3, h4], h5⟩
  · split at h <;> simp at h
    rename_i f hf
    subst h
    obtain ⟨rfl, h1⟩ := castL_id hf
    simp only [Den1] at hv ⊢
    have : _ = _ := hC
    rw [h1] at this
    rw [← this]; exact hv
  · split at h <;> simp at h
    rename_i hk
    obtain ⟨h1, h3⟩ := Bool.and_eq_true_iff.1 hk
    obtain ⟨h1, h2⟩ := Bool.and_eq_true_iff.1 h1
    have h1 := beq_eq h1
    have h2 := beq_eq h2
    have h3 : _ < n := leN h3
    subst h1; subst h2
    obtain ⟨h4, h5, h6⟩ := hv
    exact ⟨h4, by simpa [Ev.trim, h3] using h5, by simpa [Ev.trim, h3] using h6⟩
  · cases h

theorem sub1s_sound {n : Nat} : ∀ {l m : List SV1} {Cs : List (U Prop)} {vs : List Value}, sub1s n l m = some Cs → (∀ C ∈ Cs, C ()) → All2 (Den1 ρ) l vs → All2 (Den1 (ρ.trim n)) m vs
  | [], [], Cs, vs, h, _, hv => by cases hv; exact .nil
  | x :: l, y :: m, Cs, vs, h, hC, hv => by
    simp only [sub1s] at h
    split at h <;> (try cases h)
    rename_i C h1
    split at h <;> cases h
    rename_i Cs h2
    cases hv with
    | cons hx hl => exact .cons (sub1_sound h1 (hC C (by simp)) hx) (sub1s_sound h2 (fun D hD => hC D (by simp [hD])) hl)
  | [], _ :: _, _, _, h, _, _ => by cases h
  | _ :: _, [], _, _, h, _, _ => by cases h
theorem sub2_sound {n : Nat} {x y : SV2} {Cs : List (U Prop)} (h : sub2 n x y = some Cs) (hC : ∀ C ∈ Cs, C ()) {v : Value} (hv : Den2 ρ x v) : Den2 (ρ.trim n) y v := by
  unfold sub2 at h
  split at h
  · trivial
  · split at h <;> cases h
    rename_i C h1
    exact sub1_sound h1 (hC C (by simp)) hv
  · obtain ⟨vs, h1, h2⟩ := hv; exact ⟨vs, h1, sub1s_sound h hC h2⟩
  · split at h <;> (try cases h)
    rename_i hb
    have hb := beq_eq hb
    subst hb
    obtain ⟨vs, h1, h2⟩ := hv; exact ⟨vs, h1, sub1s_sound h hC h2⟩
  · cases h
theorem sub2s_sound {n : Nat} : ∀ {l m : List SV2} {Cs : List (U Prop)} {vs : List Value}, sub2s n l m = some Cs → (∀ C ∈ Cs, C ()) → All2 (Den2 ρ) l vs → All2 (Den2 (ρ.trim n)) m vs
  | [], [], Cs, vs, h, _, hv => by cases hv; exact .nil
  | x :: l, y :: m, Cs, vs, h, hC, hv => by
    simp only [sub2s] at h
    split at h <;> (try cases h)
    rename_i C h1
    split at h <;> cases h
    rename_i Cs h2
    cases hv with
    | cons hx hl => exact .cons (sub2_sound h1 (fun D hD => hC D (by simp [hD])) hx) (sub2s_sound h2 (fun D hD => hC D (by simp [hD])) hl)
  | [], _ :: _, _, _, h, _, _ => by cases h
  | _ :: _, [], _, _, h, _, _ => by cases h
theorem subV_sound {n : Nat} {x y : SV} {Cs : List (U Prop)} (h : subV n x y = some Cs) (hC : ∀ C ∈ Cs, C ()) {v : Value} (hv : Den ρ x v) : Den (ρ.trim n) y v := by
  unfold subV at h
  split at h
  · trivial
  · exact sub2_sound h hC hv
  · obtain ⟨vs, h1, h2⟩ := hv; exact ⟨vs, h1, sub2s_sound h hC h2⟩
  · cases h
theorem subT_sound {n : Nat} {tm : List (Nat × SV)} : ∀ {l : List (Nat × SV)} {Cs : List (U Prop)}, subT n tm l = some Cs → (∀ C ∈ Cs, C ()) → ∀ t y, look l t = some y → ∃ x Ds, look tm t = some x ∧ subV n x y = some Ds ∧ ∀ C ∈ Ds, C ()
  | [], Cs, h, _, t, y, hl => by cases hl
  | (k, z) :: r, Cs, h, hC, t, y, hl => by
    simp only [subT] at h
    split at h <;> (try cases h)
    rename_i x hx
    split at h <;> (try cases h)
    rename_i C h1
    split at h <;> cases h
    rename_i Cs h2
    rw [look_cons] at hl
    split at hl
    · rename_i e
      subst e
      cases hl
      exact ⟨x, C, hx, h1, fun D hD => hC D (by simp [hD])⟩
    · exact subT_sound h2 (fun D hD => hC D (by simp [hD])) t y hl

theorem castM_id {ks ks' : KT} {e e' : Ty} {f : List (ks.T × e.T) → List (ks'.T × e'.T)} (h : castM ks ks' e e' = some f) : ∃ (h1 : ks = ks') (h2 : e = e'), ∀ x, f x = (by subst h1; subst h2; exact x) := by
  unfold castM at h
  split at h
  · rename_i fk hk
    split at h
    · rename_i g hg
      obtain ⟨rfl, h3⟩ := castT_id hg
      have : ∃ h1 : ks = ks', ∀ x, fk x = h1 ▸ x := by
        cases ks <;> cases ks' <;> simp only [castK, reduceCtorEq] at hk
        · split at hk <;> simp at hk
          rename_i he
          simp at he
          subst he; subst hk
          exact ⟨rfl, fun _ => rfl⟩
        · simp at hk; subst hk; exact ⟨rfl, fun _ => rfl⟩
      obtain ⟨rfl, h4⟩ := this
      refine ⟨rfl, rfl, fun x => ?_⟩
      simp only [Option.some.injEq] at h
      subst h
      simp [h3, h4]
    · cases h
  · cases h

theorem subC_sound [SubA A] {n i : Nat} (hi : i < n) {c d : Chunk A} {Cs : List (U Prop)} (h : subC n c d = some Cs) (hC : ∀ C ∈ Cs, C ()) (hc : HoldsC AI ρ w i c) : HoldsC AI (ρ.trim n) w i d := by
  have e1 : (ρ.trim n).root i = ρ.root i := by simp [Ev.trim, hi]
  have e2 : (ρ.trim n).ver i = ρ.ver i := by simp [Ev.trim, hi]
  have e3 : (ρ.trim n).foot i = ρ.foot i := by simp [Ev.trim, hi]
  unfold subC at h
  split at h
  · trivial
  · simp only [HoldsC, e1, e2, e3] at hc ⊢; exact hc
  · split at h <;> (try cases h)
    rename_i hb
    have hb := beq_eq hb
    subst hb
    obtain ⟨b, vs, h1, h2, h3, h4⟩ := hc
    exact ⟨b, vs, e1.trans h1, e3.trans h2, h3, sub1s_sound h hC h4⟩
  · split at h <;> (try cases h)
    rename_i hb
    obtain ⟨hb1, hb2⟩ := Bool.and_eq_true_iff.1 hb
    have hb1 := beq_eq hb1
    subst hb1
    have hb2 := beq_eq hb2
    subst hb2
    split at h <;> cases h
    rename_i f hf
    obtain ⟨rfl, h1⟩ := castL_id hf
    have h2 := hC _ (List.mem_cons_self ..)
    rw [h1] at h2
    obtain ⟨h3, h4⟩ := hc
    exact ⟨h3.trans e2.symm, by rw [e1, e3, ← h2]; exact h4⟩
  · split at h <;> (try cases h)
    rename_i f hf
    obtain ⟨rfl, rfl, h1⟩ := castM_id hf
    have h2 := hC _ (List.mem_cons_self ..)
    rw [h1] at h2
    obtain ⟨b, es, clock, h3, h4, h5, h6⟩ := hc
    exact ⟨b, es, clock, e1.trans h3, e3.trans h4, h5, by rw [← h2]; exact h6⟩
  · split at h <;> (try cases h)
    rename_i hb
    obtain ⟨hb1, hb2⟩ := Bool.and_eq_true_iff.1 hb
    have hb1 := beq_eq hb1
    subst hb1
    have hj : _ < n := leN hb2
    split at h <;> (try cases h)
    rename_i f hf
    obtain ⟨rfl, rfl, h1⟩ := castM_id hf
    have h2 := hC _ (List.mem_cons_self ..)
    have h2' := hC _ (List.mem_cons_of_mem _ (List.mem_cons_self ..))
    rw [h1] at h2 h2'
    obtain ⟨b, r, h3, h4, h5, h6, es, clock, since, seen, a1, a2, a3, a4, a5, a6, a7⟩ := hc
    refine ⟨b, r, e1.trans h3, by simp only [Ev.trim, if_pos hj]; exact h4, e3.trans h5, h6, es, clock, since, seen, a1, a2, by rw [← h2]; exact a3, a4, a5, by rw [← h2']; exact a6, fun p e => by cases e⟩
  · split at h <;> (try cases h)
    obtain ⟨h1, r, h2⟩ := hc
    exact ⟨e3.trans h1, r, e1.trans h2⟩
  · split at h <;> cases h
    rename_i hb
    simp only [Bool.and_eq_true, beqN_iff] at hb
    obtain ⟨⟨rfl, rfl⟩, rfl⟩ := hb
    have h2 := hC _ (List.mem_cons_self ..)
    obtain ⟨h3, h4⟩ := hc
    exact ⟨h3.trans e2.symm, by rw [e1, e3, ← h2]; exact h4.congrM rfl⟩
  · split at h <;> cases h
    rename_i hb
    simp only [Bool.and_eq_true, beqN_iff] at hb
    obtain ⟨⟨⟨⟨rfl, rfl⟩, rfl⟩, rfl⟩, hj⟩ := hb
    have hj : _ < n := leN hj
    have h2 := hC _ (List.mem_cons_self ..)
    have h2' := hC _ (List.mem_cons_of_mem _ (List.mem_cons_self ..))
    obtain ⟨h3, h4⟩ := hc
    exact ⟨h3.trans e2.symm, by rw [e1, e3, ← h2]; exact NestAt.congrH (ρ := ρ) rfl h2' (fun v hv => by simpa only [Den1, Ev.trim, if_pos hj] using hv) h4⟩
  · split at h <;> cases h
    rename_i C h1
    have := SubA.sound _ _ _ h1 (hC C (by simp))
    subst this
    simp only [HoldsC, e1, e3] at hc ⊢; exact hc
  · cases h

theorem subCs_sound [SubA A] {n : Nat} : ∀ {l m : List (Chunk A)} {Cs : List (U Prop)}, subCs n l m = some Cs → (∀ C ∈ Cs, C ()) → ∀ (i : Nat) d, m[i]? = some d → ∃ c Ds, l[i]? = some c ∧ subC n c d = some Ds ∧ ∀ C ∈ Ds, C ()
  | _, [], _, _, _, i, d, h => by simp at h
  | c :: l, x :: m, Cs, h, hC, i, d, hi => by
    simp only [subCs] at h
    split at h <;> (try cases h)
    rename_i C h1
    split at h <;> cases h
    rename_i Cs h2
    cases i with
    | zero => simp at hi; subst hi; exact ⟨c, C, rfl, h1, fun D hD => hC D (by simp [hD])⟩
    | succ i =>
      obtain ⟨c', Ds, h3, h4, h5⟩ := subCs_sound h2 (fun D hD => hC D (by simp [hD])) i d (by simpa using hi)
      exact ⟨c', Ds, by simpa using h3, h4, h5⟩
  | [], _ :: _, _, h, _, _, _, _ => by cases h

theorem sub_core [SubA A] {t : SS A} {n0 : Nat} (hn0 : G.n0 = n0) {C D : List (U Prop)} (h1 : subT t.H.length s.tm t.tm = some C) (h2 : subCs t.H.length s.H t.H = some D) (h3 : n0 ≤ t.H.length) (hC : ∀ X ∈ C, X ()) (hD : ∀ X ∈ D, X ()) (hs : Sat AI G s a w) : Sat AI G t a w := by
  obtain ⟨hd, ρ, hh⟩ := hs
  have hfoot : ∀ i b, b ∈ (ρ.trim t.H.length).foot i → b ∈ ρ.foot i := by
    intro i b hb
    simp only [Ev.trim] at hb
    split at hb
    · exact hb
    · cases hb
  refine ⟨hd, ρ.trim t.H.length, ⟨hh.sz, hh.gt, fun k y hk => ?_, fun i => ?_, fun i j b hij hi hj => hh.dis i j b hij (hfoot i b hi) (hfoot j b hj), fun i b hb => hh.lt i b (hfoot i b hb), fun b o v hm => ⟨(hh.im b o v hm).1, fun i hb => (hh.im b o v hm).2 i (hfoot i b hb)⟩,
    hh.os, hh.tape, hh.output, hh.grow, hh.kept, fun i b hb => hh.fro i b (hfoot i b hb), fun i b hi hb => ?_, fun i hi => ?_, hh.mono, hh.mfr⟩⟩
  · obtain ⟨x, Ds, h4, h5, h6⟩ := subT_sound h1 hC k y hk
    obtain ⟨u, h7, h8⟩ := hh.tm k x h4
    exact ⟨u, h7, subV_sound h5 h6 h8⟩
  · by_cases hi : i < t.H.length
    · obtain ⟨c, Ds, h4, h5, h6⟩ := subCs_sound h2 hD i _ (List.getElem?_eq_getElem hi)
      have e1 : getC t.H i = t.H[i] := by unfold getC; rw [nth_eq, List.getElem?_eq_getElem hi]
      have e2 : getC s.H i = c := by unfold getC; rw [nth_eq, h4]
      rw [e1]
      exact subC_sound hi h5 h6 (e2 ▸ hh.ch i)
    · rw [getC_beyond (by omega)]
      simp [HoldsC, Ev.trim, hi]
  · have : i < t.H.length := by omega
    simp only [Ev.trim, if_pos this]
    exact hh.rt i b hi hb
  · have : i < t.H.length := by omega
    simp only [Ev.trim, if_pos this]
    exact hh.rts i hi

/-! ### versions -/
def Ev.anew (ρ : Ev) (n0 : Nat) : Ev := { ρ with ver := fun i => if i < n0 then ρ.ver i else 0 }

theorem vers_get : ∀ {H : List (Chunk A)} {i u : Nat}, nth (vers H) i = some (some u) → (∃ t e L, getC H i = .row t e u L) ∨ ∃ t tb L q, getC H i = .nest t tb u L q
  | [], i, u, h => by cases h
  | c :: r, 0, u, h => by
    cases c <;> simp [vers, nth] at h
    · subst h
      exact .inl ⟨_, _, _, rfl⟩
    · subst h
      exact .inr ⟨_, _, _, _, rfl⟩
  | c :: r, i + 1, u, h => by
    have : nth (vers r) i = some (some u) := by cases c <;> simpa [vers, nth] using h
    rcases vers_get this with ⟨t, e, L, h1⟩ | ⟨t, tb, L, q, h1⟩
    · exact .inl ⟨t, e, L, by simpa [getC, nth] using h1⟩
    · exact .inr ⟨t, tb, L, q, by simpa [getC, nth] using h1⟩

theorem norm1_den {n0 : Nat} {H : List (Chunk A)} (hH : ∀ i, HoldsC AI ρ w i (getC H i)) {x : SV1} {v : Value} (hv : Den1 ρ x v) : Den1 (ρ.anew n0) (norm1 n0 (vers H) x) v := by
  have low : ∀ {i : Nat}, bltN i n0 = true → (ρ.anew n0).ver i = ρ.ver i := by
    intro i h
    have : i < n0 := leN h
    simp [Ev.anew, this]
  cases x <;> simp only [norm1]
  case hd i ver =>
    split
    · rename_i h
      simp only [Den1] at hv ⊢
      rw [low h]; exact hv
    · rename_i h
      have hge : ¬ i < n0 := fun e => by rw [show bltN i n0 = true from geN e] at h; cases h
      split
      · rename_i u hu
        split
        · rename_i hb
          have hb := beq_eq hb
          subst hb
          have h2 := hH i
          have h3 : u = ρ.ver i := by
            rcases vers_get hu with ⟨t, e, L, h1⟩ | ⟨t, tb, L, q, h1⟩
            · rw [h1] at h2; exact h2.1
            · rw [h1] at h2; exact h2.1
          obtain ⟨h4, h5, h6⟩ := hv
          exact ⟨h4, by simp, fun _ => h6 h3⟩
        · trivial
      · trivial
  case vw i ver esz lo n =>
    split
    · rename_i h
      simp only [Den1] at hv ⊢
      rw [low h]; exact hv
    · trivial
  case ep i ver esz k off =>
    split
    · rename_i h
      simp only [Den1] at hv ⊢
      rw [low h]; exact hv
    · trivial
  all_goals exact hv

theorem All2.mapL {α β γ : Type} {R : α → β → Prop} {R' : γ → β → Prop} {f : α → γ} {l : List α} {m : List β} (h : All2 R l m) (hf : ∀ a b, R a b → R' (f a) b) : All2 R' (l.map f) m := by
  induction h with
  | nil => exact .nil
  | cons h _ ih => exact .cons (hf _ _ h) ih

theorem norm2_den {n0 : Nat} {H : List (Chunk A)} (hH : ∀ i, HoldsC AI ρ w i (getC H i)) {x : SV2} {v : Value} (hv : Den2 ρ x v) : Den2 (ρ.anew n0) (norm2 n0 (vers H) x) v := by
  cases x with
  | one x => exact norm1_den hH hv
  | agg l => obtain ⟨vs, h1, h2⟩ := hv; exact ⟨vs, h1, h2.mapL fun _ _ => norm1_den hH⟩
  | fn f l => obtain ⟨vs, h1, h2⟩ := hv; exact ⟨vs, h1, h2.mapL fun _ _ => norm1_den hH⟩
theorem normV_den {n0 : Nat} {H : List (Chunk A)} (hH : ∀ i, HoldsC AI ρ w i (getC H i)) {x : SV} {v : Value} (hv : Den ρ x v) : Den (ρ.anew n0) (normV n0 (vers H) x) v := by
  cases x with
  | val x => exact norm2_den hH hv
  | tup l => obtain ⟨vs, h1, h2⟩ := hv; exact ⟨vs, h1, h2.mapL fun _ _ => norm2_den hH⟩

theorem normT_look {n0 : Nat} {vs : List (Option Nat)} : ∀ {tm : List (Nat × SV)} {t : Nat} {v : SV}, look (normT n0 vs tm) t = some v → ∃ u, look tm t = some u ∧ v = normV n0 vs u
  | [], t, v, h => by cases h
  | (k, x) :: r, t, v, h => by
    simp only [normT] at h
    rw [look_cons] at h
    split at h
    · rename_i e; cases h; exact ⟨x, by rw [look_cons, if_pos e], rfl⟩
    · rename_i e
      obtain ⟨u, h1, h2⟩ := normT_look h
      exact ⟨u, by rw [look_cons, if_neg e]; exact h1, h2⟩
theorem normCs_get {n0 : Nat} {vs : List (Option Nat)} : ∀ {H : List (Chunk A)} {k i : Nat}, getC (normCs n0 vs k H) i = normC n0 vs (k + i) (getC H i)
  | [], k, i => rfl
  | c :: r, k, 0 => rfl
  | c :: r, k, i + 1 => by
    have := normCs_get (n0 := n0) (vs := vs) (H := r) (k := k + 1) (i := i)
    simp only [getC, normCs, nth] at this ⊢
    rw [this, show k + 1 + i = k + (i + 1) by omega]

theorem norm_sound {n0 : Nat} (hn0 : G.n0 = n0) (hs : Sat AI G s a w) : Sat AI G (norm n0 s) a w := by
  obtain ⟨hd, ρ, hh⟩ := hs
  refine ⟨hd, ρ.anew n0, ⟨hh.sz, hh.gt, fun t v ht => ?_, fun i => ?_, hh.dis, hh.lt, hh.im, hh.os, hh.tape, hh.output, hh.grow, hh.kept, hh.fro, hh.rt, fun i hi => ?_, hh.mono, hh.mfr⟩⟩
  · obtain ⟨u, h1, rfl⟩ := normT_look ht
    obtain ⟨x, h2, h3⟩ := hh.tm t u h1
    exact ⟨x, h2, normV_den hh.ch h3⟩
  · show HoldsC AI (ρ.anew n0) w i (getC (normCs n0 (vers s.H) 0 s.H) i)
    rw [normCs_get, Nat.zero_add]
    have hc := hh.ch i
    cases hg : getC s.H i with
    | emp =>
      rw [hg] at hc
      obtain ⟨h1, h2, h3⟩ := hc
      exact ⟨h1, h2, by simp [Ev.anew, h3]⟩
    | gone => trivial
    | cells t cs =>
      rw [hg] at hc
      obtain ⟨b, vs, h1, h2, h3, h4⟩ := hc
      exact ⟨b, vs, h1, h2, h3, h4.mapL fun _ _ => norm1_den hh.ch⟩
    | map ks e L => rw [hg] at hc; exact hc
    | rmap ks e L R c j => rw [hg] at hc; exact hc
    | itp q => rw [hg] at hc; exact hc
    | row t e v L =>
      rw [hg] at hc
      obtain ⟨h1, h2⟩ := hc
      simp only [normC]
      split
      · rename_i h
        have : i < n0 := leN h
        exact ⟨by simp [Ev.anew, this]; exact h1, h2⟩
      · rename_i h
        have hge : ¬ i < n0 := fun e => by rw [show bltN i n0 = true from geN e] at h; cases h
        exact ⟨by simp [Ev.anew, hge], h2⟩
    | nest t tb v L q =>
      rw [hg] at hc
      cases q with
      | some q =>
        obtain ⟨k, j⟩ := q
        obtain ⟨h1, h2⟩ := hc
        simp only [normC]
        split
        · rename_i i' u' hj
          have hden : ∀ v, Den1 ρ (.hd j 0) v → Den1 (ρ.anew n0) (.hd j 0) v := by
            intro v hv
            have h3 := norm1_den (n0 := n0) hh.ch hv
            have e : norm1 n0 (vers s.H) (.hd j 0) = .hd j 0 := by
              simp only [norm1] at hj ⊢
              repeat' (split at hj)
              all_goals first | rfl | cases hj
            rwa [e] at h3
          split
          · rename_i h
            have : i < n0 := leN h
            exact ⟨by simp [Ev.anew, this]; exact h1, NestAt.congrH (ρ := ρ) rfl rfl hden h2⟩
          · rename_i h
            have hge : ¬ i < n0 := fun e => by rw [show bltN i n0 = true from geN e] at h; cases h
            exact ⟨by simp [Ev.anew, hge], NestAt.congrH (ρ := ρ) rfl rfl hden h2⟩
        · trivial
      | none =>
        obtain ⟨h1, h2⟩ := hc
        simp only [normC]
        split
        · rename_i h
          have : i < n0 := leN h
          exact ⟨by simp [Ev.anew, this]; exact h1, h2.congrM rfl⟩
        · rename_i h
          have hge : ¬ i < n0 := fun e => by rw [show bltN i n0 = true from geN e] at h; cases h
          exact ⟨by simp [Ev.anew, hge], h2.congrM rfl⟩
    | abs x => rw [hg] at hc; exact hc
  · have : i < n0 := by omega
    simp only [Ev.anew, if_pos this]
    exact hh.rts i hi

/-! ### freezing -/
theorem map2_den {ρ' : Ev} {f : SV1 → SV1} (hf : ∀ x v, Den1 ρ x v → Den1 ρ' (f x) v) {x : SV2} {v : Value} (hv : Den2 ρ x v) : Den2 ρ' (map2 f x) v := by
  cases x with
  | one x => exact hf _ _ hv
  | agg l => obtain ⟨vs, h1, h2⟩ := hv; exact ⟨vs, h1, h2.mapL hf⟩
  | fn f l => obtain ⟨vs, h1, h2⟩ := hv; exact ⟨vs, h1, h2.mapL hf⟩
theorem mapV_den {ρ' : Ev} {f : SV1 → SV1} (hf : ∀ x v, Den1 ρ x v → Den1 ρ' (f x) v) {x : SV} {v : Value} (hv : Den ρ x v) : Den ρ' (mapV f x) v := by
  cases x with
  | val x => exact map2_den hf hv
  | tup l => obtain ⟨vs, h1, h2⟩ := hv; exact ⟨vs, h1, h2.mapL fun _ _ => map2_den hf⟩
theorem mapT_look {f : SV1 → SV1} : ∀ {tm : List (Nat × SV)} {t : Nat} {v : SV}, look (mapT f tm) t = some v → ∃ u, look tm t = some u ∧ v = mapV f u
  | [], t, v, h => by cases h
  | (k, x) :: r, t, v, h => by
    simp only [mapT] at h
    rw [look_cons] at h
    split at h
    · rename_i e; cases h; exact ⟨x, by rw [look_cons, if_pos e], rfl⟩
    · rename_i e
      obtain ⟨u, h1, h2⟩ := mapT_look h
      exact ⟨u, by rw [look_cons, if_neg e]; exact h1, h2⟩
theorem frzCs_get {n : Nat} {H0 : List (Chunk A)} : ∀ {H : List (Chunk A)} {k i : Nat}, getC (frzCs n H0 k H) i = frzC n H0 (k + i) (getC H i)
  | [], k, i => rfl
  | c :: r, k, 0 => rfl
  | c :: r, k, i + 1 => by
    have := frzCs_get (n := n) (H0 := H0) (H := r) (k := k + 1) (i := i)
    simp only [getC, frzCs, nth] at this ⊢
    rw [this, show k + 1 + i = k + (i + 1) by omega]

theorem shows_part {M : Mem} {e : Ty} {L : List e.T} {r : Value} (h : ShowsM M e L r) {lo n : Int} {v : Value} (hv : VwAt r e.size lo n v) : ShowsM M e ((L.drop lo.toNat).take n.toNat) v := by
  obtain ⟨ao, cap, rfl, h1, h2⟩ := h
  obtain ⟨ao', len, cap', h3, h4, h5, h6, h7, rfl⟩ := hv
  cases h3
  have hlen : ((L.drop lo.toNat).take n.toNat).length = n.toNat := by rw [List.length_take, List.length_drop]; omega
  refine ⟨_, _, by rw [hlen], by rw [hlen]; omega, fun hpos => ?_⟩
  rw [hlen] at hpos
  obtain ⟨b, off, rfl, h8⟩ := h2 (by omega)
  rw [if_neg (by omega)]
  refine ⟨b, off + lo.toNat * e.size, by simp [add_lit], fun j x hj => ?_⟩
  rw [List.getElem?_take] at hj
  split at hj
  · rw [List.getElem?_drop] at hj
    refine CellsM.congr e (h8 _ x hj) fun k v _ hv => ?_
    rw [← hv]
    congr 1
    rw [Nat.add_mul]; omega
  · cases hj

theorem frz_sound (n : Nat) (hs : Sat AI G s a w) : Sat AI G (frz n s) a w := by
  obtain ⟨hd, ρ, hh⟩ := hs
  let S : Nat → Prop := fun i => n ≤ i ∧ isRow (getC s.H i) = true
  have hM : ∀ b o v, ρ.M b o = some v → (ρ.froze S w).M b o = some v := by
    intro b o v h
    simp only [Ev.froze]
    rw [if_neg]
    · exact h
    · rintro ⟨i, _, hi⟩; exact (hh.im b o v h).2 i hi
  have le : ρ.Le (ρ.froze S w) := ⟨hM, fun _ _ h => h, fun _ => Nat.le_refl _, fun _ _ _ => rfl⟩
  have hfoot : ∀ i b, b ∈ (ρ.froze S w).foot i → ¬ S i ∧ b ∈ ρ.foot i := by
    intro i b hb
    simp only [Ev.froze] at hb
    split at hb
    · cases hb
    · rename_i hn; exact ⟨hn, hb⟩
  have hval : ∀ x v, Den1 ρ x v → Den1 (ρ.froze S w) (frz1 n s.H x) v := by
    intro x v hv
    cases x <;> simp only [frz1]
    case hd i ver =>
      split
      · exact Den1.mono le hv
      · rename_i hb
        have hge : n ≤ i := by
          rcases Nat.lt_or_ge i n with h | h
          · rw [show bltN i n = true from geN h] at hb; cases hb
          · exact h
        have hc := hh.ch i
        generalize hg : getC s.H i = c at hc
        cases c <;> (try trivial)
        rename_i t e u L
        dsimp only
        split
        · rename_i hbu
          have hbu := beq_eq hbu
          subst hbu
          obtain ⟨h1, h2⟩ := hc
          obtain ⟨_, _, h3⟩ := hv
          rw [h3 h1]
          exact rowAt_shows hh (S := S) ⟨hge, by rw [hg]; rfl⟩ h2 hM
        · trivial
    case vw i ver esz lo k =>
      split
      · exact Den1.mono le hv
      · rename_i hb
        have hge : n ≤ i := by
          rcases Nat.lt_or_ge i n with h | h
          · rw [show bltN i n = true from geN h] at hb; cases hb
          · exact h
        have hc := hh.ch i
        generalize hg : getC s.H i = c at hc
        cases c <;> (try trivial)
        rename_i t e u L
        dsimp only
        split
        · rename_i hbu
          obtain ⟨hbu, hbz⟩ := Bool.and_eq_true_iff.1 hbu
          have hbu := beq_eq hbu
          have hbz := beq_eq hbz
          subst hbu; subst hbz
          obtain ⟨h1, h2⟩ := hc
          obtain ⟨_, _, _, h3⟩ := hv
          exact shows_part (rowAt_shows hh (S := S) ⟨hge, by rw [hg]; rfl⟩ h2 hM) (h3 h1)
        · trivial
    all_goals exact Den1.mono le hv
  refine ⟨hd, ρ.froze S w, ⟨hh.sz, hh.gt, fun t v ht => ?_, fun i => ?_, fun i j b hij hi hj => hh.dis i j b hij (hfoot i b hi).2 (hfoot j b hj).2, fun i b hb => hh.lt i b (hfoot i b hb).2, fun b o v hm => ?_, hh.os, hh.tape, hh.output, hh.grow, hh.kept,
    fun i b hb => hh.fro i b (hfoot i b hb).2, hh.rt, hh.rts, fun b o v hm => hM _ _ _ (hh.mono b o v hm), fun b o v hm => ?_⟩⟩
  · obtain ⟨u, h1, rfl⟩ := mapT_look ht
    obtain ⟨x, h2, h3⟩ := hh.tm t u h1
    exact ⟨x, h2, mapV_den hval h3⟩
  · show HoldsC AI (ρ.froze S w) w i (getC (frzCs n s.H 0 s.H) i)
    rw [frzCs_get, Nat.zero_add]
    have hc := hh.ch i
    have same : ¬ S i → HoldsC AI (ρ.froze S w) w i (getC s.H i) := fun hn => hc.stays le rfl rfl (by simp only [Ev.froze]; rw [if_neg hn]) fun _ _ => rfl
    cases hg : getC s.H i with
    | cells t cs =>
      rw [hg] at hc
      obtain ⟨b, vs, h1, h2, h3, h4⟩ := hc
      exact ⟨b, vs, h1, by simp only [Ev.froze]; rw [if_neg (fun h => by have := h.2; rw [hg] at this; cases this)]; exact h2, h3, h4.mapL hval⟩
    | row t e v L =>
      simp only [frzC]
      split
      · rename_i hb
        have : i < n := leN hb
        rw [← hg]; exact same fun h => absurd h.1 (by omega)
      · trivial
    | emp => simp only [frzC]; rw [← hg]; exact same fun h => by have := h.2; rw [hg] at this; cases this
    | gone => trivial
    | map ks e L => simp only [frzC]; rw [← hg]; exact same fun h => by have := h.2; rw [hg] at this; cases this
    | rmap ks e L R c j => simp only [frzC]; rw [← hg]; exact same fun h => by have := h.2; rw [hg] at this; cases this
    | itp q => simp only [frzC]; rw [← hg]; exact same fun h => by have := h.2; rw [hg] at this; cases this
    | nest t tb v L q => simp only [frzC]; rw [← hg]; exact same fun h => by have := h.2; rw [hg] at this; cases this
    | abs x => simp only [frzC]; rw [← hg]; exact same fun h => by have := h.2; rw [hg] at this; cases this
  · simp only [Ev.froze] at hm
    split at hm
    · rename_i hex
      obtain ⟨k, hk, hbk⟩ := hex
      refine ⟨hm, fun i hb => ?_⟩
      obtain ⟨h1, h2⟩ := hfoot i b hb
      exact hh.dis i k b (fun e => h1 (e ▸ hk)) h2 hbk
    · exact ⟨(hh.im b o v hm).1, fun i hb => (hh.im b o v hm).2 i (hfoot i b hb).2⟩
  · simp only [Ev.froze] at hm
    split at hm
    · rename_i hex
      obtain ⟨k, hk, hbk⟩ := hex
      exact .inr (hh.fro k b hbk)
    · exact hh.mfr b o v hm

/-! ### nil slices -/
theorem Holds.nilRow {tmps : Array Value} (h : Holds AI G s ρ tmps w) {k : Nat} (hk : getC s.H k = .emp) (rt : TypeId) (e : Ty) :
    ∃ ρ', Holds AI G ⟨s.tm, putC s.H k (.row rt e 0 (fun _ => []))⟩ ρ' tmps w ∧ ρ.Le ρ' ∧ Den1 ρ' (.hd k 0) (.slice none 0 0) := by
  have hc := h.ch k
  rw [hk] at hc
  obtain ⟨h1, h2, h3⟩ := hc
  obtain ⟨h4, h5⟩ := h.upd1 k (.slice none 0 0) 0 [] (.row rt e 0 (fun _ => [])) w (by rw [h2]; simp) (by omega) (by rw [h2]; simp) (by simp) (fun _ _ _ => rfl) rfl rfl rfl (Nat.le_refl _)
    ⟨by simp [Ev.upd], .inl ⟨⟨none, by simp [Ev.upd]⟩, rfl, by simp [Ev.upd]⟩⟩
  exact ⟨_, h4, h5, ⟨⟨_, _, _, rfl⟩, by simp [Ev.upd], fun _ => by simp [Ev.upd]⟩⟩

theorem Holds.nilNest {tmps : Array Value} (h : Holds AI G s ρ tmps w) {k : Nat} (hk : getC s.H k = .emp) (rt tb : TypeId) :
    ∃ ρ', Holds AI G ⟨s.tm, putC s.H k (.nest rt tb 0 (fun _ => []) none)⟩ ρ' tmps w ∧ ρ.Le ρ' ∧ Den1 ρ' (.hd k 0) (.slice none 0 0) := by
  have hc := h.ch k
  rw [hk] at hc
  obtain ⟨h1, h2, h3⟩ := hc
  obtain ⟨h4, h5⟩ := h.upd1 k (.slice none 0 0) 0 [] (.nest rt tb 0 (fun _ => []) none) w (by rw [h2]; simp) (by omega) (by rw [h2]; simp) (by simp) (fun _ _ _ => rfl) rfl rfl rfl (Nat.le_refl _)
    ⟨by simp [Ev.upd], .inl ⟨⟨none, by simp [Ev.upd]⟩, rfl, by simp [Ev.upd], rfl⟩⟩
  exact ⟨_, h4, h5, ⟨⟨_, _, _, rfl⟩, by simp [Ev.upd], fun _ => by simp [Ev.upd]⟩⟩

theorem absT_sound {H' : List (Chunk A)} : ∀ {l : List (Nat × SV)} {s : SS A}, Sat AI G s a w → Sat AI G (absT H' l s) a w
  | [], s, hs => hs
  | (t, y) :: r, s, hs => by
    simp only [absT]
    split
    · rename_i k
      split
      · rename_i ht
        split
        · rename_i hk
          split
          · rename_i rt e _ _
            refine absT_sound ?_
            obtain ⟨hd, ρ, hh⟩ := hs
            obtain ⟨ρ', h1, h2, h3⟩ := hh.nilRow hk rt e
            refine ⟨hd, ρ', h1.retm fun q v hq => ?_⟩
            rw [look_cons] at hq
            split at hq
            · rename_i e; subst e; cases hq
              obtain ⟨u, h4, h5⟩ := hh.tm t _ ht
              have h5 : u = .slice none 0 0 := h5
              subst h5
              exact ⟨_, h4, h3⟩
            · exact h1.tm q v hq
          · rename_i rt e _ _
            refine absT_sound ?_
            obtain ⟨hd, ρ, hh⟩ := hs
            obtain ⟨ρ', h1, h2, h3⟩ := hh.nilNest hk rt e
            refine ⟨hd, ρ', h1.retm fun q v hq => ?_⟩
            rw [look_cons] at hq
            split at hq
            · rename_i e; subst e; cases hq
              obtain ⟨u, h4, h5⟩ := hh.tm t _ ht
              have h5 : u = .slice none 0 0 := h5
              subst h5
              exact ⟨_, h4, h3⟩
            · exact h1.tm q v hq
          · exact absT_sound hs
        · exact absT_sound hs
      · exact absT_sound hs
    · exact absT_sound hs

theorem All2.setNth {ρ : Ev} {l : List SV1} {vs : List Value} (h : All2 (Den1 ρ) l vs) {y : SV1} : ∀ {j : Nat}, (∀ v, vs[j]? = some v → Den1 ρ y v) → All2 (Den1 ρ) (Sx.setNth l j y) vs := by
  induction h with
  | nil => intro j _; cases j <;> exact .nil
  | cons h1 h2 ih =>
    intro j hy
    cases j with
    | zero => exact .cons (hy _ rfl) h2
    | succ j => exact .cons h1 (ih fun v hv => hy v (by simpa using hv))

theorem absL_sound {H' : List (Chunk A)} {c : Nat} : ∀ {l : List SV1} {j : Nat} {s : SS A}, Sat AI G s a w → Sat AI G (absL H' c j l s) a w
  | [], j, s, hs => hs
  | y :: r, j, s, hs => by
    simp only [absL]
    split
    · rename_i k
      split
      · rename_i ct l hc
        split
        · rename_i hn
          split
          · rename_i hk
            split
            · rename_i rt e _ _
              refine absL_sound ?_
              obtain ⟨hd, ρ, hh⟩ := hs
              obtain ⟨ρ', h1, h2, h3⟩ := hh.nilRow hk rt e
              have hne : c ≠ k := fun e => by rw [e, hk] at hc; cases hc
              have h4 := h1.ch c
              dsimp only at h4
              rw [getC_putC, if_neg hne, hc] at h4
              obtain ⟨b, vs, h5, h6, h7, h8⟩ := h4
              have h9 := hh.ch c
              rw [hc] at h9
              obtain ⟨b', vs', h5', h6', h7', h8'⟩ := h9
              have : vs' = vs := by
                have hb : b' = b := by have := h2.ptr c b' h5'; rw [h5] at this; cases this; rfl
                subst hb
                rw [h7] at h7'
                simpa using (Option.some.inj h7').symm
              subst this
              obtain ⟨u, h10, h11⟩ := h8'.nth hn
              have h11 : u = .slice none 0 0 := h11
              subst h11
              refine ⟨hd, ρ', ?_⟩
              have h12 : All2 (Den1 ρ') (Sx.setNth l j (.hd k 0)) vs' := h8.setNth fun v hv => by rw [h10] at hv; cases hv; exact h3
              refine ⟨h1.sz, h1.gt, h1.tm, fun q => ?_, h1.dis, h1.lt, h1.im, h1.os, h1.tape, h1.output, h1.grow, h1.kept, h1.fro, h1.rt, h1.rts, h1.mono, h1.mfr⟩
              show HoldsC AI ρ' w q (getC (putC (putC s.H k _) c _) q)
              rw [getC_putC]
              split
              · rename_i e; subst e; exact ⟨b, vs', h5, h6, h7, h12⟩
              · exact h1.ch q
            · rename_i rt e _ _
              refine absL_sound ?_
              obtain ⟨hd, ρ, hh⟩ := hs
              obtain ⟨ρ', h1, h2, h3⟩ := hh.nilNest hk rt e
              have hne : c ≠ k := fun e => by rw [e, hk] at hc; cases hc
              have h4 := h1.ch c
              dsimp only at h4
              rw [getC_putC, if_neg hne, hc] at h4
              obtain ⟨b, vs, h5, h6, h7, h8⟩ := h4
              have h9 := hh.ch c
              rw [hc] at h9
              obtain ⟨b', vs', h5', h6', h7', h8'⟩ := h9
              have : vs' = vs := by
                have hb : b' = b := by have := h2.ptr c b' h5'; rw [h5] at this; cases this; rfl
                subst hb
                rw [h7] at h7'
                simpa using (Option.some.inj h7').symm
              subst this
              obtain ⟨u, h10, h11⟩ := h8'.nth hn
              have h11 : u = .slice none 0 0 := h11
              subst h11
              refine ⟨hd, ρ', ?_⟩
              have h12 : All2 (Den1 ρ') (Sx.setNth l j (.hd k 0)) vs' := h8.setNth fun v hv => by rw [h10] at hv; cases hv; exact h3
              refine ⟨h1.sz, h1.gt, h1.tm, fun q => ?_, h1.dis, h1.lt, h1.im, h1.os, h1.tape, h1.output, h1.grow, h1.kept, h1.fro, h1.rt, h1.rts, h1.mono, h1.mfr⟩
              show HoldsC AI ρ' w q (getC (putC (putC s.H k _) c _) q)
              rw [getC_putC]
              split
              · rename_i e; subst e; exact ⟨b, vs', h5, h6, h7, h12⟩
              · exact h1.ch q
            · exact absL_sound hs
          · exact absL_sound hs
        · exact absL_sound hs
      · exact absL_sound hs
    · exact absL_sound hs

theorem absC_sound {H' : List (Chunk A)} : ∀ {l : List (Chunk A)} {c : Nat} {s : SS A}, Sat AI G s a w → Sat AI G (absC H' c l s) a w
  | [], c, s, hs => hs
  | d :: r, c, s, hs => by
    simp only [absC]
    split
    · exact absC_sound (absL_sound hs)
    · exact absC_sound hs

theorem absorb_sound {t : SS A} (hs : Sat AI G s a w) : Sat AI G (absorb t s) a w := absC_sound (absT_sound hs)

/-! ### maps that are not ranged over any more -/
theorem unr_get : ∀ {H H' : List (Chunk A)} {i : Nat}, getC (unr H H') i = unrC (getC H i) (getC H' i) ∨ getC (unr H H') i = getC H i
  | [], [], i => .inr rfl
  | c :: r, [], i => .inr rfl
  | [], d :: m, i => .inr rfl
  | c :: r, d :: m, 0 => .inl rfl
  | c :: r, d :: m, i + 1 => unr_get (H := r) (H' := m) (i := i)
theorem unrC_or (c d : Chunk A) : unrC c d = c ∨ ∃ ks e L R p j, c = .rmap ks e L R p j ∧ unrC c d = .map ks e L := by
  cases c <;> try exact .inl rfl
  cases d <;> try exact .inl rfl
  exact .inr ⟨_, _, _, _, _, _, rfl, rfl⟩
open Classical in
theorem unr_sound {H' : List (Chunk A)} (hs : Sat AI G s a w) : Sat AI G ⟨s.tm, unr s.H H'⟩ a w := by
  obtain ⟨hd, ρ, hh⟩ := hs
  let S : Nat → Prop := fun i => ∃ ks e L R p j, getC s.H i = .rmap ks e L R p j ∧ getC (unr s.H H') i = .map ks e L
  let ρ' : Ev := { root := ρ.root, ver := ρ.ver, M := ρ.M, foot := fun i => if S i then (ρ.foot i).take 1 else ρ.foot i }
  have le : ρ.Le ρ' := ⟨fun _ _ _ h => h, fun _ _ h => h, fun _ => Nat.le_refl _, fun _ _ _ => rfl⟩
  have hfoot : ∀ i b, b ∈ ρ'.foot i → b ∈ ρ.foot i := by
    intro i b hb
    simp only [ρ'] at hb
    split at hb
    · exact List.mem_of_mem_take hb
    · exact hb
  refine ⟨hd, ρ', ⟨hh.sz, hh.gt, fun t v ht => ?_, fun i => ?_, fun i j b hij hi hj => hh.dis i j b hij (hfoot i b hi) (hfoot j b hj), fun i b hb => hh.lt i b (hfoot i b hb), fun b o v hm => ⟨(hh.im b o v hm).1, fun i hb => (hh.im b o v hm).2 i (hfoot i b hb)⟩, hh.os, hh.tape, hh.output, hh.grow, hh.kept,
    fun i b hb => hh.fro i b (hfoot i b hb), hh.rt, hh.rts, hh.mono, hh.mfr⟩⟩
  · obtain ⟨u, h1, h2⟩ := hh.tm t v ht; exact ⟨u, h1, h2.mono le⟩
  · show HoldsC AI ρ' w i (getC (unr s.H H') i)
    by_cases hS : S i
    · obtain ⟨ks, e, L, R, p, j, h1, h2⟩ := id hS
      rw [h2]
      have hc := hh.ch i
      rw [h1] at hc
      obtain ⟨b, r, h3, h4, h5, h6, es, clock, since, seen, a1, a2, a3, a4, a5, a6, a7⟩ := hc
      refine ⟨b, es, clock, h3, ?_, a1, a3⟩
      simp only [ρ', if_pos hS, h5]
      rfl
    · have hsame : getC (unr s.H H') i = getC s.H i := by
        rcases unr_get (H := s.H) (H' := H') (i := i) with h1 | h1
        · rcases unrC_or (getC s.H i) (getC H' i) with h2 | ⟨ks, e, L, R, p, j, h2, h3⟩
          · rw [h1, h2]
          · exact absurd ⟨ks, e, L, R, p, j, h2, by rw [h1, h3]⟩ hS
        · exact h1
      rw [hsame]
      exact (hh.ch i).stays le rfl rfl (by simp only [ρ', if_neg hS]) fun _ _ => rfl

/-! ### rows go home -/
theorem homeAt_sound (hs : Sat AI G s a w) (i : Nat) : Sat AI G ⟨s.tm, homeAt s.H i⟩ a w := by
  unfold homeAt
  split
  · rename_i t tb v L k j hi
    split
    · rename_i rt D hj
      split
      · rename_i hb
        obtain ⟨hb1, hb2⟩ := Bool.and_eq_true_iff.1 hb
        have hb1 := beq_eq hb1
        subst hb1
        have hij : i ≠ j := fun e => by rw [e] at hb2; simp at hb2
        obtain ⟨hd, ρ, hh⟩ := hs
        obtain ⟨ρ', h1, _⟩ := home_sound hh hij hi hj
        exact ⟨hd, ρ', h1⟩
      · exact hs
    · exact hs
  · exact hs
theorem homes_sound {T : List (Chunk A)} (hs : Sat AI G s a w) : Sat AI G ⟨s.tm, homes s.H T⟩ a w := by
  unfold homes
  split
  · exact hs
  · exact homeAt_sound hs _

theorem keepT_look {tm : List (Nat × SV)} : ∀ {l : List (Nat × SV)} {t : Nat} {v : SV}, look (keepT tm l) t = some v → look tm t = some v
  | [], _, _, h => by cases h
  | (k, _) :: r, t, v, h => by
    simp only [keepT] at h
    split at h
    · rename_i x hx
      rw [look_cons] at h
      split at h
      · rename_i e; subst e; cases h; exact hx
      · exact keepT_look h
    · exact keepT_look h
theorem keepT_sound {l : List (Nat × SV)} (hs : Sat AI G s a w) : Sat AI G ⟨keepT s.tm l, s.H⟩ a w := by
  obtain ⟨hd, ρ, hh⟩ := hs
  exact ⟨hd, ρ, ⟨hh.sz, hh.gt, fun t v ht => hh.tm t v (keepT_look ht), hh.ch, hh.dis, hh.lt, hh.im, hh.os, hh.tape, hh.output, hh.grow, hh.kept, hh.fro, hh.rt, hh.rts, hh.mono, hh.mfr⟩⟩

theorem Sub.sound [SubA A] {t : SS A} {n0 : Nat} (hn0 : G.n0 = n0) (h : Sub n0 s t) (hs : Sat AI G s a w) : Sat AI G t a w := by
  have h0 := norm_sound hn0 (frz_sound t.H.length (absorb_sound (t := t) (keepT_sound (l := t.tm) (unr_sound (H' := t.H) (homes_sound (T := t.H) hs)))))
  unfold Sub at h
  generalize norm n0 (frz t.H.length (absorb t ⟨keepT s.tm t.tm, unr (homes s.H t.H) t.H⟩)) = s' at h h0
  dsimp only at h
  split at h
  · rename_i C h1
    split at h
    · rename_i D h2
      split at h
      · rename_i h3
        obtain ⟨h⟩ := h
        obtain ⟨h4, _⟩ := conds_spec h
        exact sub_core hn0 h1 h2 (leN h3) (fun X hX => h4 X (List.mem_append.2 (.inl hX))) (fun X hX => h4 X (List.mem_append.2 (.inr hX))) h0
      · exact h.elim
    · exact h.elim
  · exact h.elim

theorem All2.splitAt {α β : Type} {R : α → β → Prop} {l : List α} {m1 m2 : List β} {y : β} (h : All2 R l (m1 ++ y :: m2)) : ∃ l1 x l2, l = l1 ++ x :: l2 ∧ All2 R l1 m1 ∧ R x y ∧ All2 R l2 m2 := by
  induction m1 generalizing l with
  | nil => cases h with | cons h1 h2 => exact ⟨[], _, _, rfl, .nil, h1, h2⟩
  | cons z m1 ih =>
    cases h with
    | cons h1 h2 =>
      obtain ⟨l1, x, l2, rfl, h3, h4, h5⟩ := ih h2
      exact ⟨_ :: l1, x, l2, rfl, .cons h1 h3, h4, h5⟩

theorem left_push {es : Array MapEntry} {seen : Array Nat} {m1 m2 : List MapEntry} {m : MapEntry} (hp : (es.toList.map (·.born)).Pairwise (· < ·)) (h : (leftOf es seen).toList = m1 ++ m :: m2) : (leftOf es (seen.push m.born)).toList = m1 ++ m2 := by
  have e1 : (leftOf es (seen.push m.born)).toList = (leftOf es seen).toList.filter fun x => !(x.born == m.born) := by
    simp only [leftOf, Array.toList_filter, List.filter_filter]
    congr 1
    funext x
    simp only [Array.contains_push]
    cases h1 : (x.born == m.born) <;> simp
  have hn : (((leftOf es seen).toList).map (·.born)).Pairwise (· < ·) := by
    simp only [leftOf, Array.toList_filter]
    exact hp.sublist (List.Sublist.map _ List.filter_sublist)
  rw [e1, h]
  rw [h] at hn
  simp only [List.map_append, List.map_cons, List.pairwise_append, List.pairwise_cons, List.mem_map, List.mem_cons] at hn
  obtain ⟨n1, ⟨n2, n3⟩, n4⟩ := hn
  rw [List.filter_append, List.filter_cons]
  have f1 : m1.filter (fun x => !(x.born == m.born)) = m1 := List.filter_eq_self.2 fun x hx => by
    have := n4 x.born ⟨x, hx, rfl⟩ m.born (.inl rfl)
    simp; omega
  have f2 : m2.filter (fun x => !(x.born == m.born)) = m2 := List.filter_eq_self.2 fun x hx => by
    have := n2 x.born ⟨x, hx, rfl⟩
    simp; omega
  rw [f1, f2]
  simp

theorem snext_sound {opsA : Array Oper} {id t d0 d1 : Nat} (hn : nextOf opsA.toList = some (t, d0, d1)) (hdst : ∀ o ∈ opsA.toList, ∀ t, o.dst = some t → t < G.size) {Q : SS A → Prop} {Qx : Exit → Act → World → Prop} (hQ : ∀ s', Q s' → Then AI G s' (Qx .normal)) (h : snext t d0 d1 s Q) (hs : Sat AI G s a w) :
    (Code.region id opsA false).wp P Qx a w := by
  refine wp_region_list ?_
  generalize opsA.toList = ops at hn hdst
  unfold nextOf at hn
  split at hn <;> (try cases hn)
  rename_i o o'
  split at hn <;> (try cases hn)
  rename_i t' d0' d d1' ho1 ho2 ho3 ho4 ho5 ho6
  split at hn <;> cases hn
  rename_i hb
  have hb := beq_eq hb
  subst hb
  have l0 := hdst o (by simp) d ho2
  have l1 := hdst o' (by simp) d1 ho5
  obtain ⟨hd, ρ, hh⟩ := hs
  unfold snext at h
  split at h <;> (try exact h.elim)
  rename_i j hj
  split at h <;> (try exact h.elim)
  rename_i i hji
  split at h <;> (try exact h.elim)
  rename_i ks e L R c j' hi
  split at h <;> (try exact h.elim)
  rename_i hjj
  have hjj := beq_eq hjj
  subst hjj
  obtain ⟨u, hu1, hu2⟩ := hh.tm t _ hj
  have hc := hh.ch i
  rw [hi] at hc
  obtain ⟨b, r, h1, h2, h3, h4, es, clock, since, seen, a1, a2, a3, a4, a5, a6, a7⟩ := hc
  obtain ⟨r', e1, rfl⟩ := hu2
  have : r' = r := by rw [h2] at e1; cases e1; rfl
  subst this
  have hev : a.eval (.tmp t) = .pointer (some ⟨r', 0, none⟩) := by simp [Act.eval, hu1]
  cases h with
  | mk p q =>
  have hsz := hh.sz
  have fin : ∀ (bv : Bool) (y : Value) (w' : World) (H' : List (Chunk A)) (ρ' : Ev), ρ.Le ρ' → Holds AI G ⟨s.tm, H'⟩ ρ' a.tmps w' → (∃ l, y = .tuple (.bool bv :: l).toArray) → Q ⟨(d1, one (.lb bv)) :: (d, one .any) :: s.tm, H'⟩ → wpList P opsA Qx [o'] (a.put o.dst y) w' := by
    rintro bv y w' H' ρ' le h5 ⟨l, rfl⟩ hq
    refine wpList_plain ho6 fun K hK => ?_
    have h6 := h5.put (dst := some d) (v := one .any) (u := .tuple (.bool bv :: l).toArray) (a := a) (fun t e => by cases e; exact l0) trivial
    have h7 := h6.put (dst := some d1) (v := one (.lb bv)) (u := .bool bv) (a := a.put (some d) (.tuple (.bool bv :: l).toArray)) (fun t e => by cases e; exact l1) rfl
    have hev2 : (a.put o.dst (.tuple (.bool bv :: l).toArray)).eval (.tmp d) = .tuple (.bool bv :: l).toArray := by
      rw [ho2]
      have : d < a.tmps.size := by rw [hsz]; exact l0
      simp [Act.eval, Act.put, this]
    unfold Oper.wp
    have hex : (execOp (a.put o.dst (.tuple (.bool bv :: l).toArray)).eval o').run P w' = .ok (.value (.bool bv)) w' := by
      unfold execOp
      rw [ho4]
      simp only [hev2]
      simp [Instr.extract]
    rw [hex, Oper.upon_value]
    refine hK _ _ ?_
    rw [ho5, ho2]
    unfold wpList
    exact hQ _ hq _ _ (by rw [Act.put_defers', Act.put_defers', hd]) ⟨ρ', h7⟩
  refine wpList_plain ho3 fun K hK => ?_
  unfold Oper.wp
  have hex : (execOp a.eval o).run P w = ((Instr.next (.pointer (some ⟨r', 0, none⟩)) false o.type).run P w).andThen fun y w' => .ok (.value y) w' := by
    unfold execOp
    rw [ho1]
    simp only [hev]
    simp [Sem.run_bind]
  rw [hex]
  rcases run_next_at (P := P) w o.type r' b since clock seen es clock a2 a1 a4 a5 with ⟨h0, hrun⟩ | ⟨m, hm, w1, hw1, hrun⟩
  · rw [hrun]
    simp only [Result.andThen, Oper.upon_value]
    refine hK _ _ (fin false _ w s.H ρ (.refl ρ) hh ⟨[], rfl⟩ (p ?_))
    have : (leftOf es seen).toList = [] := by
      have := List.eq_nil_of_length_eq_zero (l := (leftOf es seen).toList) (by simpa using h0)
      exact this
    rw [this] at a6
    cases hR : R () with
    | nil => rfl
    | cons x l => rw [hR] at a6; cases a6
  · rw [hrun]
    simp only [Result.andThen, Oper.upon_value]
    obtain ⟨m1, m2, hsp⟩ := List.append_of_mem hm
    rw [hsp] at a6
    obtain ⟨l1, x, l2, hR, b1, b2, b3⟩ := a6.splitAt
    have hw1h : w1.heap = w.heap ∧ w1.os = w.os ∧ w1.tape = w.tape ∧ w1.output = w.output := by rcases hw1 with rfl | rfl <;> exact ⟨rfl, rfl, rfl, rfl⟩
    have hrlt : r' < w.heap.size := by
      rcases Nat.lt_or_ge r' w.heap.size with h | h
      · exact h
      · rw [Array.getElem?_eq_none h] at a2; cases a2
    have hmem : m ∈ es.toList := by
      have := hm
      simp only [leftOf, Array.toList_filter, List.mem_filter] at this
      exact this.1
    obtain ⟨h8, h9⟩ := hh.upd1 i (ρ.root i) (ρ.ver i) (ρ.foot i) (.rmap ks e L (fun _ => l1 ++ l2) (some (fun _ => x)) j) (Go.ChangeMaps.setBlock w1 r' (.mapIter (some b) since (seen.push m.born) clock)) (fun _ h => h) (Nat.le_refl _) (fun _ _ => rfl) (fun bb hbb => ⟨.inl hbb, by simpa [Go.ChangeMaps.setBlock, hw1h.1] using hh.lt i bb hbb⟩)
      (fun b2 _ hn => by
        have : r' ≠ b2 := fun e => hn (by rw [h3, e]; simp)
        simp [Go.ChangeMaps.setBlock, hw1h.1, this]) hw1h.2.1 hw1h.2.2.1 hw1h.2.2.2 (by simp [Go.ChangeMaps.setBlock, hw1h.1])
      ⟨b, r', by simp [Ev.upd, h1], by
          simp only [Ev.upd]
          split
          · rename_i e; subst e; exact h2
          · exact h2, by simp [Ev.upd, h3], h4, es, clock, since, seen.push m.born, by simp [Go.ChangeMaps.setBlock, hw1h.1, h4.symm, a1], by simp [Go.ChangeMaps.setBlock, hw1h.1, hrlt], a3, a4, a5, by
          rw [left_push a3.2.1 hsp]
          exact b1.append b3, fun p hp => by cases hp; exact ⟨m, seen, hmem, rfl, b2⟩⟩
    exact hK _ _ (fin true _ _ _ _ h9 h8 ⟨[m.key, m.val], rfl⟩ (q l1 x l2 hR))

theorem svc_sound [SubA A] {E : Env A} (hE : EnvOk P AI E) (hm : P.follows .mixedOrders = true) {n0 : Nat} (hn0 : G.n0 = n0) : ∀ (c : Code), codeOk G.size c = true → ∀ (s : SS A) (Q : XE → SS A → Prop) (Qx : Exit → Act → World → Prop) (a : Act) (w : World),
    svc E n0 c s Q → Sat AI G s a w → (∀ e s', Q e s' → Then AI G s' (Qx e.out)) → c.wp P Qx a w := by
  have th : ∀ {s : SS A} {a : Act} {w : World} {K : Act → World → Prop}, Then AI G s K → Sat AI G s a w → K a w := fun h hs => h _ _ hs.1 hs.2
  intro c
  induction c with
  | skip => intro _ s Q Qx a w h hs hQ; exact wp_skip (th (hQ _ _ h) hs)
  | region id ops draw =>
    intro hok s Q Qx a w h hs hQ
    have hdst : ∀ o ∈ ops.toList, ∀ t, o.dst = some t → t < G.size := fun o ho t ht => by
      have h1 := Array.all_eq_true'.1 hok o (by simpa using ho)
      rw [ht] at h1
      exact leN h1
    simp only [svc] at h
    split at h
    · exact sreg_sound hE hm hdst (fun s' hs' => hQ _ _ hs') 24 ⟨[], []⟩ h hs
    · split at h
      · rename_i t d0 d1 hn
        exact snext_sound hn hdst (fun s' hs' => hQ _ _ hs') h hs
      · exact sreg_sound hE hm hdst (fun s' hs' => hQ _ _ hs') 24 ⟨[], []⟩ h hs
  | seq x y ihx ihy =>
    intro hok s Q Qx a w h hs hQ
    obtain ⟨o1, o2⟩ := Bool.and_eq_true_iff.1 hok
    refine wp_seq (ihx o1 s _ _ a w h hs fun e s' hq => ?_)
    cases e with
    | normal => exact fun a' w' hd hh => ihy o2 s' Q Qx a' w' hq ⟨hd, hh⟩ hQ
    | ret => exact hQ .ret s' hq
    | exit id => exact hQ (.exit id) s' hq
  | cond c x y ihx ihy =>
    intro hok s Q Qx a w h hs hQ
    obtain ⟨o1, o2⟩ := Bool.and_eq_true_iff.1 hok
    obtain ⟨hd, ρ, hh⟩ := id hs
    simp only [svc] at h
    split at h
    · rename_i hc; exact wp_cond_true (hh.eval hc) (ihx o1 s Q Qx a w h hs hQ)
    · rename_i hc; exact wp_cond_false (hh.eval hc) (ihy o2 s Q Qx a w h hs hQ)
    · rename_i g hc
      have hg := hh.eval hc
      split at h
      · rename_i t
        cases h with
        | mk h1 h2 =>
          cases hb : g () with
          | true => exact wp_cond_true (by rw [show a.eval (.tmp t) = .bool (g ()) from hg, hb]) (ihx o1 _ Q Qx a w (h1 hb) (hs.lb hc hb) hQ)
          | false => exact wp_cond_false (by rw [show a.eval (.tmp t) = .bool (g ()) from hg, hb]) (ihy o2 _ Q Qx a w (h2 hb) (hs.lb hc hb) hQ)
      · exact h.elim
    · rename_i neg C hc
      split at h
      · rename_i t
        cases h with
        | mk h1 h2 =>
          obtain ⟨b, e1, e2, e3⟩ := hs.nb hc
          cases b with
          | true => exact wp_cond_true e1 (ihx o1 _ Q Qx a w (h1 fun e => e2 (by rw [e]; rfl)) e3 hQ)
          | false => exact wp_cond_false e1 (ihy o2 _ Q Qx a w (h2 fun e => e2 (by rw [e]; rfl)) e3 hQ)
      · exact h.elim
    · exact h.elim
  | block id c ih =>
    intro hok s Q Qx a w h hs hQ
    refine wp_block (ih hok s _ _ a w h hs fun e s' hq => ?_)
    cases e with
    | normal => exact hQ .normal s' hq
    | ret => exact hQ .ret s' hq
    | exit id' =>
      dsimp only at hq
      split at hq
      · rename_i hb
        have hb := beq_eq hb
        subst hb
        have := hQ .normal s' hq
        intro a' w' hd hh
        simp only [XE.out, Exit.inBlock, if_pos]
        exact this a' w' hd hh
      · rename_i hb
        have hne : ¬ id' = id := by rintro rfl; simp at hb
        have := hQ (.exit id') s' hq
        intro a' w' hd hh
        simp only [XE.out, Exit.inBlock, if_neg hne]
        exact this a' w' hd hh
  | loop c ih =>
    intro hok s Q Qx a w h hs hQ
    obtain ⟨I, h0, h1⟩ := h
    refine wp_loop_ghost (fun n a w => ∃ x, I.m x = n ∧ Sat AI G (I.inv x) a w) (I.m I.x0) ⟨I.x0, rfl, h0.sound hn0 hs⟩ fun n a w hx => ?_
    obtain ⟨x, rfl, hx⟩ := hx
    refine ih hok (I.inv x) _ _ a w (h1 x) hx fun e s' hq => ?_
    cases e with
    | normal =>
      obtain ⟨y, h2, h3⟩ := hq
      exact fun a' w' hd hh => ⟨I.m y, h2, y, rfl, h3.sound hn0 ⟨hd, hh⟩⟩
    | ret => exact hQ .ret s' hq
    | exit id => exact hQ (.exit id) s' hq
  | exit id => intro _ s Q Qx a w h hs hQ; exact wp_exit (th (hQ _ _ h) hs)
  | ret => intro _ s Q Qx a w h hs hQ; exact wp_ret (th (hQ _ _ h) hs)
  | scope c ih =>
    intro hok s Q Qx a w h hs hQ
    refine wp_scope_straight (ih hok s Q _ a w h hs fun e s' hq => ?_)
    cases e <;> exact hQ _ s' hq
  | label l => intro _ s Q Qx a w h; exact h.elim
  | goto l => intro _ s Q Qx a w h; exact h.elim
  | refuse y => intro _ s Q Qx a w h; exact h.elim
  | rangeFunc f p x y _ _ => intro _ s Q Qx a w h; exact h.elim

end Go.Sx

/-
  Symbolic execution: abstract objects (opened and closed), a function's body, a contract in another state.
-/
namespace Go.Sx
set_option linter.all false
set_option linter.unusedVariables false
set_option linter.unusedSimpArgs false
set_option linter.unusedSectionVars false
open Go.RowKit

variable {A : Type} {G : Fr} {s : SS A} {ρ : Ev} {a : Act} {w : World} {P : Program}

/-! ### abstract objects: by the parts that they have -/
inductive AbsC (lay : A → List (Chunk A)) (w : World) : Ev → Nat → Chunk A → Prop
  | emp {ρ i} (h1 : ρ.foot i = []) (h2 : ρ.root i = .bool false) (h3 : ρ.ver i = 0) : AbsC lay w ρ i .emp
  | gone {ρ i} : AbsC lay w ρ i .gone
  | cells {ρ i t cs b vs} (h1 : ρ.root i = .pointer (some ⟨b, 0, none⟩)) (h2 : ρ.foot i = [b]) (h3 : w.heap[b]? = some (.cells vs t (0, 0))) (h4 : All2 (Den1 ρ) cs vs.toList) : AbsC lay w ρ i (.cells t cs)
  | row {ρ i t e ver L} (h1 : ver = ρ.ver i) (h2 : RowAt t ρ.M w e (L ()) (ρ.root i) (ρ.foot i)) : AbsC lay w ρ i (.row t e ver L)
  | map {ρ i ks e L b es clock} (h1 : ρ.root i = .pointer (some ⟨b, 0, none⟩)) (h2 : ρ.foot i = [b]) (h3 : w.heap[b]? = some (.map es clock)) (h4 : MapAt ρ.M ks e (L ()) es.toList clock) : AbsC lay w ρ i (.map ks e L)
  | rmap {ρ i ks e L R c j b r} (h1 : ρ.root i = .pointer (some ⟨b, 0, none⟩)) (h2 : ρ.root j = .pointer (some ⟨r, 0, none⟩)) (h3 : ρ.foot i = [b, r]) (h4 : RmapAt ρ.M w ks e (L ()) (R ()) c b r) : AbsC lay w ρ i (.rmap ks e L R c j)
  | itp {ρ i q r} (h1 : ρ.foot i = []) (h2 : ρ.root i = .pointer (some ⟨r, 0, none⟩)) : AbsC lay w ρ i (.itp q)
  | nest {ρ i t tb ver L h} (h1 : ver = ρ.ver i) (h2 : NestAt tb ρ w (L ()) h (ρ.root i) (ρ.foot i)) : AbsC lay w ρ i (.nest t tb ver L h)
  | abs {ρ i x} (ρ' : Ev) (hM : ρ'.M = ρ.M) (hr : ρ'.root 0 = ρ.root i) (hp : ∃ b, ρ.root i = .pointer (some ⟨b, 0, none⟩)) (hf : ∀ b, b ∈ ρ.foot i ↔ ∃ j, j < (lay x).length ∧ b ∈ ρ'.foot j)
      (hd : ∀ j k b, j < (lay x).length → k < (lay x).length → j ≠ k → b ∈ ρ'.foot j → b ∉ ρ'.foot k) (hc : ∀ j, j < (lay x).length → AbsC lay w ρ' j (getC (lay x) j)) : AbsC lay w ρ i (.abs x)

theorem AbsC.stays {lay : A → List (Chunk A)} {i : Nat} {c : Chunk A} (h : AbsC lay w ρ i c) : ∀ {M' : Mem} {w' : World}, (∀ b o v, ρ.M b o = some v → M' b o = some v) → (∀ b ∈ ρ.foot i, w'.heap[b]? = w.heap[b]?) → AbsC lay w' { ρ with M := M' } i c := by
  induction h with
  | emp h1 h2 h3 => intro M' w' _ _; exact .emp h1 h2 h3
  | gone => intro M' w' _ _; exact .gone
  | @cells ρ i t cs b vs h1 h2 h3 h4 =>
    intro M' w' hm hb
    refine .cells h1 h2 ((hb b (by simp [h2])).trans h3) (h4.mono fun x v hx => Den1.mono (ρ := ρ) (ρ' := { ρ with M := M' }) ⟨hm, fun _ _ h => h, fun _ => Nat.le_refl _, fun _ _ _ => rfl⟩ hx)
  | @row ρ i t e ver L h1 h2 => intro M' w' hm hb; exact .row h1 (h2.stays hm hb)
  | map h1 h2 h3 h4 => intro M' w' hm hb; exact .map h1 h2 ((hb _ (by simp [h2])).trans h3) (h4.mono hm)
  | rmap h1 h2 h3 h4 => intro M' w' hm hb; exact .rmap h1 h2 h3 (h4.mono hm (hb _ (by simp [h3])) (hb _ (by simp [h3])))
  | itp h1 h2 => intro M' w' hm hb; exact .itp h1 h2
  | nest h1 h2 => intro M' w' hm hb; exact .nest h1 (h2.stays ⟨hm, fun _ _ h => h, fun _ => Nat.le_refl _, fun _ _ _ => rfl⟩ hb)
  | @abs ρ i x ρ' hM hr hp hf hd hc ih =>
    intro M' w' hm hb
    refine .abs { ρ' with M := M' } rfl hr hp hf hd fun j hj => ?_
    exact ih j hj (fun b o v h => hm b o v (hM ▸ h)) fun b hb' => hb b ((hf b).2 ⟨j, hj, hb'⟩)

/-- The meaning of the objects with these parts. -/
def absOf (lay : A → List (Chunk A)) (tq : TabQ := TabQ.none) : Abs A where
  tq := tq
  I x M r F w := ∃ ρ i, AbsC lay w ρ i (.abs x) ∧ ρ.M = M ∧ ρ.root i = r ∧ ρ.foot i = F
  root := by
    rintro x M r F w ⟨ρ, i, h, rfl, rfl, rfl⟩
    cases h with
    | abs ρ' hM hr hp => exact hp
  stays := by
    rintro x M M' r F w w' ⟨ρ, i, h, rfl, rfl, rfl⟩ hm hb
    exact ⟨{ ρ with M := M' }, i, h.stays hm hb, rfl, rfl, rfl⟩

variable {lay : A → List (Chunk A)} {tq : TabQ}

theorem holdsC_of {i : Nat} {c : Chunk A} (h : AbsC lay w ρ i c) : HoldsC (absOf lay tq) ρ w i c := by
  cases h with
  | emp h1 h2 h3 => exact ⟨h1, h2, h3⟩
  | gone => trivial
  | @cells ρ i t cs b vs h1 h2 h3 h4 => exact ⟨b, vs.toList, h1, h2, by simpa using h3, h4⟩
  | row h1 h2 => exact ⟨h1, h2⟩
  | map h1 h2 h3 h4 => exact ⟨_, _, _, h1, h2, h3, h4⟩
  | rmap h1 h2 h3 h4 => exact ⟨_, _, h1, h2, h3, h4⟩
  | itp h1 h2 => exact ⟨h1, _, h2⟩
  | nest h1 h2 => exact ⟨h1, h2⟩
  | abs ρ' hM hr hp hf hd hc => exact ⟨ρ, i, .abs ρ' hM hr hp hf hd hc, rfl, rfl, rfl⟩
theorem of_holdsC {i : Nat} {c : Chunk A} (h : HoldsC (absOf lay tq) ρ w i c) : AbsC lay w ρ i c := by
  cases c with
  | emp => exact .emp h.1 h.2.1 h.2.2
  | gone => exact .gone
  | cells t cs => obtain ⟨b, vs, h1, h2, h3, h4⟩ := h; exact .cells (vs := vs.toArray) h1 h2 h3 (by simpa using h4)
  | row t e ver L => exact .row h.1 h.2
  | map ks e L => obtain ⟨b, es, clock, h1, h2, h3, h4⟩ := h; exact .map h1 h2 h3 h4
  | rmap ks e L R c j => obtain ⟨b, r, h1, h2, h3, h4⟩ := h; exact .rmap h1 h2 h3 h4
  | itp q => obtain ⟨h1, r, h2⟩ := h; exact .itp h1 h2
  | nest t tb ver L q => exact .nest h.1 h.2
  | abs x =>
    obtain ⟨ρ2, i2, h1, h2, h3, h4⟩ := h
    cases h1 with
    | abs ρ' hM hr hp hf hd hc => exact .abs ρ' (hM.trans h2) (hr.trans h3) (h3 ▸ hp) (fun b => by rw [← h4]; exact hf b) hd hc

theorem den_local {ρ ρ2 : Ev} {f : Nat → Nat} {m : Nat} (hM : ρ2.M = ρ.M) (hr : ∀ j, j < m → ρ2.root (f j) = ρ.root j) (hv : ∀ j, 0 < j → j < m → ρ2.ver (f j) = ρ.ver j) {x : SV1} (hx : idsLt m x = true) {v : Value} :
    Den1 ρ2 (ren1 f x) v ↔ Den1 ρ x v := by
  have lt : ∀ {i : Nat}, bltN i m = true → i < m := fun h => leN h
  have pos : ∀ {i : Nat}, bltN 0 i = true → 0 < i := fun h => leN h
  cases x <;> simp only [ren1, Den1, hM]
  case ptr i o => rw [hr i (lt hx)]
  case mp i => rw [hr i (lt hx)]
  case hd i ver =>
    obtain ⟨h1, h2⟩ := Bool.and_eq_true_iff.1 hx
    rw [hr i (lt h2), hv i (pos h1) (lt h2)]
  case vw i ver esz lo n =>
    obtain ⟨h1, h2⟩ := Bool.and_eq_true_iff.1 hx
    rw [hr i (lt h2), hv i (pos h1) (lt h2)]
  case ep i ver esz k o =>
    obtain ⟨h1, h2⟩ := Bool.and_eq_true_iff.1 hx
    rw [hr i (lt h2), hv i (pos h1) (lt h2)]

theorem dens_local {ρ ρ2 : Ev} {f : Nat → Nat} {m : Nat} (hM : ρ2.M = ρ.M) (hr : ∀ j, j < m → ρ2.root (f j) = ρ.root j) (hv : ∀ j, 0 < j → j < m → ρ2.ver (f j) = ρ.ver j) : ∀ {l : List SV1} {vs : List Value}, l.all (idsLt m) = true →
    (All2 (Den1 ρ2) (l.map (ren1 f)) vs ↔ All2 (Den1 ρ) l vs)
  | [], vs, _ => ⟨fun h => by cases h; exact .nil, fun h => by cases h; exact .nil⟩
  | x :: l, vs, hx => by
    simp only [List.all_cons, Bool.and_eq_true] at hx
    constructor
    · intro h; cases h with | cons h1 h2 => exact .cons ((den_local hM hr hv hx.1).1 h1) ((dens_local hM hr hv hx.2).1 h2)
    · intro h; cases h with | cons h1 h2 => exact .cons ((den_local hM hr hv hx.1).2 h1) ((dens_local hM hr hv hx.2).2 h2)

/-- A part that is laid elsewhere. -/
theorem part_iff {ρ ρ2 : Ev} {f : Nat → Nat} {m j : Nat} (hM : ρ2.M = ρ.M) (hr : ∀ j, j < m → ρ2.root (f j) = ρ.root j) (hv : ∀ j, 0 < j → j < m → ρ2.ver (f j) = ρ.ver j) (hf : ρ2.foot (f j) = ρ.foot j) (hj : j < m) {c : Chunk A} (hc : idsLtC m c = true)
    (hrow : 0 < j ∨ ∃ t cs, c = .cells t cs) : HoldsC (absOf lay tq) ρ2 w (f j) (renC f c) ↔ HoldsC (absOf lay tq) ρ w j c := by
  cases c with
  | emp =>
    rcases hrow with h | ⟨_, _, h⟩
    · simp only [renC, HoldsC, hf, hr j hj, hv j h hj]
    · cases h
  | gone => exact Iff.rfl
  | cells t cs =>
    simp only [renC, HoldsC, hf, hr j hj]
    constructor
    · rintro ⟨b, vs, h1, h2, h3, h4⟩; exact ⟨b, vs, h1, h2, h3, (dens_local hM hr hv hc).1 h4⟩
    · rintro ⟨b, vs, h1, h2, h3, h4⟩; exact ⟨b, vs, h1, h2, h3, (dens_local hM hr hv hc).2 h4⟩
  | row t e ver L =>
    rcases hrow with h | ⟨_, _, h⟩
    · simp only [renC, HoldsC, hf, hr j hj, hv j h hj, hM]
    · cases h
  | map ks e L => simp only [renC, HoldsC, hf, hr j hj, hM]
  | rmap ks e L R c j' => cases hc
  | itp q => cases hc
  | nest t tb ver L q =>
    cases q with
    | some q => cases hc
    | none =>
      rcases hrow with h | ⟨_, _, h⟩
      · simp only [renC, HoldsC, hf, hr j hj, hv j h hj]
        exact ⟨fun h => ⟨h.1, h.2.congrM hM.symm⟩, fun h => ⟨h.1, h.2.congrM hM⟩⟩
      · cases h
  | abs x => simp only [renC, HoldsC, hf, hr j hj, hM]

/-- What is asked of the parts of an object. -/
structure LayOk (l : List (Chunk A)) : Prop where
  pos : 0 < l.length
  head : ∃ t cs, getC l 0 = .cells t cs
  ids : ∀ j, j < l.length → idsLtC l.length (getC l j) = true

theorem place_inj {i base : Nat} (h : i < base) {j k : Nat} (e : place i base j = place i base k) : j = k := by
  cases j <;> cases k <;> simp [place] at e <;> omega

/-- An object is opened. -/
theorem Holds.open_ {tmps : Array Value} (h : Holds (absOf lay tq) G s ρ tmps w) {i base : Nat} {x : A} (hi : getC s.H i = .abs x) (hib : i < base) (hbase : ∀ k, base ≤ k → getC s.H k = .emp) (hl : LayOk (lay x)) {H' : List (Chunk A)}
    (hH : ∀ j, j < (lay x).length → getC H' (place i base j) = renC (place i base) (getC (lay x) j)) (hH2 : ∀ k, (∀ j, j < (lay x).length → k ≠ place i base j) → getC H' k = getC s.H k) :
    ∃ ρ', Holds (absOf lay tq) G ⟨s.tm, H'⟩ ρ' tmps w ∧ ρ.Le ρ' := by
  have hc := of_holdsC (hi ▸ h.ch i)
  cases hc with
  | abs ρ1 hM hr hp hf hd hc =>
  let m := (lay x).length
  -- the part that is laid at k
  let loc : Nat → Nat := fun k => if k = i then 0 else k - base + 1
  have hloc : ∀ j, loc (place i base j) = j := by
    intro j
    cases j with
    | zero => simp [loc, place]
    | succ j => simp only [loc, place]; rw [if_neg (by omega)]; omega
  let S : Nat → Prop := fun k => ∃ j, j < m ∧ k = place i base j
  let ρ2 : Ev := { root := fun k => open Classical in if S k then ρ1.root (loc k) else ρ.root k, ver := fun k => open Classical in if S k ∧ k ≠ i then ρ1.ver (loc k) else ρ.ver k, M := ρ.M, foot := fun k => open Classical in if S k then ρ1.foot (loc k) else ρ.foot k }
  have hS : ∀ j, j < m → S (place i base j) := fun j hj => ⟨j, hj, rfl⟩
  have hSk : ∀ k, S k → k = i ∨ base ≤ k := by
    rintro k ⟨j, _, rfl⟩
    cases j with
    | zero => exact .inl rfl
    | succ j => exact .inr (by simp [place])
  have e1 : ∀ j, j < m → ρ2.root (place i base j) = ρ1.root j := fun j hj => by simp only [ρ2]; rw [if_pos (hS j hj), hloc]
  have e2 : ∀ j, 0 < j → j < m → ρ2.ver (place i base j) = ρ1.ver j := fun j h0 hj => by
    simp only [ρ2]
    rw [if_pos ⟨hS j hj, by cases j with
      | zero => omega
      | succ j => simp [place]; omega⟩, hloc]
  have e3 : ∀ j, j < m → ρ2.foot (place i base j) = ρ1.foot j := fun j hj => by simp only [ρ2]; rw [if_pos (hS j hj), hloc]
  have hroot : ρ2.root i = ρ.root i := by have := e1 0 hl.pos; simp only [place] at this; rw [this, hr]
  have hemp : ∀ k, S k → k ≠ i → ρ.foot k = [] ∧ ρ.root k = .bool false ∧ ρ.ver k = 0 := by
    intro k hk hne
    have := h.ch k
    rw [hbase k ((hSk k hk).resolve_left hne)] at this
    exact this
  have le : ρ.Le ρ2 := by
    refine ⟨fun _ _ _ h => h, fun k b hk => ?_, fun k => ?_, fun k _ hk => ?_⟩
    · by_cases hSs : S k
      · by_cases hki : k = i
        · subst hki; rw [hroot]; exact hk
        · rw [(hemp k hSs hki).2.1] at hk; cases hk
      · simp only [ρ2]; rw [if_neg hSs]; exact hk
    · simp only [ρ2]
      split
      · rename_i hk; rw [(hemp k hk.1 hk.2).2.2]; exact Nat.zero_le _
      · exact Nat.le_refl _
    · by_cases hSs : S k
      · by_cases hki : k = i
        · subst hki; exact hroot
        · rw [(hemp k hSs hki).2.1] at hk; obtain ⟨_, _, _, hk⟩ := hk; cases hk
      · simp only [ρ2]; rw [if_neg hSs]
  refine ⟨ρ2, h.step S le rfl (fun k hk => ?_) (fun k hk b hb => ?_) (fun k k' b hk hk' hne hb hb' => ?_) (fun _ _ _ => rfl) rfl rfl rfl (Nat.le_refl _) (fun k hk => ?_), le⟩
  · refine ⟨by simp only [ρ2]; rw [if_neg hk], by simp only [ρ2]; rw [if_neg (fun h => hk h.1)], by simp only [ρ2]; rw [if_neg hk], hH2 k fun j hj e => hk ⟨j, hj, e⟩⟩
  · obtain ⟨j, hj, rfl⟩ := hk
    rw [e3 j hj] at hb
    have hb' : b ∈ ρ.foot i := (hf b).2 ⟨j, hj, hb⟩
    exact ⟨.inl ⟨i, hS 0 hl.pos, hb'⟩, h.lt i b hb'⟩
  · obtain ⟨j, hj, rfl⟩ := hk
    obtain ⟨j', hj', rfl⟩ := hk'
    rw [e3 j hj] at hb
    rw [e3 j' hj'] at hb'
    exact hd j j' b hj hj' (fun e => hne (by rw [e])) hb hb'
  · obtain ⟨j, hj, rfl⟩ := hk
    rw [hH j hj]
    refine (part_iff (ρ := ρ1) (ρ2 := ρ2) (f := place i base) (m := m) hM.symm e1 e2 (e3 j hj) hj (hl.ids j hj) ?_).2 (holdsC_of (hc j hj))
    cases j with
    | zero => exact .inr hl.head
    | succ j => exact .inl (by omega)

/-- The parts are put together to the object. -/
theorem Holds.close_ {tmps : Array Value} (h : Holds (absOf lay tq) G s ρ tmps w) {i base : Nat} {x : A} (hib : i < base) (hl : LayOk (lay x)) (hH : ∀ j, j < (lay x).length → getC s.H (place i base j) = renC (place i base) (getC (lay x) j))
    {H' : List (Chunk A)} (h0 : getC H' i = .abs x) (h1 : ∀ j, 0 < j → j < (lay x).length → getC H' (place i base j) = .gone) (h2 : ∀ k, (∀ j, j < (lay x).length → k ≠ place i base j) → getC H' k = getC s.H k) :
    ∃ ρ', Holds (absOf lay tq) G ⟨s.tm, H'⟩ ρ' tmps w ∧ ρ'.root = ρ.root ∧ ρ'.ver = ρ.ver ∧ ρ'.M = ρ.M := by
  let m := (lay x).length
  let ρ1 : Ev := { root := fun j => ρ.root (place i base j), ver := fun j => ρ.ver (place i base j), M := ρ.M, foot := fun j => ρ.foot (place i base j) }
  let S : Nat → Prop := fun k => ∃ j, j < m ∧ k = place i base j
  have hS : ∀ j, j < m → S (place i base j) := fun j hj => ⟨j, hj, rfl⟩
  have hparts : ∀ j, j < m → HoldsC (absOf lay tq) ρ1 w j (getC (lay x) j) := fun j hj => by
    have := h.ch (place i base j)
    rw [hH j hj] at this
    refine (part_iff (ρ := ρ1) (ρ2 := ρ) (f := place i base) (m := m) rfl (fun _ _ => rfl) (fun _ _ _ => rfl) rfl hj (hl.ids j hj) ?_).1 this
    cases j with
    | zero => exact .inr hl.head
    | succ j => exact .inl (by omega)
  let all : List Nat := (List.range m).flatMap fun j => ρ.foot (place i base j)
  have hall : ∀ b, b ∈ all ↔ ∃ j, j < m ∧ b ∈ ρ.foot (place i base j) := by intro b; simp [all]
  let ρ2 : Ev := { root := ρ.root, ver := ρ.ver, M := ρ.M, foot := fun k => open Classical in if k = i then all else if S k then [] else ρ.foot k }
  have hfi : ρ2.foot i = all := by simp [ρ2]
  have hfn : ∀ k, S k → k ≠ i → ρ2.foot k = [] := fun k hk hne => by simp only [ρ2]; rw [if_neg hne, if_pos hk]
  have hSi : S i := hS 0 hl.pos
  obtain ⟨t, cs, hhead⟩ := hl.head
  have hptr : ∃ b, ρ.root i = .pointer (some ⟨b, 0, none⟩) := by
    have := hparts 0 hl.pos
    rw [hhead] at this
    obtain ⟨b, vs, h3, _⟩ := this
    exact ⟨b, h3⟩
  refine ⟨ρ2, h.step S ⟨fun _ _ _ h => h, fun _ _ h => h, fun _ => Nat.le_refl _, fun _ _ _ => rfl⟩ rfl (fun k hk => ?_) (fun k hk b hb => ?_) (fun k k' b hk hk' hne hb hb' => ?_) (fun _ _ _ => rfl) rfl rfl rfl (Nat.le_refl _) (fun k hk => ?_), rfl, rfl, rfl⟩
  · have hki : k ≠ i := by rintro rfl; exact hk hSi
    exact ⟨rfl, rfl, by simp only [ρ2]; rw [if_neg hki, if_neg hk], h2 k fun j hj e => hk ⟨j, hj, e⟩⟩
  · by_cases hki : k = i
    · subst hki
      rw [hfi] at hb
      obtain ⟨j, hj, hb⟩ := (hall b).1 hb
      exact ⟨.inl ⟨_, hS j hj, hb⟩, h.lt _ b hb⟩
    · rw [hfn k hk hki] at hb; cases hb
  · by_cases hki : k = i
    · by_cases hki' : k' = i
      · exact hne (hki.trans hki'.symm)
      · rw [hfn k' hk' hki'] at hb'; cases hb'
    · rw [hfn k hk hki] at hb; cases hb
  · by_cases hki : k = i
    · subst hki
      rw [h0]
      refine holdsC_of (.abs ρ1 rfl rfl hptr (fun b => by rw [hfi]; exact hall b) (fun j k' b hj hk' hne hb hb' => ?_) (fun j hj => of_holdsC (hparts j hj)))
      exact h.dis _ _ b (fun e => hne (place_inj hib e)) hb hb'
    · obtain ⟨j, hj, rfl⟩ := hk
      have hj0 : 0 < j := by
        rcases Nat.eq_zero_or_pos j with h0 | h0
        · subst h0; exact absurd rfl hki
        · exact h0
      rw [h1 j hj0 hj]
      trivial

end Go.Sx

/-
  Symbolic execution: a function's body; a contract in another state.
-/
namespace Go.Sx
set_option linter.all false
set_option linter.unusedVariables false
set_option linter.unusedSimpArgs false
set_option linter.unusedSectionVars false
open Go.RowKit

variable {A : Type} {AI : Abs A} {G : Fr} {s : SS A} {ρ : Ev} {a : Act} {w : World} {P : Program}

theorem look_argT : ∀ {n : Nat} {l : List SV} {t : Nat} {v : SV}, look (argT n l) t = some v → n ≤ t ∧ l[t - n]? = some v
  | n, [], t, v, h => by cases h
  | n, x :: r, t, v, h => by
    simp only [argT] at h
    rw [look_cons] at h
    split at h
    · rename_i e
      subst e
      cases h
      exact ⟨Nat.le_refl _, by simp⟩
    · rename_i e
      obtain ⟨h1, h2⟩ := look_argT h
      refine ⟨by omega, ?_⟩
      rw [show t - n = (t - (n + 1)) + 1 by omega, List.getElem?_cons_succ]; exact h2

/-- The state at a function's entry. -/
theorem Holds.enter {H : List (Chunk A)} {tmps0 : Array Value} (h : Holds AI G ⟨[], H⟩ ρ tmps0 w) {args : List SV} {us : List Value} (hd : All2 (Den ρ) args us) {n : Nat} (hn : us.length ≤ n) :
    Holds AI { G with size := n } ⟨argT 0 args, H⟩ ρ (us.toArray ++ Array.replicate (n - us.toArray.size) undef) w := by
  refine ⟨by simp; omega, h.gt, fun t v ht => ?_, h.ch, h.dis, h.lt, h.im, h.os, h.tape, h.output, h.grow, h.kept, h.fro, h.rt, h.rts, h.mono, h.mfr⟩
  obtain ⟨_, h1⟩ := look_argT ht
  rw [Nat.sub_zero, ← nth_eq] at h1
  obtain ⟨u, h2, h3⟩ := hd.nth h1
  refine ⟨u, ?_, h3⟩
  have hlt := (List.getElem?_eq_some_iff.1 h2).1
  rw [Array.getElem?_append_left (by simpa using hlt)]
  simpa using h2

def rvOf (tmps : Array Value) : ResultVar → Go.Sem Value
  | .tmp t => pure (tmps.getD t undef)
  | .cell x t => do loadVar t (← asAddr (tmps.getD x undef))

theorem resV_sound {ti : List (Nat × TI)} (hT : TIok P ti) (h : Holds AI G s ρ a.tmps w) : ∀ {rs : List ResultVar} {l : List SV2}, resV ti s rs = some l → ∃ vs : List Value, All2 (Den2 ρ) l vs ∧
    (rs.mapM (rvOf a.tmps)).run P w = .ok vs w
  | [], l, h' => by simp [resV] at h'; subst h'; exact ⟨[], .nil, by simp⟩
  | .tmp t :: r, l, h' => by
    simp only [resV] at h'
    split at h' <;> (try cases h')
    rename_i x hx
    split at h' <;> cases h'
    rename_i l' hl'
    obtain ⟨vs, h1, h2⟩ := resV_sound hT h hl'
    obtain ⟨u, h3, h4⟩ := h.tm t _ hx
    refine ⟨u :: vs, .cons h4 h1, ?_⟩
    have h5 : (rvOf a.tmps (.tmp t)).run P w = .ok u w := by simp [rvOf, h3]
    rw [List.mapM_cons, Sem.run_bind, h5]
    simp only [Result.andThen, Sem.run_bind, h2]
    rfl
  | .cell y t :: r, l, h' => by
    simp only [resV] at h'
    split at h' <;> (try cases h')
    rename_i i off hx
    split at h' <;> (try cases h')
    rename_i ct cs hcs
    split at h' <;> (try cases h')
    rename_i j hj
    split at h' <;> (try cases h')
    rename_i x hx2
    split at h' <;> cases h'
    rename_i l' hl'
    obtain ⟨vs, h1, h2⟩ := resV_sound hT h hl'
    obtain ⟨u, h3, h4⟩ := h.tm y _ hx
    obtain ⟨b, h5, h6⟩ := h4
    have hc := h.ch i
    rw [hcs] at hc
    obtain ⟨b', us, h7, h8, h9, h10⟩ := hc
    rw [h5] at h7
    cases h7
    obtain ⟨z, h11, h12⟩ := load_part (P := P) (w := w) (hT t j hj) h10 hx2 (b := b) (off := 0) (fun k v hk => by simp [World.cell?, h9, hk])
    have h13 : (loadVar t ⟨b, off, none⟩).run P w = .ok z w := by
      have : (Instr.loadAt t (.pointer (some ⟨b, 0 + off, none⟩))).run P w = (loadVar t ⟨b, off, none⟩).run P w := by simp [Instr.loadAt, Instr.sureAddr]
      rw [← this]; exact h11
    refine ⟨z :: vs, .cons h12 h1, ?_⟩
    have h14 : (rvOf a.tmps (.cell y t)).run P w = .ok z w := by simp [rvOf, h3, h6, asAddr, h13]
    rw [List.mapM_cons, Sem.run_bind, h14]
    simp only [Result.andThen, Sem.run_bind, h2]
    rfl

/-- What a function does, its arguments and chunks numbered from 0 on. -/
def TmplOk (P : Program) (AI : Abs A) (f : FuncId) (args : List SV) (H0 : List (Chunk A)) (v : SV) (H1 : List (Chunk A)) : Prop :=
  ∀ (G : Fr) (ρ : Ev) (w : World) (us : List Value), G.n0 = H0.length → G.size = 0 → Holds AI G ⟨[], H0⟩ ρ #[] w → All2 (Den ρ) args us →
    Calls P f us.toArray w fun e w' => ∃ y ρ', e = .returned y ∧ Holds AI G ⟨[], H1⟩ ρ' #[] w' ∧ Den ρ' v y

theorem results_sound {ti : List (Nat × TI)} (hT : TIok P ti) (hh : Holds AI G s ρ a.tmps w) {fn : Func} {l : List SV2} (hl : resV ti s fn.results.toList = some l) : ∃ y, (results fn a.tmps).run P w = .ok y w ∧ Den ρ (resOf l) y := by
  obtain ⟨vs, h1, h2⟩ := resV_sound hT hh hl
  have h3 : (fn.results.mapM (rvOf a.tmps)).run P w = .ok vs.toArray w := by
    rw [Array.mapM_eq_mapM_toList]
    show (List.toArray <$> _ : Go.Sem _).run P w = _
    rw [map_eq_pure_bind, Sem.run_bind, h2]
    rfl
  refine ⟨if h : vs.toArray.size = 1 then vs.toArray[0] else .tuple vs.toArray, ?_, ?_⟩
  · have h4 : results fn a.tmps = (do let vs ← fn.results.mapM (rvOf a.tmps); pure (if h : vs.size = 1 then vs[0] else .tuple vs)) := by
      unfold results
      first
        | rfl
        | (congr 1; done)
        | (congr 1; congr 1; funext r; cases r <;> rfl)
    rw [h4, Sem.run_bind, h3]
    rfl
  · cases h1 with
    | nil => exact ⟨[], by simp, .nil⟩
    | cons hx hr =>
      cases hr with
      | nil => simpa [resOf, Den] using hx
      | cons hy hr => exact ⟨_, by simp, .cons hx (.cons hy hr)⟩

theorem bodyPost_of {E : Env A} [SubA A] (hT : TIok P E.ti) {fn : Func} {n0 : Nat} (hn0 : G.n0 = n0) {v : SV} {H1 : List (Chunk A)} {e : XE} {s' : SS A} (h : finP E.ti n0 fn.results.toList v H1 e s') {R : Ending → World → Prop}
    (hR : ∀ y ρ' w', Holds AI { G with size := 0 } ⟨[], H1⟩ ρ' #[] w' → Den ρ' v y → R (.returned y) w') : Then AI G s' (bodyPost P fn R e.out) := by
  have key : ∀ l, resV E.ti s' fn.results.toList = some l → Sub n0 ⟨[(0, resOf l)], s'.H⟩ ⟨[(0, v)], H1⟩ → ∀ (a' : Act) (w' : World), a'.defers = [] → (∃ ρ', Holds AI G s' ρ' a'.tmps w') → a'.defers = [] ∧ ∃ y, (results fn a'.tmps).run P w' = .ok y w' ∧ R (.returned y) w' := by
    rintro l hl hsub a' w' hd ⟨ρ', hh⟩
    obtain ⟨vs, h1, h2⟩ := resV_sound hT hh hl
    have hres : ∃ y, (results fn a'.tmps).run P w' = .ok y w' ∧ Den ρ' (resOf l) y := by
      have h3 : (fn.results.mapM (rvOf a'.tmps)).run P w' = .ok vs.toArray w' := by
        rw [Array.mapM_eq_mapM_toList]
        show (List.toArray <$> _ : Go.Sem _).run P w' = _
        rw [map_eq_pure_bind, Sem.run_bind, h2]
        rfl
      refine ⟨if h : vs.toArray.size = 1 then vs.toArray[0] else .tuple vs.toArray, ?_, ?_⟩
      · have h4 : results fn a'.tmps = (do let vs ← fn.results.mapM (rvOf a'.tmps); pure (if h : vs.size = 1 then vs[0] else .tuple vs)) := by
          unfold results
          first
            | rfl
            | (congr 1; done)
            | (congr 1; congr 1; funext r; cases r <;> rfl)
        rw [h4, Sem.run_bind, h3]
        rfl
      · cases h1 with
        | nil => exact ⟨[], by simp, .nil⟩
        | cons hx hr =>
          cases hr with
          | nil => simpa [resOf, Den] using hx
          | cons hy hr => exact ⟨_, by simp, .cons hx (.cons hy hr)⟩
    obtain ⟨y, h3, h4⟩ := hres
    refine ⟨hd, y, h3, ?_⟩
    let G1 : Fr := { G with size := 1 }
    have h5 : Sat AI G1 ⟨[(0, resOf l)], s'.H⟩ ⟨#[y], []⟩ w' := by
      refine ⟨rfl, ρ', ⟨rfl, hh.gt, fun t x ht => ?_, hh.ch, hh.dis, hh.lt, hh.im, hh.os, hh.tape, hh.output, hh.grow, hh.kept, hh.fro, hh.rt, hh.rts, hh.mono, hh.mfr⟩⟩
      rw [look_cons] at ht
      split at ht
      · rename_i e; subst e; cases ht; exact ⟨y, rfl, h4⟩
      · cases ht
    obtain ⟨_, ρ2, h6⟩ := hsub.sound (G := G1) hn0 h5
    obtain ⟨u, h7, h8⟩ := h6.tm 0 v (by simp [look])
    simp at h7
    subst h7
    refine hR y ρ2 w' ⟨rfl, h6.gt, (fun t x ht => by cases ht), h6.ch, h6.dis, h6.lt, h6.im, h6.os, h6.tape, h6.output, h6.grow, h6.kept, h6.fro, h6.rt, h6.rts, h6.mono, h6.mfr⟩ h8
  cases e with
  | exit id => exact (Failed.elim h)
  | normal =>
    simp only [finP] at h
    split at h
    · rename_i l hl; exact key l hl h
    · exact h.elim
  | ret =>
    simp only [finP] at h
    split at h
    · rename_i l hl; exact key l hl h
    · exact h.elim

/-- A function's body. -/
theorem body_ok [SubA A] {E : Env A} (hE : EnvOk P AI E) (hm : P.follows .mixedOrders = true) {f : FuncId} {fn : Func} {c : Code} (hf : P.funcs[f]? = some fn) (hb : fn.body = some c) (hok : codeOk fn.ntmps c = true) {args : List SV} (hargs : args.length ≤ fn.ntmps) {H0 : List (Chunk A)} {n0 : Nat}
    {v : SV} {H1 : List (Chunk A)} (h : svc E n0 c ⟨argT 0 args, H0⟩ (finP E.ti n0 fn.results.toList v H1)) (hG : G.n0 = n0) (hsz : G.size = 0) {us : List Value} (hh : Holds AI G ⟨[], H0⟩ ρ #[] w) (hd : All2 (Den ρ) args us) :
    Calls P f us.toArray w fun e w' => ∃ y ρ', e = .returned y ∧ Holds AI G ⟨[], H1⟩ ρ' #[] w' ∧ Den ρ' v y := by
  refine calls_of_wp hf hb ?_
  have hlen := hd.length
  have h1 := hh.enter hd (n := fn.ntmps) (by omega)
  refine svc_sound (AI := AI) (G := { G with size := fn.ntmps }) hE hm hG c hok _ _ _ _ w h ⟨rfl, ρ, h1⟩ fun e s' hq => ?_
  refine bodyPost_of (AI := AI) (G := { G with size := fn.ntmps }) hE.ti hG hq (R := fun e w' => ∃ y ρ', e = .returned y ∧ Holds AI G ⟨[], H1⟩ ρ' #[] w' ∧ Den ρ' v y) fun y ρ' w' h2 h3 => ⟨y, ρ', rfl, ?_, h3⟩
  have e1 : ({ { G with size := fn.ntmps } with size := 0 } : Fr) = G := by cases G; simp at hsz; subst hsz; rfl
  rw [e1] at h2
  exact h2

theorem tmpl_of_body [SubA A] {E : Env A} (hE : EnvOk P AI E) (hm : P.follows .mixedOrders = true) {f : FuncId} {fn : Func} {c : Code} (hf : P.funcs[f]? = some fn) (hb : fn.body = some c) (hok : codeOk fn.ntmps c = true) {args : List SV} (hargs : args.length ≤ fn.ntmps) {H0 : List (Chunk A)}
    {v : SV} {H1 : List (Chunk A)} (h : svc E H0.length c ⟨argT 0 args, H0⟩ (finP E.ti H0.length fn.results.toList v H1)) : TmplOk P AI f args H0 v H1 :=
  fun _ _ _ _ hG hsz hh hd => body_ok hE hm hf hb hok hargs h hG hsz hh hd

/-! ### a contract in another state -/
/-- Values that name no chunk. -/
def closed1 : SV1 → Bool
  | .ptr _ _ => false
  | .mp _ => false
  | .hd _ _ => false
  | .vw _ _ _ _ _ => false
  | .ep _ _ _ _ _ => false
  | _ => true
theorem closed1_den {ρ ρ' : Ev} (hM : ρ'.M = ρ.M) {x : SV1} (hx : closed1 x = true) {v : Value} : Den1 ρ' x v ↔ Den1 ρ x v := by
  cases x <;> simp [closed1] at hx <;> simp only [Den1, hM]

/-- The chunk of the caller before and behind the call (c, c'), and as the callee numbers it (c0, c1). -/
def Kin (ver : Nat) (c c' c0 c1 : Chunk A) : Prop := (∃ x x', c = .abs x ∧ c' = .abs x' ∧ c0 = .abs x ∧ c1 = .abs x') ∨ ∃ t e L L', c = .row t e ver L ∧ c' = .row t e ver L' ∧ c0 = .row t e 0 L ∧ c1 = .row t e 0 L'

/-- The place of a number in a list. -/
def posOf : List Nat → Nat → Option Nat
  | [], _ => none
  | x :: r, i => if x = i then some 0 else (posOf r i).map (· + 1)
theorem posOf_some : ∀ {l : List Nat} {i j : Nat}, posOf l i = some j → l[j]? = some i
  | [], i, j, h => by cases h
  | x :: r, i, j, h => by
    simp only [posOf] at h
    split at h
    · rename_i e; cases h; simp [e]
    · simp only [Option.map_eq_some_iff] at h
      obtain ⟨k, h1, rfl⟩ := h
      simpa using posOf_some h1
theorem posOf_none : ∀ {l : List Nat} {i : Nat}, posOf l i = none → i ∉ l
  | [], i, h => by simp
  | x :: r, i, h => by
    simp only [posOf] at h
    split at h
    · cases h
    · rename_i e
      simp only [Option.map_eq_none_iff] at h
      simp only [List.mem_cons, not_or]
      exact ⟨fun e' => e e'.symm, posOf_none h⟩
theorem posOf_nodup {l : List Nat} (hn : l.Nodup) {i j : Nat} (h : l[j]? = some i) : posOf l i = some j := by
  cases hp : posOf l i with
  | none => exact absurd (List.mem_of_getElem? h) (posOf_none hp)
  | some k =>
    have h1 := posOf_some hp
    have hk := (List.getElem?_eq_some_iff.1 h1).1
    exact congrArg some ((List.getElem?_inj hk hn).1 (h1.trans h.symm))

theorem frame_call {f : FuncId} {args0 : List SV} {H0 H1 : List (Chunk A)} {v0 : SV} (hT : TmplOk P AI f args0 H0 v0 H1) {tmps : Array Value} (h : Holds AI G s ρ tmps w) {ids news : List Nat} (hn : (ids ++ news).Nodup) (hl0 : ids.length = H0.length)
    (hnew : ∀ i ∈ news, getC s.H i = .emp) {H' : List (Chunk A)} (hkin : ∀ j i, ids[j]? = some i → Kin (ρ.ver i) (getC s.H i) (getC H' i) (getC H0 j) (getC H1 j)) (hnew' : ∀ j i, news[j]? = some i → getC H' i = getC H1 (ids.length + j) ∧ (∀ t cs, getC H1 (ids.length + j) ≠ .cells t cs) ∧ (∀ ks e L R c q, getC H1 (ids.length + j) ≠ .rmap ks e L R c q) ∧ ∀ t tb u L q, getC H1 (ids.length + j) ≠ .nest t tb u L (some q)) (hrest : ∀ i, i ∉ ids ++ news → getC H' i = getC s.H i)
    {us : List Value} (hargs : ∀ ρc : Ev, ρc.M = ρ.M → (∀ j i, ids[j]? = some i → ρc.root j = ρ.root i ∧ ρc.ver j = 0) → All2 (Den ρc) args0 us) {v : SV}
    (hres : ∀ ρc ρ' : Ev, ρ'.M = ρc.M → (∀ j i, (ids ++ news)[j]? = some i → ρ'.root i = ρc.root j) → (∀ j i, news[j]? = some i → ρ'.ver i = ρc.ver (ids.length + j)) → ∀ y, Den ρc v0 y → Den ρ' v y) :
    Calls P f us.toArray w fun e w' => ∃ y ρ', e = .returned y ∧ Holds AI G ⟨s.tm, H'⟩ ρ' tmps w' ∧ Den ρ' v y ∧ ρ.Le ρ' := by
  let n0 := ids.length
  let idO : Nat → Nat := fun j => ids[j]?.getD 0
  let ρc : Ev := { root := fun j => if j < n0 then ρ.root (idO j) else .bool false, ver := fun _ => 0, M := ρ.M, foot := fun j => if j < n0 then ρ.foot (idO j) else [] }
  let Gc : Fr := { w0 := w, own := fun b => ∃ j, j < n0 ∧ b ∈ ρ.foot (idO j), n0 := n0, root0 := ρc.root, M0 := ρ.M, size := 0 }
  have hid : ∀ j i, ids[j]? = some i → j < n0 ∧ idO j = i := fun j i hj => ⟨(List.getElem?_eq_some_iff.1 hj).1, by simp [idO, hj]⟩
  have hidj : ∀ j, j < n0 → ids[j]? = some (idO j) := fun j hj => by
    have : ids[j]? = some (ids[j]'hj) := List.getElem?_eq_getElem hj
    simp [idO, this]
  have hnO : ids.Nodup := (List.nodup_append.1 hn).1
  have hinj : ∀ j k, j < n0 → k < n0 → idO j = idO k → j = k := fun j k hj hk e =>
    (List.getElem?_inj hj hnO).1 ((hidj j hj).trans (by rw [e]; exact (hidj k hk).symm))
  have hfc : ∀ j, j < n0 → ρc.foot j = ρ.foot (idO j) := fun j hj => by simp [ρc, hj]
  have hfc2 : ∀ j b, b ∈ ρc.foot j → j < n0 ∧ b ∈ ρ.foot (idO j) := by
    intro j b hb
    simp only [ρc] at hb
    split at hb
    · rename_i hj; exact ⟨hj, hb⟩
    · cases hb
  have hc : Holds AI Gc ⟨[], H0⟩ ρc #[] w := by
    refine ⟨rfl, h.gtOf (fun b hb => by obtain ⟨j, _, hj⟩ := hb; exact ⟨_, hj⟩), (fun t x ht => by cases ht), fun j => ?_, fun i j b hij hi hj => ?_, fun i b hb => h.lt _ b (hfc2 i b hb).2, fun b o x hm => ⟨(h.im b o x hm).1, fun i hb => (h.im b o x hm).2 _ (hfc2 i b hb).2⟩, rfl, rfl, rfl, Nat.le_refl _, fun _ _ _ => rfl,
      fun i b hb => .inl ⟨i, hfc2 i b hb⟩, fun _ _ _ hb => hb, fun i _ => ⟨Nat.zero_le _, fun _ _ _ hb _ => hb⟩, fun _ _ _ hm => hm, fun b o x hm => .inl hm⟩
    · by_cases hj : j < n0
      · have hcc := h.ch (idO j)
        have e1 : ρc.root j = ρ.root (idO j) := by simp [ρc, hj]
        rcases hkin j _ (hidj j hj) with ⟨x, x', h1, -, h2, -⟩ | ⟨t, e, L, L', h1, -, h2, -⟩
        · rw [h1] at hcc
          show HoldsC AI ρc w j (getC H0 j)
          rw [h2]
          simp only [HoldsC, e1, hfc j hj] at hcc ⊢
          exact hcc
        · rw [h1] at hcc
          show HoldsC AI ρc w j (getC H0 j)
          rw [h2]
          exact ⟨rfl, by rw [e1, hfc j hj]; exact hcc.2⟩
      · show HoldsC AI ρc w j (getC H0 j)
        rw [getC_beyond (by omega)]
        exact ⟨by simp [ρc, hj], by simp [ρc, hj], rfl⟩
    · obtain ⟨h1, h2⟩ := hfc2 i b hi
      obtain ⟨h3, h4⟩ := hfc2 j b hj
      exact h.dis _ _ b (fun e => hij (hinj i j h1 h3 e)) h2 h4
  have hcall := hT Gc ρc w us hl0 rfl hc (hargs ρc rfl fun j i hj => by obtain ⟨h1, h2⟩ := hid j i hj; exact ⟨by simp [ρc, h1, h2], rfl⟩)
  refine hcall.mono ?_
  rintro e w' ⟨y, ρr, rfl, hr, hy⟩
  let all := ids ++ news
  let ρ' : Ev := { root := fun i => match posOf all i with | some j => ρr.root j | none => ρ.root i, ver := fun i => match posOf all i with | some j => if j < n0 then ρ.ver i else ρr.ver j | none => ρ.ver i, M := ρr.M, foot := fun i => match posOf all i with | some j => ρr.foot j | none => ρ.foot i }
  have hpos : ∀ {j i}, all[j]? = some i → posOf all i = some j := posOf_nodup hn
  have hroot : ∀ {j i}, all[j]? = some i → ρ'.root i = ρr.root j := fun hj => by simp only [ρ', hpos hj]
  have hfoot : ∀ {j i}, all[j]? = some i → ρ'.foot i = ρr.foot j := fun hj => by simp only [ρ', hpos hj]
  have hverO : ∀ {j i}, all[j]? = some i → j < n0 → ρ'.ver i = ρ.ver i := fun hj hlt => by simp only [ρ', hpos hj, if_pos hlt]
  have hverN : ∀ {j i}, all[j]? = some i → ¬ j < n0 → ρ'.ver i = ρr.ver j := fun hj hlt => by simp only [ρ', hpos hj, if_neg hlt]
  have hout : ∀ {i}, posOf all i = none → ρ'.root i = ρ.root i ∧ ρ'.ver i = ρ.ver i ∧ ρ'.foot i = ρ.foot i := fun hp => ⟨by simp only [ρ', hp], by simp only [ρ', hp], by simp only [ρ', hp]⟩
  have hallO : ∀ {j}, j < n0 → all[j]? = some (idO j) := fun hj => by
    have := hidj _ hj
    simp only [all]
    rw [List.getElem?_append_left hj]; exact this
  have hallN : ∀ {j i}, all[j]? = some i → ¬ j < n0 → news[j - n0]? = some i := fun {j i} hj hlt => by
    simp only [all] at hj
    rwa [List.getElem?_append_right (by omega)] at hj
  have hblk : ∀ b, b < w.heap.size → (∀ j, j < n0 → b ∉ ρ.foot (idO j)) → w'.heap[b]? = w.heap[b]? := fun b hb hnb => hr.kept b hb (by rintro ⟨j, hj, hb'⟩; exact hnb j hj hb')
  have hrfoot : ∀ j b, b ∈ ρr.foot j → (∃ k, k < n0 ∧ b ∈ ρ.foot (idO k)) ∨ w.heap.size ≤ b := fun j b hb => hr.fro j b hb
  have hnone : ∀ {i b}, posOf all i = none → b ∈ ρ.foot i → ∀ j, j < n0 → b ∉ ρ.foot (idO j) := fun {i b} hp hb j hj hb' => by
    refine h.dis i (idO j) b (fun e => ?_) hb hb'
    subst e
    rw [hpos (hallO hj)] at hp; cases hp
  have le : ρ.Le ρ' := by
    refine ⟨hr.mono, fun i b hb => ?_, fun i => ?_, fun i hv hs => ?_⟩
    · cases hp : posOf all i with
      | none => rw [(hout hp).1]; exact hb
      | some j =>
        have hj := posOf_some hp
        rw [hroot hj]
        by_cases hlt : j < n0
        · have e1 := hallO hlt
          rw [hj] at e1
          cases e1
          exact hr.rt j b hlt (by show ρc.root j = _; simp only [ρc, if_pos hlt]; exact hb)
        · have := hnew i (List.mem_of_getElem? (hallN hj hlt))
          have h1 := h.ch i
          rw [this] at h1
          rw [h1.2.1] at hb; cases hb
    · cases hp : posOf all i with
      | none => rw [(hout hp).2.1]; exact Nat.le_refl _
      | some j =>
        have hj := posOf_some hp
        by_cases hlt : j < n0
        · rw [hverO hj hlt]; exact Nat.le_refl _
        · have := hnew i (List.mem_of_getElem? (hallN hj hlt))
          have h1 := h.ch i
          rw [this] at h1
          rw [h1.2.2]; exact Nat.zero_le _
    · cases hp : posOf all i with
      | none => exact (hout hp).1
      | some j =>
        have hj := posOf_some hp
        by_cases hlt : j < n0
        · have e1 := hallO hlt
          rw [hj] at e1
          cases e1
          rw [hroot hj]
          obtain ⟨ao, l, c, hs⟩ := hs
          have hr0 : Gc.root0 j = .slice ao l c := by show ρc.root j = _; simp only [ρc, if_pos hlt]; exact hs
          rcases hkin j _ (hidj j hlt) with ⟨x, x', h1, -, -, -⟩ | ⟨t, e, L, L', -, -, -, h2⟩
          · have h4 := h.ch (idO j)
            rw [h1] at h4
            obtain ⟨b, h7⟩ := AI.root h4
            rw [hs] at h7; cases h7
          · have h3 := hr.ch j
            simp only [] at h3
            rw [h2] at h3
            rw [(hr.rts j hlt).2 ao l c hr0 h3.1.symm, hs]
        · have := hnew i (List.mem_of_getElem? (hallN hj hlt))
          have h1 := h.ch i
          rw [this] at h1
          obtain ⟨_, _, _, hs⟩ := hs
          rw [h1.2.1] at hs; cases hs
  refine ⟨y, ρ', rfl, ⟨h.sz, h.gt, fun t x ht => ?_, fun i => ?_, fun i k b hik hi hk => ?_, fun i b hb => ?_, fun b o x hm => ⟨(hr.im b o x hm).1, fun i hb => ?_⟩, hr.os.trans h.os, hr.tape.trans h.tape, hr.output.trans h.output, Nat.le_trans h.grow hr.grow,
    fun b hb hn' => ?_, fun i b hb => ?_, fun i b hi hb => le.ptr i b (h.rt i b hi hb), fun i hi => ?_, fun b o x hm => hr.mono b o x (h.mono b o x hm), fun b o x hm => ?_⟩, ?_, le⟩
  · obtain ⟨u, h1, h2⟩ := h.tm t x ht; exact ⟨u, h1, h2.mono le⟩
  · show HoldsC AI ρ' w' i (getC H' i)
    cases hp : posOf all i with
    | none =>
      rw [hrest i (posOf_none hp)]
      obtain ⟨e1, e2, e3⟩ := hout hp
      exact (h.ch i).stays le e1 e2 e3 fun b hb => hblk b (h.lt i b hb) (hnone hp hb)
    | some j =>
      have hj := posOf_some hp
      have h3 := hr.ch j
      simp only [] at h3
      by_cases hlt : j < n0
      · have e1 := hallO hlt
        rw [hj] at e1
        cases e1
        rcases hkin j _ (hidj j hlt) with ⟨x, x', -, h1, -, h2⟩ | ⟨t, e, L, L', -, h1, -, h2⟩
        · rw [h1]
          rw [h2] at h3
          simp only [HoldsC, hroot hj, hfoot hj] at h3 ⊢
          exact h3
        · rw [h1]
          rw [h2] at h3
          exact ⟨(hverO hj hlt).symm, by rw [hroot hj, hfoot hj]; exact h3.2⟩
      · have hj' := hallN hj hlt
        obtain ⟨h4, h5, h5', h5''⟩ := hnew' _ _ hj'
        have hjn : ids.length + (j - n0) = j := by show n0 + (j - n0) = j; omega
        rw [hjn] at h4 h5 h5' h5''
        rw [h4]
        cases hg : getC H1 j with
        | emp => rw [hg] at h3; simp only [HoldsC, hroot hj, hfoot hj, hverN hj hlt] at h3 ⊢; exact h3
        | gone => trivial
        | cells t cs => exact absurd hg (h5 t cs)
        | row t e ver L => rw [hg] at h3; exact ⟨h3.1.trans (hverN hj hlt).symm, by rw [hroot hj, hfoot hj]; exact h3.2⟩
        | map ks e L => rw [hg] at h3; simp only [HoldsC, hroot hj, hfoot hj] at h3 ⊢; exact h3
        | rmap ks e L R c q => exact absurd hg (h5' ks e L R c q)
        | itp q => rw [hg] at h3; simp only [HoldsC, hroot hj, hfoot hj] at h3 ⊢; exact h3
        | nest t tb ver L q =>
          cases q with
          | some q => exact absurd hg (h5'' _ _ _ _ _)
          | none => rw [hg] at h3; exact ⟨h3.1.trans (hverN hj hlt).symm, by rw [hroot hj, hfoot hj]; exact h3.2.congrM rfl⟩
        | abs x => rw [hg] at h3; simp only [HoldsC, hroot hj, hfoot hj] at h3 ⊢; exact h3
  · cases hp : posOf all i with
    | none =>
      rw [(hout hp).2.2] at hi
      cases hq : posOf all k with
      | none => rw [(hout hq).2.2] at hk; exact h.dis i k b hik hi hk
      | some j =>
        rw [hfoot (posOf_some hq)] at hk
        rcases hrfoot j b hk with ⟨m, hm, hb⟩ | hge
        · exact hnone hp hi m hm hb
        · have := h.lt i b hi; omega
    | some j =>
      rw [hfoot (posOf_some hp)] at hi
      cases hq : posOf all k with
      | none =>
        rw [(hout hq).2.2] at hk
        rcases hrfoot j b hi with ⟨m, hm, hb⟩ | hge
        · exact hnone hq hk m hm hb
        · have := h.lt k b hk; omega
      | some j' =>
        rw [hfoot (posOf_some hq)] at hk
        refine hr.dis j j' b (fun e => hik ?_) hi hk
        subst e
        have h1 := posOf_some hp
        have h2 := posOf_some hq
        rw [h1] at h2
        exact Option.some.inj h2
  · cases hp : posOf all i with
    | none => rw [(hout hp).2.2] at hb; exact Nat.lt_of_lt_of_le (h.lt i b hb) hr.grow
    | some j => rw [hfoot (posOf_some hp)] at hb; exact hr.lt j b hb
  · cases hp : posOf all i with
    | none =>
      rw [(hout hp).2.2] at hb
      rcases hr.mfr b o x hm with h1 | ⟨m, h1, h2⟩ | h1
      · exact (h.im b o x h1).2 i hb
      · exact hnone hp hb m h1 h2
      · have h1 : w.heap.size ≤ b := h1
        have := h.lt i b hb; omega
    | some j => rw [hfoot (posOf_some hp)] at hb; exact (hr.im b o x hm).2 j hb
  · refine (hblk b (Nat.lt_of_lt_of_le hb h.grow) fun j hj hb' => ?_).trans (h.kept b hb hn')
    rcases h.fro _ b hb' with h1 | h1
    · exact hn' h1
    · omega
  · have new : ∀ b, w.heap.size ≤ b → G.w0.heap.size ≤ b := fun b hb => Nat.le_trans h.grow hb
    cases hp : posOf all i with
    | none => rw [(hout hp).2.2] at hb; exact h.fro i b hb
    | some j =>
      rw [hfoot (posOf_some hp)] at hb
      rcases hrfoot j b hb with ⟨m, hm, hb'⟩ | hge
      · exact h.fro _ b hb'
      · exact .inr (new b hge)
  · obtain ⟨hv0, hs⟩ := h.rts i hi
    refine ⟨Nat.le_trans hv0 (le.ver i), fun ao l c hb hv => ?_⟩
    have e0 : ρ.ver i = G.ver0 i := Nat.le_antisymm (hv ▸ le.ver i) hv0
    have h1 := hs ao l c hb e0
    rw [le.same i (by rw [e0, hv]) ⟨_, _, _, h1⟩]; exact h1
  · rcases hr.mfr b o x hm with h1 | ⟨m, h1, h2⟩ | h1
    · exact h.mfr b o x h1
    · exact .inr (h.fro _ b h2)
    · exact .inr (.inr (Nat.le_trans h.grow h1))
  · refine hres ρr ρ' rfl (fun j i hj => hroot hj) (fun j i hj => ?_) y hy
    have hj2 : all[n0 + j]? = some i := by
      simp only [all]
      rw [List.getElem?_append_right (by show n0 ≤ n0 + j; omega)]
      simpa [n0] using hj
    exact hverN hj2 (by omega)

end Go.Sx

/-
  Symbolic execution: the table of types, checked by the kernel.
-/
namespace Go.Sx
set_option linter.all false
set_option linter.unusedVariables false
set_option linter.unusedSimpArgs false
set_option linter.unusedSectionVars false
open Go.RowKit

variable {P : Program}

def zeroB : Ty → List Value → Option (List Value)
  | .int k, .int k' n :: r => if k = k' ∧ n = 0 then some r else none
  | .bool, .bool b :: r => if b = false then some r else none
  | .bytes, .slice none 0 0 :: r => some r
  | .lst _, .slice none 0 0 :: r => some r
  | .str, .string s :: r => if s.size = 0 then some r else none
  | .unit, r => some r
  | .pair a b, r => match zeroB a r with
    | some r => zeroB b r
    | none => none
  | _, _ => none

def isNil : Option (List Value) → Bool
  | some [] => true
  | _ => false
theorem isNil_eq {o : Option (List Value)} (h : isNil o = true) : o = some [] := by
  unfold isNil at h
  split at h
  · rfl
  · cases h

theorem zeroB_sound {M : Mem} : ∀ {T : Ty} {l r : List Value}, zeroB T l = some r → ∃ l1, l = l1 ++ r ∧ l1.length = T.size ∧ CellsM M T T.dflt (fun j => l1[j]?)
  | .int k, l, r, h => by
    cases l with
    | nil => simp [zeroB] at h
    | cons v l =>
      cases v <;> simp [zeroB] at h
      obtain ⟨⟨rfl, rfl⟩, rfl⟩ := h
      exact ⟨[.int k 0], rfl, rfl, rfl⟩
  | .bool, l, r, h => by
    cases l with
    | nil => simp [zeroB] at h
    | cons v l =>
      cases v <;> simp [zeroB] at h
      obtain ⟨rfl, rfl⟩ := h
      exact ⟨[.bool false], rfl, rfl, rfl⟩
  | .bytes, l, r, h => by
    cases l with
    | nil => simp [zeroB] at h
    | cons v l =>
      cases v <;> (try (simp [zeroB] at h; done))
      rename_i ao len cap
      cases ao <;> cases len <;> cases cap <;> (try (simp [zeroB] at h; done))
      simp [zeroB] at h
      subst h
      exact ⟨[.slice none 0 0], rfl, rfl, _, rfl, none, 0, rfl, by simp [Ty.dflt], by simp [Ty.dflt]⟩
  | .lst e, l, r, h => by
    cases l with
    | nil => simp [zeroB] at h
    | cons v l =>
      cases v <;> (try (simp [zeroB] at h; done))
      rename_i ao len cap
      cases ao <;> cases len <;> cases cap <;> (try (simp [zeroB] at h; done))
      simp [zeroB] at h
      subst h
      exact ⟨[.slice none 0 0], rfl, rfl, _, rfl, none, 0, rfl, by simp [Ty.dflt], by simp [Ty.dflt]⟩
  | .str, l, r, h => by
    cases l with
    | nil => simp [zeroB] at h
    | cons v l =>
      cases v <;> simp [zeroB] at h
      rename_i s
      obtain ⟨h0, rfl⟩ := h
      refine ⟨[.string s], rfl, rfl, ?_⟩
      have : s = ⟨#[]⟩ := h0
      subst this
      show _ = _
      rfl
  | .unit, l, r, h => by simp [zeroB] at h; subst h; exact ⟨[], rfl, rfl, trivial⟩
  | .pair a b, l, r, h => by
    simp only [zeroB] at h
    split at h
    · rename_i r1 h1
      obtain ⟨l1, e1, e2, e3⟩ := zeroB_sound (M := M) h1
      obtain ⟨l2, e4, e5, e6⟩ := zeroB_sound (M := M) h
      refine ⟨l1 ++ l2, by rw [e1, e4]; simp, by simp [Ty.size, e2, e5], CellsM.congr a e3 fun j v hj hv => ?_, CellsM.congr b e6 fun j v hj hv => ?_⟩
      · simp only [List.getElem?_append_left (show j < l1.length by omega)]; exact hv
      · simp only [List.getElem?_append_right (show l1.length ≤ a.size + j by omega), show a.size + j - l1.length = j by omega]; exact hv
    · cases h

def offsB (P : Program) : List (Nat × Nat) → List Field → Bool
  | [], [] => true
  | (o, sz) :: l, f :: fs => f.offset == o && (match P.info? f.type with | some g => g.size == sz | none => false) && offsB P l fs
  | _, _ => false
theorem offsB_sound : ∀ {l : List (Nat × Nat)} {fs : List Field}, offsB P l fs = true → All2 (fun (p : Nat × Nat) (f : Field) => f.offset = p.1 ∧ ∃ g, P.info? f.type = some g ∧ g.size = p.2) l fs
  | [], [], _ => .nil
  | (o, sz) :: l, f :: fs, h => by
    simp only [offsB, Bool.and_eq_true, beq_iff_eq] at h
    obtain ⟨⟨h1, h2⟩, h3⟩ := h
    split at h2
    · rename_i g hg; exact .cons ⟨h1, g, hg, by simpa using h2⟩ (offsB_sound h3)
    · cases h2
  | [], _ :: _, h => by cases h
  | _ :: _, [], h => by cases h

def kindB (P : Program) (t : TypeId) (k : TK) : Bool := match k, P.underlying t with
  | .int k, some (.int k') => k == k'
  | .bool, some .bool => true
  | .str, some .string => true
  | .struct offs, some (.struct fs) => offsB P offs fs.toList
  | .slice e ty, some (.slice e') => e == e' && (match P.info? e with
    | some g => (match ty with
      | none => true
      | some T => g.size == T.size && decide (0 < g.size) && decide (g.bytes ≤ 128) && (match T, P.underlying e with | .int k, some (.int k') => k == k' | .int _, _ => false | _, _ => true) && (match g.zero with | some z => z.cells.size == T.size && isNil (zeroB T z.cells.toList) | none => false))
    | none => false)
  | .array n e, some (.array n' e') => n == n' && e == e' && (P.info? e).isSome
  | .ptr e, some (.pointer e') => e == e'
  | .map k e ty, some (.map k' e') => k == k' && e == e' && (match ty with
    | none => true
    | some (ks, T) => (match ks, P.underlying k with | .int kk, some (.int kk') => kk == kk' | .str, some .string => true | _, _ => false) && (match P.info? e with
      | some g => (match g.zero with
        | some (.agg cs) => T.agg && cs.size == T.size && isNil (zeroB T cs.toList)
        | some z => !T.agg && T.size == 1 && isNil (zeroB T [z])
        | none => false)
      | none => false))
  | _, _ => false

theorem kindB_sound {t : TypeId} {k : TK} (h : kindB P t k = true) : KindOk P t k := by
  unfold kindB at h
  split at h
  · rename_i k k' hu; simp at h; subst h; exact hu
  · rename_i hu; exact hu
  · rename_i hu; exact hu
  · rename_i offs fs hu; exact ⟨fs, hu, offsB_sound h⟩
  · rename_i e ty e' hu
    simp only [Bool.and_eq_true, beq_iff_eq] at h
    obtain ⟨rfl, h⟩ := h
    split at h
    · rename_i g hg
      refine ⟨hu, g, hg, fun T hT => ?_⟩
      subst hT
      simp only [Bool.and_eq_true, beq_iff_eq, decide_eq_true_eq] at h
      obtain ⟨⟨⟨⟨h1, h2⟩, h3⟩, h4⟩, h5⟩ := h
      refine ⟨h1, h2, h3, fun k hk => ?_, ?_⟩
      · subst hk
        split at h4
        · rename_i k1 k2 e1 e2; cases e1; simp at h4; subst h4; exact e2
        · cases h4
        · rename_i hno _; exact absurd rfl (hno _)
      · split at h5
        · rename_i z hz
          simp only [Bool.and_eq_true, beq_iff_eq] at h5
          obtain ⟨h6, h7⟩ := h5
          refine ⟨z, hz, h6, fun M => ?_⟩
          obtain ⟨l1, e1, e2, e3⟩ := zeroB_sound (M := M) (isNil_eq h7)
          simp only [List.append_nil] at e1
          rw [e1]; exact e3
        · cases h5
    · cases h
  · rename_i n e n' e' hu
    simp only [Bool.and_eq_true, beq_iff_eq] at h
    obtain ⟨⟨rfl, rfl⟩, h⟩ := h
    exact ⟨hu, Option.isSome_iff_exists.1 h⟩
  · rename_i e e' hu; simp at h; subst h; exact hu
  · rename_i k e ty k' e' hu
    simp only [Bool.and_eq_true, beq_iff_eq] at h
    obtain ⟨⟨rfl, rfl⟩, h⟩ := h
    refine ⟨hu, fun ks T hT => ?_⟩
    subst hT
    simp only [Bool.and_eq_true] at h
    obtain ⟨h1, h2⟩ := h
    refine ⟨?_, ?_⟩
    · split at h1
      · rename_i h3; simp at h1; subst h1; exact h3
      · rename_i h3; exact h3
      · cases h1
    · split at h2 <;> (try cases h2)
      rename_i g hg
      split at h2 <;> (try cases h2)
      · rename_i cs hz
        simp only [Bool.and_eq_true, beq_iff_eq] at h2
        obtain ⟨⟨h3, h4⟩, h5⟩ := h2
        refine ⟨g, _, hg, hz, fun M => ?_⟩
        obtain ⟨l1, e1, e2, e3⟩ := zeroB_sound (M := M) (isNil_eq h5)
        simp only [List.append_nil] at e1
        refine ⟨cs.toList, by simpa using h4, e1 ▸ e3, ?_⟩
        rw [h3]
      · rename_i z _ hz
        simp only [Bool.and_eq_true, beq_iff_eq, Bool.not_eq_true'] at h2
        obtain ⟨⟨h3, h4⟩, h5⟩ := h2
        refine ⟨g, _, hg, hz, fun M => ?_⟩
        obtain ⟨l1, e1, e2, e3⟩ := zeroB_sound (M := M) (isNil_eq h5)
        simp only [List.append_nil] at e1
        refine ⟨[z], by simpa using h4.symm, e1 ▸ e3, ?_⟩
        rw [h3]
  · cases h

/-! ### types whose values are compared cell by cell -/
def isIntT (P : Program) (t : TypeId) : Bool := match P.underlying t with
  | some (.int _) => true
  | _ => false
def intFs (P : Program) : Nat → List Field → Bool
  | _, [] => true
  | j, f :: r => f.name != "_" && f.offset == j && isIntT P f.type && intFs P (j + 1) r
def eqB (P : Program) (t : TypeId) (n : Nat) : Bool := match P.underlying t with
  | some (.struct fs) => !P.stoodInHeld t && !P.eqGuardType P.depth t && intFs P 0 fs.toList && fs.size == n
  | some (.array m e) => !P.eqGuardType P.depth t && isIntT P e && (P.info? e).isSome && P.cellsOf e == 1 && m == n
  | _ => false
theorem isIntT_sound {t : TypeId} (h : isIntT P t = true) : ∃ k, P.underlying t = some (.int k) := by
  unfold isIntT at h
  split at h
  · rename_i k hk; exact ⟨k, hk⟩
  · cases h
theorem part_int {e : TypeId} (he : isIntT P e = true) {xs : Array Value} {off : Nat} {v : Value} (hx : xs[off]? = some v) (w : World) : (part e xs off).run P w = .ok v w := by
  obtain ⟨k, hk⟩ := isIntT_sound he
  unfold part
  rw [Sem.run_bind]
  have h1 : (isAgg e).run P w = .ok false w := by simp [isAgg, run_underlying hk]
  rw [h1]
  simp only [Result.andThen, Bool.false_eq_true, if_false, hx]
  rfl
theorem eqFields_int (d : Nat) (w : World) (xs ys : Array Value) : ∀ (fs : List Field) (j : Nat) (vs us : List Value), intFs P j fs = true → fs.length = vs.length → All2 (fun v u => ∃ k a b, v = .int k a ∧ u = .int k b) vs us → (∀ i v, vs[i]? = some v → xs[j + i]? = some v) → (∀ i v, us[i]? = some v → ys[j + i]? = some v) →
    (Op.eqFields (d + 1) xs ys fs).run P w = .ok (eqVs vs us) w
  | [], j, vs, us, _, hl, h2, _, _ => by
    cases h2 with
    | nil => simp [Op.eqFields, eqVs]
    | cons _ _ => simp at hl
  | f :: fs, j, vs, us, hf, hl, h2, hx, hy => by
    cases h2 with
    | nil => simp at hl
    | @cons v u vs us h h2 =>
      obtain ⟨k, a, b, rfl, rfl⟩ := h
      simp only [intFs, Bool.and_eq_true, bne_iff_ne, ne_eq, beq_iff_eq] at hf
      obtain ⟨⟨⟨f1, f2⟩, f3⟩, f4⟩ := hf
      have e1 := part_int (P := P) f3 (hx 0 _ rfl) w
      have e2 := part_int (P := P) f3 (hy 0 _ rfl) w
      obtain ⟨k', hk'⟩ := isIntT_sound f3
      have e3 := run_equalIn_int (P := P) w d f.type k k' a b hk'
      have ih := eqFields_int d w xs ys fs (j + 1) vs us f4 (by simpa using hl) h2 (fun i v hi => by rw [show j + 1 + i = j + (i + 1) by omega]; exact hx (i + 1) v (by simpa using hi)) (fun i v hi => by rw [show j + 1 + i = j + (i + 1) by omega]; exact hy (i + 1) v (by simpa using hi))
      rw [Nat.add_zero] at e1 e2
      subst f2
      simp only [Op.eqFields, f1, ne_eq, not_false_eq_true, if_true, Sem.run_bind, e1, e2, e3, Result.andThen_ok]
      by_cases hab : a = b
      · subst hab
        simp only [beq_self_eq_true, Bool.not_true, Bool.false_eq_true, if_false, eqVs, Bool.true_and]
        exact ih
      · have : (a == b) = false := by simpa using hab
        simp [this, eqVs]
theorem eqItems_int (d : Nat) (w : World) {e : TypeId} (he : isIntT P e = true) (xs ys : Array Value) : ∀ (n j : Nat) (vs us : List Value), n = vs.length → All2 (fun v u => ∃ k a b, v = .int k a ∧ u = .int k b) vs us → (∀ i v, vs[i]? = some v → xs[j + i]? = some v) → (∀ i v, us[i]? = some v → ys[j + i]? = some v) →
    (Op.eqItems (d + 1) e 1 xs ys (List.range' j n)).run P w = .ok (eqVs vs us) w
  | 0, j, vs, us, hl, h2, _, _ => by
    cases h2 with
    | nil => simp [Op.eqItems, eqVs]
    | cons _ _ => simp at hl
  | n + 1, j, vs, us, hl, h2, hx, hy => by
    cases h2 with
    | nil => simp at hl
    | @cons v u vs us h h2 =>
      obtain ⟨k, a, b, rfl, rfl⟩ := h
      have e1 := part_int (P := P) he (hx 0 _ rfl) w
      have e2 := part_int (P := P) he (hy 0 _ rfl) w
      obtain ⟨k', hk'⟩ := isIntT_sound he
      have e3 := run_equalIn_int (P := P) w d e k k' a b hk'
      have ih := eqItems_int d w he xs ys n (j + 1) vs us (by simpa using hl) h2 (fun i v hi => by rw [show j + 1 + i = j + (i + 1) by omega]; exact hx (i + 1) v (by simpa using hi)) (fun i v hi => by rw [show j + 1 + i = j + (i + 1) by omega]; exact hy (i + 1) v (by simpa using hi))
      rw [Nat.add_zero] at e1 e2
      simp only [List.range'_succ, Op.eqItems, Nat.mul_one, Sem.run_bind, e1, e2, e3, Result.andThen_ok]
      by_cases hab : a = b
      · subst hab
        simp only [beq_self_eq_true, Bool.not_true, Bool.false_eq_true, if_false, eqVs, Bool.true_and]
        exact ih
      · have : (a == b) = false := by simpa using hab
        simp [this, eqVs]
theorem eqB_sound {t : TypeId} {n : Nat} (h : eqB P t n = true) : EqOk P t n := by
  unfold eqB at h
  split at h
  · rename_i fs hu
    simp only [Bool.and_eq_true, Bool.not_eq_true', beq_iff_eq] at h
    obtain ⟨⟨⟨h1, h2⟩, h3⟩, h4⟩ := h
    refine ⟨h2, fun w vs us hl h5 => ?_⟩
    have hf : P.fieldsOf t = fs := by simp [Program.fieldsOf, hu]
    rw [run_equalIn_struct w 9999 t _ _ (by rw [hf]; exact hu) h1, hf]
    exact eqFields_int 9998 w _ _ fs.toList 0 vs us h3 (by simp [h4, hl]) h5 (fun i v hi => by simpa using hi) (fun i v hi => by simpa using hi)
  · rename_i m e hu
    simp only [Bool.and_eq_true, Bool.not_eq_true', beq_iff_eq] at h
    obtain ⟨⟨⟨⟨h1, h2⟩, h3⟩, h4⟩, rfl⟩ := h
    obtain ⟨i, hi⟩ := Option.isSome_iff_exists.1 h3
    refine ⟨h1, fun w vs us hl h5 => ?_⟩
    rw [run_equalIn_array w 9999 _ _ hu hi, h4, List.range_eq_range']
    exact eqItems_int 9998 w h2 _ _ m 0 vs us hl.symm h5 (fun i v hi => by simpa using hi) (fun i v hi => by simpa using hi)
  · cases h

def tiB (P : Program) (p : Nat × TI) : Bool := (p.2.bytes == 0 || eqB P p.1 p.2.size) && kindB P p.1 p.2.kind && (match P.info? p.1 with | some f => f.size == p.2.size && f.zero.isSome | none => false)
def zeroP (P : Program) (t : TypeId) : List SV1 := match P.info? t with
  | some f => (match f.zero with | some z => z.cells.toList.map ofLit1 | none => [])
  | none => []

theorem look_mem {α : Type} : ∀ {l : List (Nat × α)} {t : Nat} {x : α}, look l t = some x → (t, x) ∈ l
  | [], t, x, h => by cases h
  | (k, y) :: r, t, x, h => by
    rw [look_cons] at h
    split at h
    · rename_i e; cases h; subst e; simp
    · exact List.mem_cons_of_mem _ (look_mem h)

theorem map_eq_mem {α β : Type} {f g : α → β} : ∀ {l : List α}, l.map f = l.map g → ∀ x ∈ l, f x = g x
  | [], _, x, h => by cases h
  | y :: r, h, x, hx => by
    simp only [List.map_cons, List.cons.injEq] at h
    rcases List.mem_cons.1 hx with rfl | hx
    · exact h.1
    · exact map_eq_mem h.2 x hx

theorem tiOk_of {ti : List (Nat × TI)} (h : ti.all (tiB P) = true) (hz : ti.map (fun p => zeroP P p.1) = ti.map fun p => p.2.zero) : TIok P ti := by
  intro t i hl
  have hm := look_mem hl
  have h1 := List.all_eq_true.1 h _ hm
  have h2 := map_eq_mem hz _ hm
  unfold tiB at h1
  simp only [Bool.and_eq_true] at h1
  obtain ⟨⟨h0, h3⟩, h4⟩ := h1
  refine ⟨?_, kindB_sound h3, fun hb => ?_⟩
  rotate_left 1
  · simp only [Bool.or_eq_true, beq_iff_eq] at h0
    rcases h0 with h0 | h0
    · omega
    · exact eqB_sound h0
  split at h4
  · rename_i f hf
    simp only [Bool.and_eq_true, beq_iff_eq] at h4
    obtain ⟨z, hz2⟩ := Option.isSome_iff_exists.1 h4.2
    refine ⟨f, hf, h4.1, z, hz2, ?_⟩
    dsimp only at h2
    rw [← h2]
    unfold zeroP
    rw [hf]
    dsimp only
    rw [hz2]
  · cases h4

end Go.Sx

/-
  Symbolic execution: a method of an object.
-/
namespace Go.Sx
set_option linter.all false
set_option linter.unusedVariables false
set_option linter.unusedSimpArgs false
set_option linter.unusedSectionVars false
open Go.RowKit

variable {A : Type} {G : Fr} {s : SS A} {ρ : Ev} {a : Act} {w : World} {P : Program} {lay : A → List (Chunk A)} {tq : TabQ}

/-- The object (its parts are l) that is chunk 0 opened: its parts behind the others. -/
def openObj (l : List (Chunk A)) (rest : List (Chunk A)) : List (Chunk A) := match place 0 (rest.length + 1) with
  | f => renC f (getC l 0) :: (rest ++ l.tail.map (renC f))
/-- The object closed again. -/
def shutObj (x : A) (k : Nat) (rest news : List (Chunk A)) : List (Chunk A) := .abs x :: (rest ++ (List.replicate k .gone ++ news))

theorem getC_cons_succ (c : Chunk A) (l : List (Chunk A)) (i : Nat) : getC (c :: l) (i + 1) = getC l i := rfl
theorem getC_app_left {l m : List (Chunk A)} {i : Nat} (h : i < l.length) : getC (l ++ m) i = getC l i := by
  unfold getC; rw [nth_eq, nth_eq, List.getElem?_append_left h]
theorem getC_app_right {l m : List (Chunk A)} {i : Nat} (h : l.length ≤ i) : getC (l ++ m) i = getC m (i - l.length) := by
  unfold getC; rw [nth_eq, nth_eq, List.getElem?_append_right h]
theorem getC_map {f : Chunk A → Chunk A} (hf : f .emp = .emp) (l : List (Chunk A)) (i : Nat) : getC (l.map f) i = f (getC l i) := by
  unfold getC; rw [nth_eq, nth_eq, List.getElem?_map]; cases l[i]? <;> simp [hf]
theorem getC_tail (l : List (Chunk A)) (i : Nat) : getC l.tail i = getC l (i + 1) := by
  cases l with
  | nil => rfl
  | cons c r => rfl

theorem openObj_part {l rest news : List (Chunk A)} {j : Nat} (hj : j < l.length) : getC (openObj l rest ++ news) (place 0 (rest.length + 1) j) = renC (place 0 (rest.length + 1)) (getC l j) := by
  cases j with
  | zero => rfl
  | succ j =>
    have hl : (openObj l rest).length = rest.length + 1 + l.tail.length := by simp [openObj]; omega
    rw [getC_app_left (by rw [hl]; simp [place]; omega)]
    show getC (renC _ (getC l 0) :: (rest ++ l.tail.map _)) (rest.length + 1 + j) = _
    rw [show rest.length + 1 + j = (rest.length + j) + 1 by omega, getC_cons_succ, getC_app_right (by omega), show rest.length + j - rest.length = j by omega, getC_map rfl, getC_tail]

theorem openObj_other {l rest news : List (Chunk A)} (hpos : 0 < l.length) {k : Nat} (hk : ∀ j, j < l.length → k ≠ place 0 (rest.length + 1) j) : getC (openObj l rest ++ news) k = if k < rest.length + 1 then getC rest (k - 1) else getC news (k - (rest.length + l.length)) := by
  have hl : (openObj l rest).length = rest.length + l.length := by simp [openObj]; omega
  cases k with
  | zero => exact absurd rfl (hk 0 hpos)
  | succ k =>
    split
    · rename_i h
      rw [getC_app_left (by rw [hl]; omega)]
      show getC (renC _ (getC l 0) :: (rest ++ l.tail.map _)) (k + 1) = _
      rw [getC_cons_succ, getC_app_left (by omega)]; rfl
    · rename_i h
      have h1 : rest.length + l.length ≤ k + 1 := by
        rcases Nat.lt_or_ge (k + 1) (rest.length + l.length) with h2 | h2
        · exact absurd (show k + 1 = place 0 (rest.length + 1) (k + 1 - rest.length) by rw [show k + 1 - rest.length = (k - rest.length) + 1 by omega]; simp [place]; omega) (hk _ (by omega))
        · exact h2
      rw [getC_app_right (by rw [hl]; exact h1), hl]

/-- Chunks that name no others. -/
def flatC : Chunk A → Bool
  | .cells _ _ => false
  | .rmap _ _ _ _ _ _ => false
  | .nest _ _ _ _ (some _) => false
  | _ => true

theorem Holds.drop {AI : Abs A} {tm : List (Nat × SV)} {H H1 : List (Chunk A)} {tmps : Array Value} (h : Holds AI G ⟨tm, H⟩ ρ tmps w) (hn : G.n0 ≤ H1.length) (hH : ∀ i, i < H1.length → getC H1 i = getC H i) (hf : H1.all flatC = true) : Holds AI G ⟨[], H1⟩ (ρ.trim H1.length) tmps w := by
  have hfoot : ∀ i b, b ∈ (ρ.trim H1.length).foot i → b ∈ ρ.foot i := by
    intro i b hb
    simp only [Ev.trim] at hb
    split at hb
    · exact hb
    · cases hb
  refine ⟨h.sz, h.gt, (fun t v ht => by cases ht), fun i => ?_, fun i j b hij hi hj => h.dis i j b hij (hfoot i b hi) (hfoot j b hj), fun i b hb => h.lt i b (hfoot i b hb), fun b o v hm => ⟨(h.im b o v hm).1, fun i hb => (h.im b o v hm).2 i (hfoot i b hb)⟩,
    h.os, h.tape, h.output, h.grow, h.kept, fun i b hb => h.fro i b (hfoot i b hb), fun i b hi hb => ?_, fun i hi => ?_, h.mono, h.mfr⟩
  · show HoldsC AI _ w i (getC H1 i)
    by_cases hi : i < H1.length
    · have hc := h.ch i
      have e1 := hH i hi
      have hc : HoldsC AI ρ w i (getC H i) := hc
      rw [← e1] at hc
      have hfl : flatC (getC H1 i) = true := by
        have : getC H1 i = H1[i] := by unfold getC; rw [nth_eq, List.getElem?_eq_getElem hi]
        rw [this]; exact List.all_eq_true.1 hf _ (List.getElem_mem hi)
      cases hg : getC H1 i with
      | emp => rw [hg] at hc; simp only [HoldsC, Ev.trim, if_pos hi] at hc ⊢; exact hc
      | gone => trivial
      | cells t cs => rw [hg] at hfl; cases hfl
      | row t e v L => rw [hg] at hc; simp only [HoldsC, Ev.trim, if_pos hi] at hc ⊢; exact hc
      | map ks e L => rw [hg] at hc; simp only [HoldsC, Ev.trim, if_pos hi] at hc ⊢; exact hc
      | rmap ks e L R c j => rw [hg] at hfl; cases hfl
      | itp q => rw [hg] at hc; simp only [HoldsC, Ev.trim, if_pos hi] at hc ⊢; exact hc
      | nest t tb ver L q =>
        cases q with
        | some q => rw [hg] at hfl; cases hfl
        | none => rw [hg] at hc; simp only [HoldsC, Ev.trim, if_pos hi] at hc ⊢; exact ⟨hc.1, hc.2.congrM rfl⟩
      | abs x => rw [hg] at hc; simp only [HoldsC, Ev.trim, if_pos hi] at hc ⊢; exact hc
    · rw [getC_beyond (by omega)]
      simp [HoldsC, Ev.trim, hi]
  · have : i < H1.length := by omega
    simp only [Ev.trim, if_pos this]; exact h.rt i b hi hb
  · have : i < H1.length := by omega
    simp only [Ev.trim, if_pos this]; exact h.rts i hi

def closed2 : SV2 → Bool
  | .one x => closed1 x
  | .agg l => l.all closed1
  | .fn _ l => l.all closed1
def closedV : SV → Bool
  | .val x => closed2 x
  | .tup l => l.all closed2

theorem closed1s_den {ρ ρ' : Ev} (hM : ρ'.M = ρ.M) {l : List SV1} {vs : List Value} (hl : l.all closed1 = true) (h : All2 (Den1 ρ) l vs) : All2 (Den1 ρ') l vs := by
  induction h with
  | nil => exact .nil
  | cons h1 _ ih =>
    simp only [List.all_cons, Bool.and_eq_true] at hl
    exact .cons ((closed1_den hM hl.1).2 h1) (ih hl.2)
theorem closed2_den {ρ ρ' : Ev} (hM : ρ'.M = ρ.M) {x : SV2} {u : Value} (hx : closed2 x = true) (h : Den2 ρ x u) : Den2 ρ' x u := by
  cases x with
  | one x => exact (closed1_den hM hx).2 h
  | agg l => obtain ⟨vs, h1, h2⟩ := h; exact ⟨vs, h1, closed1s_den hM hx h2⟩
  | fn f l => obtain ⟨vs, h1, h2⟩ := h; exact ⟨vs, h1, closed1s_den hM hx h2⟩
theorem closed2s_den {ρ ρ' : Ev} (hM : ρ'.M = ρ.M) {l : List SV2} {vs : List Value} (hl : l.all closed2 = true) (h : All2 (Den2 ρ) l vs) : All2 (Den2 ρ') l vs := by
  induction h with
  | nil => exact .nil
  | cons h1 _ ih =>
    simp only [List.all_cons, Bool.and_eq_true] at hl
    exact .cons (closed2_den hM hl.1 h1) (ih hl.2)
theorem closedV_den {ρ ρ' : Ev} (hM : ρ'.M = ρ.M) {v : SV} {u : Value} (hv : closedV v = true) (h : Den ρ v u) : Den ρ' v u := by
  cases v with
  | val x => exact closed2_den hM hv h
  | tup l =>
    obtain ⟨vs, h1, h2⟩ := h
    refine ⟨vs, h1, ?_⟩
    clear h1
    exact closed2s_den hM hv h2

theorem Holds.close_obj {x' : A} {rest' : List (Chunk A)} {tmps : Array Value} (hl' : LayOk (lay x')) (hflat : rest'.all flatC = true) (hn : G.n0 ≤ rest'.length + 1) (h : Holds (absOf lay tq) G ⟨[], openObj (lay x') rest'⟩ ρ tmps w) :
    ∃ ρ', Holds (absOf lay tq) G ⟨[], .abs x' :: rest'⟩ ρ' tmps w ∧ ρ'.M = ρ.M ∧ ρ'.root 0 = ρ.root 0 := by
  obtain ⟨ρ2, h2, e1, e2, e3⟩ := h.close_ (i := 0) (base := rest'.length + 1) (x := x') (by omega) hl' (fun j hj => by have := openObj_part (rest := rest') (news := []) hj; simpa using this)
    (H' := shutObj x' ((lay x').length - 1) rest' []) rfl (fun j h0 hj => by
      cases j with
      | zero => omega
      | succ j =>
        show getC (.abs x' :: (rest' ++ (List.replicate _ .gone ++ []))) (rest'.length + 1 + j) = .gone
        rw [show rest'.length + 1 + j = (rest'.length + j) + 1 by omega, getC_cons_succ, getC_app_right (by omega), List.append_nil]
        unfold getC
        rw [nth_eq, List.getElem?_replicate, if_pos (by omega)]) (fun k hk => by
      have := openObj_other (news := []) hl'.pos hk
      rw [List.append_nil] at this
      show getC (.abs x' :: (rest' ++ (List.replicate _ .gone ++ []))) k = getC (openObj (lay x') rest') k
      rw [this]
      cases k with
      | zero => exact absurd rfl (hk 0 hl'.pos)
      | succ k =>
        rw [getC_cons_succ]
        split
        · rename_i hlt; rw [getC_app_left (by omega)]; rfl
        · rename_i hlt
          rw [getC_beyond (show ([] : List (Chunk A)).length ≤ _ by simp), getC_beyond]
          have h1 : rest'.length + (lay x').length ≤ k + 1 := by
            rcases Nat.lt_or_ge (k + 1) (rest'.length + (lay x').length) with h2 | h2
            · exact absurd (show k + 1 = place 0 (rest'.length + 1) (k + 1 - rest'.length) by rw [show k + 1 - rest'.length = (k - rest'.length) + 1 by omega]; simp [place]; omega) (hk _ (by omega))
            · exact h2
          have := hl'.pos
          simp; omega)
  have h3 := h2.drop (H1 := .abs x' :: rest') (by simpa using hn) (fun i hi => by
    cases i with
    | zero => rfl
    | succ i =>
      simp only [List.length_cons] at hi
      show getC rest' i = getC (rest' ++ _) i
      rw [getC_app_left (by omega)]) (by simp only [List.all_cons, hflat, Bool.and_true]; rfl)
  exact ⟨_, h3, e3, by simp [Ev.trim, e1]⟩

/-- A method of the object that is chunk 0: nothing new is left behind. -/
theorem tmpl_obj [SubA A] {E : Env A} (hE : EnvOk P (absOf lay tq) E) (hm : P.follows .mixedOrders = true) {f : FuncId} {fn : Func} {c : Code} (hf : P.funcs[f]? = some fn) (hb : fn.body = some c) (hok : codeOk fn.ntmps c = true) {args : List SV} (hargs : args.length ≤ fn.ntmps)
    {x x' : A} {rest rest' : List (Chunk A)} (hl : LayOk (lay x)) (hl' : LayOk (lay x')) (hrl : rest'.length = rest.length) (hflat : rest'.all flatC = true) {v : SV} (hv : closedV v = true)
    (h : svc E (rest.length + 1) c ⟨argT 0 args, openObj (lay x) rest⟩ (finP E.ti (rest.length + 1) fn.results.toList v (openObj (lay x') rest'))) :
    TmplOk P (absOf lay tq) f args (.abs x :: rest) v (.abs x' :: rest') := by
  intro G ρ w us hG hsz hh hd
  simp only [List.length_cons] at hG
  obtain ⟨ρ1, h1, le1⟩ := hh.open_ (i := 0) (base := rest.length + 1) (x := x) rfl (by omega) (fun k hk => getC_beyond (by simpa using hk)) hl (H' := openObj (lay x) rest)
    (fun j hj => by have := openObj_part (rest := rest) (news := []) hj; simpa using this) (fun k hk => by
      have := openObj_other (news := []) hl.pos hk
      rw [List.append_nil] at this
      rw [this]
      split
      · rename_i hlt
        cases k with
        | zero => exact absurd rfl (hk 0 hl.pos)
        | succ k => rfl
      · rename_i hlt
        rw [getC_beyond (show ([] : List (Chunk A)).length ≤ _ by simp), getC_beyond (by simp; omega)])
  refine (body_ok hE hm hf hb hok hargs h hG hsz h1 (hd.mono fun _ _ => Den.mono le1)).mono ?_
  rintro e w' ⟨y, ρ2, rfl, h2, h3⟩
  obtain ⟨ρ3, h4, h5, _⟩ := h2.close_obj hl' hflat (by omega)
  exact ⟨y, ρ3, rfl, h4, closedV_den h5 hv h3⟩

end Go.Sx

/-
  Symbolic execution: contracts of functions whose arguments and results are data.
-/
namespace Go.Sx
set_option linter.all false
set_option linter.unusedVariables false
set_option linter.unusedSimpArgs false
set_option linter.unusedSectionVars false
open Go.RowKit

variable {A : Type} {AI : Abs A} {G : Fr} {s : SS A} {ρ : Ev} {a : Act} {w : World} {P : Program}

/-- What an argument or a result is, seen as data. -/
inductive DT where
  | cell (e : Ty)
  | lst (e : Ty)
abbrev DT.T : DT → Type
  | .cell e => e.T
  | .lst e => List e.T
def DT.sv : (d : DT) → U d.T → SV2
  | .cell e, x => (match elV e x with | some y => y | none => .one .any)
  | .lst e, L => .one (.ro e L)
def DT.of : (d : DT) → SV → Option (U d.T)
  | .cell e, v => (match aggV v == e.agg with | true => velt e v | false => none)
  | .lst e, .val (.one (.ro e' L)) => (match castL e' e with | some f => some (fun _ => f (L ())) | none => none)
  | .lst _, .val (.one .nilS) => some (fun _ => [])
  | _, _ => none
abbrev Tup : List DT → Type
  | [] => Unit
  | d :: r => d.T × Tup r
def svs : (ds : List DT) → U (Tup ds) → List SV2
  | [], _ => []
  | d :: r, x => d.sv (fun _ => (x ()).1) :: svs r (fun _ => (x ()).2)
def ofs : (ds : List DT) → List SV → Option (U (Tup ds))
  | [], [] => some (fun _ => ())
  | d :: r, v :: vs => (match d.of v with
    | some x => (match ofs r vs with
      | some y => some (fun _ => (x (), y ()))
      | none => none)
    | none => none)
  | _, _ => none
def argS (ds : List DT) (x : U (Tup ds)) : List SV := (svs ds x).map .val

theorem dec_closed : ∀ (e : Ty) (x : U e.T), (dec e x).all closed1 = true
  | .int _, _ => rfl
  | .bool, _ => rfl
  | .bytes, _ => rfl
  | .lst _, _ => rfl
  | .str, _ => rfl
  | .unit, _ => rfl
  | .pair a b, x => by simp only [dec, List.all_append, dec_closed a, dec_closed b]; rfl
theorem elV_closed {e : Ty} {x : U e.T} {y : SV2} (h : elV e x = some y) : closed2 y = true := by
  have hc := dec_closed e x
  unfold elV at h
  split at h
  · cases h; exact hc
  · split at h
    · rename_i z hz; cases h; rw [hz] at hc; simp only [List.all_cons, List.all_nil, Bool.and_true] at hc; exact hc
    · cases h
theorem DT.sv_closed : ∀ (d : DT) (x : U d.T), closed2 (d.sv x) = true
  | .cell e, x => by
    simp only [DT.sv]
    split
    · rename_i y hy; exact elV_closed hy
    · rfl
  | .lst e, x => rfl
theorem svs_closed : ∀ (ds : List DT) (x : U (Tup ds)), (svs ds x).all closed2 = true
  | [], _ => rfl
  | d :: r, x => by simp only [svs, List.all_cons, DT.sv_closed, svs_closed r]; rfl

theorem DT.of_den {d : DT} {v : SV} {x : U d.T} (h : d.of v = some x) {u : Value} (hu : Den ρ v u) : Den2 ρ (d.sv x) u := by
  unfold DT.of at h
  split at h
  · split at h <;> (try cases h)
    rename_i hb
    have hv := velt_den (ρ := ρ) h (by simpa using hb) hu
    simp only [DT.sv]
    split
    · rename_i y hy; exact elV_den hy hv
    · trivial
  · split at h <;> cases h
    rename_i f hf
    obtain ⟨rfl, h1⟩ := castL_id hf
    have hu : ShowsM ρ.M _ _ u := hu
    show ShowsM ρ.M _ _ u
    dsimp only
    rw [h1]; exact hu
  · cases h
    have hu : u = .slice none 0 0 := hu
    subst hu
    exact ⟨none, 0, rfl, by simp, by simp⟩
  · cases h
theorem ofs_den : ∀ {ds : List DT} {vs : List SV} {x : U (Tup ds)} {us : List Value}, ofs ds vs = some x → All2 (Den ρ) vs us → All2 (Den2 ρ) (svs ds x) us
  | [], [], x, us, h, hu => by cases hu; exact .nil
  | d :: r, v :: vs, x, us, h, hu => by
    simp only [ofs] at h
    split at h <;> (try cases h)
    rename_i x1 h1
    split at h <;> cases h
    rename_i y h2
    cases hu with
    | cons h3 h4 => exact .cons (DT.of_den h1 h3) (ofs_den h2 h4)
  | [], _ :: _, _, _, h, _ => by cases h
  | _ :: _, [], _, _, h, _ => by cases h

theorem argS_den {ds : List DT} {x : U (Tup ds)} {us : List Value} (h : All2 (Den2 ρ) (svs ds x) us) {ρ' : Ev} (hM : ρ'.M = ρ.M) : All2 (Den ρ') (argS ds x) us := by
  have h1 := closed2s_den hM (svs_closed ds x) h
  unfold argS
  generalize svs ds x = l at h1
  clear h
  induction h1 with
  | nil => exact .nil
  | cons h2 _ ih => exact .cons h2 ih

/-- The run of a call enters the function. -/
def Enters (P : Program) (f : FuncId) : Prop := ∀ args w, (callFunc f args).run P w = .ok (.enter f args) w

/-! ### functions of data -/
structure PureSpec where
  ds : List DT
  pre : Tup ds → Prop
  rs : List DT
  f : Tup ds → Tup rs

def PureSpec.con (k : PureSpec) : Con A := fun args _ => match ofs k.ds args with
  | some x => some ⟨[], 0, false, fun _ _ => .done (fun _ => k.pre (x ())) (resOf (svs k.rs (fun _ => k.f (x ())))) []⟩
  | none => none

def PureSpec.Ok (P : Program) (AI : Abs A) (fn : FuncId) (k : PureSpec) : Prop :=
  ∀ x, k.pre x → TmplOk P AI fn (argS k.ds (fun _ => x)) [] (resOf (svs k.rs (fun _ => k.f x))) []

theorem resOf_closed {l : List SV2} (h : l.all closed2 = true) : closedV (resOf l) = true := by
  unfold resOf
  split
  · simp only [List.all_cons, List.all_nil, Bool.and_true] at h; exact h
  · exact h

theorem PureSpec.sound {fn : FuncId} {k : PureSpec} (hen : Enters P fn) (hk : k.Ok P AI fn) : ConSound P AI fn k.con := by
  refine ⟨hen, fun args fresh p hp _ H d C v cs he => ?_, fun G s ρ tmps w args us fresh p d C v cs h hargs hp hfr he hC => ?_⟩
  · unfold PureSpec.con at hp
    split at hp <;> cases hp
    simp at he
    simp [getCs, he]
  · unfold PureSpec.con at hp
    split at hp <;> cases hp
    rename_i x hx
    simp at he
    obtain ⟨rfl, rfl, rfl⟩ := he
    have hd := ofs_den hx hargs
    refine (frame_call (hk (x ()) hC) (s := s) (H' := s.H) (ids := []) (news := []) h (by simp) rfl (by simp) (by simp) (by simp) (fun _ _ => rfl) (us := us) (fun ρc hM _ => argS_den hd hM)
      (v := resOf (svs k.rs (fun _ => k.f (x ())))) (fun ρc ρ' hM _ _ y hy => closedV_den hM (resOf_closed (svs_closed _ _)) hy)).mono ?_
    rintro e w' ⟨y, ρ', rfl, h1, h2, h3⟩
    exact ⟨y, ρ', rfl, h1, h2, h3⟩

/-! ### methods -/
structure MethSpec (A : Type) where
  S : Type
  sel : A → Option (U S)
  put : U S → A
  ro : Bool                       -- leaves the object as it is
  ds : List DT
  pre : S → Tup ds → Prop
  rs : List DT
  f : S → Tup ds → Tup rs
  next : S → Tup ds → S

def MethSpec.con (k : MethSpec A) : Con A := fun args _ => match args with
  | .val (.one (.ptr i 0)) :: args => (match ofs k.ds args with
    | some x => some ⟨[i], 0, !k.ro, fun cs _ => match cs with
      | [.abs a] => (match k.sel a with
        | some W => (match k.ro with
          | true => .done (fun _ => k.pre (W ()) (x ())) (resOf (svs k.rs (fun _ => k.f (W ()) (x ())))) [.abs a]
          | false => .done (fun _ => k.pre (W ()) (x ())) (resOf (svs k.rs (fun _ => k.f (W ()) (x ())))) [.abs (k.put (fun _ => k.next (W ()) (x ())))])
        | none => .fail)
      | _ => .fail⟩
    | none => none)
  | _ => none

structure MethSpec.Ok (P : Program) (AI : Abs A) (fn : FuncId) (k : MethSpec A) : Prop where
  sel : ∀ a W, k.sel a = some W → a = k.put (fun _ => W ())
  ro : k.ro = true → ∀ W x, k.next W x = W
  ok : ∀ W x, k.pre W x → TmplOk P AI fn (one (.ptr 0 0) :: argS k.ds (fun _ => x)) [.abs (k.put (fun _ => W))] (resOf (svs k.rs (fun _ => k.f W x))) [.abs (k.put (fun _ => k.next W x))]

theorem MethSpec.sound {fn : FuncId} {k : MethSpec A} (hen : Enters P fn) (hk : k.Ok P AI fn) : ConSound P AI fn k.con := by
  refine ⟨hen, fun args fresh p hp hw H d C v cs he => ?_, fun G s ρ tmps w args us fresh p d C v cs h hargs hp hfr he hC => ?_⟩
  · unfold MethSpec.con at hp
    split at hp <;> (try cases hp)
    split at hp <;> cases hp
    simp at hw
    simp only [getCs, hw] at he ⊢
    split at he <;> (try (simp at he; done))
    rename_i a heq
    split at he <;> (try (simp at he; done))
    simp at he
    rw [← he.2.2, heq]
  · unfold MethSpec.con at hp
    split at hp <;> (try cases hp)
    rename_i i args
    split at hp <;> cases hp
    rename_i x hx
    simp only [getCs] at he
    generalize hg : getC s.H i = c at he
    cases c <;> (try (simp at he; done))
    rename_i a
    dsimp only at he
    split at he <;> (try (simp at he; done))
    rename_i W hW
    have ha := hk.sel a W hW
    obtain ⟨rfl, rfl, hcs⟩ : C = (fun _ => k.pre (W ()) (x ())) ∧ v = resOf (svs k.rs (fun _ => k.f (W ()) (x ()))) ∧ cs = [.abs (k.put (fun _ => k.next (W ()) (x ())))] := by
      split at he
      · rename_i hro
        simp at he
        obtain ⟨rfl, rfl, rfl⟩ := he
        refine ⟨rfl, rfl, ?_⟩
        rw [hk.ro hro, ← ha]
      · simp at he
        obtain ⟨rfl, rfl, rfl⟩ := he
        exact ⟨rfl, rfl, rfl⟩
    subst hcs
    cases hargs with
    | @cons _ u _ us hu hargs =>
    have hd := ofs_den hx hargs
    obtain ⟨b, hb1, hb2⟩ := hu
    refine (frame_call (hk.ok (W ()) (x ()) hC) (s := s) (H' := putC s.H i (.abs (k.put (fun _ => k.next (W ()) (x ()))))) (ids := [i]) (news := []) h (by simp) rfl (by simp) (fun j i' hj => ?_) (by simp) (fun i' hi' => by
        rw [getC_putC, if_neg (by simpa using hi')]) (us := u :: us) (fun ρc hM hr => ?_)
      (v := resOf (svs k.rs (fun _ => k.f (W ()) (x ())))) (fun ρc ρ' hM _ _ y hy => closedV_den hM (resOf_closed (svs_closed _ _)) hy)).mono ?_
    · cases j with
      | zero =>
        simp at hj
        subst hj
        exact .inl ⟨a, _, hg, by rw [getC_putC, if_pos rfl], by rw [ha]; rfl, rfl⟩
      | succ j => simp at hj
    · refine .cons ?_ (argS_den hd hM)
      obtain ⟨h1, h2⟩ := hr 0 i rfl
      exact ⟨b, by rw [h1]; exact hb1, hb2⟩
    · rintro e w' ⟨y, ρ', rfl, h1, h2, h3⟩
      exact ⟨y, ρ', rfl, h1, h2, h3⟩

/-! ### constructors -/
structure NewSpec (A : Type) where
  ds : List DT
  c : Tup ds → Bool
  rs : List DT
  f : Tup ds → Tup rs
  put : U (Tup ds) → A

def NewSpec.con (k : NewSpec A) : Con A := fun args fresh => match ofs k.ds args with
  | some x => some ⟨[fresh], 1, true, fun cs d => match cs with
    | [.emp] => (match d with
      | true :: _ => .done (fun _ => k.c (x ()) = true) (resOf (.one (.ptr fresh 0) :: svs k.rs (fun _ => k.f (x ())))) [.abs (k.put x)]
      | false :: _ => .done (fun _ => k.c (x ()) = false) (resOf (.one .nilP :: svs k.rs (fun _ => k.f (x ())))) [.emp]
      | [] => .need (fun _ => k.c (x ())))
    | _ => .fail⟩
  | none => none

structure NewSpec.Ok (P : Program) (AI : Abs A) (fn : FuncId) (k : NewSpec A) : Prop where
  put : ∀ x, k.put x = k.put (fun _ => x ())
  yes : ∀ x, k.c x = true → TmplOk P AI fn (argS k.ds (fun _ => x)) [] (resOf (.one (.ptr 0 0) :: svs k.rs (fun _ => k.f x))) [.abs (k.put (fun _ => x))]
  no : ∀ x, k.c x = false → TmplOk P AI fn (argS k.ds (fun _ => x)) [] (resOf (.one .nilP :: svs k.rs (fun _ => k.f x))) []

theorem Den_ptr_cons {ρ ρ' : Ev} {x y : SV2} (hxy : ∀ u, Den2 ρ x u → Den2 ρ' y u) (hM : ρ'.M = ρ.M) {l : List SV2} (hl : l.all closed2 = true) {u : Value} (h : Den ρ (resOf (x :: l)) u) : Den ρ' (resOf (y :: l)) u := by
  cases l with
  | nil => exact hxy _ h
  | cons z l =>
    obtain ⟨vs, h1, h2⟩ := h
    cases h2 with
    | cons h3 h4 => exact ⟨_, h1, .cons (hxy _ h3) (closed2s_den hM hl h4)⟩

theorem NewSpec.sound {fn : FuncId} {k : NewSpec A} (hen : Enters P fn) (hk : k.Ok P AI fn) : ConSound P AI fn k.con := by
  refine ⟨hen, fun args fresh p hp hw H d C v cs he => ?_, fun G s ρ tmps w args us fresh p d C v cs h hargs hp hfr he hC => ?_⟩
  · unfold NewSpec.con at hp
    split at hp <;> cases hp
    simp at hw
  · unfold NewSpec.con at hp
    split at hp <;> cases hp
    rename_i x hx
    have hemp : getC s.H fresh = .emp := hfr fresh (by simp) (Nat.le_refl _)
    simp only [getCs, hemp] at he
    have hd := ofs_den hx hargs
    split at he <;> (try (simp at he; done))
    · simp at he
      obtain ⟨rfl, rfl, rfl⟩ := he
      refine (frame_call (hk.yes (x ()) hC) (s := s) (H' := putC s.H fresh (.abs (k.put x))) (ids := []) (news := [fresh]) h (by simp) rfl (fun i hi => by simp at hi; subst hi; exact hemp) (by simp) (fun j i hj => ?_) (fun i' hi' => by
          rw [getC_putC, if_neg (by simpa using hi')]) (us := us) (fun ρc hM hr => argS_den hd hM)
        (v := resOf (.one (.ptr fresh 0) :: svs k.rs (fun _ => k.f (x ())))) (fun ρc ρ' hM hr _ y hy => Den_ptr_cons (fun u hu => ?_) hM (svs_closed _ _) hy)).mono ?_
      · cases j with
        | zero =>
          simp at hj
          subst hj
          exact ⟨by rw [getC_putC, if_pos rfl, hk.put]; rfl, (fun t cs => by simp [getC, nth]), (fun ks e L R c q => by simp [getC, nth]), fun t tb u L q => by simp [getC, nth]⟩
        | succ j => simp at hj
      · obtain ⟨b, h1, h2⟩ := hu
        exact ⟨b, by rw [hr 0 fresh rfl]; exact h1, h2⟩
      · rintro e w' ⟨y, ρ', rfl, h1, h2, h3⟩
        exact ⟨y, ρ', rfl, h1, h2, h3⟩
    · simp at he
      obtain ⟨rfl, rfl, rfl⟩ := he
      refine (frame_call (hk.no (x ()) hC) (s := s) (H' := putC s.H fresh .emp) (ids := []) (news := []) h (by simp) rfl (by simp) (by simp) (by simp) (fun i' _ => by
          rw [getC_putC]; split
          · rename_i e; rw [e, hemp]
          · rfl) (us := us) (fun ρc hM hr => argS_den hd hM)
        (v := resOf (.one .nilP :: svs k.rs (fun _ => k.f (x ())))) (fun ρc ρ' hM hr _ y hy => Den_ptr_cons (ρ := ρc) (ρ' := ρ') (x := .one .nilP) (y := .one .nilP) (fun u hu => hu) hM (svs_closed _ _) hy)).mono ?_
      rintro e w' ⟨y, ρ', rfl, h1, h2, h3⟩
      exact ⟨y, ρ', rfl, h1, h2, h3⟩

/-- One contract or, for other arguments, the other. -/
def orCon (k l : Con A) : Con A := fun args fresh => match k args fresh with
  | some p => some p
  | none => l args fresh
theorem orCon_sound {fn : FuncId} {k l : Con A} (hk : ConSound P AI fn k) (hl : ConSound P AI fn l) : ConSound P AI fn (orCon k l) := by
  refine ⟨hk.1, fun args fresh p hp => ?_, fun G s ρ tmps w args us fresh p d C v cs h hargs hp => ?_⟩
  · unfold orCon at hp
    split at hp
    · rename_i h1; cases hp; exact hk.2.1 args fresh _ h1
    · exact hl.2.1 args fresh p hp
  · unfold orCon at hp
    split at hp
    · rename_i h1; cases hp; exact hk.2.2 G s ρ tmps w args us fresh _ d C v cs h hargs h1
    · exact hl.2.2 G s ρ tmps w args us fresh p d C v cs h hargs hp

theorem EnvOk.add {E : Env A} (hE : EnvOk P AI E) {f : FuncId} {k : Con A} (hk : ConSound P AI f k) : EnvOk P AI ⟨E.ti, (f, k) :: E.con⟩ := by
  refine ⟨hE.ti, fun g l h => ?_⟩
  dsimp only at h
  rw [look_cons] at h
  split at h
  · rename_i e; cases h; subst e; exact hk
  · exact hE.con g l h

end Go.Sx

/-
  Symbolic execution: functions that make a new object.
-/
namespace Go.Sx
set_option linter.all false
set_option linter.unusedVariables false
set_option linter.unusedSimpArgs false
set_option linter.unusedSectionVars false
open Go.RowKit

variable {A : Type} {G : Fr} {s : SS A} {ρ : Ev} {a : Act} {w : World} {P : Program} {lay : A → List (Chunk A)} {tq : TabQ}

theorem posB_some : ∀ {p : List Nat} {i j : Nat}, posB p i = some j → p[j]? = some i
  | [], i, j, h => by cases h
  | x :: r, i, j, h => by
    simp only [posB] at h
    split at h
    · rename_i e; cases h; have := beq_eq e; subst this; rfl
    · split at h <;> cases h
      rename_i k hk
      simpa using posB_some hk
theorem nodupB_spec : ∀ {p : List Nat}, nodupB p = true → p.Nodup
  | [], _ => .nil
  | x :: r, h => by
    simp only [nodupB, Bool.and_eq_true, Bool.not_eq_true'] at h
    refine List.nodup_cons.2 ⟨fun hx => ?_, nodupB_spec h.2⟩
    have : r.any (beqN x) = true := List.any_eq_true.2 ⟨x, hx, by simp⟩
    rw [this] at h; cases h.1
theorem fixB_spec : ∀ {n k : Nat} {p : List Nat}, fixB n k p = true → ∀ i, i < n → p[i]? = some (k + i)
  | 0, k, p, _, i, hi => by omega
  | n + 1, k, x :: r, h, i, hi => by
    simp only [fixB, Bool.and_eq_true] at h
    cases i with
    | zero => have := beq_eq h.1; subst this; rfl
    | succ i => have := fixB_spec h.2 i (by omega); simp only [List.getElem?_cons_succ, this]; congr 1; omega
  | n + 1, k, [], h, _, _ => by cases h

theorem reordH_get {p : List Nat} {H : List (Chunk A)} : ∀ {l : List Nat} {j : Nat}, getC (reordH p H l) j = match l[j]? with | some i => rnC p (getC H i) | none => .emp
  | [], j => rfl
  | x :: r, 0 => rfl
  | x :: r, j + 1 => by
    have := reordH_get (p := p) (H := H) (l := r) (j := j)
    simp only [getC, reordH, nth, List.getElem?_cons_succ] at this ⊢
    exact this

def Ev.reord (ρ : Ev) (p : List Nat) : Ev :=
  { root := fun j => match p[j]? with | some i => ρ.root i | none => .bool false, ver := fun j => match p[j]? with | some i => ρ.ver i | none => 0, M := ρ.M, foot := fun j => match p[j]? with | some i => ρ.foot i | none => [] }

theorem rn1_den {p : List Nat} {x : SV1} {v : Value} (h : Den1 ρ x v) : Den1 (ρ.reord p) (rn1 p x) v := by
  cases x <;> simp only [rn1] <;> (try exact h)
  all_goals
    split
    · rename_i j hj
      have hj := posB_some hj
      simp only [Den1, Ev.reord, hj] at h ⊢
      exact h
    · trivial

theorem reord_sound {AI : Abs A} {p : List Nat} (hp : permOk G.n0 p = true) (hs : Sat AI G s a w) : Sat AI G (reord p s) a w := by
  obtain ⟨hd, ρ, hh⟩ := hs
  obtain ⟨hp1, hp2⟩ := Bool.and_eq_true_iff.1 hp
  have hn := nodupB_spec hp1
  have hf := fixB_spec hp2
  have hfoot : ∀ j b, b ∈ (ρ.reord p).foot j → ∃ i, p[j]? = some i ∧ b ∈ ρ.foot i := by
    intro j b hb
    simp only [Ev.reord] at hb
    split at hb
    · rename_i i hi; exact ⟨i, hi, hb⟩
    · cases hb
  refine ⟨hd, ρ.reord p, ⟨hh.sz, hh.gt, fun t v ht => ?_, fun j => ?_, fun i j b hij hi hj => ?_, fun j b hb => ?_, fun b o v hm => ⟨(hh.im b o v hm).1, fun j hb => ?_⟩, hh.os, hh.tape, hh.output, hh.grow, hh.kept, fun j b hb => ?_, fun i b hi hb => ?_, fun i hi => ?_, hh.mono, hh.mfr⟩⟩
  · obtain ⟨u, h1, rfl⟩ := mapT_look ht
    obtain ⟨x, h2, h3⟩ := hh.tm t u h1
    exact ⟨x, h2, mapV_den (fun _ _ => rn1_den) h3⟩
  · show HoldsC AI (ρ.reord p) w j (getC (reordH p s.H p) j)
    rw [reordH_get]
    cases hj : p[j]? with
    | none => exact ⟨by simp [Ev.reord, hj], by simp [Ev.reord, hj], by simp [Ev.reord, hj]⟩
    | some i =>
      dsimp only
      have e1 : (ρ.reord p).root j = ρ.root i := by simp [Ev.reord, hj]
      have e2 : (ρ.reord p).ver j = ρ.ver i := by simp [Ev.reord, hj]
      have e3 : (ρ.reord p).foot j = ρ.foot i := by simp [Ev.reord, hj]
      have hc := hh.ch i
      cases hg : getC s.H i with
      | emp => rw [hg] at hc; exact ⟨e3.trans hc.1, e1.trans hc.2.1, e2.trans hc.2.2⟩
      | gone => trivial
      | cells t cs =>
        rw [hg] at hc
        obtain ⟨b, vs, h1, h2, h3, h4⟩ := hc
        exact ⟨b, vs, e1.trans h1, e3.trans h2, h3, h4.mapL fun _ _ => rn1_den⟩
      | row t e v L => rw [hg] at hc; exact ⟨hc.1.trans e2.symm, by rw [e1, e3]; exact hc.2⟩
      | rmap ks e L R c j => trivial
      | itp q => trivial
      | nest t tb ver L q =>
        cases q with
        | some q => trivial
        | none => rw [hg] at hc; exact ⟨hc.1.trans e2.symm, by rw [e1, e3]; exact hc.2.congrM rfl⟩
      | map ks e L => rw [hg] at hc; obtain ⟨b, es, clock, h1, h2, h3, h4⟩ := hc; exact ⟨b, es, clock, e1.trans h1, e3.trans h2, h3, h4⟩
      | abs x => rw [hg] at hc; simp only [rnC, HoldsC, e1, e3] at hc ⊢; exact hc
  · obtain ⟨i', h1, h2⟩ := hfoot i b hi
    obtain ⟨j', h3, h4⟩ := hfoot j b hj
    refine hh.dis i' j' b (fun e => hij ?_) h2 h4
    subst e
    exact (List.getElem?_inj (List.getElem?_eq_some_iff.1 h1).1 hn).1 (h1.trans h3.symm)
  · obtain ⟨i, _, h2⟩ := hfoot j b hb; exact hh.lt i b h2
  · obtain ⟨i, _, h2⟩ := hfoot j b hb; exact (hh.im b o v hm).2 i h2
  · obtain ⟨i, _, h2⟩ := hfoot j b hb; exact hh.fro i b h2
  · have := hf i hi
    rw [Nat.zero_add] at this
    simp only [Ev.reord, this]; exact hh.rt i b hi hb
  · have := hf i hi
    rw [Nat.zero_add] at this
    simp only [Ev.reord, this]; exact hh.rts i hi

theorem finR_of [SubA A] {AI : Abs A} {E : Env A} (hT : TIok P E.ti) {fn : Func} {n0 : Nat} (hn0 : G.n0 = n0) {v : SV} {H1 : List (Chunk A)} {e : XE} {s' : SS A} (h : finR E.ti n0 fn.results.toList v H1 e s') {R : Ending → World → Prop}
    (hR : ∀ y ρ' w', Holds AI { G with size := 0 } ⟨[], H1⟩ ρ' #[] w' → Den ρ' v y → R (.returned y) w') : Then AI G s' (bodyPost P fn R e.out) := by
  have key : ∀ l, resV E.ti s' fn.results.toList = some l → (∃ p, permOk n0 p = true ∧ Sub n0 (reord p ⟨[(0, resOf l)], s'.H⟩) ⟨[(0, v)], H1⟩) → ∀ (a' : Act) (w' : World), a'.defers = [] → (∃ ρ', Holds AI G s' ρ' a'.tmps w') → a'.defers = [] ∧ ∃ y, (results fn a'.tmps).run P w' = .ok y w' ∧ R (.returned y) w' := by
    rintro l hl ⟨p, hperm, hsub⟩ a' w' hd ⟨ρ', hh⟩
    obtain ⟨y, h3, h4⟩ := results_sound hT hh hl
    refine ⟨hd, y, h3, ?_⟩
    let G1 : Fr := { G with size := 1 }
    have h5 : Sat AI G1 ⟨[(0, resOf l)], s'.H⟩ ⟨#[y], []⟩ w' := by
      refine ⟨rfl, ρ', ⟨rfl, hh.gt, fun t x ht => ?_, hh.ch, hh.dis, hh.lt, hh.im, hh.os, hh.tape, hh.output, hh.grow, hh.kept, hh.fro, hh.rt, hh.rts, hh.mono, hh.mfr⟩⟩
      rw [look_cons] at ht
      split at ht
      · rename_i e; subst e; cases ht; exact ⟨y, rfl, h4⟩
      · cases ht
    obtain ⟨_, ρ2, h6⟩ := hsub.sound (G := G1) hn0 (reord_sound (G := G1) (p := p) (by show permOk G.n0 p = true; rw [hn0]; exact hperm) h5)
    obtain ⟨u, h7, h8⟩ := h6.tm 0 v (by simp [look])
    simp at h7
    subst h7
    refine hR y ρ2 w' ⟨rfl, h6.gt, (fun t x ht => by cases ht), h6.ch, h6.dis, h6.lt, h6.im, h6.os, h6.tape, h6.output, h6.grow, h6.kept, h6.fro, h6.rt, h6.rts, h6.mono, h6.mfr⟩ h8
  cases e with
  | exit id => exact (Failed.elim h)
  | normal =>
    simp only [finR] at h
    split at h
    · rename_i l hl; exact key l hl h
    · exact h.elim
  | ret =>
    simp only [finR] at h
    split at h
    · rename_i l hl; exact key l hl h
    · exact h.elim

/-- A function that makes a new object and returns its address first. -/
theorem tmpl_new [SubA A] {E : Env A} (hE : EnvOk P (absOf lay tq) E) (hm : P.follows .mixedOrders = true) {f : FuncId} {fn : Func} {c : Code} (hf : P.funcs[f]? = some fn) (hb : fn.body = some c) (hok : codeOk fn.ntmps c = true) {args : List SV} (hargs : args.length ≤ fn.ntmps)
    {x : A} (hl : LayOk (lay x)) {rs : List SV2} (hrs : rs.all closed2 = true)
    (h : svc E 0 c ⟨argT 0 args, []⟩ (finR E.ti 0 fn.results.toList (resOf (.one (.ptr 0 0) :: rs)) (openObj (lay x) []))) :
    TmplOk P (absOf lay tq) f args [] (resOf (.one (.ptr 0 0) :: rs)) [.abs x] := by
  intro G ρ w us hG hsz hh hd
  refine calls_of_wp hf hb ?_
  have hlen := hd.length
  have h1 := hh.enter hd (n := fn.ntmps) (by omega)
  refine svc_sound (AI := absOf lay tq) (G := { G with size := fn.ntmps }) hE hm hG c hok _ _ _ _ w h ⟨rfl, ρ, h1⟩ fun e s' hq => ?_
  refine finR_of (AI := absOf lay tq) (G := { G with size := fn.ntmps }) hE.ti hG hq (R := fun e w' => ∃ y ρ', e = .returned y ∧ Holds (absOf lay tq) G ⟨[], [.abs x]⟩ ρ' #[] w' ∧ Den ρ' (resOf (.one (.ptr 0 0) :: rs)) y) fun y ρ' w' h2 h3 => ?_
  have e1 : ({ { G with size := fn.ntmps } with size := 0 } : Fr) = G := by cases G; simp at hsz; subst hsz; rfl
  rw [e1] at h2
  obtain ⟨ρ3, h4, h5, h6⟩ := h2.close_obj (rest' := []) hl rfl (by rw [hG]; simp)
  refine ⟨y, ρ3, rfl, h4, Den_ptr_cons (fun u hu => ?_) h5 hrs h3⟩
  obtain ⟨b, h7, h8⟩ := hu
  exact ⟨b, by rw [h6]; exact h7, h8⟩

end Go.Sx

/-
  Symbolic execution: contracts of functions that read slices of any kind.
-/
namespace Go.Sx
set_option linter.all false
set_option linter.unusedVariables false
set_option linter.unusedSimpArgs false
set_option linter.unusedSectionVars false
open Go.RowKit

variable {A : Type} {AI : Abs A} {G : Fr} {s : SS A} {ρ : Ev} {a : Act} {w : World} {P : Program}

/-- Nothing that was there is changed. -/
theorem Holds.grown {tmps : Array Value} (h : Holds AI G s ρ tmps w) {w' : World} (old : ∀ b, b < w.heap.size → w'.heap[b]? = w.heap[b]?) (os : w'.os = w.os) (tape : w'.tape = w.tape) (output : w'.output = w.output) (size : w.heap.size ≤ w'.heap.size) :
    Holds AI G s ρ tmps w' := by
  refine ⟨h.sz, h.gt, h.tm, fun i => (h.ch i).stays (.refl _) rfl rfl rfl fun b hb => old b (h.lt i b hb), h.dis, fun i b hb => Nat.lt_of_lt_of_le (h.lt i b hb) size, fun b o v hm => ?_, os.trans h.os, tape.trans h.tape, output.trans h.output, Nat.le_trans h.grow size,
    fun b hb hn => (old b (Nat.lt_of_lt_of_le hb h.grow)).trans (h.kept b hb hn), h.fro, h.rt, h.rts, h.mono, h.mfr⟩
  have hlt : b < w.heap.size := World.block_lt_of_cell? w ⟨b, o, none⟩ (h.im b o v hm).1
  exact ⟨(cell_congr (old b hlt) o).trans (h.im b o v hm).1, (h.im b o v hm).2⟩

theorem froze_cell {tmps : Array Value} (h : Holds AI G s ρ tmps w) (S : Nat → Prop) : ∀ b o v, (ρ.froze S w).M b o = some v → w.cell? ⟨b, o, none⟩ = some v := by
  intro b o v hm
  simp only [Ev.froze] at hm
  split at hm
  · exact hm
  · exact (h.im b o v hm).1

theorem srcList_shows {tmps : Array Value} (h : Holds AI G s ρ tmps w) {v : SV} {u : Value} (hv : Den ρ v u) {S : Nat → Prop} (hS : ∀ i ∈ (srcOf v).ids, S i) {e : Ty} {L : U (List e.T)} (hL : Src.list e (srcOf v) (getCs s.H (srcOf v).ids) = some L) : ShowsM (ρ.froze S w).M e (L ()) u := by
  have hM := froze_M h S
  unfold srcOf at hS hL
  split at hS
  · simp only [Src.ids, getCs, Src.list] at hL
    cases hL
    have hv : u = .slice none 0 0 := hv
    subst hv
    exact ⟨none, 0, rfl, by simp, by simp⟩
  · simp only [Src.ids, getCs, Src.list] at hL
    split at hL <;> cases hL
    rename_i f hf
    obtain ⟨rfl, h1⟩ := castL_id hf
    have hv : ShowsM ρ.M _ _ u := hv
    dsimp only
    rw [h1]; exact hv.monoM hM
  · rename_i i ver
    simp only [Src.ids, getCs] at hL hS
    have hc := h.ch i
    generalize hg : getC s.H i = c at hL hc
    cases c <;> simp only [Src.list, reduceCtorEq] at hL
    rename_i t e' ver' L'
    split at hL <;> (try cases hL)
    rename_i hb
    have hb := beq_eq hb
    subst hb
    split at hL <;> cases hL
    rename_i f hf
    obtain ⟨rfl, h1⟩ := castL_id hf
    obtain ⟨h2, h3⟩ := hc
    obtain ⟨_, _, h4⟩ := hv
    rw [h4 h2]
    dsimp only
    rw [h1]
    exact rowAt_shows h (S := S) (hS i (by simp)) h3 hM
  · rename_i i ver esz lo n
    simp only [Src.ids, getCs] at hL hS
    have hc := h.ch i
    generalize hg : getC s.H i = c at hL hc
    cases c <;> simp only [Src.list, reduceCtorEq] at hL
    rename_i t e' ver' L'
    split at hL <;> (try cases hL)
    rename_i hb
    obtain ⟨hb, hbz⟩ := Bool.and_eq_true_iff.1 hb
    have hb := beq_eq hb
    have hbz := beq_eq hbz
    subst hb; subst hbz
    split at hL <;> cases hL
    rename_i f hf
    obtain ⟨rfl, h1⟩ := castL_id hf
    obtain ⟨h2, h3⟩ := hc
    obtain ⟨_, _, _, h4⟩ := hv
    dsimp only
    rw [h1]
    exact shows_part (rowAt_shows h (S := S) (hS i (by simp)) h3 hM) (h4 h2)
  · simp only [Src.ids, getCs, Src.list, reduceCtorEq] at hL

/-- The rows that the arguments name. -/
def idsA : List DT → List SV → List Nat
  | .lst _ :: r, v :: vs => (srcOf v).ids ++ idsA r vs
  | .cell _ :: r, _ :: vs => idsA r vs
  | _, _ => []
def ofA {A : Type} : (ds : List DT) → List SV → List (Chunk A) → Option (U (Tup ds))
  | [], [], [] => some (fun _ => ())
  | .lst e :: r, v :: vs, cs => (match srcOf v with
    | src => (match takeN cs src.ids.length with
      | some c1 => (match src.list e c1 with
        | some x => (match ofA r vs (cs.drop src.ids.length) with
          | some y => some (fun _ => (x (), y ()))
          | none => none)
        | none => none)
      | none => none))
  | .cell e :: r, v :: vs, cs => (match DT.of (.cell e) v with
    | some x => (match ofA r vs cs with
      | some y => some (fun _ => (x (), y ()))
      | none => none)
    | none => none)
  | _, _, _ => none

theorem getCs_append (H : List (Chunk A)) : ∀ (l m : List Nat), getCs H (l ++ m) = getCs H l ++ getCs H m
  | [], _ => rfl
  | i :: r, m => by simp only [List.cons_append, getCs, getCs_append H r m]
theorem getCs_length (H : List (Chunk A)) : ∀ (l : List Nat), (getCs H l).length = l.length
  | [] => rfl
  | i :: r => by simp only [getCs, List.length_cons, getCs_length H r]
theorem takeN_app {α : Type} : ∀ (l m : List α), takeN (l ++ m) l.length = some l
  | [], m => by cases m <;> rfl
  | x :: r, m => by simp only [List.cons_append, List.length_cons, takeN, takeN_app r m]

theorem ofA_den {tmps : Array Value} (h : Holds AI G s ρ tmps w) {S : Nat → Prop} : ∀ {ds : List DT} {vs : List SV} {more : List (Chunk A)} {x : U (Tup ds)} {us : List Value}, more = [] → (∀ i ∈ idsA ds vs, S i) → ofA ds vs (getCs s.H (idsA ds vs) ++ more) = some x → All2 (Den ρ) vs us → All2 (Den2 (ρ.froze S w)) (svs ds x) us
  | [], vs, more, x, us, hm, hS, hx, hu => by
    cases vs with
    | nil => cases hu; exact .nil
    | cons v vs => simp [ofA] at hx
  | .lst e :: r, vs, more, x, us, hm, hS, hx, hu => by
    cases vs with
    | nil => simp [ofA] at hx
    | cons v vs =>
      subst hm
      simp only [idsA, List.append_nil] at hS hx
      simp only [ofA] at hx
      rw [getCs_append] at hx
      have e1 := takeN_app (getCs s.H (srcOf v).ids) (getCs s.H (idsA r vs))
      rw [getCs_length] at e1
      rw [e1] at hx
      dsimp only at hx
      split at hx <;> (try cases hx)
      rename_i x1 h1
      have e2 : (getCs s.H (srcOf v).ids ++ getCs s.H (idsA r vs)).drop (srcOf v).ids.length = getCs s.H (idsA r vs) := by
        rw [← getCs_length s.H (srcOf v).ids]; simp
      rw [e2] at hx
      split at hx <;> cases hx
      rename_i y h2
      cases hu with
      | cons h3 h4 =>
        refine .cons ?_ (ofA_den h (more := []) rfl (fun i hi => hS i (by simp [hi])) (by rw [List.append_nil]; exact h2) h4)
        exact srcList_shows h h3 (fun i hi => hS i (by simp [hi])) h1
  | .cell e :: r, vs, more, x, us, hm, hS, hx, hu => by
    cases vs with
    | nil => simp [ofA] at hx
    | cons v vs =>
      simp only [idsA] at hS hx
      simp only [ofA] at hx
      split at hx <;> (try cases hx)
      rename_i x1 h1
      split at hx <;> cases hx
      rename_i y h2
      cases hu with
      | cons h3 h4 => exact .cons (Den2.mono ⟨froze_M h S, fun _ _ h => h, fun _ => Nat.le_refl _, fun _ _ _ => rfl⟩ (DT.of_den h1 h3)) (ofA_den h hm hS h2 h4)

/-- Results that name no memory. -/
def flat1 : SV1 → Bool
  | .int _ _ => true
  | .li _ _ => true
  | .sb _ => true
  | .lb _ => true
  | .str _ => true
  | _ => false
def flat2 : SV2 → Bool
  | .one x => flat1 x
  | .agg l => l.all flat1
  | .fn _ _ => false
theorem flat1_den {ρ ρ' : Ev} {x : SV1} (hx : flat1 x = true) {v : Value} (h : Den1 ρ x v) : Den1 ρ' x v := by
  cases x <;> simp [flat1] at hx <;> exact h
theorem flat1s_den {ρ ρ' : Ev} {l : List SV1} {vs : List Value} (hl : l.all flat1 = true) (h : All2 (Den1 ρ) l vs) : All2 (Den1 ρ') l vs := by
  induction h with
  | nil => exact .nil
  | cons h1 _ ih =>
    simp only [List.all_cons, Bool.and_eq_true] at hl
    exact .cons (flat1_den hl.1 h1) (ih hl.2)
theorem flat2_den {ρ ρ' : Ev} {x : SV2} (hx : flat2 x = true) {v : Value} (h : Den2 ρ x v) : Den2 ρ' x v := by
  cases x with
  | one x => exact flat1_den hx h
  | agg l => obtain ⟨vs, h1, h2⟩ := h; exact ⟨vs, h1, flat1s_den hx h2⟩
  | fn f l => cases hx
theorem flat2s_den {ρ ρ' : Ev} {l : List SV2} {vs : List Value} (hl : l.all flat2 = true) (h : All2 (Den2 ρ) l vs) : All2 (Den2 ρ') l vs := by
  induction h with
  | nil => exact .nil
  | cons h1 _ ih =>
    simp only [List.all_cons, Bool.and_eq_true] at hl
    exact .cons (flat2_den hl.1 h1) (ih hl.2)
theorem flatRes_den {ρ ρ' : Ev} {l : List SV2} (hl : l.all flat2 = true) {v : Value} (h : Den ρ (resOf l) v) : Den ρ' (resOf l) v := by
  unfold resOf at h ⊢
  split
  · simp only [List.all_cons, List.all_nil, Bool.and_true] at hl; exact flat2_den hl h
  · rename_i l h0
    split at h
    · rename_i x; exact absurd rfl (h0 x)
    · obtain ⟨vs, h1, h2⟩ := h; exact ⟨vs, h1, flat2s_den hl h2⟩

/-- The template, used where the rows stay as they are for the while of the call. -/
theorem lone_call {f : FuncId} {args0 : List SV} {v0 : SV} {H1 : List (Chunk A)} (hT : TmplOk P AI f args0 [] v0 H1) {tmps : Array Value} (h : Holds AI G s ρ tmps w) {us : List Value} (S : Nat → Prop) (hargs : ∀ ρc : Ev, ρc.M = (ρ.froze S w).M → All2 (Den ρc) args0 us) :
    Calls P f us.toArray w fun e w' => ∃ y ρr, e = .returned y ∧ Holds AI ⟨w, fun _ => False, 0, fun _ => .bool false, (ρ.froze S w).M, 0, fun _ => 0⟩ ⟨[], H1⟩ ρr #[] w' ∧ Den ρr v0 y := by
  let ρc : Ev := { root := fun _ => .bool false, ver := fun _ => 0, M := (ρ.froze S w).M, foot := fun _ => [] }
  refine hT ⟨w, fun _ => False, 0, fun _ => .bool false, (ρ.froze S w).M, 0, fun _ => 0⟩ ρc w us rfl rfl ?_ (hargs ρc rfl)
  refine ⟨rfl, h.gtOf (fun b hb => hb.elim), (fun t x ht => by cases ht), fun j => ⟨rfl, rfl, rfl⟩, (fun _ _ _ _ h => by cases h), (fun _ _ h => by cases h), fun b o x hm => ⟨froze_cell h S b o x hm, fun i hi => by cases hi⟩, rfl, rfl, rfl, Nat.le_refl _, fun _ _ _ => rfl, (fun _ _ h => by cases h), (fun i b hi hb => by cases hb), (fun i hi => absurd hi (Nat.not_lt_zero i)), fun _ _ _ hm => hm, fun b o x hm => .inl hm⟩

def PureSpec.conA (k : PureSpec) : Con A := fun args _ => some ⟨idsA k.ds args, 0, false, fun cs _ => match ofA k.ds args cs with
  | some x => .done (fun _ => k.pre (x ())) (resOf (svs k.rs (fun _ => k.f (x ())))) cs
  | none => .fail⟩

/-- A function of data whose results name no memory: its slices may be rows. -/
theorem PureSpec.soundA {fn : FuncId} {k : PureSpec} (hen : Enters P fn) (hk : k.Ok P AI fn) (hflat : ∀ x, (svs k.rs x).all flat2 = true) : ConSound P AI fn k.conA := by
  refine ⟨hen, fun args fresh p hp _ H d C v cs he => ?_, fun G s ρ tmps w args us fresh p d C v cs h hargs hp hfr he hC => ?_⟩
  · cases hp
    dsimp only at he
    split at he
    · simp at he; exact he.2.2.symm
    · simp at he
  · cases hp
    dsimp only at he ⊢
    split at he <;> (try (simp at he; done))
    rename_i x hx
    simp at he
    obtain ⟨rfl, rfl, rfl⟩ := he
    have hd := ofA_den h (S := fun i => i ∈ idsA k.ds args) (more := []) rfl (fun _ hi => hi) (by rw [List.append_nil]; exact hx) hargs
    refine (lone_call (hk (x ()) hC) h (fun i => i ∈ idsA k.ds args) (us := us) fun ρc hM => argS_den hd hM).mono ?_
    rintro e w' ⟨y, ρr, rfl, h1, h2⟩
    refine ⟨y, ρ, rfl, (h.grown (fun b hb => h1.kept b hb (fun h => h)) h1.os h1.tape h1.output h1.grow).congrH (putCs_self _ _ _ fun _ => rfl), flatRes_den (hflat _) h2, .refl _⟩

/-! ### functions that make a new row out of what they read -/
def Ty.flat : Ty → Bool
  | .bytes => false
  | .lst _ => false
  | .pair a b => a.flat && b.flat
  | _ => true
theorem CellsM.flat {M M' : Mem} : ∀ {e : Ty} {x : e.T} {c : Nat → Option Value}, e.flat = true → CellsM M e x c → CellsM M' e x c
  | .int _, _, _, _, h => h
  | .bool, _, _, _, h => h
  | .str, _, _, _, h => h
  | .unit, _, _, _, _ => trivial
  | .pair a b, _, _, hf, h => by
    simp only [Ty.flat, Bool.and_eq_true] at hf
    exact ⟨CellsM.flat hf.1 h.1, CellsM.flat hf.2 h.2⟩
theorem RowAt.flat {t : TypeId} {w : World} {M M' : Mem} {e : Ty} (he : e.flat = true) {L : List e.T} {r : Value} {F : List Nat} (h : RowAt t M w e L r F) : RowAt t M' w e L r F := by
  rcases h with h | ⟨b, off, cap, h1, h2, h3, h4, h5, h6, h7⟩
  · exact .inl h
  · exact .inr ⟨b, off, cap, h1, h2, h3, h4, fun j x hj => (h5 j x hj).flat he, h6, h7⟩

structure RowSpec where
  ds : List DT
  et : TypeId
  e : Ty
  pre : Tup ds → Prop
  f : Tup ds → List e.T

def RowSpec.con (k : RowSpec) : Con A := fun args fresh => match (idsA k.ds args).any (beqN fresh) with
  | true => none
  | false => some ⟨idsA k.ds args ++ [fresh], 1, true, fun cs _ => match takeN cs (idsA k.ds args).length with
    | some c1 => (match cs.drop (idsA k.ds args).length with
      | [.emp] => (match ofA k.ds args c1 with
        | some x => .done (fun _ => k.pre (x ())) (one (.hd fresh 0)) (c1 ++ [.row k.et k.e 0 (fun _ => k.f (x ()))])
        | none => .fail)
      | _ => .fail)
    | none => .fail⟩

def RowSpec.Ok (P : Program) (AI : Abs A) (fn : FuncId) (k : RowSpec) : Prop :=
  ∀ x, k.pre x → TmplOk P AI fn (argS k.ds (fun _ => x)) [] (one (.hd 0 0)) [.row k.et k.e 0 (fun _ => k.f x)]

theorem putCs_append : ∀ (l m : List Nat) (H : List (Chunk A)) (c d : List (Chunk A)), c.length = l.length → putCs H (l ++ m) (c ++ d) = putCs (putCs H l c) m d
  | [], m, H, c, d, h => by
    have : c = [] := List.eq_nil_of_length_eq_zero h
    subst this
    cases m <;> cases d <;> rfl
  | i :: l, m, H, c, d, h => by
    cases c with
    | nil => simp at h
    | cons x c =>
      simp only [List.cons_append, putCs]
      exact putCs_append l m _ c d (by simpa using h)

theorem RowSpec.sound {fn : FuncId} {k : RowSpec} (hen : Enters P fn) (hk : k.Ok P AI fn) (hflat : k.e.flat = true) : ConSound P AI fn k.con := by
  refine ⟨hen, fun args fresh p hp hw => ?_, fun G s ρ tmps w args us fresh p d C v cs h hargs hp hfr he hC => ?_⟩
  · unfold RowSpec.con at hp
    split at hp <;> cases hp
    simp at hw
  · unfold RowSpec.con at hp
    split at hp <;> cases hp
    rename_i hany
    have hemp : getC s.H fresh = .emp := hfr fresh (by simp) (Nat.le_refl _)
    dsimp only at he ⊢
    rw [getCs_append] at he
    have e1 := takeN_app (getCs s.H (idsA k.ds args)) (getCs s.H [fresh])
    rw [getCs_length] at e1
    rw [e1] at he
    have e2 : (getCs s.H (idsA k.ds args) ++ getCs s.H [fresh]).drop (idsA k.ds args).length = [.emp] := by
      rw [← getCs_length s.H (idsA k.ds args)]; simp [getCs, hemp]
    rw [e2] at he
    dsimp only at he
    split at he <;> (try (simp at he; done))
    rename_i x hx
    simp at he
    obtain ⟨rfl, rfl, rfl⟩ := he
    have hd := ofA_den h (S := fun i => i ∈ idsA k.ds args) (more := []) rfl (fun _ hi => hi) (by rw [List.append_nil]; exact hx) hargs
    refine (lone_call (hk (x ()) hC) h (fun i => i ∈ idsA k.ds args) (us := us) fun ρc hM => argS_den hd hM).mono ?_
    rintro e w' ⟨y, ρr, rfl, h1, h2⟩
    obtain ⟨h3, h4⟩ := h1.ch 0
    obtain ⟨h5, h6, h7⟩ := h2
    have h7 := h7 h3
    have hc := h.ch fresh
    rw [hemp] at hc
    obtain ⟨hc1, hc2, hc3⟩ := hc
    obtain ⟨h8, h9⟩ := h.upd1 fresh y 0 (ρr.foot 0) (.row k.et k.e 0 (fun _ => k.f (x ()))) w' (by rw [hc2]; simp) (by omega) (by rw [hc2]; simp) (fun b hb => ⟨.inr ((h1.fro 0 b hb).resolve_left fun h => h), h1.lt 0 b hb⟩) (fun b hb _ => h1.kept b hb fun h => h) h1.os h1.tape h1.output h1.grow
      ⟨by simp [Ev.upd], by
        have e3 : (ρ.upd fresh y 0 (ρr.foot 0)).root fresh = y := by simp [Ev.upd]
        have e4 : (ρ.upd fresh y 0 (ρr.foot 0)).foot fresh = ρr.foot 0 := by simp [Ev.upd]
        rw [e3, e4, h7]
        exact h4.flat hflat⟩
    refine ⟨y, _, rfl, h8.congrH fun j => ?_, ⟨h5, by simp [Ev.upd], fun _ => by simp [Ev.upd]⟩, h9⟩
    rw [putCs_append _ _ _ _ _ (getCs_length _ _)]
    simp only [putCs, getC_putC]
    rw [putCs_self _ _ s.H fun _ => rfl]

end Go.Sx

/-
  Symbolic execution: the body of a function without loops run at its call ('in line').
-/
namespace Go.Sx
set_option linter.all false
set_option linter.unusedVariables false
set_option linter.unusedSimpArgs false
set_option linter.unusedSectionVars false
open Go.RowKit

variable {A : Type} {AI : Abs A} {G : Fr} {s : SS A} {ρ : Ev} {a : Act} {w : World} {P : Program}

inductive XO (A : Type) where
  | fail (why : Nat)
  | need (b : U Bool)
  | done (Cs : List (U Prop)) (e : XE) (s : SS A) (ds : List Bool)

def xreg (E : Env A) (ops : List Oper) (draw : Bool) (s : SS A) : Nat → Dec → List Bool → XO A
  | 0, _, _ => .fail 1000
  | n + 1, d, ds => match preSl d.sl d.sl s.tm with
    | (tm, C0) => (match srun E ops d ops 0 ⟨tm, s.H⟩ C0 [] with
      | .fail j => .fail j
      | .needS t b => (match ds with | [] => .need b | v :: ds => xreg E ops draw s n ⟨(t, v) :: d.sl, d.op⟩ ds)
      | .needC j b => (match ds with | [] => .need b | v :: ds => xreg E ops draw s n ⟨d.sl, d.op ++ [(j, v)]⟩ ds)
      | .done Cs s' effs => (match draw with
        | false => .done Cs .normal s' ds
        | true => .done ((fun _ => drawOk ops (effs.map fun e => (e.ids, e.looks)) = true) :: Cs) .normal s' ds))

def inBlk (id : Nat) : XE → XE
  | .exit id' => (match beqN id id' with | true => .normal | false => .exit id')
  | e => e

def xcode (E : Env A) : Code → SS A → List Bool → XO A
  | .skip, s, ds => .done [] .normal s ds
  | .region _ ops draw, s, ds => xreg E ops.toList draw s 24 ⟨[], []⟩ ds
  | .seq x y, s, ds => (match xcode E x s ds with
    | .done Cs .normal s ds => (match xcode E y s ds with
      | .done Cs' e s ds => .done (Cs ++ Cs') e s ds
      | r => r)
    | r => r)
  | .cond c x y, s, ds => (match evalOp s.tm c with
    | some (.val (.one (.lb true))) => xcode E x s ds
    | some (.val (.one (.lb false))) => xcode E y s ds
    | some (.val (.one (.sb g))) => (match c with
      | .tmp t => (match ds with
        | [] => .need g
        | true :: ds => (match xcode E x ⟨(t, one (.lb true)) :: s.tm, s.H⟩ ds with | .done Cs e s ds => .done ((fun _ => g () = true) :: Cs) e s ds | r => r)
        | false :: ds => (match xcode E y ⟨(t, one (.lb false)) :: s.tm, s.H⟩ ds with | .done Cs e s ds => .done ((fun _ => g () = false) :: Cs) e s ds | r => r))
      | _ => .fail 3000)
    | _ => .fail 3001)
  | .block id c, s, ds => (match xcode E c s ds with
    | .done Cs e s ds => .done Cs (inBlk id e) s ds
    | r => r)
  | .exit id, s, ds => .done [] (.exit id) s ds
  | .ret, s, ds => .done [] .ret s ds
  | .scope c, s, ds => xcode E c s ds
  | _, _, _ => .fail 4000

theorem conds_of : ∀ {Cs : List (U Prop)} {R : Prop}, (∀ C ∈ Cs, C ()) → R → conds R Cs
  | [], _, _, h => h
  | C :: r, R, hC, h => conds_of (Cs := r) (fun D hD => hC D (by simp [hD])) ⟨hC C (by simp), h⟩

theorem region_done {E : Env A} (hE : EnvOk P AI E) (hm : P.follows .mixedOrders = true) {id : Nat} {opsA : Array Oper} {draw : Bool} (hdst : ∀ o ∈ opsA.toList, ∀ t, o.dst = some t → t < G.size) {Qx : Exit → Act → World → Prop} {d : Dec} {tm : List (Nat × SV)} {C0 Cs : List (U Prop)} {s' : SS A} {effs : List (Eff A)}
    (hp : preSl d.sl d.sl s.tm = (tm, C0)) (hr : srun E opsA.toList d opsA.toList 0 ⟨tm, s.H⟩ C0 [] = .done Cs s' effs) (hok : draw = true → drawOk opsA.toList (effs.map fun e => (e.ids, e.looks)) = true) (hC : ∀ C ∈ Cs, C ()) (hs : Sat AI G s a w) (hQ : Then AI G s' (Qx .normal)) :
    (Code.region id opsA draw).wp P Qx a w := by
  refine sreg_sound hE hm hdst (Q := fun x => x = s') (Qx := Qx) (by rintro _ rfl; exact hQ) 1 d ?_ hs
  simp only [sreg, hp, hr]
  cases draw with
  | false => exact conds_of hC (by trivial)
  | true => exact ⟨hok rfl, conds_of hC (by trivial)⟩

theorem xreg_sound {E : Env A} (hE : EnvOk P AI E) (hm : P.follows .mixedOrders = true) {id : Nat} {opsA : Array Oper} {draw : Bool} (hdst : ∀ o ∈ opsA.toList, ∀ t, o.dst = some t → t < G.size) {Qx : Exit → Act → World → Prop} {Cs : List (U Prop)} {e : XE} {s' : SS A} {ds' : List Bool}
    (hC : ∀ C ∈ Cs, C ()) (hs : Sat AI G s a w) (hQ : Then AI G s' (Qx e.out)) : ∀ (n : Nat) (d : Dec) (ds : List Bool), xreg E opsA.toList draw s n d ds = .done Cs e s' ds' → (Code.region id opsA draw).wp P Qx a w
  | 0, d, ds, h => by cases h
  | n + 1, d, ds, h => by
    simp only [xreg] at h
    cases hp : preSl d.sl d.sl s.tm with
    | mk tm C0 =>
      rw [hp] at h
      dsimp only at h
      split at h
      · cases h
      · split at h
        · cases h
        · exact xreg_sound hE hm hdst hC hs hQ n _ _ h
      · split at h
        · cases h
        · exact xreg_sound hE hm hdst hC hs hQ n _ _ h
      · rename_i Cs2 s2 effs hr
        split at h
        · cases h
          exact region_done hE hm hdst hp hr (fun e => by cases e) hC hs hQ
        · cases h
          exact region_done hE hm hdst hp hr (fun _ => hC _ (List.mem_cons_self ..)) (fun C hC' => hC C (List.mem_cons_of_mem _ hC')) hs hQ

theorem xcode_sound {E : Env A} (hE : EnvOk P AI E) (hm : P.follows .mixedOrders = true) : ∀ (c : Code), codeOk G.size c = true → ∀ (s : SS A) (ds : List Bool) {Cs : List (U Prop)} {e : XE} {s' : SS A} {ds' : List Bool} {Qx : Exit → Act → World → Prop} {a : Act} {w : World},
    xcode E c s ds = .done Cs e s' ds' → (∀ C ∈ Cs, C ()) → Sat AI G s a w → Then AI G s' (Qx e.out) → c.wp P Qx a w := by
  intro c
  induction c with
  | skip => intro _ s ds Cs e s' ds' Qx a w h hC hs hQ; cases h; exact wp_skip (hQ _ _ hs.1 hs.2)
  | region id ops draw =>
    intro hok s ds Cs e s' ds' Qx a w h hC hs hQ
    refine xreg_sound hE hm (fun o ho t ht => ?_) hC hs hQ 24 ⟨[], []⟩ ds h
    have h1 := Array.all_eq_true'.1 hok o (by simpa using ho)
    rw [ht] at h1
    exact leN h1
  | seq x y ihx ihy =>
    intro hok s ds Cs e s' ds' Qx a w h hC hs hQ
    obtain ⟨o1, o2⟩ := Bool.and_eq_true_iff.1 hok
    simp only [xcode] at h
    split at h
    · rename_i C1 s1 d1 hx
      split at h
      · rename_i C2 e2 s2 d2 hy
        cases h
        refine wp_seq (ihx o1 s ds hx (fun C hC' => hC C (List.mem_append.2 (.inl hC'))) hs ?_)
        exact fun a' w' hd hh => ihy o2 s1 d1 hy (fun C hC' => hC C (List.mem_append.2 (.inr hC'))) ⟨hd, hh⟩ hQ
      · rename_i hne; exact absurd h (hne _ _ _ _)
    · rename_i hne
      refine wp_seq (ihx o1 s ds h hC hs ?_)
      cases e with
      | normal => exact absurd h (hne _ _ _)
      | ret => exact hQ
      | exit id => exact hQ
  | cond c x y ihx ihy =>
    intro hok s ds Cs e s' ds' Qx a w h hC hs hQ
    obtain ⟨o1, o2⟩ := Bool.and_eq_true_iff.1 hok
    obtain ⟨hd, ρ, hh⟩ := id hs
    simp only [xcode] at h
    split at h
    · rename_i hc; exact wp_cond_true (hh.eval hc) (ihx o1 s ds h hC hs hQ)
    · rename_i hc; exact wp_cond_false (hh.eval hc) (ihy o2 s ds h hC hs hQ)
    · rename_i g hc
      have hg := hh.eval hc
      split at h
      · rename_i t
        split at h
        · cases h
        · split at h
          · rename_i C2 e2 s2 d2 hx
            cases h
            have hb : g () = true := hC _ (List.mem_cons_self ..)
            exact wp_cond_true (by rw [show a.eval (.tmp t) = .bool (g ()) from hg, hb]) (ihx o1 _ _ hx (fun C hC' => hC C (List.mem_cons_of_mem _ hC')) (hs.lb hc hb) hQ)
          · rename_i hne; exact absurd h (hne _ _ _ _)
        · split at h
          · rename_i C2 e2 s2 d2 hx
            cases h
            have hb : g () = false := hC _ (List.mem_cons_self ..)
            exact wp_cond_false (by rw [show a.eval (.tmp t) = .bool (g ()) from hg, hb]) (ihy o2 _ _ hx (fun C hC' => hC C (List.mem_cons_of_mem _ hC')) (hs.lb hc hb) hQ)
          · rename_i hne; exact absurd h (hne _ _ _ _)
      · cases h
    · cases h
  | block id c ih =>
    intro hok s ds Cs e s' ds' Qx a w h hC hs hQ
    simp only [xcode] at h
    split at h
    · rename_i C2 e2 s2 d2 hx
      cases h
      refine wp_block (ih hok s ds hx hC hs ?_)
      cases e2 with
      | normal => exact hQ
      | ret => exact hQ
      | exit id' =>
        simp only [inBlk] at hQ
        intro a' w' hd hh
        split at hQ
        · rename_i hb
          have hb := beq_eq hb
          subst hb
          simp only [XE.out, Exit.inBlock, if_pos]
          exact hQ a' w' hd hh
        · rename_i hb
          have hne : ¬ id' = id := by rintro rfl; simp at hb
          simp only [XE.out, Exit.inBlock, if_neg hne]
          exact hQ a' w' hd hh
    · rename_i hne; exact absurd h (hne _ _ _ _)
  | exit id => intro _ s ds Cs e s' ds' Qx a w h hC hs hQ; cases h; exact wp_exit (hQ _ _ hs.1 hs.2)
  | ret => intro _ s ds Cs e s' ds' Qx a w h hC hs hQ; cases h; exact wp_ret (hQ _ _ hs.1 hs.2)
  | scope c ih =>
    intro hok s ds Cs e s' ds' Qx a w h hC hs hQ
    refine wp_scope_straight (ih hok s ds h hC hs ?_)
    cases e <;> exact hQ
  | loop c ih => intro _ s ds Cs e s' ds' Qx a w h; cases h
  | label l => intro _ s ds Cs e s' ds' Qx a w h; cases h
  | goto l => intro _ s ds Cs e s' ds' Qx a w h; cases h
  | refuse y => intro _ s ds Cs e s' ds' Qx a w h; cases h
  | rangeFunc f p x y _ _ => intro _ s ds Cs e s' ds' Qx a w h; cases h

/-! ### the contract -/
def bel1 (n : Nat) : SV1 → Bool
  | .ptr i _ => bltN i n
  | .mp i => bltN i n
  | .hd i _ => bltN i n
  | .vw i _ _ _ _ => bltN i n
  | .ep i _ _ _ _ => bltN i n
  | _ => true
def bel2 (n : Nat) : SV2 → Bool
  | .one x => bel1 n x
  | .agg l => l.all (bel1 n)
  | .fn _ l => l.all (bel1 n)
def belV (n : Nat) : SV → Bool
  | .val x => bel2 n x
  | .tup l => l.all (bel2 n)

theorem bel1_den {n : Nat} {x : SV1} (hx : bel1 n x = true) {v : Value} (hv : Den1 ρ x v) : Den1 (ρ.trim n) x v := by
  have lt : ∀ {i : Nat}, bltN i n = true → i < n := fun h => leN h
  cases x <;> try exact hv
  case ptr i o => have := lt hx; simpa only [Den1, Ev.trim, if_pos this] using hv
  case mp i => have := lt hx; simpa only [Den1, Ev.trim, if_pos this] using hv
  case hd i u => have := lt hx; simpa only [Den1, Ev.trim, if_pos this] using hv
  case vw i u e l k => have := lt hx; simpa only [Den1, Ev.trim, if_pos this] using hv
  case ep i u e k o => have := lt hx; simpa only [Den1, Ev.trim, if_pos this] using hv
theorem bel1s_den {n : Nat} {l : List SV1} {vs : List Value} (h : All2 (Den1 ρ) l vs) (hl : l.all (bel1 n) = true) : All2 (Den1 (ρ.trim n)) l vs := by
  induction h with
  | nil => exact .nil
  | cons h1 _ ih => simp only [List.all_cons, Bool.and_eq_true] at hl; exact .cons (bel1_den hl.1 h1) (ih hl.2)
theorem bel2_den {n : Nat} {x : SV2} (hx : bel2 n x = true) {v : Value} (hv : Den2 ρ x v) : Den2 (ρ.trim n) x v := by
  cases x with
  | one x => exact bel1_den hx hv
  | agg l => obtain ⟨vs, h1, h2⟩ := hv; exact ⟨vs, h1, bel1s_den h2 hx⟩
  | fn f l => obtain ⟨vs, h1, h2⟩ := hv; exact ⟨vs, h1, bel1s_den h2 hx⟩
theorem belV_den {n : Nat} {x : SV} (hx : belV n x = true) {v : Value} (hv : Den ρ x v) : Den (ρ.trim n) x v := by
  cases x with
  | val x => exact bel2_den hx hv
  | tup l =>
    obtain ⟨vs, h1, h2⟩ := hv
    refine ⟨vs, h1, ?_⟩
    clear h1
    change l.all (bel2 n) = true at hx
    induction h2 with
    | nil => exact .nil
    | cons h1 _ ih => simp only [List.all_cons, Bool.and_eq_true] at hx; exact .cons (bel2_den hx.1 h1) (ih hx.2)
theorem belVs_den {n : Nat} {l : List SV} {vs : List Value} (h : All2 (Den ρ) l vs) (hl : l.all (belV n) = true) : All2 (Den (ρ.trim n)) l vs := by
  induction h with
  | nil => exact .nil
  | cons h1 _ ih => simp only [List.all_cons, Bool.and_eq_true] at hl; exact .cons (belV_den hl.1 h1) (ih hl.2)

def allC : List (U Prop) → Prop
  | [] => True
  | C :: r => C () ∧ allC r
theorem allC_mem : ∀ {Cs : List (U Prop)}, allC Cs → ∀ C ∈ Cs, C ()
  | [], _, C, h => by cases h
  | D :: r, h, C, hC => by
    rcases List.mem_cons.1 hC with e | e
    · rw [e]; exact h.1
    · exact allC_mem h.2 C e

theorem tt_intro : tt () := True.intro
theorem Ck.all_nil {R : Prop} (h : R) : Ck (fun _ => allC []) R := ⟨trivial, h⟩
theorem Ck.all_cons {C : U Prop} {Cs : List (U Prop)} {R : Prop} (h : Ck C (Ck (fun _ => allC Cs) R)) : Ck (fun _ => allC (C :: Cs)) R := by
  cases h with
  | mk h1 h2 => cases h2 with | mk h3 h4 => exact ⟨⟨h1, h3⟩, h4⟩

def firstN : Nat → List (Chunk A) → List (Chunk A)
  | 0, _ => []
  | n + 1, c :: r => c :: firstN n r
  | n + 1, [] => .emp :: firstN n []

theorem mem_upTo : ∀ {n i j : Nat}, j ∈ upTo i n ↔ i ≤ j ∧ j < i + n
  | 0, i, j => by simp only [upTo, List.not_mem_nil, false_iff]; omega
  | n + 1, i, j => by simp only [upTo, List.mem_cons, mem_upTo (n := n)]; omega
theorem getC_firstN : ∀ {n : Nat} {H : List (Chunk A)} {j : Nat}, getC (firstN n H) j = if j < n then getC H j else .emp
  | 0, H, j => by simp [firstN, getC, nth]
  | n + 1, c :: r, 0 => by simp [firstN, getC, nth]
  | n + 1, [], 0 => by simp [firstN, getC, nth]
  | n + 1, c :: r, j + 1 => by
    have := getC_firstN (n := n) (H := r) (j := j)
    simp only [Nat.add_lt_add_iff_right]
    rw [show getC (c :: r) (j + 1) = getC r j from rfl, ← this]; rfl
  | n + 1, [], j + 1 => by
    have := getC_firstN (n := n) (H := ([] : List (Chunk A))) (j := j)
    simp only [Nat.add_lt_add_iff_right]
    rw [show getC ([] : List (Chunk A)) (j + 1) = getC ([] : List (Chunk A)) j from by simp [getC, nth], ← this]; rfl
theorem length_firstN : ∀ {n : Nat} {H : List (Chunk A)}, (firstN n H).length = n
  | 0, H => rfl
  | n + 1, c :: r => by simp [firstN, length_firstN]
  | n + 1, [] => by simp [firstN, length_firstN]
theorem getC_putCs_upTo : ∀ {n i : Nat} {H cs : List (Chunk A)} (j : Nat), cs.length = n → getC (putCs H (upTo i n) cs) j = if i ≤ j ∧ j < i + n then getC cs (j - i) else getC H j
  | 0, i, H, cs, j, h => by simp only [upTo, putCs]; rw [if_neg (by omega)]
  | n + 1, i, H, [], j, h => by simp at h
  | n + 1, i, H, c :: cs, j, h => by
    simp only [upTo, putCs]
    rw [getC_putCs_upTo (n := n) (i := i + 1) j (by simpa using h)]
    by_cases h1 : i + 1 ≤ j ∧ j < i + 1 + n
    · rw [if_pos h1, if_pos (by omega)]
      rw [show j - i = j - (i + 1) + 1 by omega]; rfl
    · rw [if_neg h1, getC_putC]
      by_cases h2 : j = i
      · subst h2; rw [if_pos rfl, if_pos (by omega)]; simp [getC, nth]
      · rw [if_neg h2, if_neg (by omega)]

def belC (n : Nat) : Chunk A → Bool
  | .cells _ l => l.all (bel1 n)
  | .rmap _ _ _ _ _ j => bltN j n
  | .nest _ _ _ _ (some (_, j)) => bltN j n
  | _ => true
theorem belC_holds {n i : Nat} (hi : i < n) {c : Chunk A} (hb : belC n c = true) (h : HoldsC AI ρ w i c) : HoldsC AI (ρ.trim n) w i c := by
  cases c with
  | emp => simpa only [HoldsC, Ev.trim, if_pos hi] using h
  | gone => trivial
  | cells t l =>
    obtain ⟨b, vs, h1, h2, h3, h4⟩ := h
    exact ⟨b, vs, by simpa only [Ev.trim, if_pos hi] using h1, by simpa only [Ev.trim, if_pos hi] using h2, h3, bel1s_den h4 hb⟩
  | row t e v L => simpa only [HoldsC, Ev.trim, if_pos hi] using h
  | map ks e L => simpa only [HoldsC, Ev.trim, if_pos hi] using h
  | rmap ks e L R c j =>
    have hj : j < n := leN hb
    obtain ⟨b, r, h1, h2, h3, h4⟩ := h
    exact ⟨b, r, by simpa only [Ev.trim, if_pos hi] using h1, by simpa only [Ev.trim, if_pos hj] using h2, by simpa only [Ev.trim, if_pos hi] using h3, h4⟩
  | itp q => simpa only [HoldsC, Ev.trim, if_pos hi] using h
  | nest t tb v L q =>
    cases q with
    | some q =>
      obtain ⟨k, j⟩ := q
      have hj : j < n := leN hb
      simp only [HoldsC, Ev.trim, if_pos hi] at h ⊢
      exact ⟨h.1, NestAt.congrH (ρ := ρ) rfl rfl (fun v hv => by simpa only [Den1, Ev.trim, if_pos hj] using hv) h.2⟩
    | none => simp only [HoldsC, Ev.trim, if_pos hi] at h ⊢; exact ⟨h.1, h.2.congrM rfl⟩
  | abs x => simpa only [HoldsC, Ev.trim, if_pos hi] using h

/-- The contract of a function that is run in line (k: how many chunks it makes at most). -/
def inlCon (E : Env A) (nt : Nat) (rs : List ResultVar) (body : Code) (k : Nat) : Con A := fun args fresh =>
  match bleN args.length nt && args.all (belV fresh) with
  | true => some ⟨upTo 0 (fresh + k), k, true, fun cs ds => (match cs.all (belC fresh) with
    | true => (match xcode E body ⟨argT 0 args, firstN fresh cs⟩ ds with
      | .done Cs e s _ => (match e with
        | .exit _ => .fail
        | _ => (match resV E.ti s rs with
          | some l => (match bleN s.H.length (fresh + k) with
            | true => .done (fun _ => allC Cs) (resOf l) (firstN (fresh + k) s.H)
            | false => .fail)
          | none => .fail))
      | .need b => .need b
      | .fail _ => .fail)
    | false => .fail)⟩
  | false => none

/-- A call that may change everything. -/
theorem frame_all {f : FuncId} {tmps : Array Value} (h : Holds AI G s ρ tmps w) {m : Nat} {us : List Value} {H0 H1 : List (Chunk A)} {v : SV} {fresh : Nat} (hf : fresh ≤ m) (hH0 : ∀ j, getC H0 j = if j < fresh then getC s.H j else .emp) (hbel : ∀ j, j < fresh → belC fresh (getC s.H j) = true) (hemp : ∀ j, fresh ≤ j → j < m → getC s.H j = .emp) (hH1 : ∀ j, m ≤ j → getC H1 j = .emp) {H' : List (Chunk A)} (hin : ∀ j, j < m → getC H' j = getC H1 j) (hout : ∀ j, m ≤ j → getC H' j = getC s.H j)
    (hT : ∀ (Gc : Fr), Gc.n0 = fresh → Gc.size = 0 → Holds AI Gc ⟨[], H0⟩ (ρ.trim fresh) #[] w → Calls P f us.toArray w fun e w' => ∃ y ρr, e = .returned y ∧ Holds AI Gc ⟨[], H1⟩ ρr #[] w' ∧ Den ρr v y) :
    Calls P f us.toArray w fun e w' => ∃ y ρ', e = .returned y ∧ Holds AI G ⟨s.tm, H'⟩ ρ' tmps w' ∧ Den ρ' v y ∧ ρ.Le ρ' := by
  let ρc : Ev := ρ.trim fresh
  let Gc : Fr := { w0 := w, own := fun b => ∃ j, j < fresh ∧ b ∈ ρ.foot j, n0 := fresh, root0 := ρ.root, M0 := ρ.M, size := 0, ver0 := ρ.ver }
  have hfc : ∀ j b, b ∈ ρc.foot j → j < fresh ∧ b ∈ ρ.foot j := by
    intro j b hb
    simp only [ρc, Ev.trim] at hb
    split at hb
    · rename_i hj; exact ⟨hj, hb⟩
    · cases hb
  have hempv : ∀ j, fresh ≤ j → j < m → ρ.foot j = [] ∧ ρ.root j = .bool false ∧ ρ.ver j = 0 := fun j h1 h2 => by
    have := h.ch j; rw [hemp j h1 h2] at this; exact this
  have hc : Holds AI Gc ⟨[], H0⟩ ρc #[] w := by
    refine ⟨rfl, h.gtOf (fun b hb => by obtain ⟨j, _, hj⟩ := hb; exact ⟨_, hj⟩), (fun t x ht => by cases ht), fun j => ?_, fun i j b hij hi hj => h.dis i j b hij (hfc i b hi).2 (hfc j b hj).2, fun i b hb => h.lt i b (hfc i b hb).2, fun b o x hm => ⟨(h.im b o x hm).1, fun i hb => (h.im b o x hm).2 i (hfc i b hb).2⟩, rfl, rfl, rfl, Nat.le_refl _, fun _ _ _ => rfl,
      fun i b hb => .inl ⟨i, hfc i b hb⟩, fun i b hi hb => by show (ρ.trim fresh).root i = _; simp only [Ev.trim, if_pos (show i < fresh from hi)]; exact hb, fun i hi => ⟨by show _ ≤ (ρ.trim fresh).ver i; simp only [Ev.trim, if_pos (show i < fresh from hi)]; exact Nat.le_refl _, fun ao l c hb hv => by show (ρ.trim fresh).root i = _; simp only [Ev.trim, if_pos (show i < fresh from hi)]; exact hb⟩, fun _ _ _ hm => hm, fun b o x hm => .inl hm⟩
    show HoldsC AI ρc w j (getC H0 j)
    rw [hH0]
    split
    · rename_i hj; exact belC_holds hj (hbel j hj) (h.ch j)
    · exact ⟨by simp [ρc, Ev.trim, *], by simp [ρc, Ev.trim, *], by simp [ρc, Ev.trim, *]⟩
  refine (hT Gc rfl rfl hc).mono ?_
  rintro e w' ⟨y, ρr, rfl, hr, hy⟩
  have hbey : ∀ j, m ≤ j → ρr.foot j = [] ∧ ρr.root j = .bool false ∧ ρr.ver j = 0 := fun j hj => by
    have := hr.ch j; dsimp only at this; rw [hH1 j hj] at this; exact this
  let ρ' : Ev := { root := fun i => if i < m then ρr.root i else ρ.root i, ver := fun i => if i < m then ρr.ver i else ρ.ver i, M := ρr.M, foot := fun i => if i < m then ρr.foot i else ρ.foot i }
  have ltr : ∀ i, ρr.root i ≠ .bool false → i < m := fun i hi => Nat.lt_of_not_le fun hle => hi (hbey i hle).2.1
  have lrr : ρr.Le ρ' := by
    refine ⟨fun _ _ _ h => h, fun i b hb => ?_, fun i => ?_, fun i hv hs => ?_⟩
    · have := ltr i (by rw [hb]; simp)
      simp only [ρ', if_pos this]; exact hb
    · simp only [ρ']; split
      · exact Nat.le_refl _
      · rename_i hi; rw [(hbey i (by omega)).2.2]; exact Nat.zero_le _
    · obtain ⟨ao, l, c, hs⟩ := hs
      have := ltr i (by rw [hs]; simp)
      simp only [ρ', if_pos this]
  have le : ρ.Le ρ' := by
    refine ⟨hr.mono, fun i b hb => ?_, fun i => ?_, fun i hv hs => ?_⟩
    · by_cases hi : i < m
      · simp only [ρ', if_pos hi]
        by_cases hi2 : i < fresh
        · exact hr.rt i b hi2 hb
        · rw [(hempv i (by omega) hi).2.1] at hb; cases hb
      · simp only [ρ', if_neg hi]; exact hb
    · by_cases hi : i < m
      · simp only [ρ', if_pos hi]
        by_cases hi2 : i < fresh
        · exact (hr.rts i hi2).1
        · rw [(hempv i (by omega) hi).2.2]; exact Nat.zero_le _
      · simp only [ρ', if_neg hi]; exact Nat.le_refl _
    · obtain ⟨ao, l, c, hs⟩ := hs
      by_cases hi : i < m
      · simp only [ρ', if_pos hi] at hv ⊢
        by_cases hi2 : i < fresh
        · rw [(hr.rts i hi2).2 ao l c hs hv.symm, hs]
        · rw [(hempv i (by omega) hi).2.1] at hs; cases hs
      · simp only [ρ', if_neg hi]
  have hrfoot : ∀ j b, b ∈ ρr.foot j → (∃ k, k < fresh ∧ b ∈ ρ.foot k) ∨ w.heap.size ≤ b := fun j b hb => hr.fro j b hb
  have hblk : ∀ b, b < w.heap.size → (∀ j, j < fresh → b ∉ ρ.foot j) → w'.heap[b]? = w.heap[b]? := fun b hb hnb => hr.kept b hb (by rintro ⟨j, hj, hb'⟩; exact hnb j hj hb')
  have hnot : ∀ {i b}, ¬ i < m → b ∈ ρ.foot i → ∀ j, j < fresh → b ∉ ρ.foot j := fun {i b} hi hb j hj hb' => h.dis i j b (by omega) hb hb'
  refine ⟨y, ρ', rfl, ⟨h.sz, h.gt, fun t x ht => ?_, fun i => ?_, fun i k b hik hi hk => ?_, fun i b hb => ?_, fun b o x hm => ⟨(hr.im b o x hm).1, fun i hb => ?_⟩, hr.os.trans h.os, hr.tape.trans h.tape, hr.output.trans h.output, Nat.le_trans h.grow hr.grow,
    fun b hb hn' => ?_, fun i b hb => ?_, fun i b hi hb => le.ptr i b (h.rt i b hi hb), fun i hi => ?_, fun b o x hm => hr.mono b o x (h.mono b o x hm), fun b o x hm => ?_⟩, hy.mono lrr, le⟩
  · obtain ⟨u, h1, h2⟩ := h.tm t x ht; exact ⟨u, h1, h2.mono le⟩
  · show HoldsC AI ρ' w' i (getC H' i)
    by_cases hi : i < m
    · rw [hin i hi]
      have h3 := hr.ch i
      dsimp only at h3
      exact h3.stays lrr (by simp only [ρ', if_pos hi]) (by simp only [ρ', if_pos hi]) (by simp only [ρ', if_pos hi]) fun _ _ => rfl
    · rw [hout i (by omega)]
      exact (h.ch i).stays le (by simp only [ρ', if_neg hi]) (by simp only [ρ', if_neg hi]) (by simp only [ρ', if_neg hi]) fun b hb => hblk b (h.lt i b hb) (hnot hi hb)
  · simp only [ρ'] at hi hk
    split at hi <;> split at hk
    · exact hr.dis i k b hik hi hk
    · rename_i _ hk'
      rcases hrfoot i b hi with ⟨q, hq, hb⟩ | hge
      · exact hnot hk' hk q hq hb
      · have := h.lt k b hk; omega
    · rename_i hi' _
      rcases hrfoot k b hk with ⟨q, hq, hb⟩ | hge
      · exact hnot hi' hi q hq hb
      · have := h.lt i b hi; omega
    · exact h.dis i k b hik hi hk
  · simp only [ρ'] at hb
    split at hb
    · exact hr.lt i b hb
    · exact Nat.lt_of_lt_of_le (h.lt i b hb) hr.grow
  · simp only [ρ'] at hb
    split at hb
    · exact (hr.im b o x hm).2 i hb
    · rename_i hi
      rcases hr.mfr b o x hm with h1 | ⟨q, h1, h2⟩ | h1
      · exact (h.im b o x h1).2 i hb
      · exact hnot hi hb q h1 h2
      · have h1 : w.heap.size ≤ b := h1
        have := h.lt i b hb; omega
  · refine (hblk b (Nat.lt_of_lt_of_le hb h.grow) fun j hj hb' => ?_).trans (h.kept b hb hn')
    rcases h.fro _ b hb' with h1 | h1
    · exact hn' h1
    · omega
  · simp only [ρ'] at hb
    split at hb
    · rcases hrfoot i b hb with ⟨q, hq, hb'⟩ | hge
      · exact h.fro _ b hb'
      · exact .inr (Nat.le_trans h.grow hge)
    · exact h.fro i b hb
  · obtain ⟨hv0, hs⟩ := h.rts i hi
    refine ⟨Nat.le_trans hv0 (le.ver i), fun ao l c hb hv => ?_⟩
    have e0 : ρ.ver i = G.ver0 i := Nat.le_antisymm (hv ▸ le.ver i) hv0
    have h1 := hs ao l c hb e0
    rw [le.same i (by rw [e0, hv]) ⟨_, _, _, h1⟩]; exact h1
  · rcases hr.mfr b o x hm with h1 | ⟨q, h1, h2⟩ | h1
    · exact h.mfr b o x h1
    · exact .inr (h.fro _ b h2)
    · exact .inr (.inr (Nat.le_trans h.grow h1))

theorem inl_sound {E : Env A} (hE : EnvOk P AI E) (hm : P.follows .mixedOrders = true) {f : FuncId} {fn : Func} {c : Code} (hen : Enters P f) (hf : P.funcs[f]? = some fn) (hb : fn.body = some c) (hok : codeOk fn.ntmps c = true) (k : Nat) :
    ConSound P AI f (inlCon E fn.ntmps fn.results.toList c k) := by
  refine ⟨hen, fun args fresh p hp hw => ?_, fun G s ρ tmps w args us fresh p d C v cs h hargs hp hfr he hC => ?_⟩
  · unfold inlCon at hp
    split at hp <;> cases hp
    cases hw
  · unfold inlCon at hp
    split at hp <;> cases hp
    rename_i hcond
    simp only [Bool.and_eq_true] at hcond
    obtain ⟨hlen, hbel⟩ := hcond
    have hlen := leN hlen
    dsimp only at he hfr ⊢
    split at he
    · rename_i hall
      split at he
      · rename_i Cs e s1 ds1 hx
        have key : (e = .normal ∨ e = .ret) ∧ ∃ l, resV E.ti s1 fn.results.toList = some l ∧ s1.H.length ≤ fresh + k ∧ (C = fun _ => allC Cs) ∧ v = resOf l ∧ cs = firstN (fresh + k) s1.H := by
          cases e with
          | exit id => cases he
          | normal =>
            refine ⟨.inl rfl, ?_⟩
            dsimp only at he
            split at he
            · rename_i l hl
              split at he
              · rename_i hle
                simp at he
                exact ⟨l, hl, leN hle, he.1.symm, he.2.1.symm, he.2.2.symm⟩
              · cases he
            · cases he
          | ret =>
            refine ⟨.inr rfl, ?_⟩
            dsimp only at he
            split at he
            · rename_i l hl
              split at he
              · rename_i hle
                simp at he
                exact ⟨l, hl, leN hle, he.1.symm, he.2.1.symm, he.2.2.symm⟩
              · cases he
            · cases he
        obtain ⟨hend, l, hl, hle, rfl, rfl, rfl⟩ := key
        have hgc : ∀ j, j < fresh + k → getC (getCs s.H (upTo 0 (fresh + k))) j = getC s.H j := fun j hj => by rw [getC_getCs hj, Nat.zero_add]
        refine frame_all h (m := fresh + k) (H0 := firstN fresh (getCs s.H (upTo 0 (fresh + k)))) (H1 := s1.H) (fresh := fresh) (by omega) (fun j => ?_) (fun j hj => ?_) (fun j h1 h2 => hfr j (mem_upTo.2 (by omega)) h1) (fun j hj => getC_beyond (by omega)) (fun j hj => ?_) (fun j hj => ?_) fun Gc hn0 hsz hh => ?_
        · rw [getC_firstN]
          split
          · rw [hgc j (by omega)]
          · rfl
        · have hlen2 : ∀ {n i : Nat}, (getCs s.H (upTo i n)).length = n := by
            intro n
            induction n with
            | zero => intro i; rfl
            | succ n ih => intro i; simp only [upTo, getCs, List.length_cons, ih]
          have h1 : (getCs s.H (upTo 0 (fresh + k)))[j]? = some (getC s.H j) := by
            have h2 := hgc j (by omega)
            unfold getC at h2
            rw [nth_eq] at h2
            have h3 : j < (getCs s.H (upTo 0 (fresh + k))).length := by rw [hlen2]; omega
            rw [List.getElem?_eq_getElem h3] at h2 ⊢
            exact congrArg some h2
          exact List.all_eq_true.1 hall _ (List.mem_of_getElem? h1)
        · rw [getC_putCs_upTo j length_firstN, if_pos (by omega), Nat.sub_zero, getC_firstN, if_pos hj]
        · rw [getC_putCs_upTo j length_firstN, if_neg (by omega)]
        · refine calls_of_wp hf hb ?_
          have hd := belVs_den hargs hbel
          have hl1 := hd.length
          have h1 := hh.enter hd (n := fn.ntmps) (by omega)
          refine xcode_sound (AI := AI) (G := { Gc with size := fn.ntmps }) hE hm c hok _ _ hx (allC_mem hC) ⟨rfl, _, h1⟩ ?_
          intro a' w' hdf ⟨ρ', hh'⟩
          obtain ⟨y, h3, h4⟩ := results_sound (AI := AI) (G := { Gc with size := fn.ntmps }) hE.ti hh' hl
          have h5 : Holds AI Gc ⟨[], s1.H⟩ ρ' #[] w' := ⟨hsz.symm, hh'.gt, (fun t x ht => by cases ht), hh'.ch, hh'.dis, hh'.lt, hh'.im, hh'.os, hh'.tape, hh'.output, hh'.grow, hh'.kept, hh'.fro, hh'.rt, hh'.rts, hh'.mono, hh'.mfr⟩
          rcases hend with rfl | rfl
          · exact ⟨hdf, y, h3, y, ρ', rfl, h5, h4⟩
          · exact ⟨hdf, y, h3, y, ρ', rfl, h5, h4⟩
      · cases he
      · cases he
    · cases he

end Go.Sx

/-
  Symbolic execution: small lemmas for the ends of walks.
-/
namespace Go.Sx
set_option linter.all false
set_option linter.unusedVariables false
set_option linter.unusedSimpArgs false
set_option linter.unusedSectionVars false
/-- What evaluation gives: the kernel compares it anew (the evaluation's own proof is dropped). -/
abbrev Sh (G _X : Prop) : Prop := G
abbrev T1 (G X : Prop) := (G = X) → Sh G X
theorem Sh.mk {G X : Prop} (h : X = G) (x : X) : Sh G X := h ▸ x
theorem ifF {α : Type} {b : Bool} {x y : α} (h : b = false) : (if b = true then x else y) = y := if_neg (by rw [h]; exact Bool.false_ne_true)
theorem ifN {α : Type} {b : Bool} {x y : α} (h : b = true) : (if b = false then x else y) = y := if_neg (by rw [h]; exact Bool.noConfusion)
theorem hrPos {α : Type} {c : Prop} [Decidable c] {x y r : α} (h : c) (hr : (if c then x else y) = r) : x = r := (if_pos h).symm.trans hr
theorem hrNeg {α : Type} {c : Prop} [Decidable c] {x y r : α} (h : ¬ c) (hr : (if c then x else y) = r) : y = r := (if_neg h).symm.trans hr
theorem hrF {α : Type} {b : Bool} {x y r : α} (h : b = false) (hr : (if b = true then x else y) = r) : y = r := (ifF h).symm.trans hr
theorem natCast_eq (n : Nat) : @NatCast.natCast Int instNatCastInt n = (n : Int) := rfl
def bodyOf (f : Func) : Code := f.body.getD .skip
noncomputable def inl {A : Type} (E : Env A) (f : Func) (k : Nat) : Con A := inlCon E f.ntmps f.results.toList (bodyOf f) k
theorem nrm : (∀ (p : Prop) [Decidable p], (decide p = true) = p) ∧ (∀ (p : Prop) [Decidable p], decide p = false ↔ ¬ p) ∧ (∀ b : Bool, ((!b) = true) = (b = false)) ∧ (∀ b : Bool, ((!b) = false) = (b = true)) ∧ (∀ b : Bool, (¬ b = true) = (b = false)) ∧ (∀ b : Bool, (¬ b = false) = (b = true)) ∧ (!true) = false ∧ (!false) = true ∧ (∀ (α : Type) (a b : α), (a ≠ b) = ¬ a = b) ∧ (false = true) = False ∧ (true = false) = False ∧ (∀ (α : Type) [BEq α] [LawfulBEq α] (a b : α), (a == b) = true ↔ a = b) ∧ (∀ (α : Type) [BEq α] [LawfulBEq α] (a b : α), (a == b) = false ↔ a ≠ b) ∧ (¬ True) = False ∧ (¬ False) = True :=
  ⟨fun p _ => decide_eq_true_eq, fun p _ => decide_eq_false_iff_not, fun b => Bool.not_eq_true' b, fun b => Bool.not_eq_false' b, fun b => Bool.not_eq_true b, fun b => Bool.not_eq_false b, rfl, rfl, fun _ _ _ => rfl, eq_false Bool.false_ne_true, eq_false Bool.noConfusion, fun _ _ _ _ _ => beq_iff_eq, fun _ _ _ _ _ => beq_eq_false_iff_ne, eq_false (fun h => h trivial), eq_true id⟩
theorem nrb : (∀ b : Bool, (b || true) = true) ∧ (∀ b : Bool, (true || b) = true) ∧ (∀ b : Bool, (b || false) = b) ∧ (∀ b : Bool, (false || b) = b) ∧ (∀ b : Bool, (b && true) = b) ∧ (∀ b : Bool, (true && b) = b) ∧ (∀ b : Bool, (b && false) = false) ∧ (∀ b : Bool, (false && b) = false) ∧ (!true) = false ∧ (!false) = true :=
  ⟨Bool.or_true, Bool.true_or, Bool.or_false, Bool.false_or, Bool.and_true, Bool.true_and, Bool.and_false, Bool.false_and, rfl, rfl⟩
theorem lens : (∀ (α : Type) (a b : List α), (a ++ b).length = a.length + b.length) ∧ (∀ (α : Type) (a : α) (l : List α), (a :: l).length = l.length + 1) ∧ (∀ α : Type, ([] : List α).length = 0) ∧ (∀ (α : Type) (n : Nat) (a : α), (List.replicate n a).length = n) ∧ (∀ (α : Type) (n : Nat) (l : List α), (l.take n).length = min n l.length) ∧ (∀ (α : Type) (n : Nat) (l : List α), (l.drop n).length = l.length - n) :=
  ⟨fun _ _ _ => List.length_append, fun _ _ _ => List.length_cons, fun _ => List.length_nil, fun _ _ _ => List.length_replicate, fun _ _ _ => List.length_take, fun _ _ _ => List.length_drop⟩
theorem take_cg {α : Type} {l : List α} {a b : Int} (h : a = b) : l.take a.toNat = l.take b.toNat := by rw [h]
theorem drop_cg {α : Type} {l : List α} {a b : Int} (h : a = b) : l.drop a.toNat = l.drop b.toNat := by rw [h]
theorem take_drop_cg {α : Type} {l : List α} {a b c d : Int} (h : a = b) (h2 : c = d) : (l.drop c.toNat).take a.toNat = (l.drop d.toNat).take b.toNat := by rw [h, h2]
theorem drop_take_cg {α : Type} {l : List α} {a b c : Int} (h0 : 0 ≤ a) (h1 : 0 ≤ b) (h : c = a + b) : (l.take c.toNat).drop a.toNat = (l.drop a.toNat).take b.toNat := by rw [List.drop_take, h]; congr 1; omega
theorem take_all {α : Type} {l : List α} {a : Int} (h : l.length ≤ a) : l.take a.toNat = l := List.take_of_length_le (by omega)
theorem take_drop_all {α : Type} {l : List α} {a b : Int} (h0 : 0 ≤ b) (h : l.length - b ≤ a) : (l.drop b.toNat).take a.toNat = l.drop b.toNat := List.take_of_length_le (by rw [List.length_drop]; omega)
theorem pair_eta {α β : Type} (p : α × β) : (p.1, p.2) = p := rfl
theorem map_idL {α : Type} (l : List α) : l.map (fun x => x) = l := by simp
theorem map_pair_id {α β : Type} (l : List (α × β)) : l.map (fun x => ((fun x => x) x.1, (fun l => l) x.2)) = l := by
  induction l with
  | nil => rfl
  | cons x r ih => rw [List.map_cons, ih]
end Go.Sx

/-
  Symbolic execution: a function that looks at an open object (all chunks are of a known shape, and stay as they are).
-/
namespace Go.Sx
set_option linter.all false
set_option linter.unusedVariables false
set_option linter.unusedSimpArgs false
set_option linter.unusedSectionVars false
open Go.RowKit

variable {A : Type} {AI : Abs A} {G : Fr} {s : SS A} {ρ : Ev} {a : Act} {w : World} {P : Program}

structure ShapeSpec (A : Type) where
  n : Nat
  X : Type
  un : List SV → List (Chunk A) → Option (U X)
  pre : X → Prop
  res : U X → SV

def ShapeSpec.con (k : ShapeSpec A) : Con A := fun args fresh => match beqN fresh k.n with
  | true => some ⟨upTo 0 k.n, 0, false, fun cs _ => (match args.all (belV k.n) && cs.all (belC k.n) with
    | true => (match k.un args cs with
      | some x => .done (fun _ => k.pre (x ())) (k.res x) cs
      | none => .fail)
    | false => .fail)⟩
  | false => none

theorem length_getCs_upTo {H : List (Chunk A)} : ∀ {n i : Nat}, (getCs H (upTo i n)).length = n
  | 0, i => rfl
  | n + 1, i => by simp only [upTo, getCs, List.length_cons, length_getCs_upTo]

theorem ShapeSpec.sound [SubA A] {E : Env A} (hE : EnvOk P AI E) (hm : P.follows .mixedOrders = true) {f : FuncId} {fn : Func} {c : Code} (hen : Enters P f) (hf : P.funcs[f]? = some fn) (hb : fn.body = some c) (hok : codeOk fn.ntmps c = true) {k : ShapeSpec A}
    (h : ∀ args cs x, k.un args cs = some x → k.pre (x ()) → cs.length = k.n → args.length ≤ fn.ntmps ∧ svc E k.n c ⟨argT 0 args, cs⟩ (finP E.ti k.n fn.results.toList (k.res x) cs)) : ConSound P AI f k.con := by
  refine ⟨hen, fun args fresh p hp _ H d C v cs he => ?_, fun G s ρ tmps w args us fresh p d C v cs hh hargs hp hfr he hC => ?_⟩
  · unfold ShapeSpec.con at hp
    split at hp <;> cases hp
    dsimp only at he
    split at he
    · split at he
      · simp at he; exact he.2.2.symm
      · cases he
    · cases he
  · unfold ShapeSpec.con at hp
    split at hp <;> cases hp
    dsimp only at he hfr ⊢
    split at he
    · rename_i hbel
      obtain ⟨hb1, hb2⟩ := Bool.and_eq_true_iff.1 hbel
      split at he
      · rename_i x hx
        simp at he
        obtain ⟨rfl, rfl, rfl⟩ := he
        obtain ⟨hl, hs⟩ := h _ _ x hx hC length_getCs_upTo
        have hgc : ∀ j, j < k.n → getC (getCs s.H (upTo 0 k.n)) j = getC s.H j := fun j hj => by rw [getC_getCs hj, Nat.zero_add]
        have hbey : ∀ j, k.n ≤ j → getC (getCs s.H (upTo 0 k.n)) j = .emp := fun j hj => getC_beyond (by rw [length_getCs_upTo]; exact hj)
        refine (frame_all hh (m := k.n) (H0 := getCs s.H (upTo 0 k.n)) (H1 := getCs s.H (upTo 0 k.n)) (fresh := k.n) (v := k.res x) (Nat.le_refl _) (fun j => ?_) (fun j hj => ?_) (fun j h1 h2 => by omega) (fun j hj => hbey j hj)
          (H' := putCs s.H (upTo 0 k.n) (getCs s.H (upTo 0 k.n))) (fun j hj => ?_) (fun j hj => ?_) fun Gc hn0 hsz h0 => ?_)
        · split
          · rename_i hj; exact hgc j hj
          · rename_i hj; exact hbey j (by omega)
        · have h1 : (getCs s.H (upTo 0 k.n))[j]? = some (getC s.H j) := by
            have h2 := hgc j hj
            unfold getC at h2
            rw [nth_eq] at h2
            have h3 : j < (getCs s.H (upTo 0 k.n)).length := by rw [length_getCs_upTo]; exact hj
            rw [List.getElem?_eq_getElem h3] at h2 ⊢
            exact congrArg some h2
          exact List.all_eq_true.1 hb2 _ (List.mem_of_getElem? h1)
        · rw [putCs_self _ _ _ (fun _ => rfl) j, hgc j hj]
        · exact putCs_self _ _ _ (fun _ => rfl) j
        · exact body_ok hE hm hf hb hok hl hs hn0 hsz h0 (belVs_den hargs hb1)
      · cases he
    · cases he

end Go.Sx

/-
  Symbolic execution: the arguments of a law, seen as data; from a template to the call of a law.
-/
namespace Go.Sx
set_option linter.all false
set_option linter.unusedVariables false
set_option linter.unusedSimpArgs false
set_option linter.unusedSectionVars false
open Go.RowKit Go.Deep Go.ChangeShapes Go.WideShapes

variable {P : Program}

/-- Numbers in their ranges, bytes as bytes. -/
def Ty.ok : (e : Ty) → e.T → Prop
  | .int k, n => k.min ≤ n ∧ n ≤ k.max
  | .bool, _ => True
  | .bytes, l => l.length ≤ maxLen ∧ inBytes l
  | .lst e, l => @List.length e.T l ≤ maxLen ∧ ∀ x ∈ (show List e.T from l), e.ok x
  | .str, l => l.length ≤ maxLen ∧ inBytes l
  | .unit, _ => True
  | .pair a b, x => a.ok x.1 ∧ b.ok x.2

def memOf (w : World) : Mem := fun b o => w.cell? ⟨b, o, none⟩

/-- Is a type of this form? (n: fuel) -/
def fieldsB (tyB : TypeId → Ty → Bool) (P : Program) : Nat → List TypeId → Ty → Bool
  | _, [t], e => P.cellsOf t == e.size && tyB t e
  | n, t :: ts, .pair a b => P.cellsOf t == a.size && tyB t a && fieldsB tyB P (n + a.size) ts b
  | _, _, _ => false
def offsIn : Nat → Program → List Field → Bool
  | _, _, [] => true
  | n, P, f :: fs => f.offset == n && offsIn (n + P.cellsOf f.type) P fs
def tyB (P : Program) : Nat → TypeId → Ty → Bool
  | 0, _, _ => false
  | n + 1, t, e => match P.underlying t with
    | some (.int k) => (match e with | .int k' => k == k' | _ => false)
    | some .bool => (match e with | .bool => true | _ => false)
    | some .string => (match e with | .str => true | _ => false)
    | some (.slice u) => (match e with | .bytes => (match P.underlying u with | some (.int .u8) => P.cellsOf u == 1 | _ => false) | .lst e => P.cellsOf u == e.size && bltN 0 e.size && tyB P n u e | _ => false)
    | some (.struct fs) => P.cellsOf t == e.size && offsIn 0 P fs.toList && fieldsB (tyB P n) P 0 (fs.toList.map (·.type)) e
    | some (.array m u) => P.cellsOf t == e.size && fieldsB (tyB P n) P 0 (List.replicate m u) e
    | _ => false

section
variable {H : Type} {enc : TypeId × Value → H} {W : World} {sp : Nat → Bool} {held : Bool}

theorem add_flat (b off n : Nat) : (⟨b, off, none⟩ : Addr).add n = ⟨b, off + n, none⟩ := by
  unfold Addr.add
  split
  · rename_i h; have : n = 0 := by simpa using h
    subst this; rfl
  · rfl

theorem list_of {α : Type} (n : Nat) (p : Nat → α → Prop) (h : ∀ i, i < n → ∃ x, p i x) : ∃ l : List α, l.length = n ∧ ∀ i x, l[i]? = some x → p i x := by
  induction n with
  | zero => exact ⟨[], rfl, fun i x hi => by cases hi⟩
  | succ n ih =>
    obtain ⟨l, hl, hp⟩ := ih (fun i hi => h i (by omega))
    obtain ⟨x, hx⟩ := h n (by omega)
    refine ⟨l ++ [x], by simp [hl], fun i y hi => ?_⟩
    by_cases e : i < l.length
    · rw [List.getElem?_append_left e] at hi; exact hp i y hi
    · have hlt := (List.getElem?_eq_some_iff.1 hi).1
      have : i = l.length := by simp at hlt; omega
      subst this
      simp at hi
      subst hi
      rw [hl]; exact hx

/-- A slice shows the elements that each of its places shows. -/
theorem shows_of {t u : TypeId} (ht : P.underlying t = some (.slice u)) {e : Ty} (hc : P.cellsOf u = e.size) (hpos : 0 < e.size) {fuel : Nat} {cs : List Value} {x : DataW H × List MemPlace} (h : DataW.trod enc P W 0 sp held fuel t cs = some x)
    (he : ∀ n cs' x', DataW.trod enc P W 0 sp held n u cs' = some x' → ∃ y : e.T, cs'.length = e.size ∧ CellsM (memOf W) e y (fun i => cs'[i]?) ∧ e.ok y) :
    ∃ L : List e.T, L.length ≤ maxLen ∧ (∀ y ∈ L, e.ok y) ∧ ∃ v, cs = [v] ∧ ShowsM (memOf W) e L v := by
  rcases open_slice ht h with ⟨rfl, _⟩ | ⟨a, len, cap, m, n, D, Pl, rfl, _, hl, hm, hmm, _, hx⟩
  · exact ⟨[], Nat.zero_le _, by simp, _, rfl, none, 0, rfl, Nat.le_refl _, by simp⟩
  · have hlm : len ≤ m := by rw [hmm]; split <;> omega
    have each : ∀ i, i < len → ∃ y : e.T, e.ok y ∧ CellsM (memOf W) e y (fun j => if j < e.size then W.cell? (a.add (i * e.size + j)) else none) := by
      intro i hi
      obtain ⟨cs', h1, h2⟩ := hx i (by omega)
      obtain ⟨y, hy1, hy2, hy3⟩ := he _ _ _ h2
      rw [hc] at h1
      obtain ⟨_, hlen, hcell⟩ := World.cells?_some h1
      refine ⟨y, hy3, CellsM.congr e hy2 fun j v hj hv => ?_⟩
      have := hcell j hj
      rw [add_add] at this
      rw [if_pos hj, this]
      exact hv
    obtain ⟨L, hL, hp⟩ := list_of len _ each
    refine ⟨L, by omega, fun y hy => ?_, _, rfl, some a, cap, by rw [hL], by omega, fun h0 => ?_⟩
    · obtain ⟨i, hi⟩ := List.mem_iff_getElem?.1 hy
      exact (hp i y hi).1
    · obtain ⟨y0, hy0⟩ : ∃ y, L[0]? = some y := ⟨L[0]'h0, by simp⟩
      have hc0 := (hp 0 y0 hy0).2
      obtain ⟨b, off, spot⟩ := a
      have hspot : spot = none := by
        obtain ⟨cs', h1, _⟩ := hx 0 (by omega)
        obtain ⟨_, hlen, hcell⟩ := World.cells?_some h1
        have h3 := hcell 0 (by rw [hc]; exact hpos)
        have : 0 < cs'.length := by rw [hlen, hc]; exact hpos
        rw [List.getElem?_eq_getElem this] at h3
        rw [add_add] at h3
        simpa [Addr.add] using World.cell?_spot h3
      subst hspot
      refine ⟨b, off, rfl, fun j y hj => CellsM.congr e (hp j y hj).2 fun k v hk hv => ?_⟩
      rw [if_pos hk, add_flat, ← Nat.add_assoc] at hv
      exact hv

theorem ofs_cells {n : Nat} (tyB' : TypeId → Ty → Bool) (hrec : ∀ t e, tyB' t e = true → ∀ fuel cs x, DataW.trod enc P W 0 sp held fuel t cs = some x → ∃ y : e.T, cs.length = e.size ∧ CellsM (memOf W) e y (fun i => cs[i]?) ∧ e.ok y) :
    ∀ (ts : List TypeId) (e : Ty) (off : Nat) (cs : List Value), fieldsB tyB' P off ts e = true →
      (∀ (i : Nat) (t : TypeId), ts[i]? = some t → ∃ x, DataW.trod enc P W 0 sp held n t ((cs.drop ((ts.take i).map P.cellsOf).sum).take (P.cellsOf t)) = some x) →
      ∃ y : e.T, CellsM (memOf W) e y (fun i => cs[i]?) ∧ e.ok y
  | [], e, off, cs, h, _ => by simp [fieldsB] at h
  | [t], e, off, cs, h, hx => by
    simp only [fieldsB, Bool.and_eq_true, beq_iff_eq] at h
    obtain ⟨x, hx⟩ := hx 0 t rfl
    simp only [List.take_zero, List.map_nil, List.sum_nil, List.drop_zero] at hx
    obtain ⟨y, h1, h2, h3⟩ := hrec t e h.2 _ _ _ hx
    refine ⟨y, CellsM.congr e h2 fun j v hj hv => ?_, h3⟩
    rw [List.getElem?_take] at hv
    split at hv
    · exact hv
    · cases hv
  | t :: t2 :: ts, e, off, cs, h, hx => by
    cases e with
    | pair a b =>
      simp only [fieldsB, Bool.and_eq_true, beq_iff_eq] at h
      obtain ⟨⟨h1, h2⟩, h3⟩ := h
      obtain ⟨x, hx0⟩ := hx 0 t rfl
      simp only [List.take_zero, List.map_nil, List.sum_nil, List.drop_zero] at hx0
      obtain ⟨y, g1, g2, g3⟩ := hrec t a h2 _ _ _ hx0
      obtain ⟨z, k1, k2⟩ := ofs_cells tyB' hrec (t2 :: ts) b (off + a.size) (cs.drop a.size) h3 (fun i u hu => by
        obtain ⟨x', hx'⟩ := hx (i + 1) u hu
        refine ⟨x', ?_⟩
        simp only [List.take_succ_cons, List.map_cons, List.sum_cons, h1] at hx'
        rw [List.drop_drop]; exact hx')
      refine ⟨(y, z), ⟨CellsM.congr a g2 fun j v hj hv => ?_, CellsM.congr b k1 fun j v hj hv => ?_⟩, g3, k2⟩
      · rw [List.getElem?_take] at hv
        split at hv
        · exact hv
        · cases hv
      · rw [List.getElem?_drop] at hv; exact hv
    | _ => simp [fieldsB] at h

theorem offsIn_spec {P : Program} : ∀ {fs : List Field} {n : Nat}, offsIn n P fs = true → ∀ i f, fs[i]? = some f → f.offset = n + (((fs.map (·.type)).take i).map P.cellsOf).sum
  | [], _, _, i, f, h => by cases h
  | g :: fs, n, h, i, f, hf => by
    simp only [offsIn, Bool.and_eq_true, beq_iff_eq] at h
    cases i with
    | zero => cases hf; simpa using h.1
    | succ i =>
      have := offsIn_spec h.2 i f hf
      simp only [List.map_cons, List.take_succ_cons, List.sum_cons]
      omega

theorem open_ty : ∀ (n : Nat) {t : TypeId} {e : Ty}, tyB P n t e = true → ∀ {fuel : Nat} {cs : List Value} {x : DataW H × List MemPlace}, DataW.trod enc P W 0 sp held fuel t cs = some x →
    ∃ y : e.T, cs.length = e.size ∧ CellsM (memOf W) e y (fun i => cs[i]?) ∧ e.ok y
  | 0, t, e, h, _, _, _, _ => by simp [tyB] at h
  | n + 1, t, e, h, fuel, cs, x, hx => by
    unfold tyB at h
    split at h
    · rename_i k hu
      split at h <;> (try cases h)
      have h := eq_of_beq h
      subst h
      obtain ⟨m, rfl, _, hw⟩ := DataW.trod_int hu hx
      simp only [Lit.wf, Bool.and_eq_true, decide_eq_true_eq] at hw
      exact ⟨m, rfl, rfl, hw⟩
    · rename_i hu
      split at h <;> cases h
      obtain ⟨b, rfl, _⟩ := DataW.trod_bool hu hx
      exact ⟨b, rfl, rfl, trivial⟩
    · rename_i hu
      split at h <;> cases h
      obtain ⟨s, rfl, _, hs⟩ := DataW.trod_string hu hx
      refine ⟨s.data.toList.map fun x => (x.toNat : Int), rfl, ?_, by simpa using hs, ?_⟩
      · show some _ = some _
        congr 2
        cases s with | mk d =>
        congr 1
        simp [Function.comp_def]
      · intro y hy
        obtain ⟨z, _, rfl⟩ := List.mem_map.1 hy
        have := z.toNat_lt
        omega
    · rename_i u hu
      split at h <;> (try cases h)
      · split at h <;> (try cases h)
        rename_i hu8
        have hc := eq_of_beq h
        obtain ⟨L, h1, h2, v, rfl, h3⟩ := shows_of (e := .int .u8) hu hc (by decide) hx fun m cs' x' hx' => by
          obtain ⟨z, rfl, _, hw⟩ := DataW.trod_int hu8 hx'
          simp only [Lit.wf, Bool.and_eq_true, decide_eq_true_eq] at hw
          exact ⟨z, rfl, rfl, hw⟩
        refine ⟨L, rfl, ⟨v, rfl, showsB_iff.2 h3⟩, h1, fun y hy => ?_⟩
        obtain ⟨a, b⟩ := h2 y hy
        have e1 : IntKind.u8.min = 0 := by decide
        have e2 : IntKind.u8.max = 255 := by decide
        exact ⟨e1 ▸ a, Int.lt_of_le_of_lt (e2 ▸ b : (y : Int) ≤ 255) (by decide)⟩
      · rename_i e
        simp only [Bool.and_eq_true, beq_iff_eq] at h
        obtain ⟨⟨h1, h2⟩, h3⟩ := h
        have h2 : 0 < e.size := leN h2
        obtain ⟨L, g1, g2, v, rfl, g3⟩ := shows_of hu h1 h2 hx (fun m cs' x' hx' => open_ty n h3 hx')
        exact ⟨L, rfl, cellsM_lst.2 ⟨v, rfl, g3⟩, g1, g2⟩
    · rename_i fs hu
      simp only [Bool.and_eq_true, beq_iff_eq] at h
      obtain ⟨⟨h1, h2⟩, h3⟩ := h
      obtain ⟨xs, m, rfl, _, hl, hlen, hf⟩ := DataW.trod_struct hu hx
      obtain ⟨y, k1, k2⟩ := ofs_cells (n := m) (tyB P n) (fun t e ht fuel cs x hx => open_ty n ht hx) _ e 0 cs h3 (fun i u hi => by
        rw [List.getElem?_map] at hi
        obtain ⟨f, hf1, rfl⟩ := Option.map_eq_some_iff.1 hi
        have g := hf i f (by simpa using hf1)
        have ho := offsIn_spec h2 i f hf1
        rw [Nat.zero_add] at ho
        rw [← ho, g]
        have hi' : i < xs.length := by
          rw [hlen]; have := (List.getElem?_eq_some_iff.1 hf1).1; simpa using this
        exact ⟨xs[i], by simp⟩)
      exact ⟨y, hl.trans h1, k1, k2⟩
    · rename_i m u hu
      simp only [Bool.and_eq_true, beq_iff_eq] at h
      obtain ⟨h1, h3⟩ := h
      obtain ⟨xs, q, rfl, _, hl, hlen, hf⟩ := DataW.trod_array hu hx
      obtain ⟨y, k1, k2⟩ := ofs_cells (n := q) (tyB P n) (fun t e ht fuel cs x hx => open_ty n ht hx) _ e 0 cs h3 (fun i t' hi => by
        obtain ⟨hi1, hi2⟩ := List.getElem?_eq_some_iff.1 hi
        simp at hi1 hi2
        subst hi2
        have g := hf i hi1
        have hs : ((List.take i (List.replicate m u)).map P.cellsOf).sum = i * P.cellsOf u := by
          rw [List.take_replicate, Nat.min_eq_left (by omega)]; simp
        rw [hs, g]
        exact ⟨xs[i]'(by omega), by simp⟩)
      exact ⟨y, hl.trans h1, k1, k2⟩
    · cases h

/-- Is a parameter's type of this form? -/
def dtB (P : Program) (t : TypeId) : DT → Bool
  | .cell e => tyB P 8 t e && bltN 0 e.size && (match P.underlying t with | some (.struct _) => e.agg | some (.array _ _) => e.agg | _ => !e.agg)
  | .lst e => (match P.underlying t with | some (.slice u) => P.cellsOf u == e.size && bltN 0 e.size && tyB P 8 u e | _ => false)
def DT.ok : (d : DT) → d.T → Prop
  | .cell e, x => e.ok x
  | .lst e, L => L.length ≤ maxLen ∧ ∀ x ∈ L, e.ok x

theorem elV_some : ∀ {e : Ty} (x : U e.T), 0 < e.size → ∃ y, elV e x = some y
  | .int _, x, _ => ⟨_, rfl⟩
  | .bool, x, _ => ⟨_, rfl⟩
  | .bytes, x, _ => ⟨_, rfl⟩
  | .lst _, x, _ => ⟨_, rfl⟩
  | .str, x, _ => ⟨_, rfl⟩
  | .unit, x, h => by simp [Ty.size] at h
  | .pair a b, x, _ => ⟨_, rfl⟩

theorem open_dt {d : DT} {t : TypeId} (hd : dtB P t d = true) {v : Value} {r : Reach} {b0 : Nat} (hval : Value.okWide P W r b0 t v) {dd : DataW H} {ps : List MemPlace} (h : DataW.Trod enc P W 0 sp held t v dd ps) :
    ∃ x : d.T, d.ok x ∧ ∀ ρ : Ev, ρ.M = memOf W → Den2 ρ (d.sv (fun _ => x)) v := by
  obtain ⟨fuel, hf⟩ := h
  cases d with
  | cell e =>
    simp only [dtB, Bool.and_eq_true] at hd
    obtain ⟨⟨h1, h2⟩, h3⟩ := hd
    have h2 : 0 < e.size := leN h2
    obtain ⟨y, k1, k2, k3⟩ := open_ty 8 h1 hf
    refine ⟨y, k3, fun ρ hM => ?_⟩
    obtain ⟨z, hz⟩ := elV_some (e := e) (fun _ => y) h2
    simp only [DT.sv, hz]
    refine elV_den hz ?_
    rw [hM]
    refine ⟨v.cells.toList, k1, k2, ?_⟩
    have hag : ∀ cs, v = .agg cs → e.agg = true → (match e.agg with | true => v = .agg v.cells.toList.toArray | false => v.cells.toList = [v]) := by
      rintro cs rfl he
      rw [he]; simp [Value.cells]
    have hone : (∀ cs, v ≠ .agg cs) → e.agg = false → (match e.agg with | true => v = .agg v.cells.toList.toArray | false => v.cells.toList = [v]) := by
      intro hn he
      rw [he]
      cases v <;> first | rfl | exact absurd rfl (hn _)
    unfold tyB at h1
    split at h1
    · rename_i k hu
      obtain ⟨m, rfl⟩ := okWide_int hu hval
      rw [hu] at h3
      exact hone (fun _ h => by cases h) (by simpa using h3)
    · rename_i hu
      obtain ⟨m, rfl⟩ := okWide_bool hu hval
      rw [hu] at h3
      exact hone (fun _ h => by cases h) (by simpa using h3)
    · rename_i hu
      obtain ⟨m, rfl⟩ := okWide_string hu hval
      rw [hu] at h3
      exact hone (fun _ h => by cases h) (by simpa using h3)
    · rename_i u hu
      obtain ⟨a, l, c, rfl⟩ := okWide_slice hu hval
      rw [hu] at h3
      exact hone (fun _ h => by cases h) (by simpa using h3)
    · rename_i fs hu
      obtain ⟨cs, rfl, _⟩ := okWide_struct hu hval
      rw [hu] at h3
      exact hag _ rfl h3
    · rename_i m u hu
      have hval' := hval
      simp only [Value.okWide, hu] at hval'
      obtain ⟨cs, rfl, _⟩ := hval'
      rw [hu] at h3
      exact hag _ rfl h3
    · cases h1
  | lst e =>
    simp only [dtB] at hd
    split at hd
    · rename_i u hu
      simp only [Bool.and_eq_true, beq_iff_eq] at hd
      obtain ⟨⟨h1, h2⟩, h3⟩ := hd
      have h2 : 0 < e.size := leN h2
      obtain ⟨a, l, c, rfl⟩ := okWide_slice hu hval
      obtain ⟨L, g1, g2, v', g3, g4⟩ := shows_of hu h1 h2 hf (fun n cs' x' hx' => open_ty 8 h3 hx')
      have hv' : v' = .slice a l c := by simpa [Value.cells] using g3.symm
      subst hv'
      exact ⟨L, ⟨g1, g2⟩, fun ρ hM => by show ShowsM ρ.M e L _; rw [hM]; exact g4⟩
    · cases hd
end

/-- A call from outside, by a template over nothing. -/
theorem TmplOk.start {A : Type} {AI : Abs A} {f : FuncId} {args : List SV} {v : SV} (hT : TmplOk P AI f args [] v []) {W : World} {us : List Value} (htq : AI.tq.T W (fun _ => False)) (hargs : ∀ ρ : Ev, ρ.M = memOf W → All2 (Den ρ) args us) :
    Calls P f us.toArray W fun e w' => (∃ y ρ, e = .returned y ∧ Den ρ v y) ∧ Below W.heap.size W w' := by
  let ρc : Ev := { root := fun _ => .bool false, ver := fun _ => 0, M := memOf W, foot := fun _ => [] }
  refine (hT ⟨W, fun _ => False, 0, fun _ => .bool false, memOf W, 0, fun _ => 0⟩ ρc W us rfl rfl ?_ (hargs ρc rfl)).mono ?_
  · exact ⟨rfl, htq, (fun t x ht => by cases ht), fun j => ⟨rfl, rfl, rfl⟩, (fun _ _ _ _ h => by cases h), (fun _ _ h => by cases h), fun b o x hm => ⟨hm, fun i hi => by cases hi⟩, rfl, rfl, rfl, Nat.le_refl _, fun _ _ _ => rfl, (fun _ _ h => by cases h), (fun i b hi hb => by cases hb), (fun i hi => absurd hi (Nat.not_lt_zero i)), fun _ _ _ hm => hm, fun b o x hm => .inl hm⟩
  · rintro e w' ⟨y, ρ', rfl, hh, hy⟩
    exact ⟨⟨y, ρ', rfl, hy⟩, hh.os, hh.tape, hh.output, hh.grow, fun k hk => hh.kept k hk (fun h => h)⟩

/-- A law returns true. -/
theorem PureSpec.law {A : Type} {AI : Abs A} {f : FuncId} {k : PureSpec} (hrs : k.rs = [.cell .bool]) (hk : k.Ok P AI f) {x : Tup k.ds} (hx : k.pre x) (hf : ∀ v : SV, resOf (svs k.rs (fun _ => k.f x)) = v → ∀ ρ y, Den ρ v y → y = .bool true) {W : World} {us : List Value}
    (hargs : ∀ ρ : Ev, ρ.M = memOf W → All2 (Den2 ρ) (svs k.ds (fun _ => x)) us) (htq : AI.tq.T W (fun _ => False) := by exact TabQ.T_none _ _) :
    Calls P f us.toArray W fun e w' => e = .returned (.bool true) ∧ Below W.heap.size W w' := by
  refine ((hk x hx).start htq fun ρ hM => argS_den (hargs ρ hM) rfl).mono ?_
  rintro e w' ⟨⟨y, ρ, rfl, hy⟩, hb⟩
  rw [hf _ rfl ρ y hy]
  exact ⟨rfl, hb⟩

theorem inRange_i64 {n : Int} (h : (Ty.int .i64).ok n) : inI64 n := by
  obtain ⟨a, b⟩ := h
  have e1 : IntKind.i64.min = -9223372036854775808 := by decide
  have e2 : IntKind.i64.max = 9223372036854775807 := by decide
  exact ⟨e1 ▸ a, e2 ▸ b⟩
theorem inRange_u8 {n : Int} (h : (Ty.int .u8).ok n) : 0 ≤ n ∧ n ≤ 255 := by
  obtain ⟨a, b⟩ := h
  have e1 : IntKind.u8.min = 0 := by decide
  have e2 : IntKind.u8.max = 255 := by decide
  exact ⟨e1 ▸ a, e2 ▸ b⟩
theorem inRange_u16 {n : Int} (h : (Ty.int .u16).ok n) : 0 ≤ n ∧ n ≤ 65535 := by
  obtain ⟨a, b⟩ := h
  have e1 : IntKind.u16.min = 0 := by decide
  have e2 : IntKind.u16.max = 65535 := by decide
  exact ⟨e1 ▸ a, e2 ▸ b⟩
end Go.Sx
