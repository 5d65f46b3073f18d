/-
  Symbolic execution (part 3).
-/
import Derived.Test.YtcaoldilmnpjoaaGreatEng2
import Derived.Deep.LoopGhost
import Derived.Scope
import Derived.DeepKeys4
import Derived.ChangeKeysEq
import Derived.Deep.Slices
import Derived.ChangeOld
import Derived.OpenShut
import Derived.ShutString
import Derived.Below
import Derived.Sort.Grow
import Derived.Sort.EncStr
import Derived.Shelf.SlIterI.Sorted
import Derived.Shelf.SlIterI.Nil
/-
  Symbolic execution: code.
-/
namespace Go.Sx
set_option linter.all false
open Go.RowKit

variable {A : Type} {AI : Abs A} {G : Fr} {s : SS A} {ρ : Ev} {a : Act} {w : World} {P : Program}

theorem conds_spec : ∀ {Cs : List (U Prop)} {R : Prop}, conds R Cs → (∀ C ∈ Cs, C ()) ∧ R
  | [], R, h => ⟨by simp, h⟩
  | C :: r, R, h => by
    obtain ⟨h1, h2⟩ := conds_spec (Cs := r) h
    cases h2 with
    | mk h3 h4 => exact ⟨fun D hD => (List.mem_cons.1 hD).elim (fun e => e ▸ h3) (h1 D), h4⟩

theorem Failed.elim {n : Nat} {p : Prop} (h : Failed n) : p := by cases h

theorem Holds.retm {tmps : Array Value} {tm' : List (Nat × SV)} (h : Holds AI G s ρ tmps w) (ht : ∀ t v, look tm' t = some v → ∃ u, tmps[t]? = some u ∧ Den ρ v u) : Holds AI G ⟨tm', s.H⟩ ρ tmps w :=
  ⟨h.sz, h.gt, ht, h.ch, h.dis, h.lt, h.im, h.os, h.tape, h.output, h.grow, h.kept, h.fro, h.rt, h.rts, h.mono, h.mfr⟩

theorem look_cons {α : Type} (t : Nat) (v : α) (tm : List (Nat × α)) (k : Nat) : look ((t, v) :: tm) k = if t = k then some v else look tm k := by
  simp only [look]
  by_cases h : t = k
  · subst h; simp
  · rw [show beqN t k = false by cases hb : beqN t k; rfl; exact absurd (beq_eq hb) h]; simp [h]

theorem Sat.lb (h : Sat AI G s a w) {t : Nat} {g : U Bool} (ht : look s.tm t = some (.val (.one (.sb g)))) {b : Bool} (hb : g () = b) : Sat AI G ⟨(t, one (.lb b)) :: s.tm, s.H⟩ a w := by
  obtain ⟨hd, ρ, hh⟩ := h
  refine ⟨hd, ρ, hh.retm fun k v hk => ?_⟩
  rw [look_cons] at hk
  split at hk
  · rename_i e
    subst e
    cases hk
    obtain ⟨u, h1, h2⟩ := hh.tm t _ ht
    refine ⟨u, h1, ?_⟩
    simp only [one, Den, Den2, Den1] at h2 ⊢
    rw [h2, hb]
  · exact hh.tm k v hk

theorem Sat.nb (h : Sat AI G s a w) {t : Nat} {neg : Bool} {C : U Prop} (ht : look s.tm t = some (.val (.one (.nb neg C)))) : ∃ b, a.eval (.tmp t) = .bool b ∧ (b = !neg → C ()) ∧ Sat AI G ⟨(t, one (.lb b)) :: s.tm, s.H⟩ a w := by
  obtain ⟨hd, ρ, hh⟩ := h
  obtain ⟨u, h1, h2⟩ := hh.tm t _ ht
  obtain ⟨b, rfl, h3⟩ := h2
  refine ⟨b, ?_, h3, hd, ρ, hh.retm fun k v hk => ?_⟩
  · have := hh.eval (x := .tmp t) (v := .val (.one (.nb neg C))) ht
    obtain ⟨b', e1, _⟩ := this
    have : a.eval (.tmp t) = .bool b := by simp [Act.eval, h1]
    exact this
  · rw [look_cons] at hk
    split at hk
    · rename_i e; subst e; cases hk; exact ⟨_, h1, rfl⟩
    · exact hh.tm k v hk

theorem preSl_sound {sl0 : List (Nat × Bool)} : ∀ (sl : List (Nat × Bool)) {tm' : List (Nat × SV)} {Cs : List (U Prop)}, preSl sl0 sl s.tm = (tm', Cs) → (∀ C ∈ Cs, C ()) → Sat AI G s a w → Sat AI G ⟨tm', s.H⟩ a w
  | [], tm', Cs, h, _, hs => by simp only [preSl, Prod.mk.injEq] at h; obtain ⟨rfl, rfl⟩ := h; exact hs
  | (t, b) :: r, tm', Cs, h, hC, hs => by
    simp only [preSl] at h
    cases hp : preSl sl0 r s.tm with
    | mk tm2 Cs2 =>
      rw [hp] at h
      dsimp only at h
      split at h
      · rename_i g hg
        simp only [Prod.mk.injEq] at h
        obtain ⟨rfl, rfl⟩ := h
        obtain ⟨hd, ρ, hh⟩ := preSl_sound r hp (fun C hC' => hC C (by simp [hC'])) hs
        have h0 := hC _ (List.mem_cons_self ..)
        -- both states hold of one world: the slot's value is known from the first
        obtain ⟨_, ρ0, hh0⟩ := hs
        refine ⟨hd, ρ, hh.retm fun k v hk => ?_⟩
        rw [look_cons] at hk
        split at hk
        · rename_i e
          subst e
          cases hk
          obtain ⟨u, h1, h2⟩ := hh0.tm t _ hg
          refine ⟨u, h1, ?_⟩
          simp only [one, Den, Den2, Den1] at h2 ⊢
          rw [h2, h0]
        · exact hh.tm k v hk
      · simp only [Prod.mk.injEq] at h
        obtain ⟨rfl, rfl⟩ := h
        exact preSl_sound r hp hC hs

def XE.out : XE → Exit
  | .normal => .normal
  | .ret => .ret
  | .exit id => .exit id

theorem Sat.drew (h : Sat AI G s a w) : Sat AI G s a { w with drawn := w.drawn + 1 } := by
  obtain ⟨hd, ρ, hh⟩ := h
  exact ⟨hd, ρ, hh.drew⟩

theorem sreg_sound {E : Env A} (hE : EnvOk P AI E) (hm : P.follows .mixedOrders = true) {id : Nat} {opsA : Array Oper} {draw : Bool} (hdst : ∀ o ∈ opsA.toList, ∀ t, o.dst = some t → t < G.size) {Q : SS A → Prop} {Qx : Exit → Act → World → Prop}
    (hQ : ∀ s', Q s' → Then AI G s' (Qx .normal)) : ∀ (n : Nat) (d : Dec), sreg E opsA.toList draw s Q n d → Sat AI G s a w → (Code.region id opsA draw).wp P Qx a w
  | 0, d, h, _ => h.elim
  | n + 1, d, h, hs => by
    simp only [sreg] at h
    cases hp : preSl d.sl d.sl s.tm with
    | mk tm C0 =>
      rw [hp] at h
      dsimp only at h
      split at h
      · exact h.elim
      · rename_i t b _
        cases h with
        | mk h1 h2 =>
          cases hb : b () with
          | true => exact sreg_sound hE hm hdst hQ n _ (h1 hb) hs
          | false => exact sreg_sound hE hm hdst hQ n _ (h2 hb) hs
      · rename_i j b _
        cases h with
        | mk h1 h2 =>
          cases hb : b () with
          | true => exact sreg_sound hE hm hdst hQ n _ (h1 hb) hs
          | false => exact sreg_sound hE hm hdst hQ n _ (h2 hb) hs
      · rename_i Cs s' effs hrun
        obtain ⟨h1, effs', h2, h3, h4, h5⟩ := srun_spec _ _ _ _ _ hrun
        simp only [List.reverse_nil, List.nil_append] at h2
        subst h2
        have fin : (∀ C ∈ Cs, C ()) → Q s' → Sat AI G ⟨tm, s.H⟩ a w ∧ (∀ i o, opsA.toList[i]? = some o → ∃ e Ce, effs[i]? = some e ∧ OpDid E opsA.toList d (runE (effs.take i) ⟨tm, s.H⟩) o (0 + i) e Ce ∧ ∀ C ∈ Ce, C ()) ∧ Then AI G (runE effs ⟨tm, s.H⟩) (Qx .normal) := by
          intro hC hq
          refine ⟨preSl_sound _ hp (fun C hC' => hC C (h1 C hC')) hs, fun i o hi => ?_, h4 ▸ hQ s' hq⟩
          obtain ⟨e, Ce, h6, h7, h8⟩ := h5 i o hi
          exact ⟨e, Ce, h6, h7, fun C hC' => hC C (h8 C hC')⟩
        split at h
        · obtain ⟨hC, hq⟩ := conds_spec h
          obtain ⟨f1, f2, f3⟩ := fin hC hq
          refine wp_region_list ?_
          have := run_text hE opsA.toList 0 ⟨tm, s.H⟩ effs a w h3 f2 hdst f1 f3
          simpa using this
        · cases h with
          | mk hok h =>
            obtain ⟨hC, hq⟩ := conds_spec h
            obtain ⟨f1, f2, f3⟩ := fin hC hq
            refine wp_region_any hm ?_
            refine run_draw hE h3 (fun i o hi => by have := f2 i o hi; simpa using this) hok hdst f3 opsA.size _ a _ (by simp) (fun i o hi hl => by
              exfalso
              have : (Array.replicate opsA.size false).getD i false = false := getD_replicate_false _ _
              rw [this] at hl; cases hl) (by omega) ?_
            have e1 : stL effs 0 (fun i => (Array.replicate opsA.size false).getD i false) (⟨tm, s.H⟩ : SS A) = ⟨tm, s.H⟩ := by
              have key : ∀ (l : List (Eff A)) (k : Nat) (s : SS A), stL l k (fun i => (Array.replicate opsA.size false).getD i false) s = s := by
                intro l
                induction l with
                | nil => intro k s; rfl
                | cons e r ih =>
                  intro k s
                  simp only [stL]
                  rw [if_neg (by rw [getD_replicate_false]; simp)]
                  exact ih _ _
              exact key _ _ _
            rw [e1]
            exact f1.drew

/-! ### weakening -/
def Ev.trim (ρ : Ev) (n : Nat) : Ev :=
  { root := fun i => if i < n then ρ.root i else .bool false, ver := fun i => if i < n then ρ.ver i else 0, M := ρ.M, foot := fun i => if i < n then ρ.foot i else [] }

theorem caps_trim {n : Nat} : ∀ {l : List Nat} {us : List Value}, All2 (fun i u => ∃ b, ρ.root i = .pointer (some ⟨b, 0, none⟩) ∧ u = .pointer (some ⟨b, 0, none⟩)) l us → (l.all fun i => bltN i n) = true → All2 (fun i u => ∃ b, (ρ.trim n).root i = .pointer (some ⟨b, 0, none⟩) ∧ u = .pointer (some ⟨b, 0, none⟩)) l us := by
  intro l us h
  induction h with
  | nil => intro _; exact .nil
  | cons h6 _ ih =>
    intro h3
    simp only [List.all_cons, Bool.and_eq_true] at h3
    obtain ⟨b, h7, h8⟩ := h6
    have h9 : _ < n := leN h3.1
    exact .cons ⟨b, by simp [Ev.trim, h9, h7], h8⟩ (ih h3.2)
theorem eqNs_eq : ∀ {l m : List Nat}, eqNs l m = true → l = m
  | [], [], _ => rfl
  | a :: l, b :: m, h => by
    simp only [eqNs, Bool.and_eq_true] at h
    rw [beq_eq h.1, eqNs_eq h.2]
  | [], _ :: _, h => by cases h
  | _ :: _, [], h => by cases h
theorem sub1_sound {n : Nat} {x y : SV1} {C : U Prop} (h : sub1 n x y = some C) (hC : C ()) {v : Value} (hv : Den1 ρ x v) : Den1 (ρ.trim n) y v := by
  unfold sub1 at h
  split at h
  · trivial
  · split at h <;> simp at h
    rename_i hk
    simp at hk
    subst hk; subst h
    simp only [Den1] at hv ⊢; rw [hv, hC]
  · split at h <;> simp at h
    rename_i hk
    simp at hk
    subst hk; subst h
    simp only [Den1] at hv ⊢; rw [hv, hC]
  · split at h <;> simp at h
    rename_i hk
    obtain ⟨h1, h2⟩ := Bool.and_eq_true_iff.1 hk
    simp at h1 h2
    subst h1; subst h2
    exact hv
  · simp at h; subst h; simp only [Den1] at hv ⊢; rw [hv, hC]
  · simp at h; subst h; simp only [Den1] at hv ⊢; rw [hv, hC]
  · simp at h; subst h; simp only [Den1] at hv ⊢; rw [hv, hC]
  · split at h <;> simp at h
    rename_i hk
    simp at hk
    subst hk
    exact hv
  · simp at h; subst h; simp only [Den1] at hv ⊢; rw [hv, hC]
  · exact hv
  · rename_i e L
    simp at h
    subst h
    simp only [Den1] at hv ⊢
    subst hv
    have hC : L () = [] := hC
    exact ⟨none, 0, by rw [hC]; rfl, by rw [hC]; simp, by rw [hC]; simp⟩
  · exact hv
  · split at h <;> simp at h
    rename_i hk
    obtain ⟨h1, h3⟩ := Bool.and_eq_true_iff.1 hk
    obtain ⟨h1, h2⟩ := Bool.and_eq_true_iff.1 h1
    have h1 := beq_eq h1
    have h2 := beq_eq h2
    have h3 : _ < n := leN h3
    subst h1; subst h2
    obtain ⟨b, h4, h5⟩ := hv
    exact ⟨b, by simp [Ev.trim, h3, h4], h5⟩
  · split at h <;> simp at h
    rename_i hk
    obtain ⟨h1, h3⟩ := Bool.and_eq_true_iff.1 hk
    have h1 := beq_eq h1
    have h3 : _ < n := leN h3
    subst h1
    obtain ⟨b, h4, h5⟩ := hv
    exact ⟨b, by simp [Ev.trim, h3, h4], h5⟩
  · split at h <;> simp at h
    rename_i f hf
    subst h
    obtain ⟨rfl, h1⟩ := castL_id hf
    simp only [Den1] at hv ⊢
    have : _ = _ := hC
    rw [h1] at this
    rw [← this]; exact hv
  · split at h <;> simp at h
    rename_i hk
    obtain ⟨h1, h3⟩ := Bool.and_eq_true_iff.1 hk
    obtain ⟨h1, h2⟩ := Bool.and_eq_true_iff.1 h1
    have h1 := beq_eq h1
    have h2 := beq_eq h2
    have h3 : _ < n := leN h3
    subst h1; subst h2
    obtain ⟨h4, h5, h6⟩ := hv
    exact ⟨h4, by simpa [Ev.trim, h3] using h5, by simpa [Ev.trim, h3] using h6⟩
  · split at h <;> simp at h
    rename_i hk
    obtain ⟨h1, h3⟩ := Bool.and_eq_true_iff.1 hk
    obtain ⟨h1, h2⟩ := Bool.and_eq_true_iff.1 h1
    have h1 := beq_eq h1
    have h2 := eqNs_eq h2
    subst h1; subst h2
    obtain ⟨vs, h4, h5⟩ := hv
    refine ⟨vs, h4, ?_⟩
    exact caps_trim h5 h3
  · cases h

theorem sub1s_sound {n : Nat} : ∀ {l m : List SV1} {Cs : List (U Prop)} {vs : List Value}, sub1s n l m = some Cs → (∀ C ∈ Cs, C ()) → All2 (Den1 ρ) l vs → All2 (Den1 (ρ.trim n)) m vs
  | [], [], Cs, vs, h, _, hv => by cases hv; exact .nil
  | x :: l, y :: m, Cs, vs, h, hC, hv => by
    simp only [sub1s] at h
    split at h <;> (try cases h)
    rename_i C h1
    split at h <;> cases h
    rename_i Cs h2
    cases hv with
    | cons hx hl => exact .cons (sub1_sound h1 (hC C (by simp)) hx) (sub1s_sound h2 (fun D hD => hC D (by simp [hD])) hl)
  | [], _ :: _, _, _, h, _, _ => by cases h
  | _ :: _, [], _, _, h, _, _ => by cases h
theorem sub2_sound {n : Nat} {x y : SV2} {Cs : List (U Prop)} (h : sub2 n x y = some Cs) (hC : ∀ C ∈ Cs, C ()) {v : Value} (hv : Den2 ρ x v) : Den2 (ρ.trim n) y v := by
  unfold sub2 at h
  split at h
  · trivial
  · split at h <;> cases h
    rename_i C h1
    exact sub1_sound h1 (hC C (by simp)) hv
  · obtain ⟨vs, h1, h2⟩ := hv; exact ⟨vs, h1, sub1s_sound h hC h2⟩
  · split at h <;> (try cases h)
    rename_i hb
    have hb := beq_eq hb
    subst hb
    obtain ⟨vs, h1, h2⟩ := hv; exact ⟨vs, h1, sub1s_sound h hC h2⟩
  · cases h
theorem sub2s_sound {n : Nat} : ∀ {l m : List SV2} {Cs : List (U Prop)} {vs : List Value}, sub2s n l m = some Cs → (∀ C ∈ Cs, C ()) → All2 (Den2 ρ) l vs → All2 (Den2 (ρ.trim n)) m vs
  | [], [], Cs, vs, h, _, hv => by cases hv; exact .nil
  | x :: l, y :: m, Cs, vs, h, hC, hv => by
    simp only [sub2s] at h
    split at h <;> (try cases h)
    rename_i C h1
    split at h <;> cases h
    rename_i Cs h2
    cases hv with
    | cons hx hl => exact .cons (sub2_sound h1 (fun D hD => hC D (by simp [hD])) hx) (sub2s_sound h2 (fun D hD => hC D (by simp [hD])) hl)
  | [], _ :: _, _, _, h, _, _ => by cases h
  | _ :: _, [], _, _, h, _, _ => by cases h
theorem subV_sound {n : Nat} {x y : SV} {Cs : List (U Prop)} (h : subV n x y = some Cs) (hC : ∀ C ∈ Cs, C ()) {v : Value} (hv : Den ρ x v) : Den (ρ.trim n) y v := by
  unfold subV at h
  split at h
  · trivial
  · exact sub2_sound h hC hv
  · obtain ⟨vs, h1, h2⟩ := hv; exact ⟨vs, h1, sub2s_sound h hC h2⟩
  · cases h
theorem subT_sound {n : Nat} {tm : List (Nat × SV)} : ∀ {l : List (Nat × SV)} {Cs : List (U Prop)}, subT n tm l = some Cs → (∀ C ∈ Cs, C ()) → ∀ t y, look l t = some y → ∃ x Ds, look tm t = some x ∧ subV n x y = some Ds ∧ ∀ C ∈ Ds, C ()
  | [], Cs, h, _, t, y, hl => by cases hl
  | (k, z) :: r, Cs, h, hC, t, y, hl => by
    simp only [subT] at h
    split at h <;> (try cases h)
    rename_i x hx
    split at h <;> (try cases h)
    rename_i C h1
    split at h <;> cases h
    rename_i Cs h2
    rw [look_cons] at hl
    split at hl
    · rename_i e
      subst e
      cases hl
      exact ⟨x, C, hx, h1, fun D hD => hC D (by simp [hD])⟩
    · exact subT_sound h2 (fun D hD => hC D (by simp [hD])) t y hl

theorem castM_id {ks ks' : KT} {e e' : Ty} {f : List (ks.T × e.T) → List (ks'.T × e'.T)} (h : castM ks ks' e e' = some f) : ∃ (h1 : ks = ks') (h2 : e = e'), ∀ x, f x = (by subst h1; subst h2; exact x) := by
  unfold castM at h
  split at h
  · rename_i fk hk
    split at h
    · rename_i g hg
      obtain ⟨rfl, h3⟩ := castT_id hg
      have : ∃ h1 : ks = ks', ∀ x, fk x = h1 ▸ x := by
        cases ks <;> cases ks' <;> simp only [castK, reduceCtorEq] at hk
        · split at hk <;> simp at hk
          rename_i he
          simp at he
          subst he; subst hk
          exact ⟨rfl, fun _ => rfl⟩
        · simp at hk; subst hk; exact ⟨rfl, fun _ => rfl⟩
        · obtain ⟨rfl, h5⟩ := castT_id hk
          exact ⟨rfl, h5⟩
      obtain ⟨rfl, h4⟩ := this
      refine ⟨rfl, rfl, fun x => ?_⟩
      simp only [Option.some.injEq] at h
      subst h
      simp [h3, h4]
    · cases h
  · cases h

theorem subC_sound [SubA A] {n i : Nat} (hi : i < n) {c d : Chunk A} {Cs : List (U Prop)} (h : subC n c d = some Cs) (hC : ∀ C ∈ Cs, C ()) (hc : HoldsC AI ρ w i c) : HoldsC AI (ρ.trim n) w i d := by
  have e1 : (ρ.trim n).root i = ρ.root i := by simp [Ev.trim, hi]
  have e2 : (ρ.trim n).ver i = ρ.ver i := by simp [Ev.trim, hi]
  have e3 : (ρ.trim n).foot i = ρ.foot i := by simp [Ev.trim, hi]
  unfold subC at h
  split at h
  · trivial
  · simp only [HoldsC, e1, e2, e3] at hc ⊢; exact hc
  · split at h <;> (try cases h)
    rename_i hb
    have hb := beq_eq hb
    subst hb
    obtain ⟨b, vs, h1, h2, h3, h4⟩ := hc
    exact ⟨b, vs, e1.trans h1, e3.trans h2, h3, sub1s_sound h hC h4⟩
  · split at h <;> (try cases h)
    rename_i hb
    obtain ⟨hb1, hb2⟩ := Bool.and_eq_true_iff.1 hb
    have hb1 := beq_eq hb1
    subst hb1
    have hb2 := beq_eq hb2
    subst hb2
    split at h <;> cases h
    rename_i f hf
    obtain ⟨rfl, h1⟩ := castL_id hf
    have h2 := hC _ (List.mem_cons_self ..)
    rw [h1] at h2
    obtain ⟨h3, h4⟩ := hc
    exact ⟨h3.trans e2.symm, by rw [e1, e3, ← h2]; exact h4⟩
  · split at h <;> (try cases h)
    rename_i f hf
    obtain ⟨rfl, rfl, h1⟩ := castM_id hf
    have h2 := hC _ (List.mem_cons_self ..)
    rw [h1] at h2
    obtain ⟨b, es, clock, h3, h4, h5, h6⟩ := hc
    exact ⟨b, es, clock, e1.trans h3, e3.trans h4, h5, by rw [← h2]; exact h6⟩
  · split at h <;> (try cases h)
    rename_i hb
    obtain ⟨hb1, hb2⟩ := Bool.and_eq_true_iff.1 hb
    have hb1 := beq_eq hb1
    subst hb1
    have hj : _ < n := leN hb2
    split at h <;> (try cases h)
    rename_i f hf
    obtain ⟨rfl, rfl, h1⟩ := castM_id hf
    have h2 := hC _ (List.mem_cons_self ..)
    have h2' := hC _ (List.mem_cons_of_mem _ (List.mem_cons_self ..))
    rw [h1] at h2 h2'
    obtain ⟨b, r, h3, h4, h5, h6, es, clock, since, seen, a1, a2, a3, a4, a5, a6, a7⟩ := hc
    refine ⟨b, r, e1.trans h3, by simp only [Ev.trim, if_pos hj]; exact h4, e3.trans h5, h6, es, clock, since, seen, a1, a2, by rw [← h2]; exact a3, a4, a5, by rw [← h2']; exact a6, fun p e => by cases e⟩
  · split at h <;> (try cases h)
    obtain ⟨h1, r, h2⟩ := hc
    exact ⟨e3.trans h1, r, e1.trans h2⟩
  · split at h <;> cases h
    rename_i hb
    simp only [Bool.and_eq_true, beqN_iff] at hb
    obtain ⟨⟨⟨rfl, rfl⟩, rfl⟩, rfl⟩ := hb
    have h2 := hC _ (List.mem_cons_self ..)
    obtain ⟨h3, h4⟩ := hc
    exact ⟨h3.trans e2.symm, by rw [e1, e3, ← h2]; exact h4.congrM rfl⟩
  · split at h <;> cases h
    rename_i hb
    simp only [Bool.and_eq_true, beqN_iff] at hb
    obtain ⟨⟨⟨⟨⟨rfl, rfl⟩, rfl⟩, rfl⟩, rfl⟩, hj⟩ := hb
    have hj : _ < n := leN hj
    have h2 := hC _ (List.mem_cons_self ..)
    have h2' := hC _ (List.mem_cons_of_mem _ (List.mem_cons_self ..))
    obtain ⟨h3, h4⟩ := hc
    exact ⟨h3.trans e2.symm, by rw [e1, e3, ← h2]; exact NestAt.congrH (ρ := ρ) rfl h2' (fun v hv => by simpa only [Den1, Ev.trim, if_pos hj] using hv) h4⟩
  · split at h <;> cases h
    rename_i hb
    have hb := beq_eq hb
    subst hb
    have h2 := hC _ (List.mem_cons_self ..)
    have hc : MnAt _ ρ w _ none (ρ.root i) (ρ.foot i) := hc
    show MnAt _ (ρ.trim n) w _ none ((ρ.trim n).root i) ((ρ.trim n).foot i)
    rw [e1, e3, ← h2]
    exact hc.stays' (fun _ _ _ h => h) (fun _ _ e => by cases e) fun _ _ => rfl
  · split at h <;> cases h
    rename_i C h1
    have := SubA.sound _ _ _ h1 (hC C (by simp))
    subst this
    simp only [HoldsC, e1, e3] at hc ⊢; exact hc
  · cases h

theorem subCs_sound [SubA A] {n : Nat} : ∀ {l m : List (Chunk A)} {Cs : List (U Prop)}, subCs n l m = some Cs → (∀ C ∈ Cs, C ()) → ∀ (i : Nat) d, m[i]? = some d → ∃ c Ds, l[i]? = some c ∧ subC n c d = some Ds ∧ ∀ C ∈ Ds, C ()
  | _, [], _, _, _, i, d, h => by simp at h
  | c :: l, x :: m, Cs, h, hC, i, d, hi => by
    simp only [subCs] at h
    split at h <;> (try cases h)
    rename_i C h1
    split at h <;> cases h
    rename_i Cs h2
    cases i with
    | zero => simp at hi; subst hi; exact ⟨c, C, rfl, h1, fun D hD => hC D (by simp [hD])⟩
    | succ i =>
      obtain ⟨c', Ds, h3, h4, h5⟩ := subCs_sound h2 (fun D hD => hC D (by simp [hD])) i d (by simpa using hi)
      exact ⟨c', Ds, by simpa using h3, h4, h5⟩
  | [], _ :: _, _, h, _, _, _, _ => by cases h

theorem sub_core [SubA A] {t : SS A} {n0 : Nat} (hn0 : G.n0 = n0) {C D : List (U Prop)} (h1 : subT t.H.length s.tm t.tm = some C) (h2 : subCs t.H.length s.H t.H = some D) (h3 : n0 ≤ t.H.length) (hC : ∀ X ∈ C, X ()) (hD : ∀ X ∈ D, X ()) (hs : Sat AI G s a w) : Sat AI G t a w := by
  obtain ⟨hd, ρ, hh⟩ := hs
  have hfoot : ∀ i b, b ∈ (ρ.trim t.H.length).foot i → b ∈ ρ.foot i := by
    intro i b hb
    simp only [Ev.trim] at hb
    split at hb
    · exact hb
    · cases hb
  refine ⟨hd, ρ.trim t.H.length, ⟨hh.sz, hh.gt, fun k y hk => ?_, fun i => ?_, fun i j b hij hi hj => hh.dis i j b hij (hfoot i b hi) (hfoot j b hj), fun i b hb => hh.lt i b (hfoot i b hb), fun b o v hm => ⟨(hh.im b o v hm).1, fun i hb => (hh.im b o v hm).2 i (hfoot i b hb)⟩,
    hh.os, hh.tape, hh.output, hh.grow, hh.kept, fun i b hb => hh.fro i b (hfoot i b hb), fun i b hi hb => ?_, fun i hi => ?_, hh.mono, hh.mfr⟩⟩
  · obtain ⟨x, Ds, h4, h5, h6⟩ := subT_sound h1 hC k y hk
    obtain ⟨u, h7, h8⟩ := hh.tm k x h4
    exact ⟨u, h7, subV_sound h5 h6 h8⟩
  · by_cases hi : i < t.H.length
    · obtain ⟨c, Ds, h4, h5, h6⟩ := subCs_sound h2 hD i _ (List.getElem?_eq_getElem hi)
      have e1 : getC t.H i = t.H[i] := by unfold getC; rw [nth_eq, List.getElem?_eq_getElem hi]
      have e2 : getC s.H i = c := by unfold getC; rw [nth_eq, h4]
      rw [e1]
      exact subC_sound hi h5 h6 (e2 ▸ hh.ch i)
    · rw [getC_beyond (by omega)]
      simp [HoldsC, Ev.trim, hi]
  · have : i < t.H.length := by omega
    simp only [Ev.trim, if_pos this]
    exact hh.rt i b hi hb
  · have : i < t.H.length := by omega
    simp only [Ev.trim, if_pos this]
    exact hh.rts i hi

/-! ### versions -/
def Ev.anew (ρ : Ev) (n0 : Nat) : Ev := { ρ with ver := fun i => if i < n0 then ρ.ver i else 0 }

theorem vers_get : ∀ {H : List (Chunk A)} {i u : Nat}, nth (vers H) i = some (some u) → (∃ t e L, getC H i = .row t e u L) ∨ ∃ t tb z L q, getC H i = .nest t tb z u L q
  | [], i, u, h => by cases h
  | c :: r, 0, u, h => by
    cases c <;> simp [vers, nth] at h
    · subst h
      exact .inl ⟨_, _, _, rfl⟩
    · subst h
      exact .inr ⟨_, _, _, _, _, rfl⟩
  | c :: r, i + 1, u, h => by
    have : nth (vers r) i = some (some u) := by cases c <;> simpa [vers, nth] using h
    rcases vers_get this with ⟨t, e, L, h1⟩ | ⟨t, tb, z, L, q, h1⟩
    · exact .inl ⟨t, e, L, by simpa [getC, nth] using h1⟩
    · exact .inr ⟨t, tb, z, L, q, by simpa [getC, nth] using h1⟩

theorem norm1_den {n0 : Nat} {H : List (Chunk A)} (hH : ∀ i, HoldsC AI ρ w i (getC H i)) {x : SV1} {v : Value} (hv : Den1 ρ x v) : Den1 (ρ.anew n0) (norm1 n0 (vers H) x) v := by
  have low : ∀ {i : Nat}, bltN i n0 = true → (ρ.anew n0).ver i = ρ.ver i := by
    intro i h
    have : i < n0 := leN h
    simp [Ev.anew, this]
  cases x <;> simp only [norm1]
  case hd i ver =>
    split
    · rename_i h
      simp only [Den1] at hv ⊢
      rw [low h]; exact hv
    · rename_i h
      have hge : ¬ i < n0 := fun e => by rw [show bltN i n0 = true from geN e] at h; cases h
      split
      · rename_i u hu
        split
        · rename_i hb
          have hb := beq_eq hb
          subst hb
          have h2 := hH i
          have h3 : u = ρ.ver i := by
            rcases vers_get hu with ⟨t, e, L, h1⟩ | ⟨t, tb, z, L, q, h1⟩
            · rw [h1] at h2; exact h2.1
            · rw [h1] at h2; exact h2.1
          obtain ⟨h4, h5, h6⟩ := hv
          exact ⟨h4, by simp, fun _ => h6 h3⟩
        · trivial
      · trivial
  case vw i ver esz lo n =>
    split
    · rename_i h
      simp only [Den1] at hv ⊢
      rw [low h]; exact hv
    · trivial
  case ep i ver esz k off =>
    split
    · rename_i h
      simp only [Den1] at hv ⊢
      rw [low h]; exact hv
    · trivial
  all_goals exact hv

theorem All2.mapL {α β γ : Type} {R : α → β → Prop} {R' : γ → β → Prop} {f : α → γ} {l : List α} {m : List β} (h : All2 R l m) (hf : ∀ a b, R a b → R' (f a) b) : All2 R' (l.map f) m := by
  induction h with
  | nil => exact .nil
  | cons h _ ih => exact .cons (hf _ _ h) ih

theorem norm2_den {n0 : Nat} {H : List (Chunk A)} (hH : ∀ i, HoldsC AI ρ w i (getC H i)) {x : SV2} {v : Value} (hv : Den2 ρ x v) : Den2 (ρ.anew n0) (norm2 n0 (vers H) x) v := by
  cases x with
  | one x => exact norm1_den hH hv
  | agg l => obtain ⟨vs, h1, h2⟩ := hv; exact ⟨vs, h1, h2.mapL fun _ _ => norm1_den hH⟩
  | fn f l => obtain ⟨vs, h1, h2⟩ := hv; exact ⟨vs, h1, h2.mapL fun _ _ => norm1_den hH⟩
theorem normV_den {n0 : Nat} {H : List (Chunk A)} (hH : ∀ i, HoldsC AI ρ w i (getC H i)) {x : SV} {v : Value} (hv : Den ρ x v) : Den (ρ.anew n0) (normV n0 (vers H) x) v := by
  cases x with
  | val x => exact norm2_den hH hv
  | tup l => obtain ⟨vs, h1, h2⟩ := hv; exact ⟨vs, h1, h2.mapL fun _ _ => norm2_den hH⟩

theorem normT_look {n0 : Nat} {vs : List (Option Nat)} : ∀ {tm : List (Nat × SV)} {t : Nat} {v : SV}, look (normT n0 vs tm) t = some v → ∃ u, look tm t = some u ∧ v = normV n0 vs u
  | [], t, v, h => by cases h
  | (k, x) :: r, t, v, h => by
    simp only [normT] at h
    rw [look_cons] at h
    split at h
    · rename_i e; cases h; exact ⟨x, by rw [look_cons, if_pos e], rfl⟩
    · rename_i e
      obtain ⟨u, h1, h2⟩ := normT_look h
      exact ⟨u, by rw [look_cons, if_neg e]; exact h1, h2⟩
theorem normCs_get {n0 : Nat} {vs : List (Option Nat)} : ∀ {H : List (Chunk A)} {k i : Nat}, getC (normCs n0 vs k H) i = normC n0 vs (k + i) (getC H i)
  | [], k, i => rfl
  | c :: r, k, 0 => rfl
  | c :: r, k, i + 1 => by
    have := normCs_get (n0 := n0) (vs := vs) (H := r) (k := k + 1) (i := i)
    simp only [getC, normCs, nth] at this ⊢
    rw [this, show k + 1 + i = k + (i + 1) by omega]

theorem norm_sound {n0 : Nat} (hn0 : G.n0 = n0) (hs : Sat AI G s a w) : Sat AI G (norm n0 s) a w := by
  obtain ⟨hd, ρ, hh⟩ := hs
  refine ⟨hd, ρ.anew n0, ⟨hh.sz, hh.gt, fun t v ht => ?_, fun i => ?_, hh.dis, hh.lt, hh.im, hh.os, hh.tape, hh.output, hh.grow, hh.kept, hh.fro, hh.rt, fun i hi => ?_, hh.mono, hh.mfr⟩⟩
  · obtain ⟨u, h1, rfl⟩ := normT_look ht
    obtain ⟨x, h2, h3⟩ := hh.tm t u h1
    exact ⟨x, h2, normV_den hh.ch h3⟩
  · show HoldsC AI (ρ.anew n0) w i (getC (normCs n0 (vers s.H) 0 s.H) i)
    rw [normCs_get, Nat.zero_add]
    have hc := hh.ch i
    cases hg : getC s.H i with
    | emp =>
      rw [hg] at hc
      obtain ⟨h1, h2, h3⟩ := hc
      exact ⟨h1, h2, by simp [Ev.anew, h3]⟩
    | gone => trivial
    | cells t cs =>
      rw [hg] at hc
      obtain ⟨b, vs, h1, h2, h3, h4⟩ := hc
      exact ⟨b, vs, h1, h2, h3, h4.mapL fun _ _ => norm1_den hh.ch⟩
    | map ks e L => rw [hg] at hc; exact hc
    | rmap ks e L R c j => rw [hg] at hc; exact hc
    | itp q => rw [hg] at hc; exact hc
    | row t e v L =>
      rw [hg] at hc
      obtain ⟨h1, h2⟩ := hc
      simp only [normC]
      split
      · rename_i h
        have : i < n0 := leN h
        exact ⟨by simp [Ev.anew, this]; exact h1, h2⟩
      · rename_i h
        have hge : ¬ i < n0 := fun e => by rw [show bltN i n0 = true from geN e] at h; cases h
        exact ⟨by simp [Ev.anew, hge], h2⟩
    | mnest tb L q =>
      rw [hg] at hc
      cases q with
      | some q => trivial
      | none =>
        have hc : MnAt tb ρ w (L ()) none (ρ.root i) (ρ.foot i) := hc
        exact hc.stays' (ρ' := ρ.anew n0) (fun _ _ _ h => h) (fun _ _ e => by cases e) fun _ _ => rfl
    | nest t tb z v L q =>
      rw [hg] at hc
      cases q with
      | some q =>
        obtain ⟨k, j⟩ := q
        obtain ⟨h1, h2⟩ := hc
        simp only [normC]
        split
        · rename_i i' u' hj
          have hden : ∀ v, Den1 ρ (.hd j 0) v → Den1 (ρ.anew n0) (.hd j 0) v := by
            intro v hv
            have h3 := norm1_den (n0 := n0) hh.ch hv
            have e : norm1 n0 (vers s.H) (.hd j 0) = .hd j 0 := by
              simp only [norm1] at hj ⊢
              repeat' (split at hj)
              all_goals first | rfl | cases hj
            rwa [e] at h3
          split
          · rename_i h
            have : i < n0 := leN h
            exact ⟨by simp [Ev.anew, this]; exact h1, NestAt.congrH (ρ := ρ) rfl rfl hden h2⟩
          · rename_i h
            have hge : ¬ i < n0 := fun e => by rw [show bltN i n0 = true from geN e] at h; cases h
            exact ⟨by simp [Ev.anew, hge], NestAt.congrH (ρ := ρ) rfl rfl hden h2⟩
        · trivial
      | none =>
        obtain ⟨h1, h2⟩ := hc
        simp only [normC]
        split
        · rename_i h
          have : i < n0 := leN h
          exact ⟨by simp [Ev.anew, this]; exact h1, h2.congrM rfl⟩
        · rename_i h
          have hge : ¬ i < n0 := fun e => by rw [show bltN i n0 = true from geN e] at h; cases h
          exact ⟨by simp [Ev.anew, hge], h2.congrM rfl⟩
    | abs x => rw [hg] at hc; exact hc
  · have : i < n0 := by omega
    simp only [Ev.anew, if_pos this]
    exact hh.rts i hi

/-! ### freezing -/
theorem map2_den {ρ' : Ev} {f : SV1 → SV1} (hf : ∀ x v, Den1 ρ x v → Den1 ρ' (f x) v) {x : SV2} {v : Value} (hv : Den2 ρ x v) : Den2 ρ' (map2 f x) v := by
  cases x with
  | one x => exact hf _ _ hv
  | agg l => obtain ⟨vs, h1, h2⟩ := hv; exact ⟨vs, h1, h2.mapL hf⟩
  | fn f l => obtain ⟨vs, h1, h2⟩ := hv; exact ⟨vs, h1, h2.mapL hf⟩
theorem mapV_den {ρ' : Ev} {f : SV1 → SV1} (hf : ∀ x v, Den1 ρ x v → Den1 ρ' (f x) v) {x : SV} {v : Value} (hv : Den ρ x v) : Den ρ' (mapV f x) v := by
  cases x with
  | val x => exact map2_den hf hv
  | tup l => obtain ⟨vs, h1, h2⟩ := hv; exact ⟨vs, h1, h2.mapL fun _ _ => map2_den hf⟩
theorem mapT_look {f : SV1 → SV1} : ∀ {tm : List (Nat × SV)} {t : Nat} {v : SV}, look (mapT f tm) t = some v → ∃ u, look tm t = some u ∧ v = mapV f u
  | [], t, v, h => by cases h
  | (k, x) :: r, t, v, h => by
    simp only [mapT] at h
    rw [look_cons] at h
    split at h
    · rename_i e; cases h; exact ⟨x, by rw [look_cons, if_pos e], rfl⟩
    · rename_i e
      obtain ⟨u, h1, h2⟩ := mapT_look h
      exact ⟨u, by rw [look_cons, if_neg e]; exact h1, h2⟩
theorem frzCs_get {n : Nat} {H0 : List (Chunk A)} : ∀ {H : List (Chunk A)} {k i : Nat}, getC (frzCs n H0 k H) i = frzC n H0 (k + i) (getC H i)
  | [], k, i => rfl
  | c :: r, k, 0 => rfl
  | c :: r, k, i + 1 => by
    have := frzCs_get (n := n) (H0 := H0) (H := r) (k := k + 1) (i := i)
    simp only [getC, frzCs, nth] at this ⊢
    rw [this, show k + 1 + i = k + (i + 1) by omega]

theorem shows_part {M : Mem} {e : Ty} {L : List e.T} {r : Value} (h : ShowsM M e L r) {lo n : Int} {v : Value} (hv : VwAt r e.size lo n v) : ShowsM M e ((L.drop lo.toNat).take n.toNat) v := by
  obtain ⟨ao, cap, rfl, h1, h2⟩ := h
  obtain ⟨ao', len, cap', h3, h4, h5, h6, h7, rfl⟩ := hv
  cases h3
  have hlen : ((L.drop lo.toNat).take n.toNat).length = n.toNat := by rw [List.length_take, List.length_drop]; omega
  refine ⟨_, _, by rw [hlen], by rw [hlen]; omega, fun hpos => ?_⟩
  rw [hlen] at hpos
  obtain ⟨b, off, rfl, h8⟩ := h2 (by omega)
  rw [if_neg (by omega)]
  refine ⟨b, off + lo.toNat * e.size, by simp [add_lit], fun j x hj => ?_⟩
  rw [List.getElem?_take] at hj
  split at hj
  · rw [List.getElem?_drop] at hj
    refine CellsM.congr e (h8 _ x hj) fun k v _ hv => ?_
    rw [← hv]
    congr 1
    rw [Nat.add_mul]; omega
  · cases hj

theorem nest_cell {tb : TypeId} {z : Nat} {L : List (List Int)} {r : Value} {F : List Nat} {M' : Mem} (hn : NestAt tb z ρ w L none r F) (hM : ∀ b o v, ρ.M b o = some v → M' b o = some v) (hF : ∀ b ∈ F, ∀ o, M' b o = w.cell? ⟨b, o, none⟩) :
    ∃ b off n cap, r = .slice (some ⟨b, off, none⟩) n cap ∧ L.length = n * z ∧ n ≤ cap ∧ ∀ m x, L[m]? = some x → ∃ v, M' b (off + m) = some v ∧ ShowsM M' (.int .i64) x v := by
  obtain ⟨b, off, n, cap, h1, h2, h3, h4, ⟨blk, b1, b2, b3, b4⟩, h6, h7⟩ := hn
  refine ⟨b, off, n, cap, h1, h2, h3, fun m x hm => ?_⟩
  obtain ⟨v, c1, hr⟩ := b4 m x hm
  refine ⟨v, (hF b ((b1 b).2 (.inl rfl)) _).trans c1, rowAt_showsF hr hM fun y hy o => hF y ((b1 y).2 (.inr ⟨m, (List.getElem?_eq_some_iff.1 hm).1, hy⟩)) o⟩
theorem nest_shows1 {tb : TypeId} {L : List (List Int)} {r : Value} {F : List Nat} {M' : Mem} (hn : NestAt tb 1 ρ w L none r F) (hM : ∀ b o v, ρ.M b o = some v → M' b o = some v) (hF : ∀ b ∈ F, ∀ o, M' b o = w.cell? ⟨b, o, none⟩) : ShowsM M' (.lst (.int .i64)) L r := by
  obtain ⟨b, off, n, cap, h1, h2, h3, h4⟩ := nest_cell hn hM hF
  refine ⟨some ⟨b, off, none⟩, cap, by rw [h1, h2, Nat.mul_one], by omega, fun _ => ⟨b, off, rfl, fun j x hj => ?_⟩⟩
  obtain ⟨v, e1, e2⟩ := h4 j x hj
  refine cellsM_lst.2 ⟨v, ?_, e2⟩
  show M' b (off + j * 1 + 0) = some v
  rw [Nat.mul_one, Nat.add_zero]; exact e1
theorem pairUp_length {α : Type} : ∀ {L : List α} {n : Nat}, L.length = n * 2 → (pairUp L).length = n
  | [], n, h => by simp at h; simp [pairUp]; omega
  | [a], n, h => by simp at h; omega
  | a :: b :: r, n, h => by
    simp only [List.length_cons] at h
    simp only [pairUp, List.length_cons]
    have := pairUp_length (L := r) (n := n - 1) (by omega)
    omega
theorem pairUp_get {α : Type} : ∀ {L : List α} {j : Nat} {x : α × α}, (pairUp L)[j]? = some x → L[j * 2]? = some x.1 ∧ L[j * 2 + 1]? = some x.2
  | [], j, x, h => by simp [pairUp] at h
  | [a], j, x, h => by simp [pairUp] at h
  | a :: b :: r, 0, x, h => by simp [pairUp] at h; subst h; exact ⟨rfl, rfl⟩
  | a :: b :: r, j + 1, x, h => by
    simp only [pairUp, List.getElem?_cons_succ] at h
    have := pairUp_get (L := r) h
    rw [show (j + 1) * 2 = j * 2 + 1 + 1 by omega]
    simpa using this
theorem nest_shows2 {tb : TypeId} {L : List (List Int)} {r : Value} {F : List Nat} {M' : Mem} (hn : NestAt tb 2 ρ w L none r F) (hM : ∀ b o v, ρ.M b o = some v → M' b o = some v) (hF : ∀ b ∈ F, ∀ o, M' b o = w.cell? ⟨b, o, none⟩) : ShowsM M' (.pair (.lst (.int .i64)) (.lst (.int .i64))) (pairUp L) r := by
  obtain ⟨b, off, n, cap, h1, h2, h3, h4⟩ := nest_cell hn hM hF
  have hl : (pairUp L).length = n := pairUp_length h2
  refine ⟨some ⟨b, off, none⟩, cap, by rw [h1, hl], by omega, fun _ => ⟨b, off, rfl, fun j x hj => ?_⟩⟩
  obtain ⟨g1, g2⟩ := pairUp_get hj
  obtain ⟨v1, e1, e2⟩ := h4 _ _ g1
  obtain ⟨v2, e3, e4⟩ := h4 _ _ g2
  refine ⟨cellsM_lst.2 ⟨v1, ?_, e2⟩, cellsM_lst.2 ⟨v2, ?_, e4⟩⟩
  · show M' b (off + j * 2 + 0) = some v1
    rw [Nat.add_zero]; exact e1
  · show M' b (off + j * 2 + (1 + 0)) = some v2
    rw [Nat.add_zero, Nat.add_assoc]; exact e3
theorem frz_sound (n : Nat) (hs : Sat AI G s a w) : Sat AI G (frz n s) a w := by
  obtain ⟨hd, ρ, hh⟩ := hs
  let S : Nat → Prop := fun i => n ≤ i ∧ isRow (getC s.H i) = true
  have hM : ∀ b o v, ρ.M b o = some v → (ρ.froze S w).M b o = some v := by
    intro b o v h
    simp only [Ev.froze]
    rw [if_neg]
    · exact h
    · rintro ⟨i, _, hi⟩; exact (hh.im b o v h).2 i hi
  have le : ρ.Le (ρ.froze S w) := ⟨hM, fun _ _ h => h, fun _ => Nat.le_refl _, fun _ _ _ => rfl⟩
  have hfoot : ∀ i b, b ∈ (ρ.froze S w).foot i → ¬ S i ∧ b ∈ ρ.foot i := by
    intro i b hb
    simp only [Ev.froze] at hb
    split at hb
    · cases hb
    · rename_i hn; exact ⟨hn, hb⟩
  have hval : ∀ x v, Den1 ρ x v → Den1 (ρ.froze S w) (frz1 n s.H x) v := by
    intro x v hv
    cases x <;> simp only [frz1]
    case hd i ver =>
      split
      · exact Den1.mono le hv
      · rename_i hb
        have hge : n ≤ i := by
          rcases Nat.lt_or_ge i n with h | h
          · rw [show bltN i n = true from geN h] at hb; cases hb
          · exact h
        have hc := hh.ch i
        generalize hg : getC s.H i = c at hc
        cases c <;> (try trivial)
        · rename_i t e u L
          dsimp only
          split
          · rename_i hbu
            have hbu := beq_eq hbu
            subst hbu
            obtain ⟨h1, h2⟩ := hc
            obtain ⟨_, _, h3⟩ := hv
            rw [h3 h1]
            exact rowAt_shows hh (S := S) ⟨hge, by rw [hg]; rfl⟩ h2 hM
          · trivial
        · rename_i t tb z u L q
          cases q <;> (try trivial)
          dsimp only
          split
          · rename_i hbu
            have hbu := beq_eq hbu
            subst hbu
            obtain ⟨h1, h2⟩ := hc
            obtain ⟨_, _, h3⟩ := hv
            have hF : ∀ b ∈ ρ.foot i, ∀ o, (ρ.froze S w).M b o = w.cell? ⟨b, o, none⟩ := fun b hb o => by
              simp only [Ev.froze]
              rw [if_pos ⟨i, ⟨hge, by rw [hg]; rfl⟩, hb⟩]
            rw [h3 h1]
            split
            · rename_i hz
              have hz := beq_eq hz
              subst hz
              exact nest_shows1 h2 hM hF
            · split
              · rename_i hz
                have hz := beq_eq hz
                subst hz
                exact nest_shows2 h2 hM hF
              · trivial
          · trivial
    case vw i ver esz lo k =>
      split
      · exact Den1.mono le hv
      · rename_i hb
        have hge : n ≤ i := by
          rcases Nat.lt_or_ge i n with h | h
          · rw [show bltN i n = true from geN h] at hb; cases hb
          · exact h
        have hc := hh.ch i
        generalize hg : getC s.H i = c at hc
        cases c <;> (try trivial)
        rename_i t e u L
        dsimp only
        split
        · rename_i hbu
          obtain ⟨hbu, hbz⟩ := Bool.and_eq_true_iff.1 hbu
          have hbu := beq_eq hbu
          have hbz := beq_eq hbz
          subst hbu; subst hbz
          obtain ⟨h1, h2⟩ := hc
          obtain ⟨_, _, _, h3⟩ := hv
          exact shows_part (rowAt_shows hh (S := S) ⟨hge, by rw [hg]; rfl⟩ h2 hM) (h3 h1)
        · trivial
    all_goals exact Den1.mono le hv
  refine ⟨hd, ρ.froze S w, ⟨hh.sz, hh.gt, fun t v ht => ?_, fun i => ?_, fun i j b hij hi hj => hh.dis i j b hij (hfoot i b hi).2 (hfoot j b hj).2, fun i b hb => hh.lt i b (hfoot i b hb).2, fun b o v hm => ?_, hh.os, hh.tape, hh.output, hh.grow, hh.kept,
    fun i b hb => hh.fro i b (hfoot i b hb).2, hh.rt, hh.rts, fun b o v hm => hM _ _ _ (hh.mono b o v hm), fun b o v hm => ?_⟩⟩
  · obtain ⟨u, h1, rfl⟩ := mapT_look ht
    obtain ⟨x, h2, h3⟩ := hh.tm t u h1
    exact ⟨x, h2, mapV_den hval h3⟩
  · show HoldsC AI (ρ.froze S w) w i (getC (frzCs n s.H 0 s.H) i)
    rw [frzCs_get, Nat.zero_add]
    have hc := hh.ch i
    have same : ¬ S i → HoldsC AI (ρ.froze S w) w i (getC s.H i) := fun hn => hc.stays le rfl rfl (by simp only [Ev.froze]; rw [if_neg hn]) fun _ _ => rfl
    cases hg : getC s.H i with
    | cells t cs =>
      rw [hg] at hc
      obtain ⟨b, vs, h1, h2, h3, h4⟩ := hc
      exact ⟨b, vs, h1, by simp only [Ev.froze]; rw [if_neg (fun h => by have := h.2; rw [hg] at this; cases this)]; exact h2, h3, h4.mapL hval⟩
    | row t e v L =>
      simp only [frzC]
      split
      · rename_i hb
        have : i < n := leN hb
        rw [← hg]; exact same fun h => absurd h.1 (by omega)
      · trivial
    | emp => simp only [frzC]; rw [← hg]; exact same fun h => by have := h.2; rw [hg] at this; cases this
    | gone => trivial
    | map ks e L => simp only [frzC]; rw [← hg]; exact same fun h => by have := h.2; rw [hg] at this; cases this
    | rmap ks e L R c j => simp only [frzC]; rw [← hg]; exact same fun h => by have := h.2; rw [hg] at this; cases this
    | itp q => simp only [frzC]; rw [← hg]; exact same fun h => by have := h.2; rw [hg] at this; cases this
    | nest t tb z v L q =>
      simp only [frzC]
      split
      · rename_i hb
        have : i < n := leN hb
        rw [← hg]; exact same fun h => absurd h.1 (by omega)
      · trivial
    | mnest tb L q => simp only [frzC]; rw [← hg]; exact same fun h => by have := h.2; rw [hg] at this; cases this
    | abs x => simp only [frzC]; rw [← hg]; exact same fun h => by have := h.2; rw [hg] at this; cases this
  · simp only [Ev.froze] at hm
    split at hm
    · rename_i hex
      obtain ⟨k, hk, hbk⟩ := hex
      refine ⟨hm, fun i hb => ?_⟩
      obtain ⟨h1, h2⟩ := hfoot i b hb
      exact hh.dis i k b (fun e => h1 (e ▸ hk)) h2 hbk
    · exact ⟨(hh.im b o v hm).1, fun i hb => (hh.im b o v hm).2 i (hfoot i b hb).2⟩
  · simp only [Ev.froze] at hm
    split at hm
    · rename_i hex
      obtain ⟨k, hk, hbk⟩ := hex
      exact .inr (hh.fro k b hbk)
    · exact hh.mfr b o v hm

/-! ### nil slices -/
theorem Holds.nilRow {tmps : Array Value} (h : Holds AI G s ρ tmps w) {k : Nat} (hk : getC s.H k = .emp) (rt : TypeId) (e : Ty) :
    ∃ ρ', Holds AI G ⟨s.tm, putC s.H k (.row rt e 0 (fun _ => []))⟩ ρ' tmps w ∧ ρ.Le ρ' ∧ Den1 ρ' (.hd k 0) (.slice none 0 0) := by
  have hc := h.ch k
  rw [hk] at hc
  obtain ⟨h1, h2, h3⟩ := hc
  obtain ⟨h4, h5⟩ := h.upd1 k (.slice none 0 0) 0 [] (.row rt e 0 (fun _ => [])) w (by rw [h2]; simp) (by omega) (by rw [h2]; simp) (by simp) (fun _ _ _ => rfl) rfl rfl rfl (Nat.le_refl _)
    ⟨by simp [Ev.upd], .inl ⟨⟨none, by simp [Ev.upd]⟩, rfl, by simp [Ev.upd]⟩⟩
  exact ⟨_, h4, h5, ⟨⟨_, _, _, rfl⟩, by simp [Ev.upd], fun _ => by simp [Ev.upd]⟩⟩

theorem absT_sound {H' : List (Chunk A)} : ∀ {l : List (Nat × SV)} {s : SS A}, Sat AI G s a w → Sat AI G (absT H' l s) a w
  | [], s, hs => hs
  | (t, y) :: r, s, hs => by
    simp only [absT]
    split
    · rename_i k
      split
      · rename_i ht
        split
        · rename_i hk
          split
          · rename_i rt e _ _
            refine absT_sound ?_
            obtain ⟨hd, ρ, hh⟩ := hs
            obtain ⟨ρ', h1, h2, h3⟩ := hh.nilRow hk rt e
            refine ⟨hd, ρ', h1.retm fun q v hq => ?_⟩
            rw [look_cons] at hq
            split at hq
            · rename_i e; subst e; cases hq
              obtain ⟨u, h4, h5⟩ := hh.tm t _ ht
              have h5 : u = .slice none 0 0 := h5
              subst h5
              exact ⟨_, h4, h3⟩
            · exact h1.tm q v hq
          · exact absT_sound hs
        · exact absT_sound hs
      · exact absT_sound hs
    · exact absT_sound hs

theorem All2.setNth {ρ : Ev} {l : List SV1} {vs : List Value} (h : All2 (Den1 ρ) l vs) {y : SV1} : ∀ {j : Nat}, (∀ v, vs[j]? = some v → Den1 ρ y v) → All2 (Den1 ρ) (Sx.setNth l j y) vs := by
  induction h with
  | nil => intro j _; cases j <;> exact .nil
  | cons h1 h2 ih =>
    intro j hy
    cases j with
    | zero => exact .cons (hy _ rfl) h2
    | succ j => exact .cons h1 (ih fun v hv => hy v (by simpa using hv))

theorem absL_sound {H' : List (Chunk A)} {c : Nat} : ∀ {l : List SV1} {j : Nat} {s : SS A}, Sat AI G s a w → Sat AI G (absL H' c j l s) a w
  | [], j, s, hs => hs
  | y :: r, j, s, hs => by
    simp only [absL]
    split
    · rename_i k
      split
      · rename_i ct l hc
        split
        · rename_i hn
          split
          · rename_i hk
            split
            · rename_i rt e _ _
              refine absL_sound ?_
              obtain ⟨hd, ρ, hh⟩ := hs
              obtain ⟨ρ', h1, h2, h3⟩ := hh.nilRow hk rt e
              have hne : c ≠ k := fun e => by rw [e, hk] at hc; cases hc
              have h4 := h1.ch c
              dsimp only at h4
              rw [getC_putC, if_neg hne, hc] at h4
              obtain ⟨b, vs, h5, h6, h7, h8⟩ := h4
              have h9 := hh.ch c
              rw [hc] at h9
              obtain ⟨b', vs', h5', h6', h7', h8'⟩ := h9
              have : vs' = vs := by
                have hb : b' = b := by have := h2.ptr c b' h5'; rw [h5] at this; cases this; rfl
                subst hb
                rw [h7] at h7'
                simpa using (Option.some.inj h7').symm
              subst this
              obtain ⟨u, h10, h11⟩ := h8'.nth hn
              have h11 : u = .slice none 0 0 := h11
              subst h11
              refine ⟨hd, ρ', ?_⟩
              have h12 : All2 (Den1 ρ') (Sx.setNth l j (.hd k 0)) vs' := h8.setNth fun v hv => by rw [h10] at hv; cases hv; exact h3
              refine ⟨h1.sz, h1.gt, h1.tm, fun q => ?_, h1.dis, h1.lt, h1.im, h1.os, h1.tape, h1.output, h1.grow, h1.kept, h1.fro, h1.rt, h1.rts, h1.mono, h1.mfr⟩
              show HoldsC AI ρ' w q (getC (putC (putC s.H k _) c _) q)
              rw [getC_putC]
              split
              · rename_i e; subst e; exact ⟨b, vs', h5, h6, h7, h12⟩
              · exact h1.ch q
            · exact absL_sound hs
          · exact absL_sound hs
        · exact absL_sound hs
      · exact absL_sound hs
    · exact absL_sound hs

theorem absC_sound {H' : List (Chunk A)} : ∀ {l : List (Chunk A)} {c : Nat} {s : SS A}, Sat AI G s a w → Sat AI G (absC H' c l s) a w
  | [], c, s, hs => hs
  | d :: r, c, s, hs => by
    simp only [absC]
    split
    · exact absC_sound (absL_sound hs)
    · exact absC_sound hs

theorem absorb_sound {t : SS A} (hs : Sat AI G s a w) : Sat AI G (absorb t s) a w := absC_sound (absT_sound hs)

/-! ### maps that are not ranged over any more -/
theorem unr_get : ∀ {H H' : List (Chunk A)} {i : Nat}, getC (unr H H') i = unrC (getC H i) (getC H' i) ∨ getC (unr H H') i = getC H i
  | [], [], i => .inr rfl
  | c :: r, [], i => .inr rfl
  | [], d :: m, i => .inr rfl
  | c :: r, d :: m, 0 => .inl rfl
  | c :: r, d :: m, i + 1 => unr_get (H := r) (H' := m) (i := i)
theorem unrC_or (c d : Chunk A) : unrC c d = c ∨ ∃ ks e L R p j, c = .rmap ks e L R p j ∧ unrC c d = .map ks e L := by
  cases c <;> try exact .inl rfl
  cases d <;> try exact .inl rfl
  exact .inr ⟨_, _, _, _, _, _, rfl, rfl⟩
open Classical in
theorem unr_sound {H' : List (Chunk A)} (hs : Sat AI G s a w) : Sat AI G ⟨s.tm, unr s.H H'⟩ a w := by
  obtain ⟨hd, ρ, hh⟩ := hs
  let S : Nat → Prop := fun i => ∃ ks e L R p j, getC s.H i = .rmap ks e L R p j ∧ getC (unr s.H H') i = .map ks e L
  let ρ' : Ev := { root := ρ.root, ver := ρ.ver, M := ρ.M, foot := fun i => if S i then (ρ.foot i).take 1 else ρ.foot i }
  have le : ρ.Le ρ' := ⟨fun _ _ _ h => h, fun _ _ h => h, fun _ => Nat.le_refl _, fun _ _ _ => rfl⟩
  have hfoot : ∀ i b, b ∈ ρ'.foot i → b ∈ ρ.foot i := by
    intro i b hb
    simp only [ρ'] at hb
    split at hb
    · exact List.mem_of_mem_take hb
    · exact hb
  refine ⟨hd, ρ', ⟨hh.sz, hh.gt, fun t v ht => ?_, fun i => ?_, fun i j b hij hi hj => hh.dis i j b hij (hfoot i b hi) (hfoot j b hj), fun i b hb => hh.lt i b (hfoot i b hb), fun b o v hm => ⟨(hh.im b o v hm).1, fun i hb => (hh.im b o v hm).2 i (hfoot i b hb)⟩, hh.os, hh.tape, hh.output, hh.grow, hh.kept,
    fun i b hb => hh.fro i b (hfoot i b hb), hh.rt, hh.rts, hh.mono, hh.mfr⟩⟩
  · obtain ⟨u, h1, h2⟩ := hh.tm t v ht; exact ⟨u, h1, h2.mono le⟩
  · show HoldsC AI ρ' w i (getC (unr s.H H') i)
    by_cases hS : S i
    · obtain ⟨ks, e, L, R, p, j, h1, h2⟩ := id hS
      rw [h2]
      have hc := hh.ch i
      rw [h1] at hc
      obtain ⟨b, r, h3, h4, h5, h6, es, clock, since, seen, a1, a2, a3, a4, a5, a6, a7⟩ := hc
      refine ⟨b, es, clock, h3, ?_, a1, a3⟩
      simp only [ρ', if_pos hS, h5]
      rfl
    · have hsame : getC (unr s.H H') i = getC s.H i := by
        rcases unr_get (H := s.H) (H' := H') (i := i) with h1 | h1
        · rcases unrC_or (getC s.H i) (getC H' i) with h2 | ⟨ks, e, L, R, p, j, h2, h3⟩
          · rw [h1, h2]
          · exact absurd ⟨ks, e, L, R, p, j, h2, by rw [h1, h3]⟩ hS
        · exact h1
      rw [hsame]
      exact (hh.ch i).stays le rfl rfl (by simp only [ρ', if_neg hS]) fun _ _ => rfl

/-! ### maps whose values stay from now on -/
theorem All2.of_get {α β : Type} {R R' : α → β → Prop} {l : List α} {m : List β} (h : All2 R l m) (hr : ∀ (n : Nat) a b, l[n]? = some a → m[n]? = some b → R a b → R' a b) : All2 R' l m := by
  induction h with
  | nil => exact .nil
  | cons h1 _ ih => exact .cons (hr 0 _ _ rfl rfl h1) (ih fun n a b ha hb => hr (n + 1) a b (by simpa using ha) (by simpa using hb))
theorem unm_get : ∀ {H H' : List (Chunk A)} {i : Nat}, getC (unm H H') i = unmC (getC H i) (getC H' i) ∨ getC (unm H H') i = getC H i
  | [], [], i => .inr rfl
  | c :: r, [], i => .inr rfl
  | [], d :: m, i => .inr rfl
  | c :: r, d :: m, 0 => .inl rfl
  | c :: r, d :: m, i + 1 => unm_get (H := r) (H' := m) (i := i)
theorem unmC_or (c d : Chunk A) : unmC c d = c ∨ ∃ tb L, c = .mnest tb L none ∧ unmC c d = .map (.int .i64) (.lst (.int .i64)) L := by
  cases c <;> try exact .inl rfl
  rename_i tb L q
  cases q <;> try exact .inl rfl
  cases d <;> try exact .inl rfl
  exact .inr ⟨_, _, rfl, rfl⟩
def rootB (v : Value) : Nat := match v with
  | .pointer (some a) => a.block
  | _ => 0
open Classical in
theorem unm_sound {H' : List (Chunk A)} (hs : Sat AI G s a w) : Sat AI G ⟨s.tm, unm s.H H'⟩ a w := by
  obtain ⟨hd, ρ, hh⟩ := hs
  let S : Nat → Prop := fun i => ∃ tb L, getC s.H i = .mnest tb L none ∧ getC (unm s.H H') i = .map (.int .i64) (.lst (.int .i64)) L
  let ρ' : Ev := { root := ρ.root, ver := ρ.ver, M := fun b o => if ∃ i, S i ∧ b ∈ ρ.foot i ∧ b ≠ rootB (ρ.root i) then w.cell? ⟨b, o, none⟩ else ρ.M b o, foot := fun i => if S i then [rootB (ρ.root i)] else ρ.foot i }
  have hS : ∀ i, S i → ∃ tb L, getC s.H i = .mnest tb L none ∧ MnAt tb ρ w (L ()) none (ρ.root i) (ρ.foot i) := by
    rintro i ⟨tb, L, h1, h2⟩
    have hc := hh.ch i
    rw [h1] at hc
    exact ⟨tb, L, h1, hc⟩
  have hroot : ∀ i, S i → rootB (ρ.root i) ∈ ρ.foot i := by
    intro i hi
    obtain ⟨tb, L, _, b, es, clock, h1, _, _, _, _, h6⟩ := hS i hi
    rw [h1]
    exact RowsAt.own h6
  have hM : ∀ b o v, ρ.M b o = some v → ρ'.M b o = some v := by
    intro b o v h
    simp only [ρ']
    rw [if_neg]
    · exact h
    · rintro ⟨i, _, hi, _⟩; exact (hh.im b o v h).2 i hi
  have le : ρ.Le ρ' := ⟨hM, fun _ _ h => h, fun _ => Nat.le_refl _, fun _ _ _ => rfl⟩
  have hfoot : ∀ i b, b ∈ ρ'.foot i → b ∈ ρ.foot i := by
    intro i b hb
    simp only [ρ'] at hb
    split at hb
    · rename_i hi
      obtain rfl := List.mem_singleton.1 hb
      exact hroot i hi
    · exact hb
  refine ⟨hd, ρ', ⟨hh.sz, hh.gt, fun t v ht => ?_, fun i => ?_, fun i j b hij hi hj => hh.dis i j b hij (hfoot i b hi) (hfoot j b hj), fun i b hb => hh.lt i b (hfoot i b hb), fun b o v hm => ?_, hh.os, hh.tape, hh.output, hh.grow, hh.kept,
    fun i b hb => hh.fro i b (hfoot i b hb), hh.rt, hh.rts, fun b o v hm => hM _ _ _ (hh.mono b o v hm), fun b o v hm => ?_⟩⟩
  · obtain ⟨u, h1, h2⟩ := hh.tm t v ht; exact ⟨u, h1, h2.mono le⟩
  · show HoldsC AI ρ' w i (getC (unm s.H H') i)
    by_cases hi : S i
    · obtain ⟨tb, L, h1, h2⟩ := id hi
      rw [h2]
      have hc := hh.ch i
      rw [h1] at hc
      obtain ⟨b, es, clock, r1, r2, r3, r4, r5, r6⟩ := hc
      have hb : rootB (ρ.root i) = b := by rw [r1]; rfl
      refine ⟨b, es, clock, r1, by simp only [ρ', if_pos hi, hb], r2, ?_, r4, r5⟩
      obtain ⟨blk, b1, b2, b3, b4⟩ : RowsAt tb ρ w ((L ()).map (·.2)) none b (ρ.foot i) (fun m => es[m]?.map (·.val)) := r6
      refine r3.of_get fun n p m hp hm hk => ⟨hk, trivial, ?_⟩
      have hn : ((L ()).map (·.2))[n]? = some p.2 := by rw [List.getElem?_map, hp]; rfl
      have hlt := (List.getElem?_eq_some_iff.1 hn).1
      obtain ⟨v, c1, hr⟩ := b4 n p.2 hn
      have hm2 : es[n]? = some m := by simpa using hm
      have e1 : v = m.val := by
        have c1 : es[n]?.map (·.val) = some v := c1
        rw [hm2] at c1; exact (Option.some.inj c1).symm
      subst e1
      refine ⟨[m.val], rfl, cellsM_lst.2 ⟨m.val, rfl, rowAt_showsF hr hM fun y hy o => ?_⟩, rfl⟩
      simp only [ρ']
      rw [if_pos ⟨i, hi, (b1 y).2 (.inr ⟨n, hlt, hy⟩), by rw [hb]; exact fun e => b2 n hlt (e ▸ hy)⟩]
    · have hsame : getC (unm s.H H') i = getC s.H i := by
        rcases unm_get (H := s.H) (H' := H') (i := i) with h1 | h1
        · rcases unmC_or (getC s.H i) (getC H' i) with h2 | ⟨tb, L, h2, h3⟩
          · rw [h1, h2]
          · exact absurd ⟨tb, L, h2, by rw [h1, h3]⟩ hi
        · exact h1
      rw [hsame]
      exact (hh.ch i).stays le rfl rfl (by simp only [ρ', if_neg hi]) fun _ _ => rfl
  · simp only [ρ'] at hm
    split at hm
    · rename_i hex
      obtain ⟨k, hk, hbk, hne⟩ := hex
      refine ⟨hm, fun i hb => ?_⟩
      simp only [ρ'] at hb
      split at hb
      · rename_i hi
        obtain rfl := List.mem_singleton.1 hb
        by_cases e : i = k
        · subst e; exact hne rfl
        · exact hh.dis i k _ e (hroot i hi) hbk
      · rename_i hi
        exact hh.dis i k b (fun e => hi (e ▸ hk)) hb hbk
    · exact ⟨(hh.im b o v hm).1, fun i hb => (hh.im b o v hm).2 i (hfoot i b hb)⟩
  · simp only [ρ'] at hm
    split at hm
    · rename_i hex
      obtain ⟨k, hk, hbk, _⟩ := hex
      exact .inr (hh.fro k b hbk)
    · exact hh.mfr b o v hm

/-! ### rows go home -/
theorem homeAt_sound (hs : Sat AI G s a w) (i : Nat) : Sat AI G ⟨s.tm, homeAt s.H i⟩ a w := by
  unfold homeAt
  split
  · rename_i t tb z v L k j hi
    split
    · rename_i rt D hj
      split
      · rename_i hb
        obtain ⟨hb1, hb2⟩ := Bool.and_eq_true_iff.1 hb
        have hb1 := beq_eq hb1
        subst hb1
        have hij : i ≠ j := fun e => by rw [e] at hb2; simp at hb2
        obtain ⟨hd, ρ, hh⟩ := hs
        obtain ⟨ρ', h1, _⟩ := home_sound hh hij hi hj
        exact ⟨hd, ρ', h1⟩
      · exact hs
    · exact hs
  · exact hs
theorem homes_sound {T : List (Chunk A)} (hs : Sat AI G s a w) : Sat AI G ⟨s.tm, homes s.H T⟩ a w := by
  unfold homes
  split
  · exact hs
  · exact homeAt_sound hs _

theorem keepT_look {tm : List (Nat × SV)} : ∀ {l : List (Nat × SV)} {t : Nat} {v : SV}, look (keepT tm l) t = some v → look tm t = some v
  | [], _, _, h => by cases h
  | (k, _) :: r, t, v, h => by
    simp only [keepT] at h
    split at h
    · rename_i x hx
      rw [look_cons] at h
      split at h
      · rename_i e; subst e; cases h; exact hx
      · exact keepT_look h
    · exact keepT_look h
theorem keepT_sound {l : List (Nat × SV)} (hs : Sat AI G s a w) : Sat AI G ⟨keepT s.tm l, s.H⟩ a w := by
  obtain ⟨hd, ρ, hh⟩ := hs
  exact ⟨hd, ρ, ⟨hh.sz, hh.gt, fun t v ht => hh.tm t v (keepT_look ht), hh.ch, hh.dis, hh.lt, hh.im, hh.os, hh.tape, hh.output, hh.grow, hh.kept, hh.fro, hh.rt, hh.rts, hh.mono, hh.mfr⟩⟩

theorem Sub.sound [SubA A] {t : SS A} {n0 : Nat} (hn0 : G.n0 = n0) (h : Sub n0 s t) (hs : Sat AI G s a w) : Sat AI G t a w := by
  have h0 := norm_sound hn0 (frz_sound t.H.length (absorb_sound (t := t) (keepT_sound (l := t.tm) (unr_sound (H' := t.H) (unm_sound (H' := t.H) (homes_sound (T := t.H) hs))))))
  unfold Sub at h
  generalize norm n0 (frz t.H.length (absorb t ⟨keepT s.tm t.tm, unr (unm (homes s.H t.H) t.H) t.H⟩)) = s' at h h0
  dsimp only at h
  split at h
  · rename_i C h1
    split at h
    · rename_i D h2
      split at h
      · rename_i h3
        obtain ⟨h⟩ := h
        obtain ⟨h4, _⟩ := conds_spec h
        exact sub_core hn0 h1 h2 (leN h3) (fun X hX => h4 X (List.mem_append.2 (.inl hX))) (fun X hX => h4 X (List.mem_append.2 (.inr hX))) h0
      · exact h.elim
    · exact h.elim
  · exact h.elim

theorem All2.splitAt {α β : Type} {R : α → β → Prop} {l : List α} {m1 m2 : List β} {y : β} (h : All2 R l (m1 ++ y :: m2)) : ∃ l1 x l2, l = l1 ++ x :: l2 ∧ All2 R l1 m1 ∧ R x y ∧ All2 R l2 m2 := by
  induction m1 generalizing l with
  | nil => cases h with | cons h1 h2 => exact ⟨[], _, _, rfl, .nil, h1, h2⟩
  | cons z m1 ih =>
    cases h with
    | cons h1 h2 =>
      obtain ⟨l1, x, l2, rfl, h3, h4, h5⟩ := ih h2
      exact ⟨_ :: l1, x, l2, rfl, .cons h1 h3, h4, h5⟩

theorem left_push {es : Array MapEntry} {seen : Array Nat} {m1 m2 : List MapEntry} {m : MapEntry} (hp : (es.toList.map (·.born)).Pairwise (· < ·)) (h : (leftOf es seen).toList = m1 ++ m :: m2) : (leftOf es (seen.push m.born)).toList = m1 ++ m2 := by
  have e1 : (leftOf es (seen.push m.born)).toList = (leftOf es seen).toList.filter fun x => !(x.born == m.born) := by
    simp only [leftOf, Array.toList_filter, List.filter_filter]
    congr 1
    funext x
    simp only [Array.contains_push]
    cases h1 : (x.born == m.born) <;> simp
  have hn : (((leftOf es seen).toList).map (·.born)).Pairwise (· < ·) := by
    simp only [leftOf, Array.toList_filter]
    exact hp.sublist (List.Sublist.map _ List.filter_sublist)
  rw [e1, h]
  rw [h] at hn
  simp only [List.map_append, List.map_cons, List.pairwise_append, List.pairwise_cons, List.mem_map, List.mem_cons] at hn
  obtain ⟨n1, ⟨n2, n3⟩, n4⟩ := hn
  rw [List.filter_append, List.filter_cons]
  have f1 : m1.filter (fun x => !(x.born == m.born)) = m1 := List.filter_eq_self.2 fun x hx => by
    have := n4 x.born ⟨x, hx, rfl⟩ m.born (.inl rfl)
    simp; omega
  have f2 : m2.filter (fun x => !(x.born == m.born)) = m2 := List.filter_eq_self.2 fun x hx => by
    have := n2 x.born ⟨x, hx, rfl⟩
    simp; omega
  rw [f1, f2]
  simp

theorem snext_sound {opsA : Array Oper} {id t d0 d1 : Nat} (hn : nextOf opsA.toList = some (t, d0, d1)) (hdst : ∀ o ∈ opsA.toList, ∀ t, o.dst = some t → t < G.size) {Q : SS A → Prop} {Qx : Exit → Act → World → Prop} (hQ : ∀ s', Q s' → Then AI G s' (Qx .normal)) (h : snext t d0 d1 s Q) (hs : Sat AI G s a w) :
    (Code.region id opsA false).wp P Qx a w := by
  refine wp_region_list ?_
  generalize opsA.toList = ops at hn hdst
  unfold nextOf at hn
  split at hn <;> (try cases hn)
  rename_i o o'
  split at hn <;> (try cases hn)
  rename_i t' d0' d d1' ho1 ho2 ho3 ho4 ho5 ho6
  split at hn <;> cases hn
  rename_i hb
  have hb := beq_eq hb
  subst hb
  have l0 := hdst o (by simp) d ho2
  have l1 := hdst o' (by simp) d1 ho5
  obtain ⟨hd, ρ, hh⟩ := hs
  unfold snext at h
  split at h <;> (try exact h.elim)
  rename_i j hj
  split at h <;> (try exact h.elim)
  rename_i i hji
  split at h <;> (try exact h.elim)
  rename_i ks e L R c j' hi
  split at h <;> (try exact h.elim)
  rename_i hjj
  have hjj := beq_eq hjj
  subst hjj
  obtain ⟨u, hu1, hu2⟩ := hh.tm t _ hj
  have hc := hh.ch i
  rw [hi] at hc
  obtain ⟨b, r, h1, h2, h3, h4, es, clock, since, seen, a1, a2, a3, a4, a5, a6, a7⟩ := hc
  obtain ⟨r', e1, rfl⟩ := hu2
  have : r' = r := by rw [h2] at e1; cases e1; rfl
  subst this
  have hev : a.eval (.tmp t) = .pointer (some ⟨r', 0, none⟩) := by simp [Act.eval, hu1]
  cases h with
  | mk p q =>
  have hsz := hh.sz
  have fin : ∀ (bv : Bool) (y : Value) (w' : World) (H' : List (Chunk A)) (ρ' : Ev), ρ.Le ρ' → Holds AI G ⟨s.tm, H'⟩ ρ' a.tmps w' → (∃ l, y = .tuple (.bool bv :: l).toArray) → Q ⟨(d1, one (.lb bv)) :: (d, one .any) :: s.tm, H'⟩ → wpList P opsA Qx [o'] (a.put o.dst y) w' := by
    rintro bv y w' H' ρ' le h5 ⟨l, rfl⟩ hq
    refine wpList_plain ho6 fun K hK => ?_
    have h6 := h5.put (dst := some d) (v := one .any) (u := .tuple (.bool bv :: l).toArray) (a := a) (fun t e => by cases e; exact l0) trivial
    have h7 := h6.put (dst := some d1) (v := one (.lb bv)) (u := .bool bv) (a := a.put (some d) (.tuple (.bool bv :: l).toArray)) (fun t e => by cases e; exact l1) rfl
    have hev2 : (a.put o.dst (.tuple (.bool bv :: l).toArray)).eval (.tmp d) = .tuple (.bool bv :: l).toArray := by
      rw [ho2]
      have : d < a.tmps.size := by rw [hsz]; exact l0
      simp [Act.eval, Act.put, this]
    unfold Oper.wp
    have hex : (execOp (a.put o.dst (.tuple (.bool bv :: l).toArray)).eval o').run P w' = .ok (.value (.bool bv)) w' := by
      unfold execOp
      rw [ho4]
      simp only [hev2]
      simp [Instr.extract]
    rw [hex, Oper.upon_value]
    refine hK _ _ ?_
    rw [ho5, ho2]
    unfold wpList
    exact hQ _ hq _ _ (by rw [Act.put_defers', Act.put_defers', hd]) ⟨ρ', h7⟩
  refine wpList_plain ho3 fun K hK => ?_
  unfold Oper.wp
  have hex : (execOp a.eval o).run P w = ((Instr.next (.pointer (some ⟨r', 0, none⟩)) false o.type).run P w).andThen fun y w' => .ok (.value y) w' := by
    unfold execOp
    rw [ho1]
    simp only [hev]
    simp [Sem.run_bind]
  rw [hex]
  rcases run_next_at (P := P) w o.type r' b since clock seen es clock a2 a1 a4 a5 with ⟨h0, hrun⟩ | ⟨m, hm, w1, hw1, hrun⟩
  · rw [hrun]
    simp only [Result.andThen, Oper.upon_value]
    refine hK _ _ (fin false _ w s.H ρ (.refl ρ) hh ⟨[], rfl⟩ (p ?_))
    have : (leftOf es seen).toList = [] := by
      have := List.eq_nil_of_length_eq_zero (l := (leftOf es seen).toList) (by simpa using h0)
      exact this
    rw [this] at a6
    cases hR : R () with
    | nil => rfl
    | cons x l => rw [hR] at a6; cases a6
  · rw [hrun]
    simp only [Result.andThen, Oper.upon_value]
    obtain ⟨m1, m2, hsp⟩ := List.append_of_mem hm
    rw [hsp] at a6
    obtain ⟨l1, x, l2, hR, b1, b2, b3⟩ := a6.splitAt
    have hw1h : w1.heap = w.heap ∧ w1.os = w.os ∧ w1.tape = w.tape ∧ w1.output = w.output := by rcases hw1 with rfl | rfl <;> exact ⟨rfl, rfl, rfl, rfl⟩
    have hrlt : r' < w.heap.size := by
      rcases Nat.lt_or_ge r' w.heap.size with h | h
      · exact h
      · rw [Array.getElem?_eq_none h] at a2; cases a2
    have hmem : m ∈ es.toList := by
      have := hm
      simp only [leftOf, Array.toList_filter, List.mem_filter] at this
      exact this.1
    obtain ⟨h8, h9⟩ := hh.upd1 i (ρ.root i) (ρ.ver i) (ρ.foot i) (.rmap ks e L (fun _ => l1 ++ l2) (some (fun _ => x)) j) (Go.ChangeMaps.setBlock w1 r' (.mapIter (some b) since (seen.push m.born) clock)) (fun _ h => h) (Nat.le_refl _) (fun _ _ => rfl) (fun bb hbb => ⟨.inl hbb, by simpa [Go.ChangeMaps.setBlock, hw1h.1] using hh.lt i bb hbb⟩)
      (fun b2 _ hn => by
        have : r' ≠ b2 := fun e => hn (by rw [h3, e]; simp)
        simp [Go.ChangeMaps.setBlock, hw1h.1, this]) hw1h.2.1 hw1h.2.2.1 hw1h.2.2.2 (by simp [Go.ChangeMaps.setBlock, hw1h.1])
      ⟨b, r', by simp [Ev.upd, h1], by
          simp only [Ev.upd]
          split
          · rename_i e; subst e; exact h2
          · exact h2, by simp [Ev.upd, h3], h4, es, clock, since, seen.push m.born, by simp [Go.ChangeMaps.setBlock, hw1h.1, h4.symm, a1], by simp [Go.ChangeMaps.setBlock, hw1h.1, hrlt], a3, a4, a5, by
          rw [left_push a3.2.1 hsp]
          exact b1.append b3, fun p hp => by cases hp; exact ⟨m, seen, hmem, rfl, b2⟩⟩
    exact hK _ _ (fin true _ _ _ _ h9 h8 ⟨[m.key, m.val], rfl⟩ (q l1 x l2 hR))

theorem svc_sound [SubA A] {E : Env A} (hE : EnvOk P AI E) (hm : P.follows .mixedOrders = true) {n0 : Nat} (hn0 : G.n0 = n0) : ∀ (c : Code), codeOk G.size c = true → ∀ (s : SS A) (Q : XE → SS A → Prop) (Qx : Exit → Act → World → Prop) (a : Act) (w : World),
    svc E n0 c s Q → Sat AI G s a w → (∀ e s', Q e s' → Then AI G s' (Qx e.out)) → c.wp P Qx a w := by
  have th : ∀ {s : SS A} {a : Act} {w : World} {K : Act → World → Prop}, Then AI G s K → Sat AI G s a w → K a w := fun h hs => h _ _ hs.1 hs.2
  intro c
  induction c with
  | skip => intro _ s Q Qx a w h hs hQ; exact wp_skip (th (hQ _ _ h) hs)
  | region id ops draw =>
    intro hok s Q Qx a w h hs hQ
    have hdst : ∀ o ∈ ops.toList, ∀ t, o.dst = some t → t < G.size := fun o ho t ht => by
      have h1 := Array.all_eq_true'.1 hok o (by simpa using ho)
      rw [ht] at h1
      exact leN h1
    simp only [svc] at h
    split at h
    · exact sreg_sound hE hm hdst (fun s' hs' => hQ _ _ hs') 24 ⟨[], []⟩ h hs
    · split at h
      · rename_i t d0 d1 hn
        exact snext_sound hn hdst (fun s' hs' => hQ _ _ hs') h hs
      · exact sreg_sound hE hm hdst (fun s' hs' => hQ _ _ hs') 24 ⟨[], []⟩ h hs
  | seq x y ihx ihy =>
    intro hok s Q Qx a w h hs hQ
    obtain ⟨o1, o2⟩ := Bool.and_eq_true_iff.1 hok
    refine wp_seq (ihx o1 s _ _ a w h hs fun e s' hq => ?_)
    cases e with
    | normal => exact fun a' w' hd hh => ihy o2 s' Q Qx a' w' hq ⟨hd, hh⟩ hQ
    | ret => exact hQ .ret s' hq
    | exit id => exact hQ (.exit id) s' hq
  | cond c x y ihx ihy =>
    intro hok s Q Qx a w h hs hQ
    obtain ⟨o1, o2⟩ := Bool.and_eq_true_iff.1 hok
    obtain ⟨hd, ρ, hh⟩ := id hs
    simp only [svc] at h
    split at h
    · rename_i hc; exact wp_cond_true (hh.eval hc) (ihx o1 s Q Qx a w h hs hQ)
    · rename_i hc; exact wp_cond_false (hh.eval hc) (ihy o2 s Q Qx a w h hs hQ)
    · rename_i g hc
      have hg := hh.eval hc
      split at h
      · rename_i t
        cases h with
        | mk h1 h2 =>
          cases hb : g () with
          | true => exact wp_cond_true (by rw [show a.eval (.tmp t) = .bool (g ()) from hg, hb]) (ihx o1 _ Q Qx a w (h1 hb) (hs.lb hc hb) hQ)
          | false => exact wp_cond_false (by rw [show a.eval (.tmp t) = .bool (g ()) from hg, hb]) (ihy o2 _ Q Qx a w (h2 hb) (hs.lb hc hb) hQ)
      · exact h.elim
    · rename_i neg C hc
      split at h
      · rename_i t
        cases h with
        | mk h1 h2 =>
          obtain ⟨b, e1, e2, e3⟩ := hs.nb hc
          cases b with
          | true => exact wp_cond_true e1 (ihx o1 _ Q Qx a w (h1 fun e => e2 (by rw [e]; rfl)) e3 hQ)
          | false => exact wp_cond_false e1 (ihy o2 _ Q Qx a w (h2 fun e => e2 (by rw [e]; rfl)) e3 hQ)
      · exact h.elim
    · exact h.elim
  | block id c ih =>
    intro hok s Q Qx a w h hs hQ
    refine wp_block (ih hok s _ _ a w h hs fun e s' hq => ?_)
    cases e with
    | normal => exact hQ .normal s' hq
    | ret => exact hQ .ret s' hq
    | exit id' =>
      dsimp only at hq
      split at hq
      · rename_i hb
        have hb := beq_eq hb
        subst hb
        have := hQ .normal s' hq
        intro a' w' hd hh
        simp only [XE.out, Exit.inBlock, if_pos]
        exact this a' w' hd hh
      · rename_i hb
        have hne : ¬ id' = id := by rintro rfl; simp at hb
        have := hQ (.exit id') s' hq
        intro a' w' hd hh
        simp only [XE.out, Exit.inBlock, if_neg hne]
        exact this a' w' hd hh
  | loop c ih =>
    intro hok s Q Qx a w h hs hQ
    obtain ⟨I, h0, h1⟩ := h
    refine wp_loop_ghost (fun n a w => ∃ x, I.m x = n ∧ Sat AI G (I.inv x) a w) (I.m I.x0) ⟨I.x0, rfl, h0.sound hn0 hs⟩ fun n a w hx => ?_
    obtain ⟨x, rfl, hx⟩ := hx
    refine ih hok (I.inv x) _ _ a w (h1 x) hx fun e s' hq => ?_
    cases e with
    | normal =>
      obtain ⟨y, h2, h3⟩ := hq
      exact fun a' w' hd hh => ⟨I.m y, h2, y, rfl, h3.sound hn0 ⟨hd, hh⟩⟩
    | ret => exact hQ .ret s' hq
    | exit id => exact hQ (.exit id) s' hq
  | exit id => intro _ s Q Qx a w h hs hQ; exact wp_exit (th (hQ _ _ h) hs)
  | ret => intro _ s Q Qx a w h hs hQ; exact wp_ret (th (hQ _ _ h) hs)
  | scope c ih =>
    intro hok s Q Qx a w h hs hQ
    refine wp_scope_straight (ih hok s Q _ a w h hs fun e s' hq => ?_)
    cases e <;> exact hQ _ s' hq
  | label l => intro _ s Q Qx a w h; exact h.elim
  | goto l => intro _ s Q Qx a w h; exact h.elim
  | refuse y => intro _ s Q Qx a w h; exact h.elim
  | rangeFunc f p x y _ _ => intro _ s Q Qx a w h; exact h.elim

end Go.Sx

/-
  Symbolic execution: abstract objects (opened and closed), a function's body, a contract in another state.
-/
namespace Go.Sx
set_option linter.all false
open Go.RowKit

variable {A : Type} {G : Fr} {s : SS A} {ρ : Ev} {a : Act} {w : World} {P : Program}

/-! ### abstract objects: by the parts that they have -/
inductive AbsC (lay : A → List (Chunk A)) (w : World) : Ev → Nat → Chunk A → Prop
  | emp {ρ i} (h1 : ρ.foot i = []) (h2 : ρ.root i = .bool false) (h3 : ρ.ver i = 0) : AbsC lay w ρ i .emp
  | gone {ρ i} : AbsC lay w ρ i .gone
  | cells {ρ i t cs b vs} (h1 : ρ.root i = .pointer (some ⟨b, 0, none⟩)) (h2 : ρ.foot i = [b]) (h3 : w.heap[b]? = some (.cells vs t (0, 0))) (h4 : All2 (Den1 ρ) cs vs.toList) : AbsC lay w ρ i (.cells t cs)
  | row {ρ i t e ver L} (h1 : ver = ρ.ver i) (h2 : RowAt t ρ.M w e (L ()) (ρ.root i) (ρ.foot i)) : AbsC lay w ρ i (.row t e ver L)
  | map {ρ i ks e L b es clock} (h1 : ρ.root i = .pointer (some ⟨b, 0, none⟩)) (h2 : ρ.foot i = [b]) (h3 : w.heap[b]? = some (.map es clock)) (h4 : MapAt ρ.M ks e (L ()) es.toList clock) : AbsC lay w ρ i (.map ks e L)
  | rmap {ρ i ks e L R c j b r} (h1 : ρ.root i = .pointer (some ⟨b, 0, none⟩)) (h2 : ρ.root j = .pointer (some ⟨r, 0, none⟩)) (h3 : ρ.foot i = [b, r]) (h4 : RmapAt ρ.M w ks e (L ()) (R ()) c b r) : AbsC lay w ρ i (.rmap ks e L R c j)
  | itp {ρ i q r} (h1 : ρ.foot i = []) (h2 : ρ.root i = .pointer (some ⟨r, 0, none⟩)) : AbsC lay w ρ i (.itp q)
  | nest {ρ i t tb z ver L h} (h1 : ver = ρ.ver i) (h2 : NestAt tb z ρ w (L ()) h (ρ.root i) (ρ.foot i)) : AbsC lay w ρ i (.nest t tb z ver L h)
  | mnest {ρ i tb L h} (h2 : MnAt tb ρ w (L ()) h (ρ.root i) (ρ.foot i)) : AbsC lay w ρ i (.mnest tb L h)
  | abs {ρ i x} (ρ' : Ev) (hM : ρ'.M = ρ.M) (hr : ρ'.root 0 = ρ.root i) (hp : ∃ b, ρ.root i = .pointer (some ⟨b, 0, none⟩)) (hf : ∀ b, b ∈ ρ.foot i ↔ ∃ j, j < (lay x).length ∧ b ∈ ρ'.foot j)
      (hd : ∀ j k b, j < (lay x).length → k < (lay x).length → j ≠ k → b ∈ ρ'.foot j → b ∉ ρ'.foot k) (hc : ∀ j, j < (lay x).length → AbsC lay w ρ' j (getC (lay x) j)) : AbsC lay w ρ i (.abs x)

theorem AbsC.stays {lay : A → List (Chunk A)} {i : Nat} {c : Chunk A} (h : AbsC lay w ρ i c) : ∀ {M' : Mem} {w' : World}, (∀ b o v, ρ.M b o = some v → M' b o = some v) → (∀ b ∈ ρ.foot i, w'.heap[b]? = w.heap[b]?) → AbsC lay w' { ρ with M := M' } i c := by
  induction h with
  | emp h1 h2 h3 => intro M' w' _ _; exact .emp h1 h2 h3
  | gone => intro M' w' _ _; exact .gone
  | @cells ρ i t cs b vs h1 h2 h3 h4 =>
    intro M' w' hm hb
    refine .cells h1 h2 ((hb b (by simp [h2])).trans h3) (h4.mono fun x v hx => Den1.mono (ρ := ρ) (ρ' := { ρ with M := M' }) ⟨hm, fun _ _ h => h, fun _ => Nat.le_refl _, fun _ _ _ => rfl⟩ hx)
  | @row ρ i t e ver L h1 h2 => intro M' w' hm hb; exact .row h1 (h2.stays hm hb)
  | map h1 h2 h3 h4 => intro M' w' hm hb; exact .map h1 h2 ((hb _ (by simp [h2])).trans h3) (h4.mono hm)
  | rmap h1 h2 h3 h4 => intro M' w' hm hb; exact .rmap h1 h2 h3 (h4.mono hm (hb _ (by simp [h3])) (hb _ (by simp [h3])))
  | itp h1 h2 => intro M' w' hm hb; exact .itp h1 h2
  | nest h1 h2 => intro M' w' hm hb; exact .nest h1 (h2.stays ⟨hm, fun _ _ h => h, fun _ => Nat.le_refl _, fun _ _ _ => rfl⟩ hb)
  | mnest h2 => intro M' w' hm hb; exact .mnest (h2.stays ⟨hm, fun _ _ h => h, fun _ => Nat.le_refl _, fun _ _ _ => rfl⟩ hb)
  | @abs ρ i x ρ' hM hr hp hf hd hc ih =>
    intro M' w' hm hb
    refine .abs { ρ' with M := M' } rfl hr hp hf hd fun j hj => ?_
    exact ih j hj (fun b o v h => hm b o v (hM ▸ h)) fun b hb' => hb b ((hf b).2 ⟨j, hj, hb'⟩)

/-- The meaning of the objects with these parts. -/
def absOf (lay : A → List (Chunk A)) (tq : TabQ := TabQ.none) : Abs A where
  tq := tq
  I x M r F w := ∃ ρ i, AbsC lay w ρ i (.abs x) ∧ ρ.M = M ∧ ρ.root i = r ∧ ρ.foot i = F
  root := by
    rintro x M r F w ⟨ρ, i, h, rfl, rfl, rfl⟩
    cases h with
    | abs ρ' hM hr hp => exact hp
  stays := by
    rintro x M M' r F w w' ⟨ρ, i, h, rfl, rfl, rfl⟩ hm hb
    exact ⟨{ ρ with M := M' }, i, h.stays hm hb, rfl, rfl, rfl⟩

variable {lay : A → List (Chunk A)} {tq : TabQ}

end Go.Sx

/-
  Symbolic execution: a function's body; a contract in another state.
-/
namespace Go.Sx
set_option linter.all false
open Go.RowKit

variable {A : Type} {AI : Abs A} {G : Fr} {s : SS A} {ρ : Ev} {a : Act} {w : World} {P : Program}

theorem look_argT : ∀ {n : Nat} {l : List SV} {t : Nat} {v : SV}, look (argT n l) t = some v → n ≤ t ∧ l[t - n]? = some v
  | n, [], t, v, h => by cases h
  | n, x :: r, t, v, h => by
    simp only [argT] at h
    rw [look_cons] at h
    split at h
    · rename_i e
      subst e
      cases h
      exact ⟨Nat.le_refl _, by simp⟩
    · rename_i e
      obtain ⟨h1, h2⟩ := look_argT h
      refine ⟨by omega, ?_⟩
      rw [show t - n = (t - (n + 1)) + 1 by omega, List.getElem?_cons_succ]; exact h2

/-- The state at a function's entry. -/
theorem Holds.enter {H : List (Chunk A)} {tmps0 : Array Value} (h : Holds AI G ⟨[], H⟩ ρ tmps0 w) {args : List SV} {us : List Value} (hd : All2 (Den ρ) args us) {n : Nat} (hn : us.length ≤ n) :
    Holds AI { G with size := n } ⟨argT 0 args, H⟩ ρ (us.toArray ++ Array.replicate (n - us.toArray.size) undef) w := by
  refine ⟨by simp; omega, h.gt, fun t v ht => ?_, h.ch, h.dis, h.lt, h.im, h.os, h.tape, h.output, h.grow, h.kept, h.fro, h.rt, h.rts, h.mono, h.mfr⟩
  obtain ⟨_, h1⟩ := look_argT ht
  rw [Nat.sub_zero, ← nth_eq] at h1
  obtain ⟨u, h2, h3⟩ := hd.nth h1
  refine ⟨u, ?_, h3⟩
  have hlt := (List.getElem?_eq_some_iff.1 h2).1
  rw [Array.getElem?_append_left (by simpa using hlt)]
  simpa using h2

def rvOf (tmps : Array Value) : ResultVar → Go.Sem Value
  | .tmp t => pure (tmps.getD t undef)
  | .cell x t => do loadVar t (← asAddr (tmps.getD x undef))

theorem resV_sound {ti : List (Nat × TI)} (hT : TIok P ti) (h : Holds AI G s ρ a.tmps w) : ∀ {rs : List ResultVar} {l : List SV2}, resV ti s rs = some l → ∃ vs : List Value, All2 (Den2 ρ) l vs ∧
    (rs.mapM (rvOf a.tmps)).run P w = .ok vs w
  | [], l, h' => by simp [resV] at h'; subst h'; exact ⟨[], .nil, by simp⟩
  | .tmp t :: r, l, h' => by
    simp only [resV] at h'
    split at h' <;> (try cases h')
    rename_i x hx
    split at h' <;> cases h'
    rename_i l' hl'
    obtain ⟨vs, h1, h2⟩ := resV_sound hT h hl'
    obtain ⟨u, h3, h4⟩ := h.tm t _ hx
    refine ⟨u :: vs, .cons h4 h1, ?_⟩
    have h5 : (rvOf a.tmps (.tmp t)).run P w = .ok u w := by simp [rvOf, h3]
    rw [List.mapM_cons, Sem.run_bind, h5]
    simp only [Result.andThen, Sem.run_bind, h2]
    rfl
  | .cell y t :: r, l, h' => by
    simp only [resV] at h'
    split at h' <;> (try cases h')
    rename_i i off hx
    split at h' <;> (try cases h')
    rename_i ct cs hcs
    split at h' <;> (try cases h')
    rename_i j hj
    split at h' <;> (try cases h')
    rename_i x hx2
    split at h' <;> cases h'
    rename_i l' hl'
    obtain ⟨vs, h1, h2⟩ := resV_sound hT h hl'
    obtain ⟨u, h3, h4⟩ := h.tm y _ hx
    obtain ⟨b, h5, h6⟩ := h4
    have hc := h.ch i
    rw [hcs] at hc
    obtain ⟨b', us, h7, h8, h9, h10⟩ := hc
    rw [h5] at h7
    cases h7
    obtain ⟨z, h11, h12⟩ := load_part (P := P) (w := w) (hT t j hj) h10 hx2 (b := b) (off := 0) (fun k v hk => by simp [World.cell?, h9, hk])
    have h13 : (loadVar t ⟨b, off, none⟩).run P w = .ok z w := by
      have : (Instr.loadAt t (.pointer (some ⟨b, 0 + off, none⟩))).run P w = (loadVar t ⟨b, off, none⟩).run P w := by simp [Instr.loadAt, Instr.sureAddr]
      rw [← this]; exact h11
    refine ⟨z :: vs, .cons h12 h1, ?_⟩
    have h14 : (rvOf a.tmps (.cell y t)).run P w = .ok z w := by simp [rvOf, h3, h6, asAddr, h13]
    rw [List.mapM_cons, Sem.run_bind, h14]
    simp only [Result.andThen, Sem.run_bind, h2]
    rfl

/-- What a function does, its arguments and chunks numbered from 0 on. -/
def TmplOk (P : Program) (AI : Abs A) (f : FuncId) (args : List SV) (H0 : List (Chunk A)) (v : SV) (H1 : List (Chunk A)) : Prop :=
  ∀ (G : Fr) (ρ : Ev) (w : World) (us : List Value), G.n0 = H0.length → G.size = 0 → Holds AI G ⟨[], H0⟩ ρ #[] w → All2 (Den ρ) args us →
    Calls P f us.toArray w fun e w' => ∃ y ρ', e = .returned y ∧ Holds AI G ⟨[], H1⟩ ρ' #[] w' ∧ Den ρ' v y

theorem results_sound {ti : List (Nat × TI)} (hT : TIok P ti) (hh : Holds AI G s ρ a.tmps w) {fn : Func} {l : List SV2} (hl : resV ti s fn.results.toList = some l) : ∃ y, (results fn a.tmps).run P w = .ok y w ∧ Den ρ (resOf l) y := by
  obtain ⟨vs, h1, h2⟩ := resV_sound hT hh hl
  have h3 : (fn.results.mapM (rvOf a.tmps)).run P w = .ok vs.toArray w := by
    rw [Array.mapM_eq_mapM_toList]
    show (List.toArray <$> _ : Go.Sem _).run P w = _
    rw [map_eq_pure_bind, Sem.run_bind, h2]
    rfl
  refine ⟨if h : vs.toArray.size = 1 then vs.toArray[0] else .tuple vs.toArray, ?_, ?_⟩
  · have h4 : results fn a.tmps = (do let vs ← fn.results.mapM (rvOf a.tmps); pure (if h : vs.size = 1 then vs[0] else .tuple vs)) := by
      unfold results
      first
        | rfl
        | (congr 1; done)
        | (congr 1; congr 1; funext r; cases r <;> rfl)
    rw [h4, Sem.run_bind, h3]
    rfl
  · cases h1 with
    | nil => exact ⟨[], by simp, .nil⟩
    | cons hx hr =>
      cases hr with
      | nil => simpa [resOf, Den] using hx
      | cons hy hr => exact ⟨_, by simp, .cons hx (.cons hy hr)⟩

theorem bodyPost_of {E : Env A} [SubA A] (hT : TIok P E.ti) {fn : Func} {n0 : Nat} (hn0 : G.n0 = n0) {v : SV} {H1 : List (Chunk A)} {e : XE} {s' : SS A} (h : finP E.ti n0 fn.results.toList v H1 e s') {R : Ending → World → Prop}
    (hR : ∀ y ρ' w', Holds AI { G with size := 0 } ⟨[], H1⟩ ρ' #[] w' → Den ρ' v y → R (.returned y) w') : Then AI G s' (bodyPost P fn R e.out) := by
  have key : ∀ l, resV E.ti s' fn.results.toList = some l → Sub n0 ⟨[(0, resOf l)], s'.H⟩ ⟨[(0, v)], H1⟩ → ∀ (a' : Act) (w' : World), a'.defers = [] → (∃ ρ', Holds AI G s' ρ' a'.tmps w') → a'.defers = [] ∧ ∃ y, (results fn a'.tmps).run P w' = .ok y w' ∧ R (.returned y) w' := by
    rintro l hl hsub a' w' hd ⟨ρ', hh⟩
    obtain ⟨vs, h1, h2⟩ := resV_sound hT hh hl
    have hres : ∃ y, (results fn a'.tmps).run P w' = .ok y w' ∧ Den ρ' (resOf l) y := by
      have h3 : (fn.results.mapM (rvOf a'.tmps)).run P w' = .ok vs.toArray w' := by
        rw [Array.mapM_eq_mapM_toList]
        show (List.toArray <$> _ : Go.Sem _).run P w' = _
        rw [map_eq_pure_bind, Sem.run_bind, h2]
        rfl
      refine ⟨if h : vs.toArray.size = 1 then vs.toArray[0] else .tuple vs.toArray, ?_, ?_⟩
      · have h4 : results fn a'.tmps = (do let vs ← fn.results.mapM (rvOf a'.tmps); pure (if h : vs.size = 1 then vs[0] else .tuple vs)) := by
          unfold results
          first
            | rfl
            | (congr 1; done)
            | (congr 1; congr 1; funext r; cases r <;> rfl)
        rw [h4, Sem.run_bind, h3]
        rfl
      · cases h1 with
        | nil => exact ⟨[], by simp, .nil⟩
        | cons hx hr =>
          cases hr with
          | nil => simpa [resOf, Den] using hx
          | cons hy hr => exact ⟨_, by simp, .cons hx (.cons hy hr)⟩
    obtain ⟨y, h3, h4⟩ := hres
    refine ⟨hd, y, h3, ?_⟩
    let G1 : Fr := { G with size := 1 }
    have h5 : Sat AI G1 ⟨[(0, resOf l)], s'.H⟩ ⟨#[y], []⟩ w' := by
      refine ⟨rfl, ρ', ⟨rfl, hh.gt, fun t x ht => ?_, hh.ch, hh.dis, hh.lt, hh.im, hh.os, hh.tape, hh.output, hh.grow, hh.kept, hh.fro, hh.rt, hh.rts, hh.mono, hh.mfr⟩⟩
      rw [look_cons] at ht
      split at ht
      · rename_i e; subst e; cases ht; exact ⟨y, rfl, h4⟩
      · cases ht
    obtain ⟨_, ρ2, h6⟩ := hsub.sound (G := G1) hn0 h5
    obtain ⟨u, h7, h8⟩ := h6.tm 0 v (by simp [look])
    simp at h7
    subst h7
    refine hR y ρ2 w' ⟨rfl, h6.gt, (fun t x ht => by cases ht), h6.ch, h6.dis, h6.lt, h6.im, h6.os, h6.tape, h6.output, h6.grow, h6.kept, h6.fro, h6.rt, h6.rts, h6.mono, h6.mfr⟩ h8
  cases e with
  | exit id => exact (Failed.elim h)
  | normal =>
    simp only [finP] at h
    split at h
    · rename_i l hl; exact key l hl h
    · exact h.elim
  | ret =>
    simp only [finP] at h
    split at h
    · rename_i l hl; exact key l hl h
    · exact h.elim

/-- A function's body. -/
theorem body_ok [SubA A] {E : Env A} (hE : EnvOk P AI E) (hm : P.follows .mixedOrders = true) {f : FuncId} {fn : Func} {c : Code} (hf : P.funcs[f]? = some fn) (hb : fn.body = some c) (hok : codeOk fn.ntmps c = true) {args : List SV} (hargs : args.length ≤ fn.ntmps) {H0 : List (Chunk A)} {n0 : Nat}
    {v : SV} {H1 : List (Chunk A)} (h : svc E n0 c ⟨argT 0 args, H0⟩ (finP E.ti n0 fn.results.toList v H1)) (hG : G.n0 = n0) (hsz : G.size = 0) {us : List Value} (hh : Holds AI G ⟨[], H0⟩ ρ #[] w) (hd : All2 (Den ρ) args us) :
    Calls P f us.toArray w fun e w' => ∃ y ρ', e = .returned y ∧ Holds AI G ⟨[], H1⟩ ρ' #[] w' ∧ Den ρ' v y := by
  refine calls_of_wp hf hb ?_
  have hlen := hd.length
  have h1 := hh.enter hd (n := fn.ntmps) (by omega)
  refine svc_sound (AI := AI) (G := { G with size := fn.ntmps }) hE hm hG c hok _ _ _ _ w h ⟨rfl, ρ, h1⟩ fun e s' hq => ?_
  refine bodyPost_of (AI := AI) (G := { G with size := fn.ntmps }) hE.ti hG hq (R := fun e w' => ∃ y ρ', e = .returned y ∧ Holds AI G ⟨[], H1⟩ ρ' #[] w' ∧ Den ρ' v y) fun y ρ' w' h2 h3 => ⟨y, ρ', rfl, ?_, h3⟩
  have e1 : ({ { G with size := fn.ntmps } with size := 0 } : Fr) = G := by cases G; simp at hsz; subst hsz; rfl
  rw [e1] at h2
  exact h2

theorem tmpl_of_body [SubA A] {E : Env A} (hE : EnvOk P AI E) (hm : P.follows .mixedOrders = true) {f : FuncId} {fn : Func} {c : Code} (hf : P.funcs[f]? = some fn) (hb : fn.body = some c) (hok : codeOk fn.ntmps c = true) {args : List SV} (hargs : args.length ≤ fn.ntmps) {H0 : List (Chunk A)}
    {v : SV} {H1 : List (Chunk A)} (h : svc E H0.length c ⟨argT 0 args, H0⟩ (finP E.ti H0.length fn.results.toList v H1)) : TmplOk P AI f args H0 v H1 :=
  fun _ _ _ _ hG hsz hh hd => body_ok hE hm hf hb hok hargs h hG hsz hh hd

/-! ### a contract in another state -/
/-- Values that name no chunk. -/
def closed1 : SV1 → Bool
  | .ptr _ _ => false
  | .mp _ => false
  | .hd _ _ => false
  | .vw _ _ _ _ _ => false
  | .ep _ _ _ _ _ => false
  | .fnc _ _ => false
  | _ => true
theorem closed1_den {ρ ρ' : Ev} (hM : ρ'.M = ρ.M) {x : SV1} (hx : closed1 x = true) {v : Value} : Den1 ρ' x v ↔ Den1 ρ x v := by
  cases x <;> simp [closed1] at hx <;> simp only [Den1, hM]

/-- The chunk of the caller before and behind the call (c, c'), and as the callee numbers it (c0, c1). -/
def Kin (ver : Nat) (c c' c0 c1 : Chunk A) : Prop := (∃ x x', c = .abs x ∧ c' = .abs x' ∧ c0 = .abs x ∧ c1 = .abs x') ∨ ∃ t e L L', c = .row t e ver L ∧ c' = .row t e ver L' ∧ c0 = .row t e 0 L ∧ c1 = .row t e 0 L'

/-- The place of a number in a list. -/
def posOf : List Nat → Nat → Option Nat
  | [], _ => none
  | x :: r, i => if x = i then some 0 else (posOf r i).map (· + 1)
theorem posOf_some : ∀ {l : List Nat} {i j : Nat}, posOf l i = some j → l[j]? = some i
  | [], i, j, h => by cases h
  | x :: r, i, j, h => by
    simp only [posOf] at h
    split at h
    · rename_i e; cases h; simp [e]
    · simp only [Option.map_eq_some_iff] at h
      obtain ⟨k, h1, rfl⟩ := h
      simpa using posOf_some h1
theorem posOf_none : ∀ {l : List Nat} {i : Nat}, posOf l i = none → i ∉ l
  | [], i, h => by simp
  | x :: r, i, h => by
    simp only [posOf] at h
    split at h
    · cases h
    · rename_i e
      simp only [Option.map_eq_none_iff] at h
      simp only [List.mem_cons, not_or]
      exact ⟨fun e' => e e'.symm, posOf_none h⟩
theorem posOf_nodup {l : List Nat} (hn : l.Nodup) {i j : Nat} (h : l[j]? = some i) : posOf l i = some j := by
  cases hp : posOf l i with
  | none => exact absurd (List.mem_of_getElem? h) (posOf_none hp)
  | some k =>
    have h1 := posOf_some hp
    have hk := (List.getElem?_eq_some_iff.1 h1).1
    exact congrArg some ((List.getElem?_inj hk hn).1 (h1.trans h.symm))

theorem frame_call {f : FuncId} {args0 : List SV} {H0 H1 : List (Chunk A)} {v0 : SV} (hT : TmplOk P AI f args0 H0 v0 H1) {tmps : Array Value} (h : Holds AI G s ρ tmps w) {ids news : List Nat} (hn : (ids ++ news).Nodup) (hl0 : ids.length = H0.length)
    (hnew : ∀ i ∈ news, getC s.H i = .emp) {H' : List (Chunk A)} (hkin : ∀ j i, ids[j]? = some i → Kin (ρ.ver i) (getC s.H i) (getC H' i) (getC H0 j) (getC H1 j)) (hnew' : ∀ j i, news[j]? = some i → getC H' i = getC H1 (ids.length + j) ∧ (∀ t cs, getC H1 (ids.length + j) ≠ .cells t cs) ∧ (∀ ks e L R c q, getC H1 (ids.length + j) ≠ .rmap ks e L R c q) ∧ (∀ t tb z u L q, getC H1 (ids.length + j) ≠ .nest t tb z u L (some q)) ∧ ∀ tb L q, getC H1 (ids.length + j) ≠ .mnest tb L (some q)) (hrest : ∀ i, i ∉ ids ++ news → getC H' i = getC s.H i)
    {us : List Value} (hargs : ∀ ρc : Ev, ρc.M = ρ.M → (∀ j i, ids[j]? = some i → ρc.root j = ρ.root i ∧ ρc.ver j = 0) → All2 (Den ρc) args0 us) {v : SV}
    (hres : ∀ ρc ρ' : Ev, ρ'.M = ρc.M → (∀ j i, (ids ++ news)[j]? = some i → ρ'.root i = ρc.root j) → (∀ j i, news[j]? = some i → ρ'.ver i = ρc.ver (ids.length + j)) → ∀ y, Den ρc v0 y → Den ρ' v y) :
    Calls P f us.toArray w fun e w' => ∃ y ρ', e = .returned y ∧ Holds AI G ⟨s.tm, H'⟩ ρ' tmps w' ∧ Den ρ' v y ∧ ρ.Le ρ' := by
  let n0 := ids.length
  let idO : Nat → Nat := fun j => ids[j]?.getD 0
  let ρc : Ev := { root := fun j => if j < n0 then ρ.root (idO j) else .bool false, ver := fun _ => 0, M := ρ.M, foot := fun j => if j < n0 then ρ.foot (idO j) else [] }
  let Gc : Fr := { w0 := w, own := fun b => ∃ j, j < n0 ∧ b ∈ ρ.foot (idO j), n0 := n0, root0 := ρc.root, M0 := ρ.M, size := 0 }
  have hid : ∀ j i, ids[j]? = some i → j < n0 ∧ idO j = i := fun j i hj => ⟨(List.getElem?_eq_some_iff.1 hj).1, by simp [idO, hj]⟩
  have hidj : ∀ j, j < n0 → ids[j]? = some (idO j) := fun j hj => by
    have : ids[j]? = some (ids[j]'hj) := List.getElem?_eq_getElem hj
    simp [idO, this]
  have hnO : ids.Nodup := (List.nodup_append.1 hn).1
  have hinj : ∀ j k, j < n0 → k < n0 → idO j = idO k → j = k := fun j k hj hk e =>
    (List.getElem?_inj hj hnO).1 ((hidj j hj).trans (by rw [e]; exact (hidj k hk).symm))
  have hfc : ∀ j, j < n0 → ρc.foot j = ρ.foot (idO j) := fun j hj => by simp [ρc, hj]
  have hfc2 : ∀ j b, b ∈ ρc.foot j → j < n0 ∧ b ∈ ρ.foot (idO j) := by
    intro j b hb
    simp only [ρc] at hb
    split at hb
    · rename_i hj; exact ⟨hj, hb⟩
    · cases hb
  have hc : Holds AI Gc ⟨[], H0⟩ ρc #[] w := by
    refine ⟨rfl, h.gtOf (fun b hb => by obtain ⟨j, _, hj⟩ := hb; exact ⟨_, hj⟩), (fun t x ht => by cases ht), fun j => ?_, fun i j b hij hi hj => ?_, fun i b hb => h.lt _ b (hfc2 i b hb).2, fun b o x hm => ⟨(h.im b o x hm).1, fun i hb => (h.im b o x hm).2 _ (hfc2 i b hb).2⟩, rfl, rfl, rfl, Nat.le_refl _, fun _ _ _ => rfl,
      fun i b hb => .inl ⟨i, hfc2 i b hb⟩, fun _ _ _ hb => hb, fun i _ => ⟨Nat.zero_le _, fun _ _ _ hb _ => hb⟩, fun _ _ _ hm => hm, fun b o x hm => .inl hm⟩
    · by_cases hj : j < n0
      · have hcc := h.ch (idO j)
        have e1 : ρc.root j = ρ.root (idO j) := by simp [ρc, hj]
        rcases hkin j _ (hidj j hj) with ⟨x, x', h1, -, h2, -⟩ | ⟨t, e, L, L', h1, -, h2, -⟩
        · rw [h1] at hcc
          show HoldsC AI ρc w j (getC H0 j)
          rw [h2]
          simp only [HoldsC, e1, hfc j hj] at hcc ⊢
          exact hcc
        · rw [h1] at hcc
          show HoldsC AI ρc w j (getC H0 j)
          rw [h2]
          exact ⟨rfl, by rw [e1, hfc j hj]; exact hcc.2⟩
      · show HoldsC AI ρc w j (getC H0 j)
        rw [getC_beyond (by omega)]
        exact ⟨by simp [ρc, hj], by simp [ρc, hj], rfl⟩
    · obtain ⟨h1, h2⟩ := hfc2 i b hi
      obtain ⟨h3, h4⟩ := hfc2 j b hj
      exact h.dis _ _ b (fun e => hij (hinj i j h1 h3 e)) h2 h4
  have hcall := hT Gc ρc w us hl0 rfl hc (hargs ρc rfl fun j i hj => by obtain ⟨h1, h2⟩ := hid j i hj; exact ⟨by simp [ρc, h1, h2], rfl⟩)
  refine hcall.mono ?_
  rintro e w' ⟨y, ρr, rfl, hr, hy⟩
  let all := ids ++ news
  let ρ' : Ev := { root := fun i => match posOf all i with | some j => ρr.root j | none => ρ.root i, ver := fun i => match posOf all i with | some j => if j < n0 then ρ.ver i else ρr.ver j | none => ρ.ver i, M := ρr.M, foot := fun i => match posOf all i with | some j => ρr.foot j | none => ρ.foot i }
  have hpos : ∀ {j i}, all[j]? = some i → posOf all i = some j := posOf_nodup hn
  have hroot : ∀ {j i}, all[j]? = some i → ρ'.root i = ρr.root j := fun hj => by simp only [ρ', hpos hj]
  have hfoot : ∀ {j i}, all[j]? = some i → ρ'.foot i = ρr.foot j := fun hj => by simp only [ρ', hpos hj]
  have hverO : ∀ {j i}, all[j]? = some i → j < n0 → ρ'.ver i = ρ.ver i := fun hj hlt => by simp only [ρ', hpos hj, if_pos hlt]
  have hverN : ∀ {j i}, all[j]? = some i → ¬ j < n0 → ρ'.ver i = ρr.ver j := fun hj hlt => by simp only [ρ', hpos hj, if_neg hlt]
  have hout : ∀ {i}, posOf all i = none → ρ'.root i = ρ.root i ∧ ρ'.ver i = ρ.ver i ∧ ρ'.foot i = ρ.foot i := fun hp => ⟨by simp only [ρ', hp], by simp only [ρ', hp], by simp only [ρ', hp]⟩
  have hallO : ∀ {j}, j < n0 → all[j]? = some (idO j) := fun hj => by
    have := hidj _ hj
    simp only [all]
    rw [List.getElem?_append_left hj]; exact this
  have hallN : ∀ {j i}, all[j]? = some i → ¬ j < n0 → news[j - n0]? = some i := fun {j i} hj hlt => by
    simp only [all] at hj
    rwa [List.getElem?_append_right (by omega)] at hj
  have hblk : ∀ b, b < w.heap.size → (∀ j, j < n0 → b ∉ ρ.foot (idO j)) → w'.heap[b]? = w.heap[b]? := fun b hb hnb => hr.kept b hb (by rintro ⟨j, hj, hb'⟩; exact hnb j hj hb')
  have hrfoot : ∀ j b, b ∈ ρr.foot j → (∃ k, k < n0 ∧ b ∈ ρ.foot (idO k)) ∨ w.heap.size ≤ b := fun j b hb => hr.fro j b hb
  have hnone : ∀ {i b}, posOf all i = none → b ∈ ρ.foot i → ∀ j, j < n0 → b ∉ ρ.foot (idO j) := fun {i b} hp hb j hj hb' => by
    refine h.dis i (idO j) b (fun e => ?_) hb hb'
    subst e
    rw [hpos (hallO hj)] at hp; cases hp
  have le : ρ.Le ρ' := by
    refine ⟨hr.mono, fun i b hb => ?_, fun i => ?_, fun i hv hs => ?_⟩
    · cases hp : posOf all i with
      | none => rw [(hout hp).1]; exact hb
      | some j =>
        have hj := posOf_some hp
        rw [hroot hj]
        by_cases hlt : j < n0
        · have e1 := hallO hlt
          rw [hj] at e1
          cases e1
          exact hr.rt j b hlt (by show ρc.root j = _; simp only [ρc, if_pos hlt]; exact hb)
        · have := hnew i (List.mem_of_getElem? (hallN hj hlt))
          have h1 := h.ch i
          rw [this] at h1
          rw [h1.2.1] at hb; cases hb
    · cases hp : posOf all i with
      | none => rw [(hout hp).2.1]; exact Nat.le_refl _
      | some j =>
        have hj := posOf_some hp
        by_cases hlt : j < n0
        · rw [hverO hj hlt]; exact Nat.le_refl _
        · have := hnew i (List.mem_of_getElem? (hallN hj hlt))
          have h1 := h.ch i
          rw [this] at h1
          rw [h1.2.2]; exact Nat.zero_le _
    · cases hp : posOf all i with
      | none => exact (hout hp).1
      | some j =>
        have hj := posOf_some hp
        by_cases hlt : j < n0
        · have e1 := hallO hlt
          rw [hj] at e1
          cases e1
          rw [hroot hj]
          obtain ⟨ao, l, c, hs⟩ := hs
          have hr0 : Gc.root0 j = .slice ao l c := by show ρc.root j = _; simp only [ρc, if_pos hlt]; exact hs
          rcases hkin j _ (hidj j hlt) with ⟨x, x', h1, -, -, -⟩ | ⟨t, e, L, L', -, -, -, h2⟩
          · have h4 := h.ch (idO j)
            rw [h1] at h4
            obtain ⟨b, h7⟩ := AI.root h4
            rw [hs] at h7; cases h7
          · have h3 := hr.ch j
            simp only [] at h3
            rw [h2] at h3
            rw [(hr.rts j hlt).2 ao l c hr0 h3.1.symm, hs]
        · have := hnew i (List.mem_of_getElem? (hallN hj hlt))
          have h1 := h.ch i
          rw [this] at h1
          obtain ⟨_, _, _, hs⟩ := hs
          rw [h1.2.1] at hs; cases hs
  refine ⟨y, ρ', rfl, ⟨h.sz, h.gt, fun t x ht => ?_, fun i => ?_, fun i k b hik hi hk => ?_, fun i b hb => ?_, fun b o x hm => ⟨(hr.im b o x hm).1, fun i hb => ?_⟩, hr.os.trans h.os, hr.tape.trans h.tape, hr.output.trans h.output, Nat.le_trans h.grow hr.grow,
    fun b hb hn' => ?_, fun i b hb => ?_, fun i b hi hb => le.ptr i b (h.rt i b hi hb), fun i hi => ?_, fun b o x hm => hr.mono b o x (h.mono b o x hm), fun b o x hm => ?_⟩, ?_, le⟩
  · obtain ⟨u, h1, h2⟩ := h.tm t x ht; exact ⟨u, h1, h2.mono le⟩
  · show HoldsC AI ρ' w' i (getC H' i)
    cases hp : posOf all i with
    | none =>
      rw [hrest i (posOf_none hp)]
      obtain ⟨e1, e2, e3⟩ := hout hp
      exact (h.ch i).stays le e1 e2 e3 fun b hb => hblk b (h.lt i b hb) (hnone hp hb)
    | some j =>
      have hj := posOf_some hp
      have h3 := hr.ch j
      simp only [] at h3
      by_cases hlt : j < n0
      · have e1 := hallO hlt
        rw [hj] at e1
        cases e1
        rcases hkin j _ (hidj j hlt) with ⟨x, x', -, h1, -, h2⟩ | ⟨t, e, L, L', -, h1, -, h2⟩
        · rw [h1]
          rw [h2] at h3
          simp only [HoldsC, hroot hj, hfoot hj] at h3 ⊢
          exact h3
        · rw [h1]
          rw [h2] at h3
          exact ⟨(hverO hj hlt).symm, by rw [hroot hj, hfoot hj]; exact h3.2⟩
      · have hj' := hallN hj hlt
        obtain ⟨h4, h5, h5', h5'', h5m⟩ := hnew' _ _ hj'
        have hjn : ids.length + (j - n0) = j := by show n0 + (j - n0) = j; omega
        rw [hjn] at h4 h5 h5' h5'' h5m
        rw [h4]
        cases hg : getC H1 j with
        | emp => rw [hg] at h3; simp only [HoldsC, hroot hj, hfoot hj, hverN hj hlt] at h3 ⊢; exact h3
        | gone => trivial
        | cells t cs => exact absurd hg (h5 t cs)
        | row t e ver L => rw [hg] at h3; exact ⟨h3.1.trans (hverN hj hlt).symm, by rw [hroot hj, hfoot hj]; exact h3.2⟩
        | map ks e L => rw [hg] at h3; simp only [HoldsC, hroot hj, hfoot hj] at h3 ⊢; exact h3
        | rmap ks e L R c q => exact absurd hg (h5' ks e L R c q)
        | itp q => rw [hg] at h3; simp only [HoldsC, hroot hj, hfoot hj] at h3 ⊢; exact h3
        | mnest tb L q =>
          cases q with
          | some q => exact absurd hg (h5m _ _ _)
          | none =>
            rw [hg] at h3
            simp only [HoldsC, hroot hj, hfoot hj] at h3 ⊢
            exact h3.stays' (fun _ _ _ h => h) (fun _ _ e => by cases e) fun _ _ => rfl
        | nest t tb z ver L q =>
          cases q with
          | some q => exact absurd hg (h5'' _ _ _ _ _ _)
          | none => rw [hg] at h3; exact ⟨h3.1.trans (hverN hj hlt).symm, by rw [hroot hj, hfoot hj]; exact h3.2.congrM rfl⟩
        | abs x => rw [hg] at h3; simp only [HoldsC, hroot hj, hfoot hj] at h3 ⊢; exact h3
  · cases hp : posOf all i with
    | none =>
      rw [(hout hp).2.2] at hi
      cases hq : posOf all k with
      | none => rw [(hout hq).2.2] at hk; exact h.dis i k b hik hi hk
      | some j =>
        rw [hfoot (posOf_some hq)] at hk
        rcases hrfoot j b hk with ⟨m, hm, hb⟩ | hge
        · exact hnone hp hi m hm hb
        · have := h.lt i b hi; omega
    | some j =>
      rw [hfoot (posOf_some hp)] at hi
      cases hq : posOf all k with
      | none =>
        rw [(hout hq).2.2] at hk
        rcases hrfoot j b hi with ⟨m, hm, hb⟩ | hge
        · exact hnone hq hk m hm hb
        · have := h.lt k b hk; omega
      | some j' =>
        rw [hfoot (posOf_some hq)] at hk
        refine hr.dis j j' b (fun e => hik ?_) hi hk
        subst e
        have h1 := posOf_some hp
        have h2 := posOf_some hq
        rw [h1] at h2
        exact Option.some.inj h2
  · cases hp : posOf all i with
    | none => rw [(hout hp).2.2] at hb; exact Nat.lt_of_lt_of_le (h.lt i b hb) hr.grow
    | some j => rw [hfoot (posOf_some hp)] at hb; exact hr.lt j b hb
  · cases hp : posOf all i with
    | none =>
      rw [(hout hp).2.2] at hb
      rcases hr.mfr b o x hm with h1 | ⟨m, h1, h2⟩ | h1
      · exact (h.im b o x h1).2 i hb
      · exact hnone hp hb m h1 h2
      · have h1 : w.heap.size ≤ b := h1
        have := h.lt i b hb; omega
    | some j => rw [hfoot (posOf_some hp)] at hb; exact (hr.im b o x hm).2 j hb
  · refine (hblk b (Nat.lt_of_lt_of_le hb h.grow) fun j hj hb' => ?_).trans (h.kept b hb hn')
    rcases h.fro _ b hb' with h1 | h1
    · exact hn' h1
    · omega
  · have new : ∀ b, w.heap.size ≤ b → G.w0.heap.size ≤ b := fun b hb => Nat.le_trans h.grow hb
    cases hp : posOf all i with
    | none => rw [(hout hp).2.2] at hb; exact h.fro i b hb
    | some j =>
      rw [hfoot (posOf_some hp)] at hb
      rcases hrfoot j b hb with ⟨m, hm, hb'⟩ | hge
      · exact h.fro _ b hb'
      · exact .inr (new b hge)
  · obtain ⟨hv0, hs⟩ := h.rts i hi
    refine ⟨Nat.le_trans hv0 (le.ver i), fun ao l c hb hv => ?_⟩
    have e0 : ρ.ver i = G.ver0 i := Nat.le_antisymm (hv ▸ le.ver i) hv0
    have h1 := hs ao l c hb e0
    rw [le.same i (by rw [e0, hv]) ⟨_, _, _, h1⟩]; exact h1
  · rcases hr.mfr b o x hm with h1 | ⟨m, h1, h2⟩ | h1
    · exact h.mfr b o x h1
    · exact .inr (h.fro _ b h2)
    · exact .inr (.inr (Nat.le_trans h.grow h1))
  · refine hres ρr ρ' rfl (fun j i hj => hroot hj) (fun j i hj => ?_) y hy
    have hj2 : all[n0 + j]? = some i := by
      simp only [all]
      rw [List.getElem?_append_right (by show n0 ≤ n0 + j; omega)]
      simpa [n0] using hj
    exact hverN hj2 (by omega)

end Go.Sx

/-
  Symbolic execution: maps whose keys are structs or arrays of ints and Bools.
-/
namespace Go.Sx
set_option linter.all false
open Go.RowKit

variable {P : Program}

theorem mapM_some {α β : Type} {f : α → Option β} : ∀ {l : List α}, (∀ x ∈ l, ∃ y, f x = some y) → ∃ ys, l.mapM f = some ys
  | [], _ => ⟨[], rfl⟩
  | x :: r, h => by
    obtain ⟨y, hy⟩ := h x (List.mem_cons_self ..)
    obtain ⟨ys, hys⟩ := mapM_some fun z hz => h z (List.mem_cons_of_mem _ hz)
    exact ⟨y :: ys, by simp [List.mapM_cons, hy, hys]⟩
theorem one_at {α : Type} {l : List α} {i : Nat} {v : α} (h : l[i]? = some v) : (l.drop i).take 1 = [v] := by
  obtain ⟨hl, e⟩ := List.getElem?_eq_some_iff.1 h
  rw [List.drop_eq_getElem_cons hl, e]; rfl

def scalB (P : Program) (t : TypeId) (e : Ty) : Bool := P.cellsOf t == 1 && e.keyF && match e, P.underlying t with
  | .int k, some (.int k') => k == k'
  | .bool, some .bool => true
  | _, _ => false
theorem scal_lits {t : TypeId} {e : Ty} (h : scalB P t e = true) {x : e.T} (hx : e.keyIn x) : ∃ v l, e.keyCs x = [v] ∧ ∀ d, P.keyLits (d + 1) t [v] = some [l] := by
  unfold scalB at h
  simp only [Bool.and_eq_true, beq_iff_eq] at h
  obtain ⟨⟨h1, h2⟩, h3⟩ := h
  split at h3
  · rename_i k k' hu
    simp at h3; subst h3
    cases k <;> cases h2
    refine ⟨_, .int .i64 x, rfl, fun d => ?_⟩
    have : (Lit.int .i64 x).wf = true := by
      have hx : -9223372036854775808 ≤ x ∧ x ≤ 9223372036854775807 := hx
      simp [Lit.wf, IntKind.min, IntKind.max, IntKind.signed, IntKind.bits]
      omega
    simp [Program.keyLits, hu, this]
  · rename_i hu
    exact ⟨_, .bool x, rfl, fun d => by simp [Program.keyLits, hu]⟩
  · cases h3
theorem scal_cells {t : TypeId} {e : Ty} (h : scalB P t e = true) : P.cellsOf t = 1 := by
  unfold scalB at h
  simp only [Bool.and_eq_true, beq_iff_eq] at h
  exact h.1.1

def fldsB (P : Program) : Nat → List Field → Ty → Bool
  | j, [f], e => f.offset == j && f.name != "_" && scalB P f.type e
  | j, f :: g :: r, .pair a b => f.offset == j && f.name != "_" && scalB P f.type a && fldsB P (j + 1) (g :: r) b
  | _, _, _ => false
theorem flds_mem : ∀ {fs : List Field} {j : Nat} {e : Ty}, fldsB P j fs e = true → ∀ {x : e.T}, e.keyIn x → ∀ f ∈ fs, f.name ≠ "_" ∧ P.cellsOf f.type = 1 ∧ j ≤ f.offset ∧ ∃ v l, (e.keyCs x)[f.offset - j]? = some v ∧ ∀ d, P.keyLits (d + 1) f.type [v] = some [l]
  | [], j, e, h, x, hx, f, hf => by cases hf
  | [g], j, e, h, x, hx, f, hf => by
    simp only [fldsB, Bool.and_eq_true, beq_iff_eq, bne_iff_ne] at h
    obtain ⟨⟨h1, h2⟩, h3⟩ := h
    obtain rfl := List.mem_singleton.1 hf
    obtain ⟨v, l, e1, hl⟩ := scal_lits h3 hx
    exact ⟨h2, scal_cells h3, by omega, v, l, by rw [e1, h1]; simp, hl⟩
  | g :: g2 :: r, j, e, h, x, hx, f, hf => by
    cases e <;> simp only [fldsB, Bool.and_eq_true, beq_iff_eq, bne_iff_ne, Bool.false_eq_true] at h
    rename_i a b
    obtain ⟨⟨⟨h1, h2⟩, h3⟩, h4⟩ := h
    have hx : a.keyIn x.1 ∧ b.keyIn x.2 := hx
    obtain ⟨v, l, e1, hl⟩ := scal_lits h3 hx.1
    rcases List.mem_cons.1 hf with rfl | hf
    · exact ⟨h2, scal_cells h3, by omega, v, l, by simp [Ty.keyCs, e1, h1], hl⟩
    · obtain ⟨q1, q2, q3, v2, l2, q4, q5⟩ := flds_mem h4 hx.2 f hf
      refine ⟨q1, q2, by omega, v2, l2, ?_, q5⟩
      simp only [Ty.keyCs, e1]
      rw [List.getElem?_append_right (by simp; omega)]
      rw [← q4]; congr 1
def arrB (P : Program) (el : TypeId) : Nat → Ty → Bool
  | 0, _ => false
  | 1, e => scalB P el e
  | n + 2, .pair a b => scalB P el a && arrB P el (n + 1) b
  | _, _ => false
theorem arr_get {el : TypeId} : ∀ {n : Nat} {e : Ty}, arrB P el n e = true → ∀ {x : e.T}, e.keyIn x → ∀ i, i < n → ∃ v l, (e.keyCs x)[i]? = some v ∧ ∀ d, P.keyLits (d + 1) el [v] = some [l]
  | 0, e, h, x, hx, i, hi => by omega
  | 1, e, h, x, hx, i, hi => by
    obtain ⟨v, l, e1, hl⟩ := scal_lits (show scalB P el e = true from h) hx
    obtain rfl : i = 0 := by omega
    exact ⟨v, l, by rw [e1]; rfl, hl⟩
  | n + 2, e, h, x, hx, i, hi => by
    cases e <;> simp only [arrB, Bool.and_eq_true, Bool.false_eq_true] at h
    rename_i a b
    have hx : a.keyIn x.1 ∧ b.keyIn x.2 := hx
    obtain ⟨v, l, e1, hl⟩ := scal_lits h.1 hx.1
    cases i with
    | zero => exact ⟨v, l, by simp [Ty.keyCs, e1], hl⟩
    | succ i =>
      obtain ⟨v2, l2, q4, q5⟩ := arr_get h.2 hx.2 i (by omega)
      exact ⟨v2, l2, by simp only [Ty.keyCs, e1]; simpa using q4, q5⟩

def keyB (P : Program) (t : TypeId) (e : Ty) : Bool := e.keyF && P.keyTypeAt 3 t && P.keyType t && P.tiled 3 t && P.cellsOf t == e.size && bleN 1 P.types.size && match P.underlying t with
  | some (.struct fs) => fldsB P 0 fs.toList e
  | some (.array n el) => arrB P el n e && P.cellsOf el == 1
  | _ => false
theorem keyCs_size : ∀ {e : Ty}, e.keyF = true → ∀ (x : e.T), (e.keyCs x).length = e.size
  | .int k, _, _ => rfl
  | .bool, _, _ => rfl
  | .pair a b, hf, x => by
    simp only [Ty.keyF, Bool.and_eq_true] at hf
    simp [Ty.keyCs, Ty.size, keyCs_size hf.1, keyCs_size hf.2]
  | .bytes, hf, _ => by cases hf
  | .str, hf, _ => by cases hf
  | .unit, hf, _ => by cases hf
  | .lst _, hf, _ => by cases hf
theorem keyCs_inj : ∀ {e : Ty}, e.keyF = true → ∀ {x y : e.T}, e.keyCs x = e.keyCs y → x = y
  | .int k, _, x, y, h => by simp [Ty.keyCs] at h; exact h
  | .bool, _, x, y, h => by simp [Ty.keyCs] at h; exact h
  | .pair a b, hf, x, y, h => by
    simp only [Ty.keyF, Bool.and_eq_true] at hf
    simp only [Ty.keyCs] at h
    obtain ⟨h1, h2⟩ := List.append_inj h (by rw [keyCs_size hf.1, keyCs_size hf.1])
    exact Prod.ext (keyCs_inj hf.1 h1) (keyCs_inj hf.2 h2)
  | .bytes, hf, _, _, _ => by cases hf
  | .str, hf, _, _, _ => by cases hf
  | .unit, hf, _, _, _ => by cases hf
  | .lst _, hf, _, _, _ => by cases hf
theorem keyB_sound {t : TypeId} {e : Ty} (h : keyB P t e = true) : AggKey P t e := by
  unfold keyB at h
  simp only [Bool.and_eq_true, beq_iff_eq, bleN_iff] at h
  obtain ⟨⟨⟨⟨⟨⟨h1, h2⟩, h3⟩, h4⟩, h5⟩, h6⟩, h7⟩ := h
  obtain ⟨n, hn⟩ : ∃ n, P.types.size = n + 1 := ⟨P.types.size - 1, by omega⟩
  have hwide : (match P.underlying t with | some (.array _ _) | some (.struct _) => true | _ => false) = true := by
    split at h7
    · rename_i hu; rw [hu]
    · rename_i hu; rw [hu]
    · cases h7
  have hread : ∀ x : e.T, e.keyIn x → ∃ l, keyOf P t (.agg (e.keyCs x).toArray) = some l := by
    intro x hx
    have hlen := keyCs_size h1 x
    have hlits : ∃ ls, P.keyLits (P.types.size + 1) t (e.keyCs x) = some ls := by
      rw [hn]
      unfold Program.keyLits
      split at h7
      · rename_i fs hu
        simp only [hu]
        have hm := flds_mem h7 hx
        rw [if_pos ⟨by rw [hlen, h5], by
          rw [Array.all_eq_true_iff_forall_mem]
          intro f hf
          have := (hm f (Array.mem_toList_iff.2 hf)).1
          simpa using this⟩]
        obtain ⟨ys, hys⟩ := mapM_some (f := fun f : Field => P.keyLits (n + 1) f.type (((e.keyCs x).drop f.offset).take (P.cellsOf f.type))) (l := fs.toList) (fun f hf => by
          obtain ⟨q1, q2, q3, v, l, q4, q5⟩ := hm f hf
          rw [Nat.sub_zero] at q4
          exact ⟨[l], by rw [q2, one_at q4]; exact q5 n⟩)
        exact ⟨_, by rw [hys]; rfl⟩
      · rename_i m el hu
        simp only [hu]
        simp only [Bool.and_eq_true, beq_iff_eq] at h7
        rw [if_pos (by rw [hlen, h5])]
        obtain ⟨ys, hys⟩ := mapM_some (f := fun i => P.keyLits (n + 1) el (((e.keyCs x).drop (i * P.cellsOf el)).take (P.cellsOf el))) (l := List.range m) (fun i hi => by
          obtain ⟨v, l, q4, q5⟩ := arr_get h7.1 hx i (List.mem_range.1 hi)
          exact ⟨[l], by rw [h7.2, Nat.mul_one, one_at q4]; exact q5 n⟩)
        exact ⟨_, by rw [hys]; rfl⟩
      · cases h7
    obtain ⟨ls, hls⟩ := hlits
    have hform : (Value.agg (e.keyCs x).toArray).formed P t = true := by
      unfold Value.formed
      split at hwide
      · rename_i hu; simp [hu, hlen, h5]
      · rename_i hu; simp [hu, hlen, h5]
      · cases hwide
    have hcells : (Value.agg (e.keyCs x).toArray).cells.toList = e.keyCs x := by simp [Value.cells]
    refine ⟨.string (keyBytes ls), ?_⟩
    unfold keyOf
    split at hwide
    · rename_i hu
      simp only [hu, h3, hform, Bool.and_self, if_true, hcells, hls]; rfl
    · rename_i hu
      simp only [hu, h3, hform, Bool.and_self, if_true, hcells, hls]; rfl
    · cases hwide
  have law := deep_law (P := P) (m := 3) (by decide) h2 h4 hwide
  refine ⟨hwide, fun x y hx hy w => ?_, fun x hx em w => ?_, fun x hx w => ?_⟩
  · obtain ⟨lx, e1⟩ := hread x hx
    obtain ⟨ly, e2⟩ := hread y hy
    obtain ⟨r, hr, hiff⟩ := run_equal_deep w (show 3 ≤ 10000 by decide) h2 hwide e1 e2
    rw [hr]
    congr 1
    letI := e.dec
    rw [Bool.eq_iff_iff, hiff, decide_eq_true_iff]
    constructor
    · intro e3
      subst e3
      have := law.inj e1 e2
      simp only [Value.agg.injEq] at this
      exact keyCs_inj h1 (by simpa using congrArg Array.toList this)
    · rintro rfl
      rw [e1] at e2; exact Option.some.inj e2
  · obtain ⟨lx, e1⟩ := hread x hx
    exact law.check w em e1
  · obtain ⟨lx, e1⟩ := hread x hx
    exact law.stays w e1
end Go.Sx

/-
  Symbolic execution: the table of types, checked by the kernel.
-/
namespace Go.Sx
set_option linter.all false
open Go.RowKit

variable {P : Program}

def zeroB : Ty → List Value → Option (List Value)
  | .int k, .int k' n :: r => if k = k' ∧ n = 0 then some r else none
  | .bool, .bool b :: r => if b = false then some r else none
  | .bytes, .slice none 0 0 :: r => some r
  | .lst _, .slice none 0 0 :: r => some r
  | .str, .string s :: r => if s.size = 0 then some r else none
  | .unit, r => some r
  | .pair a b, r => match zeroB a r with
    | some r => zeroB b r
    | none => none
  | _, _ => none

def isNil : Option (List Value) → Bool
  | some [] => true
  | _ => false
theorem isNil_eq {o : Option (List Value)} (h : isNil o = true) : o = some [] := by
  unfold isNil at h
  split at h
  · rfl
  · cases h

theorem zeroB_sound {M : Mem} : ∀ {T : Ty} {l r : List Value}, zeroB T l = some r → ∃ l1, l = l1 ++ r ∧ l1.length = T.size ∧ CellsM M T T.dflt (fun j => l1[j]?)
  | .int k, l, r, h => by
    cases l with
    | nil => simp [zeroB] at h
    | cons v l =>
      cases v <;> simp [zeroB] at h
      obtain ⟨⟨rfl, rfl⟩, rfl⟩ := h
      exact ⟨[.int k 0], rfl, rfl, rfl⟩
  | .bool, l, r, h => by
    cases l with
    | nil => simp [zeroB] at h
    | cons v l =>
      cases v <;> simp [zeroB] at h
      obtain ⟨rfl, rfl⟩ := h
      exact ⟨[.bool false], rfl, rfl, rfl⟩
  | .bytes, l, r, h => by
    cases l with
    | nil => simp [zeroB] at h
    | cons v l =>
      cases v <;> (try (simp [zeroB] at h; done))
      rename_i ao len cap
      cases ao <;> cases len <;> cases cap <;> (try (simp [zeroB] at h; done))
      simp [zeroB] at h
      subst h
      exact ⟨[.slice none 0 0], rfl, rfl, _, rfl, none, 0, rfl, by simp [Ty.dflt], by simp [Ty.dflt]⟩
  | .lst e, l, r, h => by
    cases l with
    | nil => simp [zeroB] at h
    | cons v l =>
      cases v <;> (try (simp [zeroB] at h; done))
      rename_i ao len cap
      cases ao <;> cases len <;> cases cap <;> (try (simp [zeroB] at h; done))
      simp [zeroB] at h
      subst h
      exact ⟨[.slice none 0 0], rfl, rfl, _, rfl, none, 0, rfl, by simp [Ty.dflt], by simp [Ty.dflt]⟩
  | .str, l, r, h => by
    cases l with
    | nil => simp [zeroB] at h
    | cons v l =>
      cases v <;> simp [zeroB] at h
      rename_i s
      obtain ⟨h0, rfl⟩ := h
      refine ⟨[.string s], rfl, rfl, ?_⟩
      have : s = ⟨#[]⟩ := h0
      subst this
      show _ = _
      rfl
  | .unit, l, r, h => by simp [zeroB] at h; subst h; exact ⟨[], rfl, rfl, trivial⟩
  | .pair a b, l, r, h => by
    simp only [zeroB] at h
    split at h
    · rename_i r1 h1
      obtain ⟨l1, e1, e2, e3⟩ := zeroB_sound (M := M) h1
      obtain ⟨l2, e4, e5, e6⟩ := zeroB_sound (M := M) h
      refine ⟨l1 ++ l2, by rw [e1, e4]; simp, by simp [Ty.size, e2, e5], CellsM.congr a e3 fun j v hj hv => ?_, CellsM.congr b e6 fun j v hj hv => ?_⟩
      · simp only [List.getElem?_append_left (show j < l1.length by omega)]; exact hv
      · simp only [List.getElem?_append_right (show l1.length ≤ a.size + j by omega), show a.size + j - l1.length = j by omega]; exact hv
    · cases h

def offsB (P : Program) : List (Nat × Nat) → List Field → Bool
  | [], [] => true
  | (o, sz) :: l, f :: fs => f.offset == o && (match P.info? f.type with | some g => g.size == sz | none => false) && offsB P l fs
  | _, _ => false
theorem offsB_sound : ∀ {l : List (Nat × Nat)} {fs : List Field}, offsB P l fs = true → All2 (fun (p : Nat × Nat) (f : Field) => f.offset = p.1 ∧ ∃ g, P.info? f.type = some g ∧ g.size = p.2) l fs
  | [], [], _ => .nil
  | (o, sz) :: l, f :: fs, h => by
    simp only [offsB, Bool.and_eq_true, beq_iff_eq] at h
    obtain ⟨⟨h1, h2⟩, h3⟩ := h
    split at h2
    · rename_i g hg; exact .cons ⟨h1, g, hg, by simpa using h2⟩ (offsB_sound h3)
    · cases h2
  | [], _ :: _, h => by cases h
  | _ :: _, [], h => by cases h

def kindB (P : Program) (t : TypeId) (k : TK) : Bool := match k, P.underlying t with
  | .int k, some (.int k') => k == k'
  | .bool, some .bool => true
  | .str, some .string => true
  | .struct offs, some (.struct fs) => offsB P offs fs.toList
  | .slice e ty, some (.slice e') => e == e' && (match P.info? e with
    | some g => (match ty with
      | none => true
      | some T => g.size == T.size && decide (0 < g.size) && decide (g.bytes ≤ 128) && (match T, P.underlying e with | .int k, some (.int k') => k == k' | .int _, _ => false | _, _ => true) && (match g.zero with | some z => z.cells.size == T.size && isNil (zeroB T z.cells.toList) | none => false))
    | none => false)
  | .array n e, some (.array n' e') => n == n' && e == e' && (P.info? e).isSome
  | .ptr e, some (.pointer e') => e == e'
  | .other, some (.func _ _ _) => true
  | .map k e ty, some (.map k' e') => k == k' && e == e' && (match ty with
    | none => true
    | some (ks, T) => (match ks, P.underlying k with | .int kk, some (.int kk') => kk == kk' | .str, some .string => true | .agg e2, _ => keyB P k e2 | _, _ => false) && (match P.info? e with
      | some g => (match g.zero with
        | some (.agg cs) => T.agg && cs.size == T.size && isNil (zeroB T cs.toList)
        | some z => !T.agg && T.size == 1 && isNil (zeroB T [z])
        | none => false)
      | none => false))
  | _, _ => false

theorem kindB_sound {t : TypeId} {k : TK} (h : kindB P t k = true) : KindOk P t k := by
  unfold kindB at h
  split at h
  · rename_i k k' hu; simp at h; subst h; exact hu
  · rename_i hu; exact hu
  · rename_i hu; exact hu
  · rename_i offs fs hu; exact ⟨fs, hu, offsB_sound h⟩
  · rename_i e ty e' hu
    simp only [Bool.and_eq_true, beq_iff_eq] at h
    obtain ⟨rfl, h⟩ := h
    split at h
    · rename_i g hg
      refine ⟨hu, g, hg, fun T hT => ?_⟩
      subst hT
      simp only [Bool.and_eq_true, beq_iff_eq, decide_eq_true_eq] at h
      obtain ⟨⟨⟨⟨h1, h2⟩, h3⟩, h4⟩, h5⟩ := h
      refine ⟨h1, h2, h3, fun k hk => ?_, ?_⟩
      · subst hk
        split at h4
        · rename_i k1 k2 e1 e2; cases e1; simp at h4; subst h4; exact e2
        · cases h4
        · rename_i hno _; exact absurd rfl (hno _)
      · split at h5
        · rename_i z hz
          simp only [Bool.and_eq_true, beq_iff_eq] at h5
          obtain ⟨h6, h7⟩ := h5
          refine ⟨z, hz, h6, fun M => ?_⟩
          obtain ⟨l1, e1, e2, e3⟩ := zeroB_sound (M := M) (isNil_eq h7)
          simp only [List.append_nil] at e1
          rw [e1]; exact e3
        · cases h5
    · cases h
  · rename_i n e n' e' hu
    simp only [Bool.and_eq_true, beq_iff_eq] at h
    obtain ⟨⟨rfl, rfl⟩, h⟩ := h
    exact ⟨hu, Option.isSome_iff_exists.1 h⟩
  · rename_i e e' hu; simp at h; subst h; exact hu
  · rename_i hu; exact ⟨_, hu, fun x => ⟨fun e => (by cases e), fun n e q => (by cases q)⟩⟩
  · rename_i k e ty k' e' hu
    simp only [Bool.and_eq_true, beq_iff_eq] at h
    obtain ⟨⟨rfl, rfl⟩, h⟩ := h
    refine ⟨hu, fun ks T hT => ?_⟩
    subst hT
    simp only [Bool.and_eq_true] at h
    obtain ⟨h1, h2⟩ := h
    refine ⟨?_, ?_⟩
    · split at h1
      · rename_i h3; simp at h1; subst h1; exact h3
      · rename_i h3; exact h3
      · exact keyB_sound h1
      · cases h1
    · split at h2 <;> (try cases h2)
      rename_i g hg
      split at h2 <;> (try cases h2)
      · rename_i cs hz
        simp only [Bool.and_eq_true, beq_iff_eq] at h2
        obtain ⟨⟨h3, h4⟩, h5⟩ := h2
        refine ⟨g, _, hg, hz, fun M => ?_⟩
        obtain ⟨l1, e1, e2, e3⟩ := zeroB_sound (M := M) (isNil_eq h5)
        simp only [List.append_nil] at e1
        refine ⟨cs.toList, by simpa using h4, e1 ▸ e3, ?_⟩
        rw [h3]
      · rename_i z _ hz
        simp only [Bool.and_eq_true, beq_iff_eq, Bool.not_eq_true'] at h2
        obtain ⟨⟨h3, h4⟩, h5⟩ := h2
        refine ⟨g, _, hg, hz, fun M => ?_⟩
        obtain ⟨l1, e1, e2, e3⟩ := zeroB_sound (M := M) (isNil_eq h5)
        simp only [List.append_nil] at e1
        refine ⟨[z], by simpa using h4.symm, e1 ▸ e3, ?_⟩
        rw [h3]
  · cases h

/-! ### types whose values are compared cell by cell -/
def isIntT (P : Program) (t : TypeId) : Bool := match P.underlying t with
  | some (.int _) => true
  | _ => false
def intFs (P : Program) : Nat → List Field → Bool
  | _, [] => true
  | j, f :: r => f.name != "_" && f.offset == j && isIntT P f.type && intFs P (j + 1) r
def eqB (P : Program) (t : TypeId) (n : Nat) : Bool := match P.underlying t with
  | some (.struct fs) => !P.stoodInHeld t && !P.eqGuardType P.depth t && intFs P 0 fs.toList && fs.size == n
  | some (.array m e) => !P.eqGuardType P.depth t && isIntT P e && (P.info? e).isSome && P.cellsOf e == 1 && m == n
  | _ => false
theorem isIntT_sound {t : TypeId} (h : isIntT P t = true) : ∃ k, P.underlying t = some (.int k) := by
  unfold isIntT at h
  split at h
  · rename_i k hk; exact ⟨k, hk⟩
  · cases h
theorem part_int {e : TypeId} (he : isIntT P e = true) {xs : Array Value} {off : Nat} {v : Value} (hx : xs[off]? = some v) (w : World) : (part e xs off).run P w = .ok v w := by
  obtain ⟨k, hk⟩ := isIntT_sound he
  unfold part
  rw [Sem.run_bind]
  have h1 : (isAgg e).run P w = .ok false w := by simp [isAgg, run_underlying hk]
  rw [h1]
  simp only [Result.andThen, Bool.false_eq_true, if_false, hx]
  rfl
theorem eqFields_int (d : Nat) (w : World) (xs ys : Array Value) : ∀ (fs : List Field) (j : Nat) (vs us : List Value), intFs P j fs = true → fs.length = vs.length → All2 (fun v u => ∃ k a b, v = .int k a ∧ u = .int k b) vs us → (∀ i v, vs[i]? = some v → xs[j + i]? = some v) → (∀ i v, us[i]? = some v → ys[j + i]? = some v) →
    (Op.eqFields (d + 1) xs ys fs).run P w = .ok (eqVs vs us) w
  | [], j, vs, us, _, hl, h2, _, _ => by
    cases h2 with
    | nil => simp [Op.eqFields, eqVs]
    | cons _ _ => simp at hl
  | f :: fs, j, vs, us, hf, hl, h2, hx, hy => by
    cases h2 with
    | nil => simp at hl
    | @cons v u vs us h h2 =>
      obtain ⟨k, a, b, rfl, rfl⟩ := h
      simp only [intFs, Bool.and_eq_true, bne_iff_ne, ne_eq, beq_iff_eq] at hf
      obtain ⟨⟨⟨f1, f2⟩, f3⟩, f4⟩ := hf
      have e1 := part_int (P := P) f3 (hx 0 _ rfl) w
      have e2 := part_int (P := P) f3 (hy 0 _ rfl) w
      obtain ⟨k', hk'⟩ := isIntT_sound f3
      have e3 := run_equalIn_int (P := P) w d f.type k k' a b hk'
      have ih := eqFields_int d w xs ys fs (j + 1) vs us f4 (by simpa using hl) h2 (fun i v hi => by rw [show j + 1 + i = j + (i + 1) by omega]; exact hx (i + 1) v (by simpa using hi)) (fun i v hi => by rw [show j + 1 + i = j + (i + 1) by omega]; exact hy (i + 1) v (by simpa using hi))
      rw [Nat.add_zero] at e1 e2
      subst f2
      simp only [Op.eqFields, f1, ne_eq, not_false_eq_true, if_true, Sem.run_bind, e1, e2, e3, Result.andThen_ok]
      by_cases hab : a = b
      · subst hab
        simp only [beq_self_eq_true, Bool.not_true, Bool.false_eq_true, if_false, eqVs, Bool.true_and]
        exact ih
      · have : (a == b) = false := by simpa using hab
        simp [this, eqVs]
theorem eqItems_int (d : Nat) (w : World) {e : TypeId} (he : isIntT P e = true) (xs ys : Array Value) : ∀ (n j : Nat) (vs us : List Value), n = vs.length → All2 (fun v u => ∃ k a b, v = .int k a ∧ u = .int k b) vs us → (∀ i v, vs[i]? = some v → xs[j + i]? = some v) → (∀ i v, us[i]? = some v → ys[j + i]? = some v) →
    (Op.eqItems (d + 1) e 1 xs ys (List.range' j n)).run P w = .ok (eqVs vs us) w
  | 0, j, vs, us, hl, h2, _, _ => by
    cases h2 with
    | nil => simp [Op.eqItems, eqVs]
    | cons _ _ => simp at hl
  | n + 1, j, vs, us, hl, h2, hx, hy => by
    cases h2 with
    | nil => simp at hl
    | @cons v u vs us h h2 =>
      obtain ⟨k, a, b, rfl, rfl⟩ := h
      have e1 := part_int (P := P) he (hx 0 _ rfl) w
      have e2 := part_int (P := P) he (hy 0 _ rfl) w
      obtain ⟨k', hk'⟩ := isIntT_sound he
      have e3 := run_equalIn_int (P := P) w d e k k' a b hk'
      have ih := eqItems_int d w he xs ys n (j + 1) vs us (by simpa using hl) h2 (fun i v hi => by rw [show j + 1 + i = j + (i + 1) by omega]; exact hx (i + 1) v (by simpa using hi)) (fun i v hi => by rw [show j + 1 + i = j + (i + 1) by omega]; exact hy (i + 1) v (by simpa using hi))
      rw [Nat.add_zero] at e1 e2
      simp only [List.range'_succ, Op.eqItems, Nat.mul_one, Sem.run_bind, e1, e2, e3, Result.andThen_ok]
      by_cases hab : a = b
      · subst hab
        simp only [beq_self_eq_true, Bool.not_true, Bool.false_eq_true, if_false, eqVs, Bool.true_and]
        exact ih
      · have : (a == b) = false := by simpa using hab
        simp [this, eqVs]
theorem eqB_sound {t : TypeId} {n : Nat} (h : eqB P t n = true) : EqOk P t n := by
  unfold eqB at h
  split at h
  · rename_i fs hu
    simp only [Bool.and_eq_true, Bool.not_eq_true', beq_iff_eq] at h
    obtain ⟨⟨⟨h1, h2⟩, h3⟩, h4⟩ := h
    refine ⟨h2, fun w vs us hl h5 => ?_⟩
    have hf : P.fieldsOf t = fs := by simp [Program.fieldsOf, hu]
    rw [run_equalIn_struct w 9999 t _ _ (by rw [hf]; exact hu) h1, hf]
    exact eqFields_int 9998 w _ _ fs.toList 0 vs us h3 (by simp [h4, hl]) h5 (fun i v hi => by simpa using hi) (fun i v hi => by simpa using hi)
  · rename_i m e hu
    simp only [Bool.and_eq_true, Bool.not_eq_true', beq_iff_eq] at h
    obtain ⟨⟨⟨⟨h1, h2⟩, h3⟩, h4⟩, rfl⟩ := h
    obtain ⟨i, hi⟩ := Option.isSome_iff_exists.1 h3
    refine ⟨h1, fun w vs us hl h5 => ?_⟩
    rw [run_equalIn_array w 9999 _ _ hu hi, h4, List.range_eq_range']
    exact eqItems_int 9998 w h2 _ _ m 0 vs us hl.symm h5 (fun i v hi => by simpa using hi) (fun i v hi => by simpa using hi)
  · cases h

def tiB (P : Program) (p : Nat × TI) : Bool := (p.2.bytes == 0 || eqB P p.1 p.2.size) && kindB P p.1 p.2.kind && (match P.info? p.1 with | some f => f.size == p.2.size && f.zero.isSome | none => false)
def zeroP (P : Program) (t : TypeId) : List SV1 := match P.info? t with
  | some f => (match f.zero with | some z => z.cells.toList.map ofLit1 | none => [])
  | none => []

theorem look_mem {α : Type} : ∀ {l : List (Nat × α)} {t : Nat} {x : α}, look l t = some x → (t, x) ∈ l
  | [], t, x, h => by cases h
  | (k, y) :: r, t, x, h => by
    rw [look_cons] at h
    split at h
    · rename_i e; cases h; subst e; simp
    · exact List.mem_cons_of_mem _ (look_mem h)

theorem map_eq_mem {α β : Type} {f g : α → β} : ∀ {l : List α}, l.map f = l.map g → ∀ x ∈ l, f x = g x
  | [], _, x, h => by cases h
  | y :: r, h, x, hx => by
    simp only [List.map_cons, List.cons.injEq] at h
    rcases List.mem_cons.1 hx with rfl | hx
    · exact h.1
    · exact map_eq_mem h.2 x hx

theorem tiOk_of {ti : List (Nat × TI)} (h : ti.all (tiB P) = true) (hz : ti.map (fun p => zeroP P p.1) = ti.map fun p => p.2.zero) : TIok P ti := by
  intro t i hl
  have hm := look_mem hl
  have h1 := List.all_eq_true.1 h _ hm
  have h2 := map_eq_mem hz _ hm
  unfold tiB at h1
  simp only [Bool.and_eq_true] at h1
  obtain ⟨⟨h0, h3⟩, h4⟩ := h1
  refine ⟨?_, kindB_sound h3, fun hb => ?_⟩
  rotate_left 1
  · simp only [Bool.or_eq_true, beq_iff_eq] at h0
    rcases h0 with h0 | h0
    · omega
    · exact eqB_sound h0
  split at h4
  · rename_i f hf
    simp only [Bool.and_eq_true, beq_iff_eq] at h4
    obtain ⟨z, hz2⟩ := Option.isSome_iff_exists.1 h4.2
    refine ⟨f, hf, h4.1, z, hz2, ?_⟩
    dsimp only at h2
    rw [← h2]
    unfold zeroP
    rw [hf]
    dsimp only
    rw [hz2]
  · cases h4

end Go.Sx

/-
  Symbolic execution: a method of an object.
-/
namespace Go.Sx
set_option linter.all false
open Go.RowKit

variable {A : Type} {G : Fr} {s : SS A} {ρ : Ev} {a : Act} {w : World} {P : Program} {lay : A → List (Chunk A)} {tq : TabQ}

/-- Chunks that name no others. -/
def flatC : Chunk A → Bool
  | .cells _ _ => false
  | .rmap _ _ _ _ _ _ => false
  | .nest _ _ _ _ _ (some _) => false
  | .mnest _ _ (some _) => false
  | _ => true

theorem Holds.drop {AI : Abs A} {tm : List (Nat × SV)} {H H1 : List (Chunk A)} {tmps : Array Value} (h : Holds AI G ⟨tm, H⟩ ρ tmps w) (hn : G.n0 ≤ H1.length) (hH : ∀ i, i < H1.length → getC H1 i = getC H i) (hf : H1.all flatC = true) : Holds AI G ⟨[], H1⟩ (ρ.trim H1.length) tmps w := by
  have hfoot : ∀ i b, b ∈ (ρ.trim H1.length).foot i → b ∈ ρ.foot i := by
    intro i b hb
    simp only [Ev.trim] at hb
    split at hb
    · exact hb
    · cases hb
  refine ⟨h.sz, h.gt, (fun t v ht => by cases ht), fun i => ?_, fun i j b hij hi hj => h.dis i j b hij (hfoot i b hi) (hfoot j b hj), fun i b hb => h.lt i b (hfoot i b hb), fun b o v hm => ⟨(h.im b o v hm).1, fun i hb => (h.im b o v hm).2 i (hfoot i b hb)⟩,
    h.os, h.tape, h.output, h.grow, h.kept, fun i b hb => h.fro i b (hfoot i b hb), fun i b hi hb => ?_, fun i hi => ?_, h.mono, h.mfr⟩
  · show HoldsC AI _ w i (getC H1 i)
    by_cases hi : i < H1.length
    · have hc := h.ch i
      have e1 := hH i hi
      have hc : HoldsC AI ρ w i (getC H i) := hc
      rw [← e1] at hc
      have hfl : flatC (getC H1 i) = true := by
        have : getC H1 i = H1[i] := by unfold getC; rw [nth_eq, List.getElem?_eq_getElem hi]
        rw [this]; exact List.all_eq_true.1 hf _ (List.getElem_mem hi)
      cases hg : getC H1 i with
      | emp => rw [hg] at hc; simp only [HoldsC, Ev.trim, if_pos hi] at hc ⊢; exact hc
      | gone => trivial
      | cells t cs => rw [hg] at hfl; cases hfl
      | row t e v L => rw [hg] at hc; simp only [HoldsC, Ev.trim, if_pos hi] at hc ⊢; exact hc
      | map ks e L => rw [hg] at hc; simp only [HoldsC, Ev.trim, if_pos hi] at hc ⊢; exact hc
      | rmap ks e L R c j => rw [hg] at hfl; cases hfl
      | itp q => rw [hg] at hc; simp only [HoldsC, Ev.trim, if_pos hi] at hc ⊢; exact hc
      | mnest tb L q =>
        cases q with
        | some q => rw [hg] at hfl; cases hfl
        | none =>
          rw [hg] at hc
          simp only [HoldsC, Ev.trim, if_pos hi] at hc ⊢
          exact hc.stays' (fun _ _ _ h => h) (fun _ _ e => by cases e) fun _ _ => rfl
      | nest t tb z ver L q =>
        cases q with
        | some q => rw [hg] at hfl; cases hfl
        | none => rw [hg] at hc; simp only [HoldsC, Ev.trim, if_pos hi] at hc ⊢; exact ⟨hc.1, hc.2.congrM rfl⟩
      | abs x => rw [hg] at hc; simp only [HoldsC, Ev.trim, if_pos hi] at hc ⊢; exact hc
    · rw [getC_beyond (by omega)]
      simp [HoldsC, Ev.trim, hi]
  · have : i < H1.length := by omega
    simp only [Ev.trim, if_pos this]; exact h.rt i b hi hb
  · have : i < H1.length := by omega
    simp only [Ev.trim, if_pos this]; exact h.rts i hi

def closed2 : SV2 → Bool
  | .one x => closed1 x
  | .agg l => l.all closed1
  | .fn _ l => l.all closed1
def closedV : SV → Bool
  | .val x => closed2 x
  | .tup l => l.all closed2

theorem closed1s_den {ρ ρ' : Ev} (hM : ρ'.M = ρ.M) {l : List SV1} {vs : List Value} (hl : l.all closed1 = true) (h : All2 (Den1 ρ) l vs) : All2 (Den1 ρ') l vs := by
  induction h with
  | nil => exact .nil
  | cons h1 _ ih =>
    simp only [List.all_cons, Bool.and_eq_true] at hl
    exact .cons ((closed1_den hM hl.1).2 h1) (ih hl.2)
theorem closed2_den {ρ ρ' : Ev} (hM : ρ'.M = ρ.M) {x : SV2} {u : Value} (hx : closed2 x = true) (h : Den2 ρ x u) : Den2 ρ' x u := by
  cases x with
  | one x => exact (closed1_den hM hx).2 h
  | agg l => obtain ⟨vs, h1, h2⟩ := h; exact ⟨vs, h1, closed1s_den hM hx h2⟩
  | fn f l => obtain ⟨vs, h1, h2⟩ := h; exact ⟨vs, h1, closed1s_den hM hx h2⟩
theorem closed2s_den {ρ ρ' : Ev} (hM : ρ'.M = ρ.M) {l : List SV2} {vs : List Value} (hl : l.all closed2 = true) (h : All2 (Den2 ρ) l vs) : All2 (Den2 ρ') l vs := by
  induction h with
  | nil => exact .nil
  | cons h1 _ ih =>
    simp only [List.all_cons, Bool.and_eq_true] at hl
    exact .cons (closed2_den hM hl.1 h1) (ih hl.2)
theorem closedV_den {ρ ρ' : Ev} (hM : ρ'.M = ρ.M) {v : SV} {u : Value} (hv : closedV v = true) (h : Den ρ v u) : Den ρ' v u := by
  cases v with
  | val x => exact closed2_den hM hv h
  | tup l =>
    obtain ⟨vs, h1, h2⟩ := h
    refine ⟨vs, h1, ?_⟩
    clear h1
    exact closed2s_den hM hv h2

end Go.Sx

/-
  Symbolic execution: contracts of functions whose arguments and results are data.
-/
namespace Go.Sx
set_option linter.all false
open Go.RowKit

variable {A : Type} {AI : Abs A} {G : Fr} {s : SS A} {ρ : Ev} {a : Act} {w : World} {P : Program}

/-- What an argument or a result is, seen as data. -/
inductive DT where
  | cell (e : Ty)
  | lst (e : Ty)
  | any                                            -- a result of which nothing is said
abbrev DT.T : DT → Type
  | .cell e => e.T
  | .lst e => List e.T
  | .any => Unit
def DT.sv : (d : DT) → U d.T → SV2
  | .cell e, x => (match elV e x with | some y => y | none => .one .any)
  | .lst e, L => .one (.ro e L)
  | .any, _ => .one .any
def DT.of : (d : DT) → SV → Option (U d.T)
  | .cell e, v => (match aggV v == e.agg with | true => velt e v | false => none)
  | .lst e, .val (.one (.ro e' L)) => (match castL e' e with | some f => some (fun _ => f (L ())) | none => none)
  | .lst _, .val (.one .nilS) => some (fun _ => [])
  | .any, _ => some (fun _ => ())
  | _, _ => none
abbrev Tup : List DT → Type
  | [] => Unit
  | d :: r => d.T × Tup r
def svs : (ds : List DT) → U (Tup ds) → List SV2
  | [], _ => []
  | d :: r, x => d.sv (fun _ => (x ()).1) :: svs r (fun _ => (x ()).2)
def ofs : (ds : List DT) → List SV → Option (U (Tup ds))
  | [], [] => some (fun _ => ())
  | d :: r, v :: vs => (match d.of v with
    | some x => (match ofs r vs with
      | some y => some (fun _ => (x (), y ()))
      | none => none)
    | none => none)
  | _, _ => none
def argS (ds : List DT) (x : U (Tup ds)) : List SV := (svs ds x).map .val

theorem dec_closed : ∀ (e : Ty) (x : U e.T), (dec e x).all closed1 = true
  | .int _, _ => rfl
  | .bool, _ => rfl
  | .bytes, _ => rfl
  | .lst _, _ => rfl
  | .str, _ => rfl
  | .unit, _ => rfl
  | .pair a b, x => by simp only [dec, List.all_append, dec_closed a, dec_closed b]; rfl
theorem elV_closed {e : Ty} {x : U e.T} {y : SV2} (h : elV e x = some y) : closed2 y = true := by
  have hc := dec_closed e x
  unfold elV at h
  split at h
  · cases h; exact hc
  · split at h
    · rename_i z hz; cases h; rw [hz] at hc; simp only [List.all_cons, List.all_nil, Bool.and_true] at hc; exact hc
    · cases h
theorem DT.sv_closed : ∀ (d : DT) (x : U d.T), closed2 (d.sv x) = true
  | .cell e, x => by
    simp only [DT.sv]
    split
    · rename_i y hy; exact elV_closed hy
    · rfl
  | .lst e, x => rfl
  | .any, x => rfl
theorem svs_closed : ∀ (ds : List DT) (x : U (Tup ds)), (svs ds x).all closed2 = true
  | [], _ => rfl
  | d :: r, x => by simp only [svs, List.all_cons, DT.sv_closed, svs_closed r]; rfl

theorem DT.of_den {d : DT} {v : SV} {x : U d.T} (h : d.of v = some x) {u : Value} (hu : Den ρ v u) : Den2 ρ (d.sv x) u := by
  unfold DT.of at h
  split at h
  · split at h <;> (try cases h)
    rename_i hb
    have hv := velt_den (ρ := ρ) h (by simpa using hb) hu
    simp only [DT.sv]
    split
    · rename_i y hy; exact elV_den hy hv
    · trivial
  · split at h <;> cases h
    rename_i f hf
    obtain ⟨rfl, h1⟩ := castL_id hf
    have hu : ShowsM ρ.M _ _ u := hu
    show ShowsM ρ.M _ _ u
    dsimp only
    rw [h1]; exact hu
  · cases h
    have hu : u = .slice none 0 0 := hu
    subst hu
    exact ⟨none, 0, rfl, by simp, by simp⟩
  · trivial
  · cases h
theorem ofs_den : ∀ {ds : List DT} {vs : List SV} {x : U (Tup ds)} {us : List Value}, ofs ds vs = some x → All2 (Den ρ) vs us → All2 (Den2 ρ) (svs ds x) us
  | [], [], x, us, h, hu => by cases hu; exact .nil
  | d :: r, v :: vs, x, us, h, hu => by
    simp only [ofs] at h
    split at h <;> (try cases h)
    rename_i x1 h1
    split at h <;> cases h
    rename_i y h2
    cases hu with
    | cons h3 h4 => exact .cons (DT.of_den h1 h3) (ofs_den h2 h4)
  | [], _ :: _, _, _, h, _ => by cases h
  | _ :: _, [], _, _, h, _ => by cases h

theorem argS_den {ds : List DT} {x : U (Tup ds)} {us : List Value} (h : All2 (Den2 ρ) (svs ds x) us) {ρ' : Ev} (hM : ρ'.M = ρ.M) : All2 (Den ρ') (argS ds x) us := by
  have h1 := closed2s_den hM (svs_closed ds x) h
  unfold argS
  generalize svs ds x = l at h1
  clear h
  induction h1 with
  | nil => exact .nil
  | cons h2 _ ih => exact .cons h2 ih

/-- The run of a call enters the function. -/
def Enters (P : Program) (f : FuncId) : Prop := ∀ args w, (callFunc f args).run P w = .ok (.enter f args) w

/-! ### functions of data -/
structure PureSpec where
  ds : List DT
  pre : Tup ds → Prop
  rs : List DT
  f : Tup ds → Tup rs

def PureSpec.con (k : PureSpec) : Con A := fun args _ => match ofs k.ds args with
  | some x => some ⟨[], 0, false, fun _ _ => .done (fun _ => k.pre (x ())) (resOf (svs k.rs (fun _ => k.f (x ())))) []⟩
  | none => none

def PureSpec.Ok (P : Program) (AI : Abs A) (fn : FuncId) (k : PureSpec) : Prop :=
  ∀ x, k.pre x → TmplOk P AI fn (argS k.ds (fun _ => x)) [] (resOf (svs k.rs (fun _ => k.f x))) []

theorem resOf_closed {l : List SV2} (h : l.all closed2 = true) : closedV (resOf l) = true := by
  unfold resOf
  split
  · simp only [List.all_cons, List.all_nil, Bool.and_true] at h; exact h
  · exact h

theorem PureSpec.sound {fn : FuncId} {k : PureSpec} (hen : Enters P fn) (hk : k.Ok P AI fn) : ConSound P AI fn k.con := by
  refine ⟨hen, fun args fresh p hp _ H d C v cs he => ?_, fun G s ρ tmps w args us fresh p d C v cs h hargs hp hfr he hC => ?_⟩
  · unfold PureSpec.con at hp
    split at hp <;> cases hp
    simp at he
    simp [getCs, he]
  · unfold PureSpec.con at hp
    split at hp <;> cases hp
    rename_i x hx
    simp at he
    obtain ⟨rfl, rfl, rfl⟩ := he
    have hd := ofs_den hx hargs
    refine (frame_call (hk (x ()) hC) (s := s) (H' := s.H) (ids := []) (news := []) h (by simp) rfl (by simp) (by simp) (by simp) (fun _ _ => rfl) (us := us) (fun ρc hM _ => argS_den hd hM)
      (v := resOf (svs k.rs (fun _ => k.f (x ())))) (fun ρc ρ' hM _ _ y hy => closedV_den hM (resOf_closed (svs_closed _ _)) hy)).mono ?_
    rintro e w' ⟨y, ρ', rfl, h1, h2, h3⟩
    exact ⟨y, ρ', rfl, h1, h2, h3⟩

/-! ### methods -/
/-! ### constructors -/
theorem EnvOk.add {E : Env A} (hE : EnvOk P AI E) {f : FuncId} {k : Con A} (hk : ConSound P AI f k) : EnvOk P AI ⟨E.ti, (f, k) :: E.con⟩ := by
  refine ⟨hE.ti, fun g l h => ?_⟩
  dsimp only at h
  rw [look_cons] at h
  split at h
  · rename_i e; cases h; subst e; exact hk
  · exact hE.con g l h

end Go.Sx

/-
  Symbolic execution: functions that make a new object.
-/
namespace Go.Sx
set_option linter.all false
open Go.RowKit

variable {A : Type} {G : Fr} {s : SS A} {ρ : Ev} {a : Act} {w : World} {P : Program} {lay : A → List (Chunk A)} {tq : TabQ}

theorem posB_some : ∀ {p : List Nat} {i j : Nat}, posB p i = some j → p[j]? = some i
  | [], i, j, h => by cases h
  | x :: r, i, j, h => by
    simp only [posB] at h
    split at h
    · rename_i e; cases h; have := beq_eq e; subst this; rfl
    · split at h <;> cases h
      rename_i k hk
      simpa using posB_some hk
theorem nodupB_spec : ∀ {p : List Nat}, nodupB p = true → p.Nodup
  | [], _ => .nil
  | x :: r, h => by
    simp only [nodupB, Bool.and_eq_true, Bool.not_eq_true'] at h
    refine List.nodup_cons.2 ⟨fun hx => ?_, nodupB_spec h.2⟩
    have : r.any (beqN x) = true := List.any_eq_true.2 ⟨x, hx, by simp⟩
    rw [this] at h; cases h.1
theorem fixB_spec : ∀ {n k : Nat} {p : List Nat}, fixB n k p = true → ∀ i, i < n → p[i]? = some (k + i)
  | 0, k, p, _, i, hi => by omega
  | n + 1, k, x :: r, h, i, hi => by
    simp only [fixB, Bool.and_eq_true] at h
    cases i with
    | zero => have := beq_eq h.1; subst this; rfl
    | succ i => have := fixB_spec h.2 i (by omega); simp only [List.getElem?_cons_succ, this]; congr 1; omega
  | n + 1, k, [], h, _, _ => by cases h

theorem reordH_get {p : List Nat} {H : List (Chunk A)} : ∀ {l : List Nat} {j : Nat}, getC (reordH p H l) j = match l[j]? with | some i => rnC p (getC H i) | none => .emp
  | [], j => rfl
  | x :: r, 0 => rfl
  | x :: r, j + 1 => by
    have := reordH_get (p := p) (H := H) (l := r) (j := j)
    simp only [getC, reordH, nth, List.getElem?_cons_succ] at this ⊢
    exact this

def Ev.reord (ρ : Ev) (p : List Nat) : Ev :=
  { root := fun j => match p[j]? with | some i => ρ.root i | none => .bool false, ver := fun j => match p[j]? with | some i => ρ.ver i | none => 0, M := ρ.M, foot := fun j => match p[j]? with | some i => ρ.foot i | none => [] }

theorem caps_reord {p : List Nat} : ∀ {l l' : List Nat} {us : List Value}, posBs p l = some l' → All2 (fun i u => ∃ b, ρ.root i = .pointer (some ⟨b, 0, none⟩) ∧ u = .pointer (some ⟨b, 0, none⟩)) l us → All2 (fun i u => ∃ b, (ρ.reord p).root i = .pointer (some ⟨b, 0, none⟩) ∧ u = .pointer (some ⟨b, 0, none⟩)) l' us
  | [], l', us, h, hu => by cases h; cases hu; exact .nil
  | i :: r, l', us, h, hu => by
    unfold posBs at h
    split at h <;> (try cases h)
    rename_i j hj
    split at h <;> cases h
    rename_i l2 hl
    cases hu with
    | cons h1 h2 =>
      obtain ⟨b, h3, h4⟩ := h1
      exact .cons ⟨b, by simp only [Ev.reord, posB_some hj]; exact h3, h4⟩ (caps_reord hl h2)
theorem rn1_den {p : List Nat} {x : SV1} {v : Value} (h : Den1 ρ x v) : Den1 (ρ.reord p) (rn1 p x) v := by
  cases x <;> simp only [rn1] <;> (try exact h)
  case fnc g l =>
    split
    · rename_i l2 hl
      obtain ⟨vs, h1, h2⟩ := h
      exact ⟨vs, h1, caps_reord hl h2⟩
    · trivial
  all_goals
    split
    · rename_i j hj
      have hj := posB_some hj
      simp only [Den1, Ev.reord, hj] at h ⊢
      exact h
    · trivial

theorem reord_sound {AI : Abs A} {p : List Nat} (hp : permOk G.n0 p = true) (hs : Sat AI G s a w) : Sat AI G (reord p s) a w := by
  obtain ⟨hd, ρ, hh⟩ := hs
  obtain ⟨hp1, hp2⟩ := Bool.and_eq_true_iff.1 hp
  have hn := nodupB_spec hp1
  have hf := fixB_spec hp2
  have hfoot : ∀ j b, b ∈ (ρ.reord p).foot j → ∃ i, p[j]? = some i ∧ b ∈ ρ.foot i := by
    intro j b hb
    simp only [Ev.reord] at hb
    split at hb
    · rename_i i hi; exact ⟨i, hi, hb⟩
    · cases hb
  refine ⟨hd, ρ.reord p, ⟨hh.sz, hh.gt, fun t v ht => ?_, fun j => ?_, fun i j b hij hi hj => ?_, fun j b hb => ?_, fun b o v hm => ⟨(hh.im b o v hm).1, fun j hb => ?_⟩, hh.os, hh.tape, hh.output, hh.grow, hh.kept, fun j b hb => ?_, fun i b hi hb => ?_, fun i hi => ?_, hh.mono, hh.mfr⟩⟩
  · obtain ⟨u, h1, rfl⟩ := mapT_look ht
    obtain ⟨x, h2, h3⟩ := hh.tm t u h1
    exact ⟨x, h2, mapV_den (fun _ _ => rn1_den) h3⟩
  · show HoldsC AI (ρ.reord p) w j (getC (reordH p s.H p) j)
    rw [reordH_get]
    cases hj : p[j]? with
    | none => exact ⟨by simp [Ev.reord, hj], by simp [Ev.reord, hj], by simp [Ev.reord, hj]⟩
    | some i =>
      dsimp only
      have e1 : (ρ.reord p).root j = ρ.root i := by simp [Ev.reord, hj]
      have e2 : (ρ.reord p).ver j = ρ.ver i := by simp [Ev.reord, hj]
      have e3 : (ρ.reord p).foot j = ρ.foot i := by simp [Ev.reord, hj]
      have hc := hh.ch i
      cases hg : getC s.H i with
      | emp => rw [hg] at hc; exact ⟨e3.trans hc.1, e1.trans hc.2.1, e2.trans hc.2.2⟩
      | gone => trivial
      | cells t cs =>
        rw [hg] at hc
        obtain ⟨b, vs, h1, h2, h3, h4⟩ := hc
        exact ⟨b, vs, e1.trans h1, e3.trans h2, h3, h4.mapL fun _ _ => rn1_den⟩
      | row t e v L => rw [hg] at hc; exact ⟨hc.1.trans e2.symm, by rw [e1, e3]; exact hc.2⟩
      | rmap ks e L R c j => trivial
      | itp q => trivial
      | mnest tb L q =>
        cases q with
        | some q => trivial
        | none =>
          rw [hg] at hc
          show MnAt _ _ w _ none (Ev.root _ _) (Ev.foot _ _)
          rw [e1, e3]
          exact MnAt.stays' hc (fun _ _ _ h => h) (fun _ _ e => by cases e) fun _ _ => rfl
      | nest t tb z ver L q =>
        cases q with
        | some q => trivial
        | none => rw [hg] at hc; exact ⟨hc.1.trans e2.symm, by rw [e1, e3]; exact hc.2.congrM rfl⟩
      | map ks e L => rw [hg] at hc; obtain ⟨b, es, clock, h1, h2, h3, h4⟩ := hc; exact ⟨b, es, clock, e1.trans h1, e3.trans h2, h3, h4⟩
      | abs x => rw [hg] at hc; simp only [rnC, HoldsC, e1, e3] at hc ⊢; exact hc
  · obtain ⟨i', h1, h2⟩ := hfoot i b hi
    obtain ⟨j', h3, h4⟩ := hfoot j b hj
    refine hh.dis i' j' b (fun e => hij ?_) h2 h4
    subst e
    exact (List.getElem?_inj (List.getElem?_eq_some_iff.1 h1).1 hn).1 (h1.trans h3.symm)
  · obtain ⟨i, _, h2⟩ := hfoot j b hb; exact hh.lt i b h2
  · obtain ⟨i, _, h2⟩ := hfoot j b hb; exact (hh.im b o v hm).2 i h2
  · obtain ⟨i, _, h2⟩ := hfoot j b hb; exact hh.fro i b h2
  · have := hf i hi
    rw [Nat.zero_add] at this
    simp only [Ev.reord, this]; exact hh.rt i b hi hb
  · have := hf i hi
    rw [Nat.zero_add] at this
    simp only [Ev.reord, this]; exact hh.rts i hi

theorem finR_of [SubA A] {AI : Abs A} {E : Env A} (hT : TIok P E.ti) {fn : Func} {n0 : Nat} (hn0 : G.n0 = n0) {v : SV} {H1 : List (Chunk A)} {e : XE} {s' : SS A} (h : finR E.ti n0 fn.results.toList v H1 e s') {R : Ending → World → Prop}
    (hR : ∀ y ρ' w', Holds AI { G with size := 0 } ⟨[], H1⟩ ρ' #[] w' → Den ρ' v y → R (.returned y) w') : Then AI G s' (bodyPost P fn R e.out) := by
  have key : ∀ l, resV E.ti s' fn.results.toList = some l → (∃ p, permOk n0 p = true ∧ Sub n0 (reord p ⟨[(0, resOf l)], s'.H⟩) ⟨[(0, v)], H1⟩) → ∀ (a' : Act) (w' : World), a'.defers = [] → (∃ ρ', Holds AI G s' ρ' a'.tmps w') → a'.defers = [] ∧ ∃ y, (results fn a'.tmps).run P w' = .ok y w' ∧ R (.returned y) w' := by
    rintro l hl ⟨p, hperm, hsub⟩ a' w' hd ⟨ρ', hh⟩
    obtain ⟨y, h3, h4⟩ := results_sound hT hh hl
    refine ⟨hd, y, h3, ?_⟩
    let G1 : Fr := { G with size := 1 }
    have h5 : Sat AI G1 ⟨[(0, resOf l)], s'.H⟩ ⟨#[y], []⟩ w' := by
      refine ⟨rfl, ρ', ⟨rfl, hh.gt, fun t x ht => ?_, hh.ch, hh.dis, hh.lt, hh.im, hh.os, hh.tape, hh.output, hh.grow, hh.kept, hh.fro, hh.rt, hh.rts, hh.mono, hh.mfr⟩⟩
      rw [look_cons] at ht
      split at ht
      · rename_i e; subst e; cases ht; exact ⟨y, rfl, h4⟩
      · cases ht
    obtain ⟨_, ρ2, h6⟩ := hsub.sound (G := G1) hn0 (reord_sound (G := G1) (p := p) (by show permOk G.n0 p = true; rw [hn0]; exact hperm) h5)
    obtain ⟨u, h7, h8⟩ := h6.tm 0 v (by simp [look])
    simp at h7
    subst h7
    refine hR y ρ2 w' ⟨rfl, h6.gt, (fun t x ht => by cases ht), h6.ch, h6.dis, h6.lt, h6.im, h6.os, h6.tape, h6.output, h6.grow, h6.kept, h6.fro, h6.rt, h6.rts, h6.mono, h6.mfr⟩ h8
  cases e with
  | exit id => exact (Failed.elim h)
  | normal =>
    simp only [finR] at h
    split at h
    · rename_i l hl; exact key l hl h
    · exact h.elim
  | ret =>
    simp only [finR] at h
    split at h
    · rename_i l hl; exact key l hl h
    · exact h.elim

end Go.Sx

/-
  Symbolic execution: contracts of functions that read slices of any kind.
-/
namespace Go.Sx
set_option linter.all false
open Go.RowKit

variable {A : Type} {AI : Abs A} {G : Fr} {s : SS A} {ρ : Ev} {a : Act} {w : World} {P : Program}

/-- Nothing that was there is changed. -/
theorem Holds.grown {tmps : Array Value} (h : Holds AI G s ρ tmps w) {w' : World} (old : ∀ b, b < w.heap.size → w'.heap[b]? = w.heap[b]?) (os : w'.os = w.os) (tape : w'.tape = w.tape) (output : w'.output = w.output) (size : w.heap.size ≤ w'.heap.size) :
    Holds AI G s ρ tmps w' := by
  refine ⟨h.sz, h.gt, h.tm, fun i => (h.ch i).stays (.refl _) rfl rfl rfl fun b hb => old b (h.lt i b hb), h.dis, fun i b hb => Nat.lt_of_lt_of_le (h.lt i b hb) size, fun b o v hm => ?_, os.trans h.os, tape.trans h.tape, output.trans h.output, Nat.le_trans h.grow size,
    fun b hb hn => (old b (Nat.lt_of_lt_of_le hb h.grow)).trans (h.kept b hb hn), h.fro, h.rt, h.rts, h.mono, h.mfr⟩
  have hlt : b < w.heap.size := World.block_lt_of_cell? w ⟨b, o, none⟩ (h.im b o v hm).1
  exact ⟨(cell_congr (old b hlt) o).trans (h.im b o v hm).1, (h.im b o v hm).2⟩

theorem froze_cell {tmps : Array Value} (h : Holds AI G s ρ tmps w) (S : Nat → Prop) : ∀ b o v, (ρ.froze S w).M b o = some v → w.cell? ⟨b, o, none⟩ = some v := by
  intro b o v hm
  simp only [Ev.froze] at hm
  split at hm
  · exact hm
  · exact (h.im b o v hm).1

theorem srcList_shows {tmps : Array Value} (h : Holds AI G s ρ tmps w) {v : SV} {u : Value} (hv : Den ρ v u) {S : Nat → Prop} (hS : ∀ i ∈ (srcOf v).ids, S i) {e : Ty} {L : U (List e.T)} (hL : Src.list e (srcOf v) (getCs s.H (srcOf v).ids) = some L) : ShowsM (ρ.froze S w).M e (L ()) u := by
  have hM := froze_M h S
  unfold srcOf at hS hL
  split at hS
  · simp only [Src.ids, getCs, Src.list] at hL
    cases hL
    have hv : u = .slice none 0 0 := hv
    subst hv
    exact ⟨none, 0, rfl, by simp, by simp⟩
  · simp only [Src.ids, getCs, Src.list] at hL
    split at hL <;> cases hL
    rename_i f hf
    obtain ⟨rfl, h1⟩ := castL_id hf
    have hv : ShowsM ρ.M _ _ u := hv
    dsimp only
    rw [h1]; exact hv.monoM hM
  · rename_i i ver
    simp only [Src.ids, getCs] at hL hS
    have hc := h.ch i
    generalize hg : getC s.H i = c at hL hc
    cases c <;> simp only [Src.list, reduceCtorEq] at hL
    rename_i t e' ver' L'
    split at hL <;> (try cases hL)
    rename_i hb
    have hb := beq_eq hb
    subst hb
    split at hL <;> cases hL
    rename_i f hf
    obtain ⟨rfl, h1⟩ := castL_id hf
    obtain ⟨h2, h3⟩ := hc
    obtain ⟨_, _, h4⟩ := hv
    rw [h4 h2]
    dsimp only
    rw [h1]
    exact rowAt_shows h (S := S) (hS i (by simp)) h3 hM
  · rename_i i ver esz lo n
    simp only [Src.ids, getCs] at hL hS
    have hc := h.ch i
    generalize hg : getC s.H i = c at hL hc
    cases c <;> simp only [Src.list, reduceCtorEq] at hL
    rename_i t e' ver' L'
    split at hL <;> (try cases hL)
    rename_i hb
    obtain ⟨hb, hbz⟩ := Bool.and_eq_true_iff.1 hb
    have hb := beq_eq hb
    have hbz := beq_eq hbz
    subst hb; subst hbz
    split at hL <;> cases hL
    rename_i f hf
    obtain ⟨rfl, h1⟩ := castL_id hf
    obtain ⟨h2, h3⟩ := hc
    obtain ⟨_, _, _, h4⟩ := hv
    dsimp only
    rw [h1]
    exact shows_part (rowAt_shows h (S := S) (hS i (by simp)) h3 hM) (h4 h2)
  · simp only [Src.ids, getCs, Src.list, reduceCtorEq] at hL

/-- The rows that the arguments name. -/
def idsA : List DT → List SV → List Nat
  | .lst _ :: r, v :: vs => (srcOf v).ids ++ idsA r vs
  | .cell _ :: r, _ :: vs => idsA r vs
  | _, _ => []
def ofA {A : Type} : (ds : List DT) → List SV → List (Chunk A) → Option (U (Tup ds))
  | [], [], [] => some (fun _ => ())
  | .lst e :: r, v :: vs, cs => (match srcOf v with
    | src => (match takeN cs src.ids.length with
      | some c1 => (match src.list e c1 with
        | some x => (match ofA r vs (cs.drop src.ids.length) with
          | some y => some (fun _ => (x (), y ()))
          | none => none)
        | none => none)
      | none => none))
  | .cell e :: r, v :: vs, cs => (match DT.of (.cell e) v with
    | some x => (match ofA r vs cs with
      | some y => some (fun _ => (x (), y ()))
      | none => none)
    | none => none)
  | _, _, _ => none

theorem getCs_append (H : List (Chunk A)) : ∀ (l m : List Nat), getCs H (l ++ m) = getCs H l ++ getCs H m
  | [], _ => rfl
  | i :: r, m => by simp only [List.cons_append, getCs, getCs_append H r m]
theorem getCs_length (H : List (Chunk A)) : ∀ (l : List Nat), (getCs H l).length = l.length
  | [] => rfl
  | i :: r => by simp only [getCs, List.length_cons, getCs_length H r]
theorem takeN_app {α : Type} : ∀ (l m : List α), takeN (l ++ m) l.length = some l
  | [], m => by cases m <;> rfl
  | x :: r, m => by simp only [List.cons_append, List.length_cons, takeN, takeN_app r m]

theorem ofA_den {tmps : Array Value} (h : Holds AI G s ρ tmps w) {S : Nat → Prop} : ∀ {ds : List DT} {vs : List SV} {more : List (Chunk A)} {x : U (Tup ds)} {us : List Value}, more = [] → (∀ i ∈ idsA ds vs, S i) → ofA ds vs (getCs s.H (idsA ds vs) ++ more) = some x → All2 (Den ρ) vs us → All2 (Den2 (ρ.froze S w)) (svs ds x) us
  | [], vs, more, x, us, hm, hS, hx, hu => by
    cases vs with
    | nil => cases hu; exact .nil
    | cons v vs => simp [ofA] at hx
  | .lst e :: r, vs, more, x, us, hm, hS, hx, hu => by
    cases vs with
    | nil => simp [ofA] at hx
    | cons v vs =>
      subst hm
      simp only [idsA, List.append_nil] at hS hx
      simp only [ofA] at hx
      rw [getCs_append] at hx
      have e1 := takeN_app (getCs s.H (srcOf v).ids) (getCs s.H (idsA r vs))
      rw [getCs_length] at e1
      rw [e1] at hx
      dsimp only at hx
      split at hx <;> (try cases hx)
      rename_i x1 h1
      have e2 : (getCs s.H (srcOf v).ids ++ getCs s.H (idsA r vs)).drop (srcOf v).ids.length = getCs s.H (idsA r vs) := by
        rw [← getCs_length s.H (srcOf v).ids]; simp
      rw [e2] at hx
      split at hx <;> cases hx
      rename_i y h2
      cases hu with
      | cons h3 h4 =>
        refine .cons ?_ (ofA_den h (more := []) rfl (fun i hi => hS i (by simp [hi])) (by rw [List.append_nil]; exact h2) h4)
        exact srcList_shows h h3 (fun i hi => hS i (by simp [hi])) h1
  | .cell e :: r, vs, more, x, us, hm, hS, hx, hu => by
    cases vs with
    | nil => simp [ofA] at hx
    | cons v vs =>
      simp only [idsA] at hS hx
      simp only [ofA] at hx
      split at hx <;> (try cases hx)
      rename_i x1 h1
      split at hx <;> cases hx
      rename_i y h2
      cases hu with
      | cons h3 h4 => exact .cons (Den2.mono ⟨froze_M h S, fun _ _ h => h, fun _ => Nat.le_refl _, fun _ _ _ => rfl⟩ (DT.of_den h1 h3)) (ofA_den h hm hS h2 h4)

/-- The template, used where the rows stay as they are for the while of the call. -/
theorem lone_call {f : FuncId} {args0 : List SV} {v0 : SV} {H1 : List (Chunk A)} (hT : TmplOk P AI f args0 [] v0 H1) {tmps : Array Value} (h : Holds AI G s ρ tmps w) {us : List Value} (S : Nat → Prop) (hargs : ∀ ρc : Ev, ρc.M = (ρ.froze S w).M → All2 (Den ρc) args0 us) :
    Calls P f us.toArray w fun e w' => ∃ y ρr, e = .returned y ∧ Holds AI ⟨w, fun _ => False, 0, fun _ => .bool false, (ρ.froze S w).M, 0, fun _ => 0⟩ ⟨[], H1⟩ ρr #[] w' ∧ Den ρr v0 y := by
  let ρc : Ev := { root := fun _ => .bool false, ver := fun _ => 0, M := (ρ.froze S w).M, foot := fun _ => [] }
  refine hT ⟨w, fun _ => False, 0, fun _ => .bool false, (ρ.froze S w).M, 0, fun _ => 0⟩ ρc w us rfl rfl ?_ (hargs ρc rfl)
  refine ⟨rfl, h.gtOf (fun b hb => hb.elim), (fun t x ht => by cases ht), fun j => ⟨rfl, rfl, rfl⟩, (fun _ _ _ _ h => by cases h), (fun _ _ h => by cases h), fun b o x hm => ⟨froze_cell h S b o x hm, fun i hi => by cases hi⟩, rfl, rfl, rfl, Nat.le_refl _, fun _ _ _ => rfl, (fun _ _ h => by cases h), (fun i b hi hb => by cases hb), (fun i hi => absurd hi (Nat.not_lt_zero i)), fun _ _ _ hm => hm, fun b o x hm => .inl hm⟩

/-! ### functions that make a new row out of what they read -/
def Ty.flat : Ty → Bool
  | .bytes => false
  | .lst _ => false
  | .pair a b => a.flat && b.flat
  | _ => true
theorem CellsM.flat {M M' : Mem} : ∀ {e : Ty} {x : e.T} {c : Nat → Option Value}, e.flat = true → CellsM M e x c → CellsM M' e x c
  | .int _, _, _, _, h => h
  | .bool, _, _, _, h => h
  | .str, _, _, _, h => h
  | .unit, _, _, _, _ => trivial
  | .pair a b, _, _, hf, h => by
    simp only [Ty.flat, Bool.and_eq_true] at hf
    exact ⟨CellsM.flat hf.1 h.1, CellsM.flat hf.2 h.2⟩
theorem RowAt.flat {t : TypeId} {w : World} {M M' : Mem} {e : Ty} (he : e.flat = true) {L : List e.T} {r : Value} {F : List Nat} (h : RowAt t M w e L r F) : RowAt t M' w e L r F := by
  rcases h with h | ⟨b, off, cap, h1, h2, h3, h4, h5, h6, h7⟩
  · exact .inl h
  · exact .inr ⟨b, off, cap, h1, h2, h3, h4, fun j x hj => (h5 j x hj).flat he, h6, h7⟩

theorem putCs_append : ∀ (l m : List Nat) (H : List (Chunk A)) (c d : List (Chunk A)), c.length = l.length → putCs H (l ++ m) (c ++ d) = putCs (putCs H l c) m d
  | [], m, H, c, d, h => by
    have : c = [] := List.eq_nil_of_length_eq_zero h
    subst this
    cases m <;> cases d <;> rfl
  | i :: l, m, H, c, d, h => by
    cases c with
    | nil => simp at h
    | cons x c =>
      simp only [List.cons_append, putCs]
      exact putCs_append l m _ c d (by simpa using h)

end Go.Sx

/-
  Symbolic execution: the body of a function without loops run at its call ('in line').
-/
namespace Go.Sx
set_option linter.all false
open Go.RowKit

variable {A : Type} {AI : Abs A} {G : Fr} {s : SS A} {ρ : Ev} {a : Act} {w : World} {P : Program}

inductive XO (A : Type) where
  | fail (why : Nat)
  | need (b : U Bool)
  | done (Cs : List (U Prop)) (e : XE) (s : SS A) (ds : List Bool)

def xreg (E : Env A) (ops : List Oper) (draw : Bool) (s : SS A) : Nat → Dec → List Bool → XO A
  | 0, _, _ => .fail 1000
  | n + 1, d, ds => match preSl d.sl d.sl s.tm with
    | (tm, C0) => (match srun E ops d ops 0 ⟨tm, s.H⟩ C0 [] with
      | .fail j => .fail j
      | .needS t b => (match ds with | [] => .need b | v :: ds => xreg E ops draw s n ⟨(t, v) :: d.sl, d.op⟩ ds)
      | .needC j b => (match ds with | [] => .need b | v :: ds => xreg E ops draw s n ⟨d.sl, d.op ++ [(j, v)]⟩ ds)
      | .done Cs s' effs => (match draw with
        | false => .done Cs .normal s' ds
        | true => .done ((fun _ => drawE ops effs = true) :: Cs) .normal s' ds))

def inBlk (id : Nat) : XE → XE
  | .exit id' => (match beqN id id' with | true => .normal | false => .exit id')
  | e => e

def xcode (E : Env A) : Code → SS A → List Bool → XO A
  | .skip, s, ds => .done [] .normal s ds
  | .region _ ops draw, s, ds => xreg E ops.toList draw s 24 ⟨[], []⟩ ds
  | .seq x y, s, ds => (match xcode E x s ds with
    | .done Cs .normal s ds => (match xcode E y s ds with
      | .done Cs' e s ds => .done (Cs ++ Cs') e s ds
      | r => r)
    | r => r)
  | .cond c x y, s, ds => (match evalOp s.tm c with
    | some (.val (.one (.lb true))) => xcode E x s ds
    | some (.val (.one (.lb false))) => xcode E y s ds
    | some (.val (.one (.sb g))) => (match c with
      | .tmp t => (match ds with
        | [] => .need g
        | true :: ds => (match xcode E x ⟨(t, one (.lb true)) :: s.tm, s.H⟩ ds with | .done Cs e s ds => .done ((fun _ => g () = true) :: Cs) e s ds | r => r)
        | false :: ds => (match xcode E y ⟨(t, one (.lb false)) :: s.tm, s.H⟩ ds with | .done Cs e s ds => .done ((fun _ => g () = false) :: Cs) e s ds | r => r))
      | _ => .fail 3000)
    | _ => .fail 3001)
  | .block id c, s, ds => (match xcode E c s ds with
    | .done Cs e s ds => .done Cs (inBlk id e) s ds
    | r => r)
  | .exit id, s, ds => .done [] (.exit id) s ds
  | .ret, s, ds => .done [] .ret s ds
  | .scope c, s, ds => xcode E c s ds
  | _, _, _ => .fail 4000

theorem conds_of : ∀ {Cs : List (U Prop)} {R : Prop}, (∀ C ∈ Cs, C ()) → R → conds R Cs
  | [], _, _, h => h
  | C :: r, R, hC, h => conds_of (Cs := r) (fun D hD => hC D (by simp [hD])) ⟨hC C (by simp), h⟩

theorem region_done {E : Env A} (hE : EnvOk P AI E) (hm : P.follows .mixedOrders = true) {id : Nat} {opsA : Array Oper} {draw : Bool} (hdst : ∀ o ∈ opsA.toList, ∀ t, o.dst = some t → t < G.size) {Qx : Exit → Act → World → Prop} {d : Dec} {tm : List (Nat × SV)} {C0 Cs : List (U Prop)} {s' : SS A} {effs : List (Eff A)}
    (hp : preSl d.sl d.sl s.tm = (tm, C0)) (hr : srun E opsA.toList d opsA.toList 0 ⟨tm, s.H⟩ C0 [] = .done Cs s' effs) (hok : draw = true → drawE opsA.toList effs = true) (hC : ∀ C ∈ Cs, C ()) (hs : Sat AI G s a w) (hQ : Then AI G s' (Qx .normal)) :
    (Code.region id opsA draw).wp P Qx a w := by
  refine sreg_sound hE hm hdst (Q := fun x => x = s') (Qx := Qx) (by rintro _ rfl; exact hQ) 1 d ?_ hs
  simp only [sreg, hp, hr]
  cases draw with
  | false => exact conds_of hC (by trivial)
  | true => exact ⟨hok rfl, conds_of hC (by trivial)⟩

theorem xreg_sound {E : Env A} (hE : EnvOk P AI E) (hm : P.follows .mixedOrders = true) {id : Nat} {opsA : Array Oper} {draw : Bool} (hdst : ∀ o ∈ opsA.toList, ∀ t, o.dst = some t → t < G.size) {Qx : Exit → Act → World → Prop} {Cs : List (U Prop)} {e : XE} {s' : SS A} {ds' : List Bool}
    (hC : ∀ C ∈ Cs, C ()) (hs : Sat AI G s a w) (hQ : Then AI G s' (Qx e.out)) : ∀ (n : Nat) (d : Dec) (ds : List Bool), xreg E opsA.toList draw s n d ds = .done Cs e s' ds' → (Code.region id opsA draw).wp P Qx a w
  | 0, d, ds, h => by cases h
  | n + 1, d, ds, h => by
    simp only [xreg] at h
    cases hp : preSl d.sl d.sl s.tm with
    | mk tm C0 =>
      rw [hp] at h
      dsimp only at h
      split at h
      · cases h
      · split at h
        · cases h
        · exact xreg_sound hE hm hdst hC hs hQ n _ _ h
      · split at h
        · cases h
        · exact xreg_sound hE hm hdst hC hs hQ n _ _ h
      · rename_i Cs2 s2 effs hr
        split at h
        · cases h
          exact region_done hE hm hdst hp hr (fun e => by cases e) hC hs hQ
        · cases h
          exact region_done hE hm hdst hp hr (fun _ => hC _ (List.mem_cons_self ..)) (fun C hC' => hC C (List.mem_cons_of_mem _ hC')) hs hQ

theorem xcode_sound {E : Env A} (hE : EnvOk P AI E) (hm : P.follows .mixedOrders = true) : ∀ (c : Code), codeOk G.size c = true → ∀ (s : SS A) (ds : List Bool) {Cs : List (U Prop)} {e : XE} {s' : SS A} {ds' : List Bool} {Qx : Exit → Act → World → Prop} {a : Act} {w : World},
    xcode E c s ds = .done Cs e s' ds' → (∀ C ∈ Cs, C ()) → Sat AI G s a w → Then AI G s' (Qx e.out) → c.wp P Qx a w := by
  intro c
  induction c with
  | skip => intro _ s ds Cs e s' ds' Qx a w h hC hs hQ; cases h; exact wp_skip (hQ _ _ hs.1 hs.2)
  | region id ops draw =>
    intro hok s ds Cs e s' ds' Qx a w h hC hs hQ
    refine xreg_sound hE hm (fun o ho t ht => ?_) hC hs hQ 24 ⟨[], []⟩ ds h
    have h1 := Array.all_eq_true'.1 hok o (by simpa using ho)
    rw [ht] at h1
    exact leN h1
  | seq x y ihx ihy =>
    intro hok s ds Cs e s' ds' Qx a w h hC hs hQ
    obtain ⟨o1, o2⟩ := Bool.and_eq_true_iff.1 hok
    simp only [xcode] at h
    split at h
    · rename_i C1 s1 d1 hx
      split at h
      · rename_i C2 e2 s2 d2 hy
        cases h
        refine wp_seq (ihx o1 s ds hx (fun C hC' => hC C (List.mem_append.2 (.inl hC'))) hs ?_)
        exact fun a' w' hd hh => ihy o2 s1 d1 hy (fun C hC' => hC C (List.mem_append.2 (.inr hC'))) ⟨hd, hh⟩ hQ
      · rename_i hne; exact absurd h (hne _ _ _ _)
    · rename_i hne
      refine wp_seq (ihx o1 s ds h hC hs ?_)
      cases e with
      | normal => exact absurd h (hne _ _ _)
      | ret => exact hQ
      | exit id => exact hQ
  | cond c x y ihx ihy =>
    intro hok s ds Cs e s' ds' Qx a w h hC hs hQ
    obtain ⟨o1, o2⟩ := Bool.and_eq_true_iff.1 hok
    obtain ⟨hd, ρ, hh⟩ := id hs
    simp only [xcode] at h
    split at h
    · rename_i hc; exact wp_cond_true (hh.eval hc) (ihx o1 s ds h hC hs hQ)
    · rename_i hc; exact wp_cond_false (hh.eval hc) (ihy o2 s ds h hC hs hQ)
    · rename_i g hc
      have hg := hh.eval hc
      split at h
      · rename_i t
        split at h
        · cases h
        · split at h
          · rename_i C2 e2 s2 d2 hx
            cases h
            have hb : g () = true := hC _ (List.mem_cons_self ..)
            exact wp_cond_true (by rw [show a.eval (.tmp t) = .bool (g ()) from hg, hb]) (ihx o1 _ _ hx (fun C hC' => hC C (List.mem_cons_of_mem _ hC')) (hs.lb hc hb) hQ)
          · rename_i hne; exact absurd h (hne _ _ _ _)
        · split at h
          · rename_i C2 e2 s2 d2 hx
            cases h
            have hb : g () = false := hC _ (List.mem_cons_self ..)
            exact wp_cond_false (by rw [show a.eval (.tmp t) = .bool (g ()) from hg, hb]) (ihy o2 _ _ hx (fun C hC' => hC C (List.mem_cons_of_mem _ hC')) (hs.lb hc hb) hQ)
          · rename_i hne; exact absurd h (hne _ _ _ _)
      · cases h
    · cases h
  | block id c ih =>
    intro hok s ds Cs e s' ds' Qx a w h hC hs hQ
    simp only [xcode] at h
    split at h
    · rename_i C2 e2 s2 d2 hx
      cases h
      refine wp_block (ih hok s ds hx hC hs ?_)
      cases e2 with
      | normal => exact hQ
      | ret => exact hQ
      | exit id' =>
        simp only [inBlk] at hQ
        intro a' w' hd hh
        split at hQ
        · rename_i hb
          have hb := beq_eq hb
          subst hb
          simp only [XE.out, Exit.inBlock, if_pos]
          exact hQ a' w' hd hh
        · rename_i hb
          have hne : ¬ id' = id := by rintro rfl; simp at hb
          simp only [XE.out, Exit.inBlock, if_neg hne]
          exact hQ a' w' hd hh
    · rename_i hne; exact absurd h (hne _ _ _ _)
  | exit id => intro _ s ds Cs e s' ds' Qx a w h hC hs hQ; cases h; exact wp_exit (hQ _ _ hs.1 hs.2)
  | ret => intro _ s ds Cs e s' ds' Qx a w h hC hs hQ; cases h; exact wp_ret (hQ _ _ hs.1 hs.2)
  | scope c ih =>
    intro hok s ds Cs e s' ds' Qx a w h hC hs hQ
    refine wp_scope_straight (ih hok s ds h hC hs ?_)
    cases e <;> exact hQ
  | loop c ih => intro _ s ds Cs e s' ds' Qx a w h; cases h
  | label l => intro _ s ds Cs e s' ds' Qx a w h; cases h
  | goto l => intro _ s ds Cs e s' ds' Qx a w h; cases h
  | refuse y => intro _ s ds Cs e s' ds' Qx a w h; cases h
  | rangeFunc f p x y _ _ => intro _ s ds Cs e s' ds' Qx a w h; cases h

/-! ### the contract -/
def bel1 (n : Nat) : SV1 → Bool
  | .ptr i _ => bltN i n
  | .mp i => bltN i n
  | .hd i _ => bltN i n
  | .vw i _ _ _ _ => bltN i n
  | .ep i _ _ _ _ => bltN i n
  | .fnc _ l => l.all fun i => bltN i n
  | _ => true
def bel2 (n : Nat) : SV2 → Bool
  | .one x => bel1 n x
  | .agg l => l.all (bel1 n)
  | .fn _ l => l.all (bel1 n)
def belV (n : Nat) : SV → Bool
  | .val x => bel2 n x
  | .tup l => l.all (bel2 n)

theorem bel1_den {n : Nat} {x : SV1} (hx : bel1 n x = true) {v : Value} (hv : Den1 ρ x v) : Den1 (ρ.trim n) x v := by
  have lt : ∀ {i : Nat}, bltN i n = true → i < n := fun h => leN h
  cases x <;> try exact hv
  case ptr i o => have := lt hx; simpa only [Den1, Ev.trim, if_pos this] using hv
  case mp i => have := lt hx; simpa only [Den1, Ev.trim, if_pos this] using hv
  case fnc g l => obtain ⟨vs, h1, h2⟩ := hv; exact ⟨vs, h1, caps_trim h2 hx⟩
  case hd i u => have := lt hx; simpa only [Den1, Ev.trim, if_pos this] using hv
  case vw i u e l k => have := lt hx; simpa only [Den1, Ev.trim, if_pos this] using hv
  case ep i u e k o => have := lt hx; simpa only [Den1, Ev.trim, if_pos this] using hv
theorem bel1s_den {n : Nat} {l : List SV1} {vs : List Value} (h : All2 (Den1 ρ) l vs) (hl : l.all (bel1 n) = true) : All2 (Den1 (ρ.trim n)) l vs := by
  induction h with
  | nil => exact .nil
  | cons h1 _ ih => simp only [List.all_cons, Bool.and_eq_true] at hl; exact .cons (bel1_den hl.1 h1) (ih hl.2)
theorem bel2_den {n : Nat} {x : SV2} (hx : bel2 n x = true) {v : Value} (hv : Den2 ρ x v) : Den2 (ρ.trim n) x v := by
  cases x with
  | one x => exact bel1_den hx hv
  | agg l => obtain ⟨vs, h1, h2⟩ := hv; exact ⟨vs, h1, bel1s_den h2 hx⟩
  | fn f l => obtain ⟨vs, h1, h2⟩ := hv; exact ⟨vs, h1, bel1s_den h2 hx⟩
theorem belV_den {n : Nat} {x : SV} (hx : belV n x = true) {v : Value} (hv : Den ρ x v) : Den (ρ.trim n) x v := by
  cases x with
  | val x => exact bel2_den hx hv
  | tup l =>
    obtain ⟨vs, h1, h2⟩ := hv
    refine ⟨vs, h1, ?_⟩
    clear h1
    change l.all (bel2 n) = true at hx
    induction h2 with
    | nil => exact .nil
    | cons h1 _ ih => simp only [List.all_cons, Bool.and_eq_true] at hx; exact .cons (bel2_den hx.1 h1) (ih hx.2)
theorem belVs_den {n : Nat} {l : List SV} {vs : List Value} (h : All2 (Den ρ) l vs) (hl : l.all (belV n) = true) : All2 (Den (ρ.trim n)) l vs := by
  induction h with
  | nil => exact .nil
  | cons h1 _ ih => simp only [List.all_cons, Bool.and_eq_true] at hl; exact .cons (belV_den hl.1 h1) (ih hl.2)

def allC : List (U Prop) → Prop
  | [] => True
  | C :: r => C () ∧ allC r
theorem allC_mem : ∀ {Cs : List (U Prop)}, allC Cs → ∀ C ∈ Cs, C ()
  | [], _, C, h => by cases h
  | D :: r, h, C, hC => by
    rcases List.mem_cons.1 hC with e | e
    · rw [e]; exact h.1
    · exact allC_mem h.2 C e

theorem tt_intro : tt () := True.intro
theorem Ck.all_nil {R : Prop} (h : R) : Ck (fun _ => allC []) R := ⟨trivial, h⟩
theorem Ck.all_cons {C : U Prop} {Cs : List (U Prop)} {R : Prop} (h : Ck C (Ck (fun _ => allC Cs) R)) : Ck (fun _ => allC (C :: Cs)) R := by
  cases h with
  | mk h1 h2 => cases h2 with | mk h3 h4 => exact ⟨⟨h1, h3⟩, h4⟩

def firstN : Nat → List (Chunk A) → List (Chunk A)
  | 0, _ => []
  | n + 1, c :: r => c :: firstN n r
  | n + 1, [] => .emp :: firstN n []

theorem mem_upTo : ∀ {n i j : Nat}, j ∈ upTo i n ↔ i ≤ j ∧ j < i + n
  | 0, i, j => by simp only [upTo, List.not_mem_nil, false_iff]; omega
  | n + 1, i, j => by simp only [upTo, List.mem_cons, mem_upTo (n := n)]; omega
theorem getC_firstN : ∀ {n : Nat} {H : List (Chunk A)} {j : Nat}, getC (firstN n H) j = if j < n then getC H j else .emp
  | 0, H, j => by simp [firstN, getC, nth]
  | n + 1, c :: r, 0 => by simp [firstN, getC, nth]
  | n + 1, [], 0 => by simp [firstN, getC, nth]
  | n + 1, c :: r, j + 1 => by
    have := getC_firstN (n := n) (H := r) (j := j)
    simp only [Nat.add_lt_add_iff_right]
    rw [show getC (c :: r) (j + 1) = getC r j from rfl, ← this]; rfl
  | n + 1, [], j + 1 => by
    have := getC_firstN (n := n) (H := ([] : List (Chunk A))) (j := j)
    simp only [Nat.add_lt_add_iff_right]
    rw [show getC ([] : List (Chunk A)) (j + 1) = getC ([] : List (Chunk A)) j from by simp [getC, nth], ← this]; rfl
theorem length_firstN : ∀ {n : Nat} {H : List (Chunk A)}, (firstN n H).length = n
  | 0, H => rfl
  | n + 1, c :: r => by simp [firstN, length_firstN]
  | n + 1, [] => by simp [firstN, length_firstN]
theorem getC_putCs_upTo : ∀ {n i : Nat} {H cs : List (Chunk A)} (j : Nat), cs.length = n → getC (putCs H (upTo i n) cs) j = if i ≤ j ∧ j < i + n then getC cs (j - i) else getC H j
  | 0, i, H, cs, j, h => by simp only [upTo, putCs]; rw [if_neg (by omega)]
  | n + 1, i, H, [], j, h => by simp at h
  | n + 1, i, H, c :: cs, j, h => by
    simp only [upTo, putCs]
    rw [getC_putCs_upTo (n := n) (i := i + 1) j (by simpa using h)]
    by_cases h1 : i + 1 ≤ j ∧ j < i + 1 + n
    · rw [if_pos h1, if_pos (by omega)]
      rw [show j - i = j - (i + 1) + 1 by omega]; rfl
    · rw [if_neg h1, getC_putC]
      by_cases h2 : j = i
      · subst h2; rw [if_pos rfl, if_pos (by omega)]; simp [getC, nth]
      · rw [if_neg h2, if_neg (by omega)]

def belC (n : Nat) : Chunk A → Bool
  | .cells _ l => l.all (bel1 n)
  | .rmap _ _ _ _ _ j => bltN j n
  | .nest _ _ _ _ _ (some (_, j)) => bltN j n
  | .mnest _ _ (some _) => false
  | _ => true
theorem belC_holds {n i : Nat} (hi : i < n) {c : Chunk A} (hb : belC n c = true) (h : HoldsC AI ρ w i c) : HoldsC AI (ρ.trim n) w i c := by
  cases c with
  | emp => simpa only [HoldsC, Ev.trim, if_pos hi] using h
  | gone => trivial
  | cells t l =>
    obtain ⟨b, vs, h1, h2, h3, h4⟩ := h
    exact ⟨b, vs, by simpa only [Ev.trim, if_pos hi] using h1, by simpa only [Ev.trim, if_pos hi] using h2, h3, bel1s_den h4 hb⟩
  | row t e v L => simpa only [HoldsC, Ev.trim, if_pos hi] using h
  | map ks e L => simpa only [HoldsC, Ev.trim, if_pos hi] using h
  | rmap ks e L R c j =>
    have hj : j < n := leN hb
    obtain ⟨b, r, h1, h2, h3, h4⟩ := h
    exact ⟨b, r, by simpa only [Ev.trim, if_pos hi] using h1, by simpa only [Ev.trim, if_pos hj] using h2, by simpa only [Ev.trim, if_pos hi] using h3, h4⟩
  | itp q => simpa only [HoldsC, Ev.trim, if_pos hi] using h
  | mnest tb L q =>
    cases q with
    | some q => cases hb
    | none =>
      simp only [HoldsC, Ev.trim, if_pos hi] at h ⊢
      exact h.stays' (fun _ _ _ h => h) (fun _ _ e => by cases e) fun _ _ => rfl
  | nest t tb z v L q =>
    cases q with
    | some q =>
      obtain ⟨k, j⟩ := q
      have hj : j < n := leN hb
      simp only [HoldsC, Ev.trim, if_pos hi] at h ⊢
      exact ⟨h.1, NestAt.congrH (ρ := ρ) rfl rfl (fun v hv => by simpa only [Den1, Ev.trim, if_pos hj] using hv) h.2⟩
    | none => simp only [HoldsC, Ev.trim, if_pos hi] at h ⊢; exact ⟨h.1, h.2.congrM rfl⟩
  | abs x => simpa only [HoldsC, Ev.trim, if_pos hi] using h

/-- The contract of a function that is run in line (k: how many chunks it makes at most). -/
def inlCon (E : Env A) (nt : Nat) (rs : List ResultVar) (body : Code) (k : Nat) : Con A := fun args fresh =>
  match bleN args.length nt && args.all (belV fresh) with
  | true => some ⟨upTo 0 (fresh + k), k, true, fun cs ds => (match cs.all (belC fresh) with
    | true => (match xcode E body ⟨argT 0 args, firstN fresh cs⟩ ds with
      | .done Cs e s _ => (match e with
        | .exit _ => .fail
        | _ => (match resV E.ti s rs with
          | some l => (match bleN s.H.length (fresh + k) with
            | true => .done (fun _ => allC Cs) (resOf l) (firstN (fresh + k) s.H)
            | false => .fail)
          | none => .fail))
      | .need b => .need b
      | .fail _ => .fail)
    | false => .fail)⟩
  | false => none

/-- A call that may change everything. -/
theorem frame_all {f : FuncId} {tmps : Array Value} (h : Holds AI G s ρ tmps w) {m : Nat} {us : List Value} {H0 H1 : List (Chunk A)} {v : SV} {fresh : Nat} (hf : fresh ≤ m) (hH0 : ∀ j, getC H0 j = if j < fresh then getC s.H j else .emp) (hbel : ∀ j, j < fresh → belC fresh (getC s.H j) = true) (hemp : ∀ j, fresh ≤ j → j < m → getC s.H j = .emp) (hH1 : ∀ j, m ≤ j → getC H1 j = .emp) {H' : List (Chunk A)} (hin : ∀ j, j < m → getC H' j = getC H1 j) (hout : ∀ j, m ≤ j → getC H' j = getC s.H j)
    (hT : ∀ (Gc : Fr), Gc.n0 = fresh → Gc.size = 0 → Holds AI Gc ⟨[], H0⟩ (ρ.trim fresh) #[] w → Calls P f us.toArray w fun e w' => ∃ y ρr, e = .returned y ∧ Holds AI Gc ⟨[], H1⟩ ρr #[] w' ∧ Den ρr v y) :
    Calls P f us.toArray w fun e w' => ∃ y ρ', e = .returned y ∧ Holds AI G ⟨s.tm, H'⟩ ρ' tmps w' ∧ Den ρ' v y ∧ ρ.Le ρ' := by
  let ρc : Ev := ρ.trim fresh
  let Gc : Fr := { w0 := w, own := fun b => ∃ j, j < fresh ∧ b ∈ ρ.foot j, n0 := fresh, root0 := ρ.root, M0 := ρ.M, size := 0, ver0 := ρ.ver }
  have hfc : ∀ j b, b ∈ ρc.foot j → j < fresh ∧ b ∈ ρ.foot j := by
    intro j b hb
    simp only [ρc, Ev.trim] at hb
    split at hb
    · rename_i hj; exact ⟨hj, hb⟩
    · cases hb
  have hempv : ∀ j, fresh ≤ j → j < m → ρ.foot j = [] ∧ ρ.root j = .bool false ∧ ρ.ver j = 0 := fun j h1 h2 => by
    have := h.ch j; rw [hemp j h1 h2] at this; exact this
  have hc : Holds AI Gc ⟨[], H0⟩ ρc #[] w := by
    refine ⟨rfl, h.gtOf (fun b hb => by obtain ⟨j, _, hj⟩ := hb; exact ⟨_, hj⟩), (fun t x ht => by cases ht), fun j => ?_, fun i j b hij hi hj => h.dis i j b hij (hfc i b hi).2 (hfc j b hj).2, fun i b hb => h.lt i b (hfc i b hb).2, fun b o x hm => ⟨(h.im b o x hm).1, fun i hb => (h.im b o x hm).2 i (hfc i b hb).2⟩, rfl, rfl, rfl, Nat.le_refl _, fun _ _ _ => rfl,
      fun i b hb => .inl ⟨i, hfc i b hb⟩, fun i b hi hb => by show (ρ.trim fresh).root i = _; simp only [Ev.trim, if_pos (show i < fresh from hi)]; exact hb, fun i hi => ⟨by show _ ≤ (ρ.trim fresh).ver i; simp only [Ev.trim, if_pos (show i < fresh from hi)]; exact Nat.le_refl _, fun ao l c hb hv => by show (ρ.trim fresh).root i = _; simp only [Ev.trim, if_pos (show i < fresh from hi)]; exact hb⟩, fun _ _ _ hm => hm, fun b o x hm => .inl hm⟩
    show HoldsC AI ρc w j (getC H0 j)
    rw [hH0]
    split
    · rename_i hj; exact belC_holds hj (hbel j hj) (h.ch j)
    · exact ⟨by simp [ρc, Ev.trim, *], by simp [ρc, Ev.trim, *], by simp [ρc, Ev.trim, *]⟩
  refine (hT Gc rfl rfl hc).mono ?_
  rintro e w' ⟨y, ρr, rfl, hr, hy⟩
  have hbey : ∀ j, m ≤ j → ρr.foot j = [] ∧ ρr.root j = .bool false ∧ ρr.ver j = 0 := fun j hj => by
    have := hr.ch j; dsimp only at this; rw [hH1 j hj] at this; exact this
  let ρ' : Ev := { root := fun i => if i < m then ρr.root i else ρ.root i, ver := fun i => if i < m then ρr.ver i else ρ.ver i, M := ρr.M, foot := fun i => if i < m then ρr.foot i else ρ.foot i }
  have ltr : ∀ i, ρr.root i ≠ .bool false → i < m := fun i hi => Nat.lt_of_not_le fun hle => hi (hbey i hle).2.1
  have lrr : ρr.Le ρ' := by
    refine ⟨fun _ _ _ h => h, fun i b hb => ?_, fun i => ?_, fun i hv hs => ?_⟩
    · have := ltr i (by rw [hb]; simp)
      simp only [ρ', if_pos this]; exact hb
    · simp only [ρ']; split
      · exact Nat.le_refl _
      · rename_i hi; rw [(hbey i (by omega)).2.2]; exact Nat.zero_le _
    · obtain ⟨ao, l, c, hs⟩ := hs
      have := ltr i (by rw [hs]; simp)
      simp only [ρ', if_pos this]
  have le : ρ.Le ρ' := by
    refine ⟨hr.mono, fun i b hb => ?_, fun i => ?_, fun i hv hs => ?_⟩
    · by_cases hi : i < m
      · simp only [ρ', if_pos hi]
        by_cases hi2 : i < fresh
        · exact hr.rt i b hi2 hb
        · rw [(hempv i (by omega) hi).2.1] at hb; cases hb
      · simp only [ρ', if_neg hi]; exact hb
    · by_cases hi : i < m
      · simp only [ρ', if_pos hi]
        by_cases hi2 : i < fresh
        · exact (hr.rts i hi2).1
        · rw [(hempv i (by omega) hi).2.2]; exact Nat.zero_le _
      · simp only [ρ', if_neg hi]; exact Nat.le_refl _
    · obtain ⟨ao, l, c, hs⟩ := hs
      by_cases hi : i < m
      · simp only [ρ', if_pos hi] at hv ⊢
        by_cases hi2 : i < fresh
        · rw [(hr.rts i hi2).2 ao l c hs hv.symm, hs]
        · rw [(hempv i (by omega) hi).2.1] at hs; cases hs
      · simp only [ρ', if_neg hi]
  have hrfoot : ∀ j b, b ∈ ρr.foot j → (∃ k, k < fresh ∧ b ∈ ρ.foot k) ∨ w.heap.size ≤ b := fun j b hb => hr.fro j b hb
  have hblk : ∀ b, b < w.heap.size → (∀ j, j < fresh → b ∉ ρ.foot j) → w'.heap[b]? = w.heap[b]? := fun b hb hnb => hr.kept b hb (by rintro ⟨j, hj, hb'⟩; exact hnb j hj hb')
  have hnot : ∀ {i b}, ¬ i < m → b ∈ ρ.foot i → ∀ j, j < fresh → b ∉ ρ.foot j := fun {i b} hi hb j hj hb' => h.dis i j b (by omega) hb hb'
  refine ⟨y, ρ', rfl, ⟨h.sz, h.gt, fun t x ht => ?_, fun i => ?_, fun i k b hik hi hk => ?_, fun i b hb => ?_, fun b o x hm => ⟨(hr.im b o x hm).1, fun i hb => ?_⟩, hr.os.trans h.os, hr.tape.trans h.tape, hr.output.trans h.output, Nat.le_trans h.grow hr.grow,
    fun b hb hn' => ?_, fun i b hb => ?_, fun i b hi hb => le.ptr i b (h.rt i b hi hb), fun i hi => ?_, fun b o x hm => hr.mono b o x (h.mono b o x hm), fun b o x hm => ?_⟩, hy.mono lrr, le⟩
  · obtain ⟨u, h1, h2⟩ := h.tm t x ht; exact ⟨u, h1, h2.mono le⟩
  · show HoldsC AI ρ' w' i (getC H' i)
    by_cases hi : i < m
    · rw [hin i hi]
      have h3 := hr.ch i
      dsimp only at h3
      exact h3.stays lrr (by simp only [ρ', if_pos hi]) (by simp only [ρ', if_pos hi]) (by simp only [ρ', if_pos hi]) fun _ _ => rfl
    · rw [hout i (by omega)]
      exact (h.ch i).stays le (by simp only [ρ', if_neg hi]) (by simp only [ρ', if_neg hi]) (by simp only [ρ', if_neg hi]) fun b hb => hblk b (h.lt i b hb) (hnot hi hb)
  · simp only [ρ'] at hi hk
    split at hi <;> split at hk
    · exact hr.dis i k b hik hi hk
    · rename_i _ hk'
      rcases hrfoot i b hi with ⟨q, hq, hb⟩ | hge
      · exact hnot hk' hk q hq hb
      · have := h.lt k b hk; omega
    · rename_i hi' _
      rcases hrfoot k b hk with ⟨q, hq, hb⟩ | hge
      · exact hnot hi' hi q hq hb
      · have := h.lt i b hi; omega
    · exact h.dis i k b hik hi hk
  · simp only [ρ'] at hb
    split at hb
    · exact hr.lt i b hb
    · exact Nat.lt_of_lt_of_le (h.lt i b hb) hr.grow
  · simp only [ρ'] at hb
    split at hb
    · exact (hr.im b o x hm).2 i hb
    · rename_i hi
      rcases hr.mfr b o x hm with h1 | ⟨q, h1, h2⟩ | h1
      · exact (h.im b o x h1).2 i hb
      · exact hnot hi hb q h1 h2
      · have h1 : w.heap.size ≤ b := h1
        have := h.lt i b hb; omega
  · refine (hblk b (Nat.lt_of_lt_of_le hb h.grow) fun j hj hb' => ?_).trans (h.kept b hb hn')
    rcases h.fro _ b hb' with h1 | h1
    · exact hn' h1
    · omega
  · simp only [ρ'] at hb
    split at hb
    · rcases hrfoot i b hb with ⟨q, hq, hb'⟩ | hge
      · exact h.fro _ b hb'
      · exact .inr (Nat.le_trans h.grow hge)
    · exact h.fro i b hb
  · obtain ⟨hv0, hs⟩ := h.rts i hi
    refine ⟨Nat.le_trans hv0 (le.ver i), fun ao l c hb hv => ?_⟩
    have e0 : ρ.ver i = G.ver0 i := Nat.le_antisymm (hv ▸ le.ver i) hv0
    have h1 := hs ao l c hb e0
    rw [le.same i (by rw [e0, hv]) ⟨_, _, _, h1⟩]; exact h1
  · rcases hr.mfr b o x hm with h1 | ⟨q, h1, h2⟩ | h1
    · exact h.mfr b o x h1
    · exact .inr (h.fro _ b h2)
    · exact .inr (.inr (Nat.le_trans h.grow h1))

theorem inl_sound {E : Env A} (hE : EnvOk P AI E) (hm : P.follows .mixedOrders = true) {f : FuncId} {fn : Func} {c : Code} (hen : Enters P f) (hf : P.funcs[f]? = some fn) (hb : fn.body = some c) (hok : codeOk fn.ntmps c = true) (k : Nat) :
    ConSound P AI f (inlCon E fn.ntmps fn.results.toList c k) := by
  refine ⟨hen, fun args fresh p hp hw => ?_, fun G s ρ tmps w args us fresh p d C v cs h hargs hp hfr he hC => ?_⟩
  · unfold inlCon at hp
    split at hp <;> cases hp
    cases hw
  · unfold inlCon at hp
    split at hp <;> cases hp
    rename_i hcond
    simp only [Bool.and_eq_true] at hcond
    obtain ⟨hlen, hbel⟩ := hcond
    have hlen := leN hlen
    dsimp only at he hfr ⊢
    split at he
    · rename_i hall
      split at he
      · rename_i Cs e s1 ds1 hx
        have key : (e = .normal ∨ e = .ret) ∧ ∃ l, resV E.ti s1 fn.results.toList = some l ∧ s1.H.length ≤ fresh + k ∧ (C = fun _ => allC Cs) ∧ v = resOf l ∧ cs = firstN (fresh + k) s1.H := by
          cases e with
          | exit id => cases he
          | normal =>
            refine ⟨.inl rfl, ?_⟩
            dsimp only at he
            split at he
            · rename_i l hl
              split at he
              · rename_i hle
                simp at he
                exact ⟨l, hl, leN hle, he.1.symm, he.2.1.symm, he.2.2.symm⟩
              · cases he
            · cases he
          | ret =>
            refine ⟨.inr rfl, ?_⟩
            dsimp only at he
            split at he
            · rename_i l hl
              split at he
              · rename_i hle
                simp at he
                exact ⟨l, hl, leN hle, he.1.symm, he.2.1.symm, he.2.2.symm⟩
              · cases he
            · cases he
        obtain ⟨hend, l, hl, hle, rfl, rfl, rfl⟩ := key
        have hgc : ∀ j, j < fresh + k → getC (getCs s.H (upTo 0 (fresh + k))) j = getC s.H j := fun j hj => by rw [getC_getCs hj, Nat.zero_add]
        refine frame_all h (m := fresh + k) (H0 := firstN fresh (getCs s.H (upTo 0 (fresh + k)))) (H1 := s1.H) (fresh := fresh) (by omega) (fun j => ?_) (fun j hj => ?_) (fun j h1 h2 => hfr j (mem_upTo.2 (by omega)) h1) (fun j hj => getC_beyond (by omega)) (fun j hj => ?_) (fun j hj => ?_) fun Gc hn0 hsz hh => ?_
        · rw [getC_firstN]
          split
          · rw [hgc j (by omega)]
          · rfl
        · have hlen2 : ∀ {n i : Nat}, (getCs s.H (upTo i n)).length = n := by
            intro n
            induction n with
            | zero => intro i; rfl
            | succ n ih => intro i; simp only [upTo, getCs, List.length_cons, ih]
          have h1 : (getCs s.H (upTo 0 (fresh + k)))[j]? = some (getC s.H j) := by
            have h2 := hgc j (by omega)
            unfold getC at h2
            rw [nth_eq] at h2
            have h3 : j < (getCs s.H (upTo 0 (fresh + k))).length := by rw [hlen2]; omega
            rw [List.getElem?_eq_getElem h3] at h2 ⊢
            exact congrArg some h2
          exact List.all_eq_true.1 hall _ (List.mem_of_getElem? h1)
        · rw [getC_putCs_upTo j length_firstN, if_pos (by omega), Nat.sub_zero, getC_firstN, if_pos hj]
        · rw [getC_putCs_upTo j length_firstN, if_neg (by omega)]
        · refine calls_of_wp hf hb ?_
          have hd := belVs_den hargs hbel
          have hl1 := hd.length
          have h1 := hh.enter hd (n := fn.ntmps) (by omega)
          refine xcode_sound (AI := AI) (G := { Gc with size := fn.ntmps }) hE hm c hok _ _ hx (allC_mem hC) ⟨rfl, _, h1⟩ ?_
          intro a' w' hdf ⟨ρ', hh'⟩
          obtain ⟨y, h3, h4⟩ := results_sound (AI := AI) (G := { Gc with size := fn.ntmps }) hE.ti hh' hl
          have h5 : Holds AI Gc ⟨[], s1.H⟩ ρ' #[] w' := ⟨hsz.symm, hh'.gt, (fun t x ht => by cases ht), hh'.ch, hh'.dis, hh'.lt, hh'.im, hh'.os, hh'.tape, hh'.output, hh'.grow, hh'.kept, hh'.fro, hh'.rt, hh'.rts, hh'.mono, hh'.mfr⟩
          rcases hend with rfl | rfl
          · exact ⟨hdf, y, h3, y, ρ', rfl, h5, h4⟩
          · exact ⟨hdf, y, h3, y, ρ', rfl, h5, h4⟩
      · cases he
      · cases he
    · cases he

end Go.Sx

/-
  Symbolic execution: small lemmas for the ends of walks.
-/
namespace Go.Sx
set_option linter.all false
theorem ifF {α : Type} {b : Bool} {x y : α} (h : b = false) : (if b = true then x else y) = y := if_neg (by rw [h]; exact Bool.false_ne_true)
theorem ifN {α : Type} {b : Bool} {x y : α} (h : b = true) : (if b = false then x else y) = y := if_neg (by rw [h]; exact Bool.noConfusion)
theorem natCast_eq (n : Nat) : @NatCast.natCast Int instNatCastInt n = (n : Int) := rfl
def bodyOf (f : Func) : Code := f.body.getD .skip
noncomputable def inl {A : Type} (E : Env A) (f : Func) (k : Nat) : Con A := inlCon E f.ntmps f.results.toList (bodyOf f) k
theorem nrm : (∀ (p : Prop) [Decidable p], (decide p = true) = p) ∧ (∀ (p : Prop) [Decidable p], decide p = false ↔ ¬ p) ∧ (∀ b : Bool, ((!b) = true) = (b = false)) ∧ (∀ b : Bool, ((!b) = false) = (b = true)) ∧ (∀ b : Bool, (¬ b = true) = (b = false)) ∧ (∀ b : Bool, (¬ b = false) = (b = true)) ∧ (!true) = false ∧ (!false) = true ∧ (∀ (α : Type) (a b : α), (a ≠ b) = ¬ a = b) ∧ (false = true) = False ∧ (true = false) = False ∧ (∀ (α : Type) [BEq α] [LawfulBEq α] (a b : α), (a == b) = true ↔ a = b) ∧ (∀ (α : Type) [BEq α] [LawfulBEq α] (a b : α), (a == b) = false ↔ a ≠ b) ∧ (¬ True) = False ∧ (¬ False) = True :=
  ⟨fun p _ => decide_eq_true_eq, fun p _ => decide_eq_false_iff_not, fun b => Bool.not_eq_true' b, fun b => Bool.not_eq_false' b, fun b => Bool.not_eq_true b, fun b => Bool.not_eq_false b, rfl, rfl, fun _ _ _ => rfl, eq_false Bool.false_ne_true, eq_false Bool.noConfusion, fun _ _ _ _ _ => beq_iff_eq, fun _ _ _ _ _ => beq_eq_false_iff_ne, eq_false (fun h => h trivial), eq_true id⟩
theorem nrb : (∀ b : Bool, (b || true) = true) ∧ (∀ b : Bool, (true || b) = true) ∧ (∀ b : Bool, (b || false) = b) ∧ (∀ b : Bool, (false || b) = b) ∧ (∀ b : Bool, (b && true) = b) ∧ (∀ b : Bool, (true && b) = b) ∧ (∀ b : Bool, (b && false) = false) ∧ (∀ b : Bool, (false && b) = false) ∧ (!true) = false ∧ (!false) = true :=
  ⟨Bool.or_true, Bool.true_or, Bool.or_false, Bool.false_or, Bool.and_true, Bool.true_and, Bool.and_false, Bool.false_and, rfl, rfl⟩
theorem lens : (∀ (α : Type) (a b : List α), (a ++ b).length = a.length + b.length) ∧ (∀ (α : Type) (a : α) (l : List α), (a :: l).length = l.length + 1) ∧ (∀ α : Type, ([] : List α).length = 0) ∧ (∀ (α : Type) (n : Nat) (a : α), (List.replicate n a).length = n) ∧ (∀ (α : Type) (n : Nat) (l : List α), (l.take n).length = min n l.length) ∧ (∀ (α : Type) (n : Nat) (l : List α), (l.drop n).length = l.length - n) :=
  ⟨fun _ _ _ => List.length_append, fun _ _ _ => List.length_cons, fun _ => List.length_nil, fun _ _ _ => List.length_replicate, fun _ _ _ => List.length_take, fun _ _ _ => List.length_drop⟩
theorem take_cg {α : Type} {l : List α} {a b : Int} (h : a = b) : l.take a.toNat = l.take b.toNat := by rw [h]
theorem drop_cg {α : Type} {l : List α} {a b : Int} (h : a = b) : l.drop a.toNat = l.drop b.toNat := by rw [h]
theorem take_drop_cg {α : Type} {l : List α} {a b c d : Int} (h : a = b) (h2 : c = d) : (l.drop c.toNat).take a.toNat = (l.drop d.toNat).take b.toNat := by rw [h, h2]
theorem drop_take_cg {α : Type} {l : List α} {a b c : Int} (h0 : 0 ≤ a) (h1 : 0 ≤ b) (h : c = a + b) : (l.take c.toNat).drop a.toNat = (l.drop a.toNat).take b.toNat := by rw [List.drop_take, h]; congr 1; omega
theorem take_all {α : Type} {l : List α} {a : Int} (h : l.length ≤ a) : l.take a.toNat = l := List.take_of_length_le (by omega)
theorem take_drop_all {α : Type} {l : List α} {a b : Int} (h0 : 0 ≤ b) (h : l.length - b ≤ a) : (l.drop b.toNat).take a.toNat = l.drop b.toNat := List.take_of_length_le (by rw [List.length_drop]; omega)
theorem pair_eta {α β : Type} (p : α × β) : (p.1, p.2) = p := rfl
theorem map_idL {α : Type} (l : List α) : l.map (fun x => x) = l := by simp
theorem map_pair_id {α β : Type} (l : List (α × β)) : l.map (fun x => ((fun x => x) x.1, (fun l => l) x.2)) = l := by
  induction l with
  | nil => rfl
  | cons x r ih => rw [List.map_cons, ih]
end Go.Sx

/-
  Symbolic execution: a function that looks at an open object (all chunks are of a known shape, and stay as they are).
-/
namespace Go.Sx
set_option linter.all false
open Go.RowKit

variable {A : Type} {AI : Abs A} {G : Fr} {s : SS A} {ρ : Ev} {a : Act} {w : World} {P : Program}

theorem length_getCs_upTo {H : List (Chunk A)} : ∀ {n i : Nat}, (getCs H (upTo i n)).length = n
  | 0, i => rfl
  | n + 1, i => by simp only [upTo, getCs, List.length_cons, length_getCs_upTo]

end Go.Sx

/-
  Symbolic execution: the tactics of walks, each once (as what a lemma's argument is found by).
-/
namespace Go.Sx
set_option linter.all false
open Go.RowKit
theorem Cl1 {P : Prop} (h : P := by
  first
    | with_reducible rfl
    | with_reducible assumption
    | (symm; with_reducible assumption)
    | omega
    | ((try dsimp only [Ty.T, Ty.dflt, KT.T, getM, putM, delM, inI64, maxRow]); first | done | with_reducible rfl | with_reducible assumption | (symm; with_reducible assumption) | ((try simp only [natCast_eq, List.nil_append]); first | done | with_reducible rfl | omega | exact take_cg (by omega) | exact drop_cg (by omega) | exact take_drop_cg (by omega) (by omega) | exact take_all (by omega) | exact take_drop_all (by omega) (by omega) | exact drop_take_cg (by omega) (by omega) (by omega)))) : P := h
theorem Cl2 {P : Prop} (h : P := by
  first
    | ((try dsimp only [Ty.T, Ty.dflt, KT.T, getM, putM, delM, inI64, maxRow]); first | (simp only [nrm, reduceCtorEq, pair_eta, map_idL, natCast_eq, inI64, maxRow]; first | done | with_reducible assumption | omega) | exact map_pair_id _)
    | ((try dsimp only [Ty.T, Ty.dflt, KT.T, getM, putM, delM, inI64, maxRow] at *); first | ((try simp only [natCast_eq] at *) <;> omega) | ((try simp only [lens, natCast_eq] at *) <;> omega))
    | assumption
    | (symm; assumption)
    | (dsimp only; simp only [nrb, *]; done)
    | (simp; done)
    | (and_intros <;> first | trivial | with_reducible assumption | omega)
    | ((try dsimp only [Ty.T, Ty.dflt, KT.T, getM, putM, delM, inI64, maxRow] at *) <;> simp [*] <;> done)
    | fail) : P := h
theorem Ck.au {C : U Prop} {R : Prop} (r : R) (h : C () := by with_reducible first | exact tt_intro | exact (show drawE _ _ = true by kernel_rfl) | assumption | exact decide_eq_true (by assumption) | exact decide_eq_false (by assumption) | fail) : Ck C R := ⟨h, r⟩
abbrev T2 (G X : Prop) := (G = X) → X = G
theorem Nx {G X : Prop} (x : X) (h : X = G := by with_reducible refine (?_ : T2 _ _) ?_; rotate_left 1; (conv => lhs; cbv; (try cbv); (try cbv)); intro hT; clear hT; kernel_rfl) : G := h ▸ x
theorem Dd {P : Prop} (h : False := by first | omega | (simp only [nrm, reduceCtorEq, pair_eta, map_idL] at h <;> fail) | exact absurd (h.symm.trans (by assumption) : true = false) Bool.noConfusion | exact absurd (h.symm.trans (by assumption) : false = true) Bool.noConfusion | fail) : P := h.elim
theorem ifP {α : Type} {c : Prop} [Decidable c] {x y : α} (h : c := by first | assumption | omega) : (if c then x else y) = x := if_pos h
theorem ifM {α : Type} {c : Prop} [Decidable c] {x y : α} (h : ¬ c := by first | assumption | omega | (simp only [Bool.false_eq_true, Bool.true_eq_false, reduceCtorEq, not_false_eq_true]; done) | (simp only [Bool.not_eq_true]; assumption) | (simp only [Bool.not_eq_false]; assumption)) : (if c then x else y) = y := if_neg h
theorem Pr {P Q : Prop} (q : Q) (e : Q → P := by (intro q; (try (conv in (LoopInv.inv _ _) => dsimp only)); (try (conv in (SS.mk _ _) => cbv; (try dsimp only [Ty.T, Ty.dflt, KT.T]); (try simp only [natCast_eq]))); exact q)) : P := e q
theorem nh {p q : Prop} (h : p) (e : p → q := by (intro h; (try simp only [nrm, reduceCtorEq, pair_eta, map_idL] at h); (try dsimp only [Ty.T, Ty.dflt, KT.T, getM, putM, delM] at h); (try simp only [natCast_eq] at h); exact h)) : q := e h
theorem hri {α : Type} {x y r : α} (hr : x = r) (e : x = y := by first | rw [if_pos h] | rw [if_neg h] | rw [ifF h] | rw [ifN h] | rw [if_pos rfl] | rw [if_neg Bool.false_ne_true]) : y = r := e.symm.trans hr
end Go.Sx

/-
  Symbolic execution: the arguments of a law, seen as data; from a template to the call of a law.
-/
namespace Go.Sx
set_option linter.all false
open Go.RowKit Go.Deep Go.ChangeShapes Go.WideShapes

variable {P : Program}

/-- Numbers in their ranges, bytes as bytes. -/
def Ty.ok : (e : Ty) → e.T → Prop
  | .int k, n => k.min ≤ n ∧ n ≤ k.max
  | .bool, _ => True
  | .bytes, l => l.length ≤ maxLen ∧ inBytes l
  | .lst e, l => @List.length e.T l ≤ maxLen ∧ ∀ x ∈ (show List e.T from l), e.ok x
  | .str, l => l.length ≤ maxLen ∧ inBytes l
  | .unit, _ => True
  | .pair a b, x => a.ok x.1 ∧ b.ok x.2

def memOf (w : World) : Mem := fun b o => w.cell? ⟨b, o, none⟩

/-- Is a type of this form? (n: fuel) -/
def fieldsB (tyB : TypeId → Ty → Bool) (P : Program) : Nat → List TypeId → Ty → Bool
  | _, [t], e => P.cellsOf t == e.size && tyB t e
  | n, t :: ts, .pair a b => P.cellsOf t == a.size && tyB t a && fieldsB tyB P (n + a.size) ts b
  | _, _, _ => false
def offsIn : Nat → Program → List Field → Bool
  | _, _, [] => true
  | n, P, f :: fs => f.offset == n && offsIn (n + P.cellsOf f.type) P fs
def tyB (P : Program) : Nat → TypeId → Ty → Bool
  | 0, _, _ => false
  | n + 1, t, e => match P.underlying t with
    | some (.int k) => (match e with | .int k' => k == k' | _ => false)
    | some .bool => (match e with | .bool => true | _ => false)
    | some .string => (match e with | .str => true | _ => false)
    | some (.slice u) => (match e with | .bytes => (match P.underlying u with | some (.int .u8) => P.cellsOf u == 1 | _ => false) | .lst e => P.cellsOf u == e.size && bltN 0 e.size && tyB P n u e | _ => false)
    | some (.struct fs) => P.cellsOf t == e.size && offsIn 0 P fs.toList && fieldsB (tyB P n) P 0 (fs.toList.map (·.type)) e
    | some (.array m u) => P.cellsOf t == e.size && fieldsB (tyB P n) P 0 (List.replicate m u) e
    | _ => false

section
variable {H : Type} {enc : TypeId × Value → H} {W : World} {sp : Nat → Bool} {held : Bool}

theorem add_flat (b off n : Nat) : (⟨b, off, none⟩ : Addr).add n = ⟨b, off + n, none⟩ := by
  unfold Addr.add
  split
  · rename_i h; have : n = 0 := by simpa using h
    subst this; rfl
  · rfl

theorem list_of {α : Type} (n : Nat) (p : Nat → α → Prop) (h : ∀ i, i < n → ∃ x, p i x) : ∃ l : List α, l.length = n ∧ ∀ i x, l[i]? = some x → p i x := by
  induction n with
  | zero => exact ⟨[], rfl, fun i x hi => by cases hi⟩
  | succ n ih =>
    obtain ⟨l, hl, hp⟩ := ih (fun i hi => h i (by omega))
    obtain ⟨x, hx⟩ := h n (by omega)
    refine ⟨l ++ [x], by simp [hl], fun i y hi => ?_⟩
    by_cases e : i < l.length
    · rw [List.getElem?_append_left e] at hi; exact hp i y hi
    · have hlt := (List.getElem?_eq_some_iff.1 hi).1
      have : i = l.length := by simp at hlt; omega
      subst this
      simp at hi
      subst hi
      rw [hl]; exact hx

/-- A slice shows the elements that each of its places shows. -/
theorem shows_of {t u : TypeId} (ht : P.underlying t = some (.slice u)) {e : Ty} (hc : P.cellsOf u = e.size) (hpos : 0 < e.size) {fuel : Nat} {cs : List Value} {x : DataW H × List MemPlace} (h : DataW.trod enc P W 0 sp held fuel t cs = some x)
    (he : ∀ n cs' x', DataW.trod enc P W 0 sp held n u cs' = some x' → ∃ y : e.T, cs'.length = e.size ∧ CellsM (memOf W) e y (fun i => cs'[i]?) ∧ e.ok y) :
    ∃ L : List e.T, L.length ≤ maxLen ∧ (∀ y ∈ L, e.ok y) ∧ ∃ v, cs = [v] ∧ ShowsM (memOf W) e L v := by
  rcases open_slice ht h with ⟨rfl, _⟩ | ⟨a, len, cap, m, n, D, Pl, rfl, _, hl, hm, hmm, _, hx⟩
  · exact ⟨[], Nat.zero_le _, by simp, _, rfl, none, 0, rfl, Nat.le_refl _, by simp⟩
  · have hlm : len ≤ m := by rw [hmm]; split <;> omega
    have each : ∀ i, i < len → ∃ y : e.T, e.ok y ∧ CellsM (memOf W) e y (fun j => if j < e.size then W.cell? (a.add (i * e.size + j)) else none) := by
      intro i hi
      obtain ⟨cs', h1, h2⟩ := hx i (by omega)
      obtain ⟨y, hy1, hy2, hy3⟩ := he _ _ _ h2
      rw [hc] at h1
      obtain ⟨_, hlen, hcell⟩ := World.cells?_some h1
      refine ⟨y, hy3, CellsM.congr e hy2 fun j v hj hv => ?_⟩
      have := hcell j hj
      rw [add_add] at this
      rw [if_pos hj, this]
      exact hv
    obtain ⟨L, hL, hp⟩ := list_of len _ each
    refine ⟨L, by omega, fun y hy => ?_, _, rfl, some a, cap, by rw [hL], by omega, fun h0 => ?_⟩
    · obtain ⟨i, hi⟩ := List.mem_iff_getElem?.1 hy
      exact (hp i y hi).1
    · obtain ⟨y0, hy0⟩ : ∃ y, L[0]? = some y := ⟨L[0]'h0, by simp⟩
      have hc0 := (hp 0 y0 hy0).2
      obtain ⟨b, off, spot⟩ := a
      have hspot : spot = none := by
        obtain ⟨cs', h1, _⟩ := hx 0 (by omega)
        obtain ⟨_, hlen, hcell⟩ := World.cells?_some h1
        have h3 := hcell 0 (by rw [hc]; exact hpos)
        have : 0 < cs'.length := by rw [hlen, hc]; exact hpos
        rw [List.getElem?_eq_getElem this] at h3
        rw [add_add] at h3
        simpa [Addr.add] using World.cell?_spot h3
      subst hspot
      refine ⟨b, off, rfl, fun j y hj => CellsM.congr e (hp j y hj).2 fun k v hk hv => ?_⟩
      rw [if_pos hk, add_flat, ← Nat.add_assoc] at hv
      exact hv

theorem ofs_cells {n : Nat} (tyB' : TypeId → Ty → Bool) (hrec : ∀ t e, tyB' t e = true → ∀ fuel cs x, DataW.trod enc P W 0 sp held fuel t cs = some x → ∃ y : e.T, cs.length = e.size ∧ CellsM (memOf W) e y (fun i => cs[i]?) ∧ e.ok y) :
    ∀ (ts : List TypeId) (e : Ty) (off : Nat) (cs : List Value), fieldsB tyB' P off ts e = true →
      (∀ (i : Nat) (t : TypeId), ts[i]? = some t → ∃ x, DataW.trod enc P W 0 sp held n t ((cs.drop ((ts.take i).map P.cellsOf).sum).take (P.cellsOf t)) = some x) →
      ∃ y : e.T, CellsM (memOf W) e y (fun i => cs[i]?) ∧ e.ok y
  | [], e, off, cs, h, _ => by simp [fieldsB] at h
  | [t], e, off, cs, h, hx => by
    simp only [fieldsB, Bool.and_eq_true, beq_iff_eq] at h
    obtain ⟨x, hx⟩ := hx 0 t rfl
    simp only [List.take_zero, List.map_nil, List.sum_nil, List.drop_zero] at hx
    obtain ⟨y, h1, h2, h3⟩ := hrec t e h.2 _ _ _ hx
    refine ⟨y, CellsM.congr e h2 fun j v hj hv => ?_, h3⟩
    rw [List.getElem?_take] at hv
    split at hv
    · exact hv
    · cases hv
  | t :: t2 :: ts, e, off, cs, h, hx => by
    cases e with
    | pair a b =>
      simp only [fieldsB, Bool.and_eq_true, beq_iff_eq] at h
      obtain ⟨⟨h1, h2⟩, h3⟩ := h
      obtain ⟨x, hx0⟩ := hx 0 t rfl
      simp only [List.take_zero, List.map_nil, List.sum_nil, List.drop_zero] at hx0
      obtain ⟨y, g1, g2, g3⟩ := hrec t a h2 _ _ _ hx0
      obtain ⟨z, k1, k2⟩ := ofs_cells tyB' hrec (t2 :: ts) b (off + a.size) (cs.drop a.size) h3 (fun i u hu => by
        obtain ⟨x', hx'⟩ := hx (i + 1) u hu
        refine ⟨x', ?_⟩
        simp only [List.take_succ_cons, List.map_cons, List.sum_cons, h1] at hx'
        rw [List.drop_drop]; exact hx')
      refine ⟨(y, z), ⟨CellsM.congr a g2 fun j v hj hv => ?_, CellsM.congr b k1 fun j v hj hv => ?_⟩, g3, k2⟩
      · rw [List.getElem?_take] at hv
        split at hv
        · exact hv
        · cases hv
      · rw [List.getElem?_drop] at hv; exact hv
    | _ => simp [fieldsB] at h

theorem offsIn_spec {P : Program} : ∀ {fs : List Field} {n : Nat}, offsIn n P fs = true → ∀ i f, fs[i]? = some f → f.offset = n + (((fs.map (·.type)).take i).map P.cellsOf).sum
  | [], _, _, i, f, h => by cases h
  | g :: fs, n, h, i, f, hf => by
    simp only [offsIn, Bool.and_eq_true, beq_iff_eq] at h
    cases i with
    | zero => cases hf; simpa using h.1
    | succ i =>
      have := offsIn_spec h.2 i f hf
      simp only [List.map_cons, List.take_succ_cons, List.sum_cons]
      omega

theorem open_ty : ∀ (n : Nat) {t : TypeId} {e : Ty}, tyB P n t e = true → ∀ {fuel : Nat} {cs : List Value} {x : DataW H × List MemPlace}, DataW.trod enc P W 0 sp held fuel t cs = some x →
    ∃ y : e.T, cs.length = e.size ∧ CellsM (memOf W) e y (fun i => cs[i]?) ∧ e.ok y
  | 0, t, e, h, _, _, _, _ => by simp [tyB] at h
  | n + 1, t, e, h, fuel, cs, x, hx => by
    unfold tyB at h
    split at h
    · rename_i k hu
      split at h <;> (try cases h)
      have h := eq_of_beq h
      subst h
      obtain ⟨m, rfl, _, hw⟩ := DataW.trod_int hu hx
      simp only [Lit.wf, Bool.and_eq_true, decide_eq_true_eq] at hw
      exact ⟨m, rfl, rfl, hw⟩
    · rename_i hu
      split at h <;> cases h
      obtain ⟨b, rfl, _⟩ := DataW.trod_bool hu hx
      exact ⟨b, rfl, rfl, trivial⟩
    · rename_i hu
      split at h <;> cases h
      obtain ⟨s, rfl, _, hs⟩ := DataW.trod_string hu hx
      refine ⟨s.data.toList.map fun x => (x.toNat : Int), rfl, ?_, by simpa using hs, ?_⟩
      · show some _ = some _
        congr 2
        cases s with | mk d =>
        congr 1
        simp [Function.comp_def]
      · intro y hy
        obtain ⟨z, _, rfl⟩ := List.mem_map.1 hy
        have := z.toNat_lt
        omega
    · rename_i u hu
      split at h <;> (try cases h)
      · split at h <;> (try cases h)
        rename_i hu8
        have hc := eq_of_beq h
        obtain ⟨L, h1, h2, v, rfl, h3⟩ := shows_of (e := .int .u8) hu hc (by decide) hx fun m cs' x' hx' => by
          obtain ⟨z, rfl, _, hw⟩ := DataW.trod_int hu8 hx'
          simp only [Lit.wf, Bool.and_eq_true, decide_eq_true_eq] at hw
          exact ⟨z, rfl, rfl, hw⟩
        refine ⟨L, rfl, ⟨v, rfl, showsB_iff.2 h3⟩, h1, fun y hy => ?_⟩
        obtain ⟨a, b⟩ := h2 y hy
        have e1 : IntKind.u8.min = 0 := by decide
        have e2 : IntKind.u8.max = 255 := by decide
        exact ⟨e1 ▸ a, Int.lt_of_le_of_lt (e2 ▸ b : (y : Int) ≤ 255) (by decide)⟩
      · rename_i e
        simp only [Bool.and_eq_true, beq_iff_eq] at h
        obtain ⟨⟨h1, h2⟩, h3⟩ := h
        have h2 : 0 < e.size := leN h2
        obtain ⟨L, g1, g2, v, rfl, g3⟩ := shows_of hu h1 h2 hx (fun m cs' x' hx' => open_ty n h3 hx')
        exact ⟨L, rfl, cellsM_lst.2 ⟨v, rfl, g3⟩, g1, g2⟩
    · rename_i fs hu
      simp only [Bool.and_eq_true, beq_iff_eq] at h
      obtain ⟨⟨h1, h2⟩, h3⟩ := h
      obtain ⟨xs, m, rfl, _, hl, hlen, hf⟩ := DataW.trod_struct hu hx
      obtain ⟨y, k1, k2⟩ := ofs_cells (n := m) (tyB P n) (fun t e ht fuel cs x hx => open_ty n ht hx) _ e 0 cs h3 (fun i u hi => by
        rw [List.getElem?_map] at hi
        obtain ⟨f, hf1, rfl⟩ := Option.map_eq_some_iff.1 hi
        have g := hf i f (by simpa using hf1)
        have ho := offsIn_spec h2 i f hf1
        rw [Nat.zero_add] at ho
        rw [← ho, g]
        have hi' : i < xs.length := by
          rw [hlen]; have := (List.getElem?_eq_some_iff.1 hf1).1; simpa using this
        exact ⟨xs[i], by simp⟩)
      exact ⟨y, hl.trans h1, k1, k2⟩
    · rename_i m u hu
      simp only [Bool.and_eq_true, beq_iff_eq] at h
      obtain ⟨h1, h3⟩ := h
      obtain ⟨xs, q, rfl, _, hl, hlen, hf⟩ := DataW.trod_array hu hx
      obtain ⟨y, k1, k2⟩ := ofs_cells (n := q) (tyB P n) (fun t e ht fuel cs x hx => open_ty n ht hx) _ e 0 cs h3 (fun i t' hi => by
        obtain ⟨hi1, hi2⟩ := List.getElem?_eq_some_iff.1 hi
        simp at hi1 hi2
        subst hi2
        have g := hf i hi1
        have hs : ((List.take i (List.replicate m u)).map P.cellsOf).sum = i * P.cellsOf u := by
          rw [List.take_replicate, Nat.min_eq_left (by omega)]; simp
        rw [hs, g]
        exact ⟨xs[i]'(by omega), by simp⟩)
      exact ⟨y, hl.trans h1, k1, k2⟩
    · cases h

/-- Is a parameter's type of this form? -/
def dtB (P : Program) (t : TypeId) : DT → Bool
  | .cell e => tyB P 8 t e && bltN 0 e.size && (match P.underlying t with | some (.struct _) => e.agg | some (.array _ _) => e.agg | _ => !e.agg)
  | .lst e => (match P.underlying t with | some (.slice u) => P.cellsOf u == e.size && bltN 0 e.size && tyB P 8 u e | _ => false)
  | .any => false
def DT.ok : (d : DT) → d.T → Prop
  | .cell e, x => e.ok x
  | .lst e, L => L.length ≤ maxLen ∧ ∀ x ∈ L, e.ok x
  | .any, _ => True

theorem elV_some : ∀ {e : Ty} (x : U e.T), 0 < e.size → ∃ y, elV e x = some y
  | .int _, x, _ => ⟨_, rfl⟩
  | .bool, x, _ => ⟨_, rfl⟩
  | .bytes, x, _ => ⟨_, rfl⟩
  | .lst _, x, _ => ⟨_, rfl⟩
  | .str, x, _ => ⟨_, rfl⟩
  | .unit, x, h => by simp [Ty.size] at h
  | .pair a b, x, _ => ⟨_, rfl⟩

theorem open_dt {d : DT} {t : TypeId} (hd : dtB P t d = true) {v : Value} {r : Reach} {b0 : Nat} (hval : Value.okWide P W r b0 t v) {dd : DataW H} {ps : List MemPlace} (h : DataW.Trod enc P W 0 sp held t v dd ps) :
    ∃ x : d.T, d.ok x ∧ ∀ ρ : Ev, ρ.M = memOf W → Den2 ρ (d.sv (fun _ => x)) v := by
  obtain ⟨fuel, hf⟩ := h
  cases d with
  | any => cases hd
  | cell e =>
    simp only [dtB, Bool.and_eq_true] at hd
    obtain ⟨⟨h1, h2⟩, h3⟩ := hd
    have h2 : 0 < e.size := leN h2
    obtain ⟨y, k1, k2, k3⟩ := open_ty 8 h1 hf
    refine ⟨y, k3, fun ρ hM => ?_⟩
    obtain ⟨z, hz⟩ := elV_some (e := e) (fun _ => y) h2
    simp only [DT.sv, hz]
    refine elV_den hz ?_
    rw [hM]
    refine ⟨v.cells.toList, k1, k2, ?_⟩
    have hag : ∀ cs, v = .agg cs → e.agg = true → (match e.agg with | true => v = .agg v.cells.toList.toArray | false => v.cells.toList = [v]) := by
      rintro cs rfl he
      rw [he]; simp [Value.cells]
    have hone : (∀ cs, v ≠ .agg cs) → e.agg = false → (match e.agg with | true => v = .agg v.cells.toList.toArray | false => v.cells.toList = [v]) := by
      intro hn he
      rw [he]
      cases v <;> first | rfl | exact absurd rfl (hn _)
    unfold tyB at h1
    split at h1
    · rename_i k hu
      obtain ⟨m, rfl⟩ := okWide_int hu hval
      rw [hu] at h3
      exact hone (fun _ h => by cases h) (by simpa using h3)
    · rename_i hu
      obtain ⟨m, rfl⟩ := okWide_bool hu hval
      rw [hu] at h3
      exact hone (fun _ h => by cases h) (by simpa using h3)
    · rename_i hu
      obtain ⟨m, rfl⟩ := okWide_string hu hval
      rw [hu] at h3
      exact hone (fun _ h => by cases h) (by simpa using h3)
    · rename_i u hu
      obtain ⟨a, l, c, rfl⟩ := okWide_slice hu hval
      rw [hu] at h3
      exact hone (fun _ h => by cases h) (by simpa using h3)
    · rename_i fs hu
      obtain ⟨cs, rfl, _⟩ := okWide_struct hu hval
      rw [hu] at h3
      exact hag _ rfl h3
    · rename_i m u hu
      have hval' := hval
      simp only [Value.okWide, hu] at hval'
      obtain ⟨cs, rfl, _⟩ := hval'
      rw [hu] at h3
      exact hag _ rfl h3
    · cases h1
  | lst e =>
    simp only [dtB] at hd
    split at hd
    · rename_i u hu
      simp only [Bool.and_eq_true, beq_iff_eq] at hd
      obtain ⟨⟨h1, h2⟩, h3⟩ := hd
      have h2 : 0 < e.size := leN h2
      obtain ⟨a, l, c, rfl⟩ := okWide_slice hu hval
      obtain ⟨L, g1, g2, v', g3, g4⟩ := shows_of hu h1 h2 hf (fun n cs' x' hx' => open_ty 8 h3 hx')
      have hv' : v' = .slice a l c := by simpa [Value.cells] using g3.symm
      subst hv'
      exact ⟨L, ⟨g1, g2⟩, fun ρ hM => by show ShowsM ρ.M e L _; rw [hM]; exact g4⟩
    · cases hd
end

/-- A call from outside, by a template over nothing. -/
theorem TmplOk.start {A : Type} {AI : Abs A} {f : FuncId} {args : List SV} {v : SV} (hT : TmplOk P AI f args [] v []) {W : World} {us : List Value} (htq : AI.tq.T W (fun _ => False)) (hargs : ∀ ρ : Ev, ρ.M = memOf W → All2 (Den ρ) args us) :
    Calls P f us.toArray W fun e w' => (∃ y ρ, e = .returned y ∧ Den ρ v y) ∧ Below W.heap.size W w' := by
  let ρc : Ev := { root := fun _ => .bool false, ver := fun _ => 0, M := memOf W, foot := fun _ => [] }
  refine (hT ⟨W, fun _ => False, 0, fun _ => .bool false, memOf W, 0, fun _ => 0⟩ ρc W us rfl rfl ?_ (hargs ρc rfl)).mono ?_
  · exact ⟨rfl, htq, (fun t x ht => by cases ht), fun j => ⟨rfl, rfl, rfl⟩, (fun _ _ _ _ h => by cases h), (fun _ _ h => by cases h), fun b o x hm => ⟨hm, fun i hi => by cases hi⟩, rfl, rfl, rfl, Nat.le_refl _, fun _ _ _ => rfl, (fun _ _ h => by cases h), (fun i b hi hb => by cases hb), (fun i hi => absurd hi (Nat.not_lt_zero i)), fun _ _ _ hm => hm, fun b o x hm => .inl hm⟩
  · rintro e w' ⟨y, ρ', rfl, hh, hy⟩
    exact ⟨⟨y, ρ', rfl, hy⟩, hh.os, hh.tape, hh.output, hh.grow, fun k hk => hh.kept k hk (fun h => h)⟩

/-- A law returns true. -/
theorem PureSpec.law {A : Type} {AI : Abs A} {f : FuncId} {k : PureSpec} (hrs : k.rs = [.cell .bool]) (hk : k.Ok P AI f) {x : Tup k.ds} (hx : k.pre x) (hf : ∀ v : SV, resOf (svs k.rs (fun _ => k.f x)) = v → ∀ ρ y, Den ρ v y → y = .bool true) {W : World} {us : List Value}
    (hargs : ∀ ρ : Ev, ρ.M = memOf W → All2 (Den2 ρ) (svs k.ds (fun _ => x)) us) (htq : AI.tq.T W (fun _ => False) := by exact TabQ.T_none _ _) :
    Calls P f us.toArray W fun e w' => e = .returned (.bool true) ∧ Below W.heap.size W w' := by
  refine ((hk x hx).start htq fun ρ hM => argS_den (hargs ρ hM) rfl).mono ?_
  rintro e w' ⟨⟨y, ρ, rfl, hy⟩, hb⟩
  rw [hf _ rfl ρ y hy]
  exact ⟨rfl, hb⟩

end Go.Sx

/-
  Symbolic execution: the equations that evaluation uses, found once.
-/
namespace Go.Sx
set_option linter.all false
theorem eqns0 : True := by
  have := @beqN.eq_1; have := @beqN.eq_def; have := @bleN.eq_1; have := @bleN.eq_def; have := @bltN.eq_1; have := @bltN.eq_def; have := @U.eq_1; have := @U.eq_def; have := @Ty.T.eq_1; have := @Ty.T.eq_def; have := @Ty.dflt.eq_1; have := @Ty.dflt.eq_def; have := @Ty.size.eq_1; have := @Ty.size.eq_def; have := @Ty.agg.eq_1; have := @Ty.agg.eq_def; have := @KT.T.eq_1; have := @KT.T.eq_def; have := @dec.eq_1; have := @dec.eq_def; have := @castL.eq_1; have := @castL.eq_def; have := @lstOf.eq_1; have := @lstOf.eq_def; have := @enc.eq_1; have := @enc.eq_def; have := @getA.eq_1; have := @getA.eq_def; have := @putA.eq_1; have := @putA.eq_def; have := @delA.eq_1; have := @delA.eq_def; have := @getM.eq_1; have := @getM.eq_def; have := @putM.eq_1; have := @putM.eq_def; have := @delM.eq_1; have := @delM.eq_def; have := @TI.isAgg.eq_1; have := @TI.isAgg.eq_def; trivial
theorem eqns1 : True := by
  have := @look.eq_1; have := @look.eq_def; have := @nth.eq_1; have := @nth.eq_def; have := @setNth.eq_1; have := @setNth.eq_def; have := @takeN.eq_1; have := @takeN.eq_def; have := @cut.eq_1; have := @cut.eq_def; have := @paste.eq_1; have := @paste.eq_def; have := @ofLit1.eq_1; have := @ofLit1.eq_def; have := @ofLit.eq_1; have := @ofLit.eq_def; have := @evalOp.eq_1; have := @evalOp.eq_def; have := @evalOps.eq_1; have := @evalOps.eq_def; have := @inI64.eq_1; have := @inI64.eq_def; have := @one.eq_1; have := @one.eq_def; have := @pureP.eq_1; have := @pureP.eq_def; have := @tt.eq_1; have := @tt.eq_def; have := @cellsOf.eq_1; have := @cellsOf.eq_def; have := @ival.eq_1; have := @ival.eq_def; have := @ivalS.eq_1; have := @ivalS.eq_def; have := @bval.eq_1; have := @bval.eq_def; have := @fit.eq_1; have := @fit.eq_def; have := @arith.eq_1; have := @arith.eq_def; trivial
theorem eqns2 : True := by
  have := @inBytes.eq_1; have := @inBytes.eq_def; have := @strBA.eq_1; have := @binop1.eq_1; have := @binop1.eq_def; have := @softP.eq_1; have := @softP.eq_def; have := @binopP.eq_1; have := @binopP.eq_def; have := @unopP.eq_1; have := @unopP.eq_def; have := @litNat.eq_1; have := @litNat.eq_def; have := @convertP.eq_1; have := @convertP.eq_def; have := @srcOk.eq_1; have := @srcOk.eq_def; have := @pack.eq_1; have := @pack.eq_def; have := @partOf.eq_1; have := @partOf.eq_def; have := @loadP.eq_1; have := @loadP.eq_def; have := @storable.eq_1; have := @storable.eq_def; have := @storeQ.eq_1; have := @storeQ.eq_def; have := @viewOf.eq_1; have := @viewOf.eq_def; have := @storeP.eq_1; have := @storeP.eq_def; have := @fieldP.eq_1; have := @fieldP.eq_def; have := @indexP.eq_1; have := @indexP.eq_def; have := @intArg.eq_1; have := @intArg.eq_def; have := @loOf.eq_1; have := @loOf.eq_def; have := @hiOf.eq_1; trivial
theorem eqns3 : True := by
  have := @hiOf.eq_def; have := @isSlice.eq_1; have := @isSlice.eq_def; have := @isZero.eq_1; have := @isZero.eq_def; have := @sliceP.eq_1; have := @sliceP.eq_def; have := @lenP.eq_1; have := @lenP.eq_def; have := @maxOf.eq_1; have := @maxOf.eq_def; have := @minmaxP.eq_1; have := @minmaxP.eq_def; have := @castK.eq_1; have := @castK.eq_def; have := @castM.eq_1; have := @castM.eq_def; have := @srcOf.eq_1; have := @srcOf.eq_def; have := @srcOfS.eq_1; have := @srcOfS.eq_def; have := @appendOk.eq_1; have := @appendOk.eq_def; have := @u8i.eq_1; have := @u8i.eq_def; have := @Src.ids.eq_1; have := @Src.ids.eq_def; have := @Src.list.eq_1; have := @Src.list.eq_def; have := @maxRow.eq_1; have := @maxRow.eq_def; have := @appendQ.eq_1; have := @appendQ.eq_def; have := @appendP.eq_1; have := @appendP.eq_def; have := @allocP.eq_1; have := @allocP.eq_def; have := @buildCells.eq_1; have := @buildCells.eq_def; have := @places.eq_1; trivial
theorem eqns4 : True := by
  have := @places.eq_def; have := @buildP.eq_1; have := @buildP.eq_def; have := @encAll.eq_1; have := @encAll.eq_def; have := @inOrder.eq_1; have := @inOrder.eq_def; have := @isLitV.eq_1; have := @isLitV.eq_def; have := @buildSliceP.eq_1; have := @buildSliceP.eq_def; have := @makeSliceP.eq_1; have := @makeSliceP.eq_def; have := @makeMapP.eq_1; have := @makeMapP.eq_def; have := @keyV.eq_1; have := @keyV.eq_def; have := @elV.eq_1; have := @elV.eq_def; have := @velt.eq_1; have := @velt.eq_def; have := @aggV.eq_1; have := @aggV.eq_def; have := @lookupP.eq_1; have := @lookupP.eq_def; have := @mapUpdateP.eq_1; have := @mapUpdateP.eq_def; have := @deleteP.eq_1; have := @deleteP.eq_def; have := @Con.eq_1; have := @Con.eq_def; have := @argParts.eq_1; have := @argParts.eq_def; have := @evalOpt.eq_1; have := @evalOpt.eq_def; have := @szOf.eq_1; have := @szOf.eq_def; have := @lenOk.eq_1; have := @lenOk.eq_def; have := @callP.eq_1; trivial
theorem eqns5 : True := by
  have := @callP.eq_def; have := @PO.of.eq_1; have := @PO.of.eq_def; have := @cellOf.eq_1; have := @cellOf.eq_def; have := @capsOf.eq_1; have := @capsOf.eq_def; have := @binOk.eq_1; have := @binOk.eq_def; have := @convNew.eq_1; have := @convNew.eq_def; have := @convRow.eq_1; have := @convRow.eq_def; have := @sliceZ.eq_1; have := @sliceZ.eq_def; have := @nilOf.eq_1; have := @nilOf.eq_def; have := @eqCs.eq_1; have := @eqCs.eq_def; have := @aggCmp.eq_1; have := @aggCmp.eq_def; have := @idxEff.eq_1; have := @idxEff.eq_def; have := @idxValP.eq_1; have := @idxValP.eq_def; have := @sliceDataP.eq_1; have := @sliceDataP.eq_def; have := @unsafeStrP.eq_1; have := @unsafeStrP.eq_def; have := @unsafeP.eq_1; have := @unsafeP.eq_def; have := @arrAt.eq_1; have := @arrAt.eq_def; have := @arrEff.eq_1; have := @arrEff.eq_def; have := @andI.eq_1; have := @andI.eq_def; have := @mapNil.eq_1; have := @mapNil.eq_def; have := @nilCmp.eq_1; trivial
theorem eqns6 : True := by
  have := @nilCmp.eq_def; have := @upTo.eq_1; have := @upTo.eq_def; have := @nthC.eq_1; have := @nthC.eq_def; have := @keyS.eq_1; have := @keyS.eq_def; have := @rangeP.eq_1; have := @rangeP.eq_def; have := @entryP.eq_1; have := @entryP.eq_def; have := @sop.eq_1; have := @sop.eq_def; have := @getC.eq_1; have := @getC.eq_def; have := @getCs.eq_1; have := @getCs.eq_def; have := @putC.eq_1; have := @putC.eq_def; have := @putCs.eq_1; have := @putCs.eq_def; have := @putT.eq_1; have := @putT.eq_def; have := @applyE.eq_1; have := @applyE.eq_def; have := @isApp.eq_1; have := @isApp.eq_2; have := @isApp.eq_def; have := @mkEff.eq_2; have := @mkEff.eq_1; have := @mkEff.eq_def; have := @Dec.ofOp.eq_1; have := @Dec.ofOp.eq_def; have := @decide1.eq_1; have := @decide1.eq_def; have := @isBoolV.eq_1; have := @isBoolV.eq_def; have := @guardOf.eq_1; have := @guardOf.eq_def; have := @undefV.eq_1; trivial
theorem eqns7 : True := by
  have := @undefV.eq_def; have := @decideD.eq_1; have := @decideD.eq_def; have := @srun.eq_1; have := @srun.eq_def; have := @preSl.eq_1; have := @preSl.eq_def; have := @conds.eq_1; have := @conds.eq_def; have := @maskOf.eq_1; have := @maskOf.eq_def; have := @ancO.eq_1; have := @ancO.eq_def; have := @ancs.eq_1; have := @ancs.eq_def; have := @readsOf.eq_1; have := @readsOf.eq_def; have := @meets.eq_1; have := @meets.eq_def; have := @clash.eq_1; have := @clash.eq_def; have := @okRec.eq_1; have := @okRec.eq_def; have := @okRecs.eq_1; have := @okRecs.eq_def; have := @recsOf.eq_1; have := @recsOf.eq_def; have := @opKd.eq_1; have := @opKd.eq_2; have := @opKd.eq_3; have := @opKd.eq_4; have := @opKd.eq_def; have := @opKE.eq_1; have := @opKE.eq_def; have := @hdNest.eq_1; have := @hdNest.eq_2; have := @hdNest.eq_3; have := @hdNest.eq_def; have := @Eff.hard.eq_1; have := @Eff.hard.eq_def; trivial
theorem eqns8 : True := by
  have := @keeps.eq_1; have := @keeps.eq_def; have := @softOk.eq_1; have := @softOk.eq_def; have := @drawE.eq_1; have := @drawE.eq_def; have := @drawOk.eq_1; have := @drawOk.eq_def; have := @sreg.eq_1; have := @sreg.eq_def; have := @sub1.eq_1; have := @sub1.eq_def; have := @sub1s.eq_1; have := @sub1s.eq_def; have := @sub2.eq_1; have := @sub2.eq_def; have := @sub2s.eq_1; have := @sub2s.eq_def; have := @subV.eq_1; have := @subV.eq_def; have := @subC.eq_1; have := @subC.eq_def; have := @subCs.eq_1; have := @subCs.eq_def; have := @subT.eq_1; have := @subT.eq_def; have := @vers.eq_1; have := @vers.eq_def; have := @norm1.eq_1; have := @norm1.eq_def; have := @norm2.eq_1; have := @norm2.eq_def; have := @normV.eq_1; have := @normV.eq_def; have := @normC.eq_1; have := @normC.eq_def; have := @normCs.eq_1; have := @normCs.eq_def; have := @normT.eq_1; have := @normT.eq_def; trivial
theorem eqns9 : True := by
  have := @norm.eq_1; have := @norm.eq_def; have := @map2.eq_1; have := @map2.eq_def; have := @mapV.eq_1; have := @mapV.eq_def; have := @mapT.eq_1; have := @mapT.eq_def; have := @frz1.eq_1; have := @frz1.eq_def; have := @frzC.eq_1; have := @frzC.eq_def; have := @frzCs.eq_1; have := @frzCs.eq_def; have := @frz.eq_1; have := @frz.eq_def; have := @absT.eq_1; have := @absT.eq_def; have := @absL.eq_1; have := @absL.eq_def; have := @absC.eq_1; have := @absC.eq_def; have := @absorb.eq_1; have := @absorb.eq_def; have := @unrC.eq_1; have := @unrC.eq_def; have := @unr.eq_1; have := @unr.eq_def; have := @keepT.eq_1; have := @keepT.eq_def; have := @Sub.eq_1; have := @Sub.eq_def; have := @nextOf.eq_1; have := @nextOf.eq_def; have := @snext.eq_1; have := @snext.eq_def; have := @svc.eq_1; have := @svc.eq_def; have := @resV.eq_1; have := @resV.eq_def; trivial
theorem eqns10 : True := by
  have := @resOf.eq_1; have := @resOf.eq_def; have := @finP.eq_1; have := @finP.eq_def; have := @argT.eq_1; have := @argT.eq_def; have := @place.eq_1; have := @place.eq_def; have := @posB.eq_1; have := @posB.eq_def; have := @rn1.eq_1; have := @rn1.eq_def; have := @rnC.eq_1; have := @rnC.eq_def; have := @reordH.eq_1; have := @reordH.eq_def; have := @reord.eq_1; have := @reord.eq_def; have := @nodupB.eq_1; have := @nodupB.eq_def; have := @fixB.eq_1; have := @fixB.eq_def; have := @permOk.eq_1; have := @permOk.eq_def; have := @finR.eq_1; have := @finR.eq_def; have := @codeOk.eq_1; have := @codeOk.eq_def; trivial
theorem eqns11 : True := by
  have := @absOf.eq_1; have := @absOf.eq_def; have := @rvOf.eq_1; have := @rvOf.eq_def; have := @TmplOk.eq_1; have := @TmplOk.eq_def; have := @closed1.eq_1; have := @closed1.eq_def; have := @Kin.eq_1; have := @Kin.eq_def; have := @posOf.eq_1; have := @posOf.eq_def; have := @zeroB.eq_1; have := @zeroB.eq_def; have := @isNil.eq_1; have := @isNil.eq_def; have := @offsB.eq_1; have := @offsB.eq_def; have := @kindB.eq_1; have := @kindB.eq_def; have := @tiB.eq_1; have := @tiB.eq_def; have := @zeroP.eq_1; have := @zeroP.eq_def; have := @flatC.eq_1; have := @flatC.eq_def; have := @closed2.eq_1; have := @closed2.eq_def; have := @closedV.eq_1; have := @closedV.eq_def; have := @DT.T.eq_1; have := @DT.T.eq_def; have := @DT.sv.eq_1; have := @DT.sv.eq_def; have := @DT.of.eq_1; have := @DT.of.eq_def; trivial
theorem eqns12 : True := by
  have := @Tup.eq_1; have := @Tup.eq_def; have := @svs.eq_1; have := @svs.eq_def; have := @ofs.eq_1; have := @ofs.eq_def; have := @argS.eq_1; have := @argS.eq_def; have := @Enters.eq_1; have := @Enters.eq_def; have := @PureSpec.con.eq_1; have := @PureSpec.con.eq_def; have := @PureSpec.Ok.eq_1; have := @PureSpec.Ok.eq_def; have := @Ev.reord.eq_1; have := @Ev.reord.eq_def; have := @idsA.eq_1; have := @idsA.eq_def; have := @ofA.eq_1; have := @ofA.eq_def; have := @Ty.flat.eq_1; have := @Ty.flat.eq_def; have := @xreg.eq_1; have := @xreg.eq_def; trivial
theorem eqns13 : True := by
  have := @inBlk.eq_1; have := @inBlk.eq_def; have := @xcode.eq_1; have := @xcode.eq_def; have := @bel1.eq_1; have := @bel1.eq_def; have := @bel2.eq_1; have := @bel2.eq_def; have := @belV.eq_1; have := @belV.eq_def; have := @allC.eq_1; have := @allC.eq_def; have := @firstN.eq_1; have := @firstN.eq_def; have := @belC.eq_1; have := @belC.eq_def; have := @inlCon.eq_1; have := @inlCon.eq_def; have := @bodyOf.eq_1; have := @bodyOf.eq_def; have := @inl.eq_1; have := @inl.eq_def; have := @Ty.ok.eq_1; have := @Ty.ok.eq_def; have := @memOf.eq_1; have := @memOf.eq_def; have := @fieldsB.eq_1; have := @fieldsB.eq_def; have := @offsIn.eq_1; have := @offsIn.eq_def; have := @tyB.eq_1; have := @tyB.eq_def; have := @dtB.eq_1; have := @dtB.eq_def; trivial
theorem eqns14 : True := by
  have := @DT.ok.eq_1; have := @DT.ok.eq_def; have := @castL.castT.eq_1; have := @castL.castT.eq_def; have := @sop0.eq_22; have := @sop0.eq_21; have := @sop0.eq_20; have := @sop0.eq_19; have := @sop0.eq_18; have := @sop0.eq_17; have := @sop0.eq_16; have := @sop0.eq_15; have := @sop0.eq_14; have := @sop0.eq_13; have := @sop0.eq_12; have := @sop0.eq_11; have := @sop0.eq_10; have := @sop0.eq_9; have := @sop0.eq_8; have := @sop0.eq_7; have := @sop0.eq_6; have := @sop0.eq_5; have := @sop0.eq_4; have := @sop0.eq_3; have := @sop0.eq_2; have := @sop0.eq_1; have := @sop0.eq_def; have := @nestOn.eq_2; have := @nestOn.eq_1; have := @nestOn.eq_def; have := @nestTb.eq_2; have := @nestTb.eq_1; have := @nestTb.eq_def; have := @takeE.eq_2; have := @takeE.eq_1; have := @takeE.eq_def; have := @cutP.eq_1; have := @cutP.eq_def; have := @nestLoad.eq_2; have := @nestLoad.eq_1; trivial
theorem eqns15 : True := by
  have := @nestLoad.eq_def; have := @nestStore.eq_2; have := @nestStore.eq_1; have := @nestStore.eq_def; have := @nestIdx.eq_2; have := @nestIdx.eq_1; have := @nestIdx.eq_def; have := @nestP.eq_6; have := @nestP.eq_5; have := @nestP.eq_4; have := @nestP.eq_3; have := @nestP.eq_2; have := @nestP.eq_1; have := @nestP.eq_def; have := @isAppE.eq_1; have := @isAppE.eq_def; have := @homeAt.eq_1; have := @homeAt.eq_def; have := @holeOf.eq_2; have := @holeOf.eq_1; have := @holeOf.eq_def; have := @homes.eq_1; have := @homes.eq_def; trivial
end Go.Sx

/-
  Symbolic execution: contracts whose arguments hold rows of bytes: from the call on these rows stay as they are.
-/
namespace Go.Sx
set_option linter.all false
open Go.RowKit

variable {A : Type} {AI : Abs A} {G : Fr} {s : SS A} {ρ : Ev} {a : Act} {w : World} {P : Program}

theorem Ev.Le.trans {ρ ρ' ρ'' : Ev} (h : ρ.Le ρ') (g : ρ'.Le ρ'') : ρ.Le ρ'' := by
  refine ⟨fun b o v hm => g.M _ _ _ (h.M _ _ _ hm), fun i b hb => g.ptr _ _ (h.ptr _ _ hb), fun i => Nat.le_trans (h.ver i) (g.ver i), fun i he hs => ?_⟩
  have h1 := h.ver i; have h2 := g.ver i
  have e1 := h.same i (by omega) hs
  exact (g.same i (by omega) (by rw [e1]; exact hs)).trans e1
/-- A type of ints whose differences need not fit. -/
theorem EnvOk.soft {E : Env A} (hE : EnvOk P AI E) {t : Nat} {i : TI} (h : look E.ti t = some i) : EnvOk P AI ⟨(t, ⟨i.kind, i.size, 2, i.zero⟩) :: E.ti, E.con⟩ := by
  refine ⟨fun t' i' h' => ?_, hE.con⟩
  rw [look_cons] at h'
  split at h'
  · rename_i e
    cases h'; subst e
    obtain ⟨h1, h2, _⟩ := hE.ti _ _ h
    exact ⟨h1, h2, fun hb => by cases hb⟩
  · exact hE.ti _ _ h'
end Go.Sx

/-
  Symbolic execution: functions without memory that take a named function as their last argument.
-/
namespace Go.Sx
set_option linter.all false
open Go.RowKit

variable {A : Type} {AI : Abs A} {G : Fr} {s : SS A} {ρ : Ev} {a : Act} {w : World} {P : Program} {lay : A → List (Chunk A)}

end Go.Sx

/-
  Symbolic execution: slices.Sort of a row of strings.
-/
namespace Go.Sx
set_option linter.all false
open Go.RowKit Go.Proofs Go.Sort

variable {A : Type} {AI : Abs A} {P : Program}

abbrev u8s (l : List Int) : List UInt8 := l.map fun x => x.toNat.toUInt8
/-! ### functions from a string to a Bool that leave the world as it is -/
def strBoolCon (F : List Int → Bool) : Con A := fun args _ => match args with
  | [.val (.one (.str l))] => some ⟨[], 0, false, fun _ _ => .done tt (one (.sb (fun _ => F (l ())))) []⟩
  | _ => none
theorem strBool_sound {F : List Int → Bool} {f : FuncId} (enf : Enters P f) (hF : ∀ (l : List Int) (w : World), Calls P f #[.string ⟨(u8s l).toArray⟩] w fun e w' => e = .returned (.bool (F l)) ∧ w = w') : ConSound P AI f (strBoolCon F) := by
  refine ⟨enf, fun args fresh p hp hw H d C v cs he => ?_, fun G s ρ tmps w args us fresh p d C v cs h hargs hp hfr he hC => ?_⟩
  · unfold strBoolCon at hp
    split at hp
    · cases hp
      simp at he
      simp [getCs, he]
    · cases hp
  · unfold strBoolCon at hp
    split at hp <;> (try (cases hp; done))
    cases hp
    simp at he
    obtain ⟨rfl, rfl, rfl⟩ := he
    cases hargs with
    | cons ha hnil =>
    cases hnil
    have ha : _ = Value.string _ := ha
    subst ha
    refine (hF _ w).mono ?_
    rintro e w' ⟨rfl, rfl⟩
    exact ⟨_, ρ, rfl, h, rfl, Ev.Le.refl _⟩
end Go.Sx

/-
  Symbolic execution: versions that are raised to a fixed number; a function that turns an open object (all chunks are of a known shape before and behind the call).
-/
namespace Go.Sx
set_option linter.all false
open Go.RowKit

variable {A : Type} {AI : Abs A} {G : Fr} {s : SS A} {ρ : Ev} {a : Act} {w : World} {P : Program}

end Go.Sx

/-
  Symbolic execution: a function that turns an open object: the first k of its m parts are cells and objects, the others rows.
  Within the function the rows' versions are free (as those of parts), so that it may have loops; at the call they are raised.
-/
namespace Go.Sx
set_option linter.all false
open Go.RowKit

variable {A : Type} {AI : Abs A} {G : Fr} {s : SS A} {ρ : Ev} {a : Act} {w : World} {P : Program}

def verOf {A : Type} (cs : List (Chunk A)) (k : Nat) : Nat := match getC cs k with | .row _ _ v _ => v | _ => 0
def upS (k m : Nat) (vs : Nat → Nat) : SV1 → SV1
  | .hd j u => (match bltN j k with | true => .any | false => (match bltN j m with | true => .hd j (vs j + 1 + u) | false => .any))
  | .vw _ _ _ _ _ => .any
  | .ep _ _ _ _ _ => .any
  | x => x
def upSC {A : Type} (k m : Nat) (vs : Nat → Nat) (i : Nat) : Chunk A → Chunk A
  | .cells t cs => .cells t (cs.map (upS k m vs))
  | .row t e v L => .row t e (vs i + 1 + v) L
  | c => c
def upSCs {A : Type} (k m : Nat) (vs : Nat → Nat) : Nat → List (Chunk A) → List (Chunk A)
  | _, [] => []
  | i, c :: r => upSC k m vs i c :: upSCs k m vs (i + 1) r
theorem upSCs_get {k m : Nat} {vs : Nat → Nat} : ∀ {H : List (Chunk A)} {n i : Nat}, getC (upSCs k m vs n H) i = upSC k m vs (n + i) (getC H i)
  | [], n, i => rfl
  | c :: r, n, 0 => rfl
  | c :: r, n, i + 1 => by
    have := upSCs_get (k := k) (m := m) (vs := vs) (H := r) (n := n + 1) (i := i)
    simp only [getC, upSCs, nth] at this ⊢
    rw [this, show n + 1 + i = n + (i + 1) by omega]
theorem upSCs_length {k m : Nat} {vs : Nat → Nat} : ∀ (H : List (Chunk A)) (n : Nat), (upSCs k m vs n H).length = H.length
  | [], _ => rfl
  | c :: r, n => by simp [upSCs, upSCs_length r]

/-- Cells and objects first, then rows. -/
def kindsB {A : Type} : Nat → List (Chunk A) → Bool
  | 0, [] => true
  | 0, c :: r => (match c with | .row _ _ _ _ => true | _ => false) && kindsB 0 r
  | k + 1, c :: r => (match c with | .cells _ _ => true | .abs _ => true | .map _ _ _ => true | _ => false) && kindsB k r
  | _ + 1, [] => false
/-- Cells, objects, maps. -/
def HeadC {A : Type} (c : Chunk A) : Prop := (∃ t cs, c = .cells t cs) ∨ (∃ x, c = .abs x) ∨ ∃ ks e L, c = .map ks e L
theorem kinds_hd : ∀ {k : Nat} {H : List (Chunk A)}, kindsB k H = true → ∀ i, i < k → HeadC (getC H i)
  | 0, _, _, i, hi => by omega
  | k + 1, [], h, i, hi => by cases h
  | k + 1, c :: r, h, i, hi => by
    obtain ⟨h1, h2⟩ := Bool.and_eq_true_iff.1 h
    cases i with
    | zero =>
      cases c <;> cases h1
      · exact .inl ⟨_, _, rfl⟩
      · exact .inr (.inr ⟨_, _, _, rfl⟩)
      · exact .inr (.inl ⟨_, rfl⟩)
    | succ i => exact kinds_hd (H := r) h2 i (by omega)
theorem kinds_row : ∀ {k : Nat} {H : List (Chunk A)}, kindsB k H = true → ∀ i, k ≤ i → i < H.length → ∃ t e v L, getC H i = .row t e v L
  | 0, c :: r, h, 0, _, _ => by
    obtain ⟨h1, h2⟩ := Bool.and_eq_true_iff.1 h
    cases c <;> cases h1
    exact ⟨_, _, _, _, rfl⟩
  | 0, c :: r, h, i + 1, _, hl => by
    obtain ⟨h1, h2⟩ := Bool.and_eq_true_iff.1 h
    exact kinds_row (k := 0) (H := r) h2 i (Nat.zero_le _) (by simpa using hl)
  | k + 1, c :: r, h, i + 1, hi, hl => by
    obtain ⟨h1, h2⟩ := Bool.and_eq_true_iff.1 h
    exact kinds_row (k := k) (H := r) h2 i (by omega) (by simpa using hl)
  | k + 1, _, _, 0, hi, _ => by omega
  | 0, [], _, i, _, hl => by simp at hl

theorem row_slice {t : TypeId} {M : Mem} {e : Ty} {L : List e.T} {r : Value} {F : List Nat} (h : RowAt t M w e L r F) : ∃ ao l c, r = .slice ao l c := by
  rcases h with ⟨⟨ao, h⟩, _⟩ | ⟨b, off, cap, h, _⟩
  · exact ⟨_, _, _, h⟩
  · exact ⟨_, _, _, h⟩

theorem frame_stm {f : FuncId} {tmps : Array Value} (h : Holds AI G s ρ tmps w) {k m : Nat} {us : List Value} {H0 H1 : List (Chunk A)} {v : SV} (hkm : k ≤ m) (hv : closedV v = true)
    (hH0 : ∀ j, getC H0 j = if j < m then getC s.H j else .emp) (hbel : ∀ j, j < m → belC m (getC s.H j) = true)
    (hk0 : ∀ j, j < k → HeadC (getC s.H j)) (hr0 : ∀ j, k ≤ j → j < m → ∃ t e u L, getC s.H j = .row t e u L)
    (hk1 : ∀ j, j < k → HeadC (getC H1 j)) (hr1 : ∀ j, k ≤ j → j < m → ∃ t e u L, getC H1 j = .row t e u L)
    (hH1 : ∀ j, m ≤ j → getC H1 j = .emp) {vs : Nat → Nat} (hvs : ∀ j, k ≤ j → j < m → vs j = ρ.ver j) {H' : List (Chunk A)} (hin : ∀ j, j < m → getC H' j = upSC k m vs j (getC H1 j)) (hout : ∀ j, m ≤ j → getC H' j = getC s.H j)
    (hT : ∀ (Gc : Fr), Gc.n0 = k → Gc.size = 0 → Holds AI Gc ⟨[], H0⟩ (ρ.trim m) #[] w → Calls P f us.toArray w fun e w' => ∃ y ρr, e = .returned y ∧ Holds AI Gc ⟨[], H1⟩ ρr #[] w' ∧ Den ρr v y) :
    Calls P f us.toArray w fun e w' => ∃ y ρ', e = .returned y ∧ Holds AI G ⟨s.tm, H'⟩ ρ' tmps w' ∧ Den ρ' v y ∧ ρ.Le ρ' := by
  let ρc : Ev := ρ.trim m
  let Gc : Fr := { w0 := w, own := fun b => ∃ j, j < m ∧ b ∈ ρ.foot j, n0 := k, root0 := ρ.root, M0 := ρ.M, size := 0, ver0 := ρ.ver }
  have hfc : ∀ j b, b ∈ ρc.foot j → j < m ∧ b ∈ ρ.foot j := by
    intro j b hb
    simp only [ρc, Ev.trim] at hb
    split at hb
    · rename_i hj; exact ⟨hj, hb⟩
    · cases hb
  have hc : Holds AI Gc ⟨[], H0⟩ ρc #[] w := by
    refine ⟨rfl, h.gtOf (fun b hb => by obtain ⟨j, _, hj⟩ := hb; exact ⟨_, hj⟩), (fun t x ht => by cases ht), fun j => ?_, fun i j b hij hi hj => h.dis i j b hij (hfc i b hi).2 (hfc j b hj).2, fun i b hb => h.lt i b (hfc i b hb).2, fun b o x hm => ⟨(h.im b o x hm).1, fun i hb => (h.im b o x hm).2 i (hfc i b hb).2⟩, rfl, rfl, rfl, Nat.le_refl _, fun _ _ _ => rfl,
      fun i b hb => .inl ⟨i, hfc i b hb⟩, fun i b (hi : i < k) hb => by show (ρ.trim m).root i = _; simp only [Ev.trim, if_pos (show i < m by omega)]; exact hb, fun i (hi : i < k) => ⟨by show _ ≤ (ρ.trim m).ver i; simp only [Ev.trim, if_pos (show i < m by omega)]; exact Nat.le_refl _, fun ao l c hb hv => by show (ρ.trim m).root i = _; simp only [Ev.trim, if_pos (show i < m by omega)]; exact hb⟩, fun _ _ _ hm => hm, fun b o x hm => .inl hm⟩
    show HoldsC AI ρc w j (getC H0 j)
    rw [hH0]
    split
    · rename_i hj; exact belC_holds hj (hbel j hj) (h.ch j)
    · exact ⟨by simp [ρc, Ev.trim, *], by simp [ρc, Ev.trim, *], by simp [ρc, Ev.trim, *]⟩
  refine (hT Gc rfl rfl hc).mono ?_
  rintro e w' ⟨y, ρr, rfl, hr, hy⟩
  have hbey : ∀ j, m ≤ j → ρr.foot j = [] ∧ ρr.root j = .bool false ∧ ρr.ver j = 0 := fun j hj => by
    have := hr.ch j; dsimp only at this; rw [hH1 j hj] at this; exact this
  let ρ' : Ev := { root := fun i => if i < m then ρr.root i else ρ.root i, ver := fun i => if i < k then ρr.ver i else if i < m then ρ.ver i + 1 + ρr.ver i else ρ.ver i, M := ρr.M, foot := fun i => if i < m then ρr.foot i else ρ.foot i }
  have le : ρ.Le ρ' := by
    refine ⟨hr.mono, fun i b hb => ?_, fun i => ?_, fun i hv hs => ?_⟩
    · by_cases hi : i < m
      · simp only [ρ', if_pos hi]
        by_cases hi2 : i < k
        · exact hr.rt i b hi2 hb
        · obtain ⟨t, e, u, L, hg⟩ := hr0 i (by omega) hi
          have h3 := h.ch i
          rw [hg] at h3
          obtain ⟨ao, l, c, h4⟩ := row_slice h3.2
          rw [h4] at hb; cases hb
      · simp only [ρ', if_neg hi]; exact hb
    · simp only [ρ']; split
      · rename_i hi; exact (hr.rts i hi).1
      · split <;> omega
    · by_cases hi : i < m
      · by_cases hi2 : i < k
        · simp only [ρ', if_pos hi2] at hv
          simp only [ρ', if_pos hi]
          obtain ⟨ao, l, c, hs⟩ := hs
          rw [(hr.rts i hi2).2 ao l c hs hv.symm, hs]
        · simp only [ρ', if_neg hi2, if_pos hi] at hv
          omega
      · simp only [ρ', if_neg hi]
  have ltr : ∀ i, ρr.root i ≠ .bool false → i < m := fun i hi => Nat.lt_of_not_le fun hle => hi (hbey i hle).2.1
  have hcell : ∀ (x : SV1) (u : Value), Den1 ρr x u → Den1 ρ' (upS k m vs x) u := by
    intro x u hd
    cases x <;> simp only [upS] <;> (try exact hd) <;> (try trivial)
    case ptr i o =>
      obtain ⟨b, h1, h2⟩ := hd
      have hi := ltr i (by rw [h1]; simp)
      exact ⟨b, by simp only [ρ', if_pos hi]; exact h1, h2⟩
    case mp i =>
      obtain ⟨b, h1, h2⟩ := hd
      have hi := ltr i (by rw [h1]; simp)
      exact ⟨b, by simp only [ρ', if_pos hi]; exact h1, h2⟩
    case fnc g l =>
      obtain ⟨vs, h1, h2⟩ := hd
      exact ⟨vs, h1, h2.mono fun i u ⟨b, h3, h4⟩ => ⟨b, by simp only [ρ', if_pos (ltr i (by rw [h3]; simp))]; exact h3, h4⟩⟩
    case hd i q =>
      split
      · trivial
      · rename_i hik
        have hik : ¬ i < k := fun h => by
          have : bltN i k = true := geN h
          rw [this] at hik; cases hik
        split
        · rename_i him
          have him : i < m := leN him
          obtain ⟨h1, h2, h3⟩ := hd
          have e1 := hvs i (by omega) him
          refine ⟨h1, by simp only [ρ', if_neg hik, if_pos him]; omega, fun e => ?_⟩
          simp only [ρ', if_neg hik, if_pos him] at e ⊢
          exact h3 (by omega)
        · trivial
  have hrfoot : ∀ j b, b ∈ ρr.foot j → (∃ k, k < m ∧ b ∈ ρ.foot k) ∨ w.heap.size ≤ b := fun j b hb => hr.fro j b hb
  have hblk : ∀ b, b < w.heap.size → (∀ j, j < m → b ∉ ρ.foot j) → w'.heap[b]? = w.heap[b]? := fun b hb hnb => hr.kept b hb (by rintro ⟨j, hj, hb'⟩; exact hnb j hj hb')
  have hnot : ∀ {i b}, ¬ i < m → b ∈ ρ.foot i → ∀ j, j < m → b ∉ ρ.foot j := fun {i b} hi hb j hj hb' => h.dis i j b (by omega) hb hb'
  refine ⟨y, ρ', rfl, ⟨h.sz, h.gt, fun t x ht => ?_, fun i => ?_, fun i k b hik hi hk => ?_, fun i b hb => ?_, fun b o x hm => ⟨(hr.im b o x hm).1, fun i hb => ?_⟩, hr.os.trans h.os, hr.tape.trans h.tape, hr.output.trans h.output, Nat.le_trans h.grow hr.grow,
    fun b hb hn' => ?_, fun i b hb => ?_, fun i b hi hb => le.ptr i b (h.rt i b hi hb), fun i hi => ?_, fun b o x hm => hr.mono b o x (h.mono b o x hm), fun b o x hm => ?_⟩, closedV_den (ρ := ρr) (ρ' := ρ') rfl hv hy, le⟩
  · obtain ⟨u, h1, h2⟩ := h.tm t x ht; exact ⟨u, h1, h2.mono le⟩
  · show HoldsC AI ρ' w' i (getC H' i)
    by_cases hi : i < m
    · rw [hin i hi]
      have h3 := hr.ch i
      dsimp only at h3
      have e1 : ρ'.root i = ρr.root i := by simp only [ρ', if_pos hi]
      have e2 : ρ'.foot i = ρr.foot i := by simp only [ρ', if_pos hi]
      by_cases hi2 : i < k
      · rcases hk1 i hi2 with ⟨t, cs, hg⟩ | ⟨x, hg⟩ | ⟨ks, e, L, hg⟩
        · rw [hg] at h3 ⊢
          obtain ⟨b, us, h4, h5, h6, h7⟩ := h3
          exact ⟨b, us, e1.trans h4, e2.trans h5, h6, h7.mapL fun _ _ => hcell _ _⟩
        · rw [hg] at h3 ⊢
          simp only [upSC, HoldsC, e1, e2] at h3 ⊢
          exact h3
        · rw [hg] at h3 ⊢
          simp only [upSC, HoldsC, e1, e2] at h3 ⊢
          exact h3
      · obtain ⟨t, e, u, L, hg⟩ := hr1 i (by omega) hi
        rw [hg] at h3 ⊢
        refine ⟨?_, by rw [e1, e2]; exact h3.2⟩
        simp only [ρ', if_neg hi2, if_pos hi]
        rw [← h3.1, hvs i (by omega) hi]
    · rw [hout i (by omega)]
      exact (h.ch i).stays le (by simp only [ρ', if_neg hi]) (by simp only [ρ', if_neg hi, if_neg (show ¬ i < k by omega)]) (by simp only [ρ', if_neg hi]) fun b hb => hblk b (h.lt i b hb) (hnot hi hb)
  · simp only [ρ'] at hi hk
    split at hi <;> split at hk
    · exact hr.dis i k b hik hi hk
    · rename_i _ hk'
      rcases hrfoot i b hi with ⟨q, hq, hb⟩ | hge
      · exact hnot hk' hk q hq hb
      · have := h.lt k b hk; omega
    · rename_i hi' _
      rcases hrfoot k b hk with ⟨q, hq, hb⟩ | hge
      · exact hnot hi' hi q hq hb
      · have := h.lt i b hi; omega
    · exact h.dis i k b hik hi hk
  · simp only [ρ'] at hb
    split at hb
    · exact hr.lt i b hb
    · exact Nat.lt_of_lt_of_le (h.lt i b hb) hr.grow
  · simp only [ρ'] at hb
    split at hb
    · exact (hr.im b o x hm).2 i hb
    · rename_i hi
      rcases hr.mfr b o x hm with h1 | ⟨q, h1, h2⟩ | h1
      · exact (h.im b o x h1).2 i hb
      · exact hnot hi hb q h1 h2
      · have h1 : w.heap.size ≤ b := h1
        have := h.lt i b hb; omega
  · refine (hblk b (Nat.lt_of_lt_of_le hb h.grow) fun j hj hb' => ?_).trans (h.kept b hb hn')
    rcases h.fro _ b hb' with h1 | h1
    · exact hn' h1
    · omega
  · simp only [ρ'] at hb
    split at hb
    · rcases hrfoot i b hb with ⟨q, hq, hb'⟩ | hge
      · exact h.fro _ b hb'
      · exact .inr (Nat.le_trans h.grow hge)
    · exact h.fro i b hb
  · obtain ⟨hv0, hs⟩ := h.rts i hi
    refine ⟨Nat.le_trans hv0 (le.ver i), fun ao l c hb hv => ?_⟩
    have e0 : ρ.ver i = G.ver0 i := Nat.le_antisymm (hv ▸ le.ver i) hv0
    have h1 := hs ao l c hb e0
    rw [le.same i (by rw [e0, hv]) ⟨_, _, _, h1⟩]; exact h1
  · rcases hr.mfr b o x hm with h1 | ⟨q, h1, h2⟩ | h1
    · exact h.mfr b o x h1
    · exact .inr (h.fro _ b h2)
    · exact .inr (.inr (Nat.le_trans h.grow h1))

/-- How an object lies open: the first k of its m parts are cells and objects, the others rows. -/
structure ParL (A S : Type) where
  k : Nat
  m : Nat
  un : List (Chunk A) → Option (U S)   -- reads the parts (all versions 0)
  opn : U S → List (Chunk A)
  pos : 0 < k
  eq : ∀ cs W, un cs = some W → cs = opn (fun _ => W ())
def ptrsB : List Nat → List SV → Bool
  | [], [] => true
  | i :: ps, x :: r => (match x with | .val (.one (.ptr j 0)) => beqN i j | _ => false) && ptrsB ps r
  | _, _ => false
def ptrsS (ps : List Nat) : List SV := ps.map fun i => one (.ptr i 0)
theorem ptrsB_eq : ∀ {ps : List Nat} {l : List SV}, ptrsB ps l = true → l = ptrsS ps
  | [], [], _ => rfl
  | i :: ps, x :: r, h => by
    simp only [ptrsB, Bool.and_eq_true] at h
    obtain ⟨h1, h2⟩ := h
    split at h1
    · rw [ptrsB_eq h2, ← beq_eq h1]; rfl
    · cases h1
  | [], _ :: _, h => by cases h
  | _ :: _, [], h => by cases h
def dataArgs (ps : List Nat) : Nat → List SV → Option (List SV)
  | 0, l => match ptrsB ps l with | true => some [] | false => none
  | n + 1, x :: r => (match dataArgs ps n r with | some l => some (x :: l) | none => none)
  | _ + 1, [] => none
theorem dataArgs_eq {ps : List Nat} : ∀ {n : Nat} {l r : List SV}, dataArgs ps n l = some r → l = r ++ ptrsS ps
  | 0, l, r, h => by
    unfold dataArgs at h
    split at h <;> cases h
    rename_i hb
    rw [ptrsB_eq hb]; rfl
  | n + 1, x :: l, r, h => by
    unfold dataArgs at h
    split at h <;> cases h
    rename_i r2 hr
    rw [dataArgs_eq hr]; rfl
  | n + 1, [], r, h => by cases h
/-- A function that turns an open object, and whose last arguments are addresses of parts (a closure's captured variables). -/
structure StepC (A S : Type) where
  L : ParL A S
  ds : List DT
  ps : List Nat                        -- behind the data: the addresses of these parts
  pre : S → Tup ds → Prop
  rs : List DT
  f : S → Tup ds → Tup rs
  next : S → Tup ds → S

def StepC.con {S : Type} (q : StepC A S) : Con A := fun args fresh => match dataArgs q.ps q.ds.length args with
  | some r => (match ofs q.ds r with
    | some x => (match bleN q.L.m fresh with
      | true => some ⟨upTo 0 q.L.m, 0, true, fun cs _ => (match cs.all (belC q.L.m) && kindsB q.L.k cs && bleN q.L.k q.L.m with
        | true => (match q.L.un (normCs q.L.k (vers cs) 0 cs) with
          | some W => (match beqN (q.L.opn (fun _ => q.next (W ()) (x ()))).length q.L.m && kindsB q.L.k (q.L.opn (fun _ => q.next (W ()) (x ()))) with
            | true => .done (fun _ => q.pre (W ()) (x ())) (resOf (svs q.rs (fun _ => q.f (W ()) (x ())))) (upSCs q.L.k q.L.m (verOf cs) 0 (q.L.opn (fun _ => q.next (W ()) (x ()))))
            | false => .fail)
          | none => .fail)
        | false => .fail)⟩
      | false => none)
    | none => none)
  | none => none
theorem norm1_id {k : Nat} {vs : List (Option Nat)} {x : SV1} (h : bel1 k x = true) : norm1 k vs x = x := by
  cases x <;> simp only [norm1] <;> (first | rfl | (rw [show bltN _ k = true from h]))
theorem norm1s_id {k : Nat} {vs : List (Option Nat)} : ∀ {l : List SV1}, l.all (bel1 k) = true → l.map (norm1 k vs) = l
  | [], _ => rfl
  | x :: r, h => by
    simp only [List.all_cons, Bool.and_eq_true] at h
    rw [List.map_cons, norm1_id h.1, norm1s_id h.2]
theorem norm2_id {k : Nat} {vs : List (Option Nat)} {x : SV2} (h : bel2 k x = true) : norm2 k vs x = x := by
  cases x with
  | one x => exact congrArg SV2.one (norm1_id h)
  | agg l => exact congrArg SV2.agg (norm1s_id h)
  | fn f l => exact congrArg (SV2.fn f) (norm1s_id h)
theorem norm2s_id {k : Nat} {vs : List (Option Nat)} : ∀ {l : List SV2}, l.all (bel2 k) = true → l.map (norm2 k vs) = l
  | [], _ => rfl
  | x :: r, h => by
    simp only [List.all_cons, Bool.and_eq_true] at h
    rw [List.map_cons, norm2_id h.1, norm2s_id h.2]
theorem normV_id {k : Nat} {vs : List (Option Nat)} {x : SV} (h : belV k x = true) : normV k vs x = x := by
  cases x with
  | val x => exact congrArg SV.val (norm2_id h)
  | tup l => exact congrArg SV.tup (norm2s_id h)
theorem normT_id {k : Nat} {vs : List (Option Nat)} : ∀ {l : List SV} {n : Nat}, l.all (belV k) = true → normT k vs (argT n l) = argT n l
  | [], _, _ => rfl
  | x :: r, n, h => by
    simp only [List.all_cons, Bool.and_eq_true] at h
    simp only [argT, normT]
    rw [normV_id h.1, normT_id h.2]
theorem bel1_le {k m : Nat} (hkm : k ≤ m) {x : SV1} (h : bel1 k x = true) : bel1 m x = true := by
  have lt : ∀ {i : Nat}, bltN i k = true → bltN i m = true := fun h => geN (Nat.lt_of_lt_of_le (leN h) hkm)
  cases x <;> first | exact lt h | rfl | (exact List.all_eq_true.2 fun i hi => lt (List.all_eq_true.1 h i hi))
theorem bel2_le {k m : Nat} (hkm : k ≤ m) {x : SV2} (h : bel2 k x = true) : bel2 m x = true := by
  cases x with
  | one x => exact bel1_le hkm h
  | agg l => exact List.all_eq_true.2 fun y hy => bel1_le hkm (List.all_eq_true.1 h y hy)
  | fn f l => exact List.all_eq_true.2 fun y hy => bel1_le hkm (List.all_eq_true.1 h y hy)
theorem belV_le {k m : Nat} (hkm : k ≤ m) {x : SV} (h : belV k x = true) : belV m x = true := by
  cases x with
  | val x => exact bel2_le hkm h
  | tup l => exact List.all_eq_true.2 fun y hy => bel2_le hkm (List.all_eq_true.1 h y hy)

theorem All2.splitL {α β : Type} {R : α → β → Prop} {l1 l2 : List α} {m : List β} (h : All2 R (l1 ++ l2) m) : ∃ m1 m2, m = m1 ++ m2 ∧ All2 R l1 m1 ∧ All2 R l2 m2 := by
  induction l1 generalizing m with
  | nil => exact ⟨[], m, rfl, .nil, h⟩
  | cons x l ih =>
    cases h with
    | cons h1 h2 =>
      obtain ⟨m1, m2, rfl, h3, h4⟩ := ih h2
      exact ⟨_ :: m1, m2, rfl, .cons h1 h3, h4⟩
theorem StepC.sound [SubA A] {S : Type} {E : Env A} (hE : EnvOk P AI E) (hm : P.follows .mixedOrders = true) {f : FuncId} {fn : Func} {c : Code} (hen : Enters P f) (hf : P.funcs[f]? = some fn) (hb : fn.body = some c) (hok : codeOk fn.ntmps c = true) {q : StepC A S}
    (hps : q.ps.all (fun i => bltN i q.L.k) = true) (h : ∀ W x, q.pre W x → ∃ args : List SV, args.length + q.ps.length ≤ fn.ntmps ∧ args.all (belV q.L.k) = true ∧ (∀ (ρ : Ev) us, All2 (Den ρ) (argS q.ds (fun _ => x)) us → All2 (Den ρ) args us) ∧
      (svc E q.L.k c ⟨argT 0 (args ++ ptrsS q.ps), q.L.opn (fun _ => W)⟩ (finP E.ti q.L.k fn.results.toList (resOf (svs q.rs (fun _ => q.f W x))) (q.L.opn (fun _ => q.next W x))) ∨
        svc E q.L.k c ⟨argT 0 (args ++ ptrsS q.ps), q.L.opn (fun _ => W)⟩ (finR E.ti q.L.k fn.results.toList (resOf (svs q.rs (fun _ => q.f W x))) (q.L.opn (fun _ => q.next W x))))) : ConSound P AI f q.con := by
  refine ⟨hen, fun args fresh p hp hw H d C v cs he => ?_, fun G s ρ tmps w args us fresh p d C v cs hh hargs hp hfr he hC => ?_⟩
  · unfold StepC.con at hp
    split at hp <;> (try cases hp)
    split at hp <;> (try cases hp)
    split at hp <;> cases hp
    cases hw
  · unfold StepC.con at hp
    split at hp <;> (try cases hp)
    rename_i r hr
    have hr := dataArgs_eq hr
    subst hr
    split at hp <;> (try cases hp)
    rename_i x hx
    split at hp <;> cases hp
    dsimp only at he hfr ⊢
    split at he
    · rename_i hbel
      simp only [Bool.and_eq_true] at hbel
      obtain ⟨⟨hb2, hb3⟩, hb4⟩ := hbel
      have hkm : q.L.k ≤ q.L.m := leN hb4
      split at he
      · rename_i W hW
        split at he
        · rename_i hlen
          simp only [Bool.and_eq_true] at hlen
          obtain ⟨hl1, hl2⟩ := hlen
          have hl1 := beq_eq hl1
          simp at he
          obtain ⟨rfl, rfl, rfl⟩ := he
          obtain ⟨args', hl, hb1, hden, hs⟩ := h _ _ hC
          have hlc : (getCs s.H (upTo 0 q.L.m)).length = q.L.m := length_getCs_upTo
          have hgc : ∀ j, j < q.L.m → getC (getCs s.H (upTo 0 q.L.m)) j = getC s.H j := fun j hj => by rw [getC_getCs hj, Nat.zero_add]
          have hbey : ∀ j, q.L.m ≤ j → getC (getCs s.H (upTo 0 q.L.m)) j = .emp := fun j hj => getC_beyond (by rw [hlc]; exact hj)
          refine (frame_stm hh (k := q.L.k) (m := q.L.m) (H0 := getCs s.H (upTo 0 q.L.m)) (H1 := q.L.opn (fun _ => q.next (W ()) (x ()))) (v := resOf (svs q.rs (fun _ => q.f (W ()) (x ())))) hkm (resOf_closed (svs_closed _ _)) (fun j => ?_) (fun j hj => ?_)
            (fun j hj => by have := kinds_hd hb3 j hj; rw [hgc j (by omega)] at this; exact this) (fun j h1 h2 => by have := kinds_row hb3 j h1 (by rw [hlc]; exact h2); rw [hgc j h2] at this; exact this)
            (fun j hj => kinds_hd hl2 j hj) (fun j h1 h2 => kinds_row hl2 j h1 (by omega)) (fun j hj => getC_beyond (by rw [hl1]; exact hj)) (vs := verOf (getCs s.H (upTo 0 q.L.m))) (fun j h1 h2 => ?_)
            (H' := putCs s.H (upTo 0 q.L.m) (upSCs q.L.k q.L.m (verOf (getCs s.H (upTo 0 q.L.m))) 0 (q.L.opn (fun _ => q.next (W ()) (x ()))))) (fun j hj => ?_) (fun j hj => ?_) fun Gc hn0 hsz h0 => ?_).mono ?_
          · split
            · rename_i hj; exact hgc j hj
            · rename_i hj; exact hbey j (by omega)
          · have h1 : (getCs s.H (upTo 0 q.L.m))[j]? = some (getC s.H j) := by
              have h2 := hgc j hj
              unfold getC at h2
              rw [nth_eq] at h2
              have h3 : j < (getCs s.H (upTo 0 q.L.m)).length := by rw [hlc]; exact hj
              rw [List.getElem?_eq_getElem h3] at h2 ⊢
              exact congrArg some h2
            exact List.all_eq_true.1 hb2 _ (List.mem_of_getElem? h1)
          · obtain ⟨t, e, u, L, hg⟩ := kinds_row hb3 j h1 (by rw [hlc]; exact h2)
            unfold verOf
            rw [hg]
            have h3 := hh.ch j
            rw [← hgc j h2, hg] at h3
            exact h3.1
          · rw [getC_putCs_upTo j (by rw [upSCs_length, hl1]), if_pos (by omega), Nat.sub_zero, upSCs_get, Nat.zero_add]
          · rw [getC_putCs_upTo j (by rw [upSCs_length, hl1]), if_neg (by omega)]
          · have hptr : (ptrsS q.ps).all (belV q.L.k) = true := by
              unfold ptrsS
              rw [List.all_map]
              exact List.all_eq_true.2 fun i hi => List.all_eq_true.1 hps i hi
            have hb1' : (args' ++ ptrsS q.ps).all (belV q.L.k) = true := by
              rw [List.all_append, hb1, hptr]; rfl
            have hd : All2 (Den (ρ.trim q.L.m)) (args' ++ ptrsS q.ps) us := by
              obtain ⟨u1, u2, rfl, q1, q2⟩ := hargs.splitL
              exact belVs_den ((hden _ _ (argS_den (ofs_den hx q1) rfl)).append q2) (List.all_eq_true.2 fun y hy => belV_le hkm (List.all_eq_true.1 hb1' y hy))
            refine calls_of_wp hf hb ?_
            have hl2 := hd.length
            have h1 := h0.enter hd (n := fn.ntmps) (by simp [ptrsS] at hl2; omega)
            have h2 := norm_sound (AI := AI) (G := { Gc with size := fn.ntmps }) (n0 := q.L.k) (s := ⟨argT 0 (args' ++ ptrsS q.ps), getCs s.H (upTo 0 q.L.m)⟩) (a := ⟨us.toArray ++ Array.replicate (fn.ntmps - us.toArray.size) undef, []⟩) hn0 ⟨rfl, _, h1⟩
            have e2 : norm q.L.k ⟨argT 0 (args' ++ ptrsS q.ps), getCs s.H (upTo 0 q.L.m)⟩ = ⟨argT 0 (args' ++ ptrsS q.ps), q.L.opn (fun _ => W ())⟩ := by
              simp only [norm]
              rw [normT_id hb1', q.L.eq _ _ hW]
            rw [e2] at h2
            rcases hs with hs | hs
            · refine svc_sound (AI := AI) (G := { Gc with size := fn.ntmps }) hE hm hn0 c hok _ _ _ _ w hs h2 fun e s' hq => ?_
              refine bodyPost_of (AI := AI) (G := { Gc with size := fn.ntmps }) hE.ti hn0 hq (R := fun e w' => ∃ y ρr, e = .returned y ∧ Holds AI Gc ⟨[], q.L.opn (fun _ => q.next (W ()) (x ()))⟩ ρr #[] w' ∧ Den ρr (resOf (svs q.rs (fun _ => q.f (W ()) (x ())))) y) fun y ρ' w' h2 h3 => ⟨y, ρ', rfl, ?_, h3⟩
              have e1 : ({ { Gc with size := fn.ntmps } with size := 0 } : Fr) = Gc := by cases Gc; simp at hsz; subst hsz; rfl
              rw [e1] at h2
              exact h2
            · refine svc_sound (AI := AI) (G := { Gc with size := fn.ntmps }) hE hm hn0 c hok _ _ _ _ w hs h2 fun e s' hq => ?_
              refine finR_of (AI := AI) (G := { Gc with size := fn.ntmps }) hE.ti hn0 hq (R := fun e w' => ∃ y ρr, e = .returned y ∧ Holds AI Gc ⟨[], q.L.opn (fun _ => q.next (W ()) (x ()))⟩ ρr #[] w' ∧ Den ρr (resOf (svs q.rs (fun _ => q.f (W ()) (x ())))) y) fun y ρ' w' h2 h3 => ⟨y, ρ', rfl, ?_, h3⟩
              have e1 : ({ { Gc with size := fn.ntmps } with size := 0 } : Fr) = Gc := by cases Gc; simp at hsz; subst hsz; rfl
              rw [e1] at h2
              exact h2
          · rintro e w' ⟨y, ρ', rfl, h1, h2, h3⟩
            exact ⟨y, ρ', rfl, h1, h2, h3⟩
        · cases he
      · cases he
    · cases he

/-! ### a function that only reads the parts -/
def StepC.conR {S : Type} (q : StepC A S) : Con A := fun args fresh => match dataArgs q.ps q.ds.length args with
  | some r => (match ofs q.ds r with
    | some x => (match bleN q.L.m fresh with
      | true => some ⟨upTo 0 q.L.m, 0, false, fun cs _ => (match cs.all (belC q.L.m) && kindsB q.L.k cs && bleN q.L.k q.L.m with
        | true => (match q.L.un cs with
          | some W => .done (fun _ => q.pre (W ()) (x ())) (resOf (svs q.rs (fun _ => q.f (W ()) (x ())))) cs
          | none => .fail)
        | false => .fail)⟩
      | false => none)
    | none => none)
  | none => none
structure StepC.Ro {S : Type} (q : StepC A S) : Prop where
  next : ∀ W x, q.next W x = W
  norm : ∀ W : U S, normCs q.L.k (vers (q.L.opn W)) 0 (q.L.opn W) = q.L.opn W
  up : ∀ (W : U S) vs, upSCs q.L.k q.L.m vs 0 (q.L.opn W) = q.L.opn W
  un : ∀ W : U S, q.L.un (q.L.opn W) = some W
  len : ∀ W : U S, (beqN (q.L.opn W).length q.L.m && kindsB q.L.k (q.L.opn W)) = true
theorem StepC.soundR {S : Type} {f : FuncId} {q : StepC A S} (hq : q.Ro) (h : ConSound P AI f q.con) : ConSound P AI f q.conR := by
  refine ⟨h.1, fun args fresh p hp hw H d C v cs he => ?_, fun G s ρ tmps w args us fresh p d C v cs hh hargs hp hfr he hC => ?_⟩
  · unfold StepC.conR at hp
    split at hp <;> (try (cases hp; done))
    split at hp <;> (try (cases hp; done))
    split at hp <;> cases hp
    dsimp only at he
    split at he <;> (try (cases he; done))
    split at he <;> cases he
    rfl
  · unfold StepC.conR at hp
    split at hp <;> (try (cases hp; done))
    rename_i r hr
    split at hp <;> (try (cases hp; done))
    rename_i x hx
    split at hp <;> cases hp
    rename_i hm
    dsimp only at he ⊢
    split at he <;> (try (cases he; done))
    rename_i hb
    split at he <;> cases he
    rename_i W hW
    have hcs := q.L.eq _ _ hW
    refine h.2.2 G s ρ tmps w args us fresh ⟨upTo 0 q.L.m, 0, true, _⟩ d (fun _ => q.pre (W ()) (x ())) _ _ hh hargs (by unfold StepC.con; rw [hr]; dsimp only; rw [hx]; dsimp only; rw [hm]) hfr ?_ hC
    dsimp only
    rw [hb]
    dsimp only
    rw [hcs, hq.norm, hq.un]
    dsimp only
    rw [hq.next]
    rw [hq.len]
    dsimp only
    rw [hq.up]
end Go.Sx

/-
  Symbolic execution: functions that make a new map out of what they read.
-/
namespace Go.Sx
set_option linter.all false
open Go.RowKit

variable {A : Type} {AI : Abs A} {P : Program}

structure MapSpec where
  ds : List DT
  ks : KT
  e : Ty
  pre : Tup ds → Prop
  f : Tup ds → List (ks.T × e.T)

def MapSpec.con (k : MapSpec) : Con A := fun args fresh => match (idsA k.ds args).any (beqN fresh) with
  | true => none
  | false => some ⟨idsA k.ds args ++ [fresh], 1, true, fun cs _ => match takeN cs (idsA k.ds args).length with
    | some c1 => (match cs.drop (idsA k.ds args).length with
      | [.emp] => (match ofA k.ds args c1 with
        | some x => .done (fun _ => k.pre (x ())) (one (.mp fresh)) (c1 ++ [.map k.ks k.e (fun _ => k.f (x ()))])
        | none => .fail)
      | _ => .fail)
    | none => .fail⟩

def MapSpec.Ok (P : Program) (AI : Abs A) (fn : FuncId) (k : MapSpec) : Prop :=
  ∀ x, k.pre x → TmplOk P AI fn (argS k.ds (fun _ => x)) [] (one (.mp 0)) [.map k.ks k.e (fun _ => k.f x)]

theorem MapAt.flat {M M' : Mem} {ks : KT} {e : Ty} (he : e.flat = true) {L : List (ks.T × e.T)} {es : List MapEntry} {clock : Nat} (h : MapAt M ks e L es clock) : MapAt M' ks e L es clock :=
  ⟨h.1.mono fun p m ⟨h1, h2, vs, h3, h4, h5⟩ => ⟨h1, h2, vs, h3, h4.flat he, h5⟩, h.2.1, h.2.2⟩

theorem MapSpec.sound {fn : FuncId} {k : MapSpec} (hen : Enters P fn) (hk : k.Ok P AI fn) (hflat : k.e.flat = true) : ConSound P AI fn k.con := by
  refine ⟨hen, fun args fresh p hp hw => ?_, fun G s ρ tmps w args us fresh p d C v cs h hargs hp hfr he hC => ?_⟩
  · unfold MapSpec.con at hp
    split at hp <;> cases hp
    simp at hw
  · unfold MapSpec.con at hp
    split at hp <;> cases hp
    rename_i hany
    have hemp : getC s.H fresh = .emp := hfr fresh (by simp) (Nat.le_refl _)
    dsimp only at he ⊢
    rw [getCs_append] at he
    have e1 := takeN_app (getCs s.H (idsA k.ds args)) (getCs s.H [fresh])
    rw [getCs_length] at e1
    rw [e1] at he
    have e2 : (getCs s.H (idsA k.ds args) ++ getCs s.H [fresh]).drop (idsA k.ds args).length = [.emp] := by
      rw [← getCs_length s.H (idsA k.ds args)]; simp [getCs, hemp]
    rw [e2] at he
    dsimp only at he
    split at he <;> (try (simp at he; done))
    rename_i x hx
    simp at he
    obtain ⟨rfl, rfl, rfl⟩ := he
    have hd := ofA_den h (S := fun i => i ∈ idsA k.ds args) (more := []) rfl (fun _ hi => hi) (by rw [List.append_nil]; exact hx) hargs
    refine (lone_call (hk (x ()) hC) h (fun i => i ∈ idsA k.ds args) (us := us) fun ρc hM => argS_den hd hM).mono ?_
    rintro e w' ⟨y, ρr, rfl, h1, h2⟩
    obtain ⟨b, es, clock, h3, h4, h5, h6⟩ := h1.ch 0
    obtain ⟨b', h7, rfl⟩ := h2
    rw [h3] at h7
    cases h7
    have hc := h.ch fresh
    rw [hemp] at hc
    obtain ⟨hc1, hc2, hc3⟩ := hc
    have hb0 : b ∈ ρr.foot 0 := by rw [h4]; simp
    obtain ⟨h8, h9⟩ := h.upd1 fresh (.pointer (some ⟨b, 0, none⟩)) 0 [b] (.map k.ks k.e (fun _ => k.f (x ()))) w' (by rw [hc2]; simp) (by omega) (by rw [hc2]; simp) (fun b' hb => by
        obtain rfl : b' = b := by simpa using hb
        exact ⟨.inr ((h1.fro 0 b' hb0).resolve_left fun h => h), h1.lt 0 b' hb0⟩) (fun b hb _ => h1.kept b hb fun h => h) h1.os h1.tape h1.output h1.grow
      ⟨b, es, clock, by simp [Ev.upd], by simp [Ev.upd], h5, h6.flat hflat⟩
    refine ⟨.map (some b), _, rfl, h8.congrH fun j => ?_, ⟨b, by simp [Ev.upd], rfl⟩, h9⟩
    rw [putCs_append _ _ _ _ _ (getCs_length _ _)]
    simp only [putCs, getC_putC]
    rw [putCs_self _ _ s.H fun _ => rfl]

end Go.Sx

/-
  Symbolic execution: functions that make an object, methods that return a new row, methods whose object gets new parts.
-/
namespace Go.Sx
set_option linter.all false
open Go.RowKit

variable {A : Type} {AI : Abs A} {G : Fr} {s : SS A} {ρ : Ev} {a : Act} {w : World} {P : Program} {lay : A → List (Chunk A)} {tq : TabQ}

/-! ### functions that return a new object -/
/-! ### methods that return a new row -/
/-- As tmpl_of_body, with the parts in any order at the end. -/
theorem tmpl_bodyR [SubA A] {E : Env A} (hE : EnvOk P AI E) (hm : P.follows .mixedOrders = true) {f : FuncId} {fn : Func} {c : Code} (hf : P.funcs[f]? = some fn) (hb : fn.body = some c) (hok : codeOk fn.ntmps c = true) {args : List SV} (hargs : args.length ≤ fn.ntmps) {H0 : List (Chunk A)}
    {v : SV} {H1 : List (Chunk A)} (h : svc E H0.length c ⟨argT 0 args, H0⟩ (finR E.ti H0.length fn.results.toList v H1)) : TmplOk P AI f args H0 v H1 := by
  intro G ρ w us hG hsz hh hd
  refine calls_of_wp hf hb ?_
  have hlen := hd.length
  have h2 := hh.enter hd (n := fn.ntmps) (by omega)
  refine svc_sound (AI := AI) (G := { G with size := fn.ntmps }) hE hm (by simpa using hG) c hok _ _ _ _ w h ⟨rfl, ρ, h2⟩ fun e s' hq => ?_
  refine finR_of (AI := AI) (G := { G with size := fn.ntmps }) hE.ti (by simpa using hG) hq (R := fun e w' => ∃ y ρ', e = .returned y ∧ Holds AI G ⟨[], H1⟩ ρ' #[] w' ∧ Den ρ' v y) fun y ρ' w' h3 h4 => ?_
  have e1 : ({ { G with size := fn.ntmps } with size := 0 } : Fr) = G := by cases G; simp at hsz; subst hsz; rfl
  rw [e1] at h3
  exact ⟨y, ρ', rfl, h3, h4⟩
end Go.Sx

/-
  Symbolic execution: slices.Sorted(maps.Keys(m)) at keys that are ints: a new row of the keys in ascending order.
-/
namespace Go.Sx
set_option linter.all false
open Go.RowKit Go.Proofs Go.WideShapes Go.Maps

variable {A : Type} {AI : Abs A} {P : Program}

def insI (x : Int) : List Int → List Int
  | [] => [x]
  | y :: r => if x ≤ y then x :: y :: r else y :: insI x r
def sortI : List Int → List Int
  | [] => []
  | x :: r => insI x (sortI r)
def keysI {V : Type} (l : List (Int × V)) : List Int := l.map fun p => p.1
theorem insI_perm (x : Int) : ∀ l : List Int, (insI x l).Perm (x :: l)
  | [] => .refl _
  | y :: r => by
    unfold insI
    split
    · exact .refl _
    · exact ((insI_perm x r).cons y).trans (.swap x y r)
theorem sortI_perm : ∀ l : List Int, (sortI l).Perm l
  | [] => .refl _
  | x :: r => (insI_perm x _).trans ((sortI_perm r).cons x)
theorem insI_asc (x : Int) : ∀ l : List Int, l.Pairwise (· ≤ ·) → (insI x l).Pairwise (· ≤ ·)
  | [], _ => List.pairwise_singleton _ _
  | y :: r, h => by
    obtain ⟨h1, h2⟩ := List.pairwise_cons.1 h
    unfold insI
    split
    · rename_i hxy
      refine List.pairwise_cons.2 ⟨fun z hz => ?_, h⟩
      rcases List.mem_cons.1 hz with rfl | hz
      · exact hxy
      · exact Int.le_trans hxy (h1 z hz)
    · rename_i hxy
      refine List.pairwise_cons.2 ⟨fun z hz => ?_, insI_asc x r h2⟩
      rcases List.mem_cons.1 ((insI_perm x r).subset hz) with rfl | hz
      · omega
      · exact h1 z hz
theorem sortI_asc : ∀ l : List Int, (sortI l).Pairwise (· ≤ ·)
  | [] => .nil
  | x :: r => insI_asc x _ (sortI_asc r)
theorem asc_eq : ∀ {l m : List Int}, l.Perm m → l.Pairwise (· ≤ ·) → m.Pairwise (· ≤ ·) → l = m
  | [], m, h, _, _ => (List.Perm.nil_eq h)
  | a :: l, [], h, _, _ => absurd h.length_eq (by simp)
  | a :: l, b :: m, h, h1, h2 => by
    obtain ⟨p1, p2⟩ := List.pairwise_cons.1 h1
    obtain ⟨q1, q2⟩ := List.pairwise_cons.1 h2
    have e : a = b := by
      have ha : a ∈ b :: m := h.subset (List.mem_cons_self ..)
      have hb : b ∈ a :: l := h.symm.subset (List.mem_cons_self ..)
      rcases List.mem_cons.1 ha with e | ha
      · exact e
      rcases List.mem_cons.1 hb with e | hb
      · exact e.symm
      have := p1 b hb; have := q1 a ha; omega
    subst e
    rw [asc_eq ((List.perm_cons _).1 h) p2 q2]
theorem sortI_congr {l m : List Int} (h : l.Perm m) : sortI l = sortI m :=
  asc_eq ((sortI_perm l).trans (h.trans (sortI_perm m).symm)) (sortI_asc l) (sortI_asc m)
theorem mergeSort_eq (l : List Int) : (l.mergeSort fun x y => decide (x ≤ y)) = sortI l := by
  have h := List.pairwise_mergeSort (le := fun x y : Int => decide (x ≤ y)) (fun a b c h1 h2 => by simp at h1 h2 ⊢; omega) (fun a b => by simp; omega) l
  exact asc_eq ((List.mergeSort_perm _ _).trans (sortI_perm l).symm) (h.imp fun h => by simpa using h) (sortI_asc l)
theorem wf_i64 {n : Int} (hn : inI64 n) : (Lit.int .i64 n).wf = true := by
  have h1 : IntKind.i64.min = -9223372036854775808 := by rfl
  have h2 : IntKind.i64.max = 9223372036854775807 := by rfl
  simp only [Lit.wf, h1, h2, Bool.and_eq_true, decide_eq_true_eq]
  exact hn

/-- How an element is read: not at all. -/
def noR : Value → Option (DataW Unit × List MemPlace) := fun _ => some (.nil, [])
theorem rd_int {k : TypeId} (hk : P.underlying k = some (.int .i64)) {n : Int} (hn : inI64 n) {x : MapEntry} (hx : x.key = .int .i64 n) : Go.WideElems.rd P k noR x = some (.int .i64 n, .nil) := by
  unfold Go.WideElems.rd
  rw [hx, keyOf_int_mk hk (wf_i64 hn)]
  rfl

end Go.Sx
