/-
  Symbolic execution: functions that make a new object.
-/
import Derived.Test.YtebhcmgfhkjmcaaSxV
namespace Go.Sx
set_option linter.all false
set_option linter.unusedVariables false
set_option linter.unusedSimpArgs false
set_option linter.unusedSectionVars false
open Go.RowKit

variable {A : Type} {G : Fr} {s : SS A} {ρ : Ev} {a : Act} {w : World} {P : Program} {lay : A → List (Chunk A)}

theorem posB_some : ∀ {p : List Nat} {i j : Nat}, posB p i = some j → p[j]? = some i
  | [], i, j, h => by cases h
  | x :: r, i, j, h => by
    simp only [posB] at h
    split at h
    · rename_i e; cases h; have := beq_eq e; subst this; rfl
    · split at h <;> cases h
      rename_i k hk
      simpa using posB_some hk
theorem nodupB_spec : ∀ {p : List Nat}, nodupB p = true → p.Nodup
  | [], _ => .nil
  | x :: r, h => by
    simp only [nodupB, Bool.and_eq_true, Bool.not_eq_true'] at h
    refine List.nodup_cons.2 ⟨fun hx => ?_, nodupB_spec h.2⟩
    have : r.any (beqN x) = true := List.any_eq_true.2 ⟨x, hx, by simp⟩
    rw [this] at h; cases h.1
theorem fixB_spec : ∀ {n k : Nat} {p : List Nat}, fixB n k p = true → ∀ i, i < n → p[i]? = some (k + i)
  | 0, k, p, _, i, hi => by omega
  | n + 1, k, x :: r, h, i, hi => by
    simp only [fixB, Bool.and_eq_true] at h
    cases i with
    | zero => have := beq_eq h.1; subst this; rfl
    | succ i => have := fixB_spec h.2 i (by omega); simp only [List.getElem?_cons_succ, this]; congr 1; omega
  | n + 1, k, [], h, _, _ => by cases h

theorem reordH_get {p : List Nat} {H : List (Chunk A)} : ∀ {l : List Nat} {j : Nat}, getC (reordH p H l) j = match l[j]? with | some i => rnC p (getC H i) | none => .emp
  | [], j => rfl
  | x :: r, 0 => rfl
  | x :: r, j + 1 => by
    have := reordH_get (p := p) (H := H) (l := r) (j := j)
    simp only [getC, reordH, nth, List.getElem?_cons_succ] at this ⊢
    exact this

def Ev.reord (ρ : Ev) (p : List Nat) : Ev :=
  { root := fun j => match p[j]? with | some i => ρ.root i | none => .bool false, ver := fun j => match p[j]? with | some i => ρ.ver i | none => 0, M := ρ.M, foot := fun j => match p[j]? with | some i => ρ.foot i | none => [] }

theorem rn1_den {p : List Nat} {x : SV1} {v : Value} (h : Den1 ρ x v) : Den1 (ρ.reord p) (rn1 p x) v := by
  cases x <;> simp only [rn1] <;> (try exact h)
  all_goals
    split
    · rename_i j hj
      have hj := posB_some hj
      simp only [Den1, Ev.reord, hj] at h ⊢
      exact h
    · trivial

theorem reord_sound {AI : Abs A} {p : List Nat} (hp : permOk G.n0 p = true) (hs : Sat AI G s a w) : Sat AI G (reord p s) a w := by
  obtain ⟨hd, ρ, hh⟩ := hs
  obtain ⟨hp1, hp2⟩ := Bool.and_eq_true_iff.1 hp
  have hn := nodupB_spec hp1
  have hf := fixB_spec hp2
  have hfoot : ∀ j b, b ∈ (ρ.reord p).foot j → ∃ i, p[j]? = some i ∧ b ∈ ρ.foot i := by
    intro j b hb
    simp only [Ev.reord] at hb
    split at hb
    · rename_i i hi; exact ⟨i, hi, hb⟩
    · cases hb
  refine ⟨hd, ρ.reord p, ⟨hh.sz, fun t v ht => ?_, fun j => ?_, fun i j b hij hi hj => ?_, fun j b hb => ?_, fun b o v hm => ⟨(hh.im b o v hm).1, fun j hb => ?_⟩, hh.os, hh.tape, hh.output, hh.grow, hh.kept, fun j b hb => ?_, fun i b hi hb => ?_, fun i hi => ?_, hh.mono, hh.mfr⟩⟩
  · obtain ⟨u, h1, rfl⟩ := mapT_look ht
    obtain ⟨x, h2, h3⟩ := hh.tm t u h1
    exact ⟨x, h2, mapV_den (fun _ _ => rn1_den) h3⟩
  · show HoldsC AI (ρ.reord p) w j (getC (reordH p s.H p) j)
    rw [reordH_get]
    cases hj : p[j]? with
    | none => exact ⟨by simp [Ev.reord, hj], by simp [Ev.reord, hj], by simp [Ev.reord, hj]⟩
    | some i =>
      dsimp only
      have e1 : (ρ.reord p).root j = ρ.root i := by simp [Ev.reord, hj]
      have e2 : (ρ.reord p).ver j = ρ.ver i := by simp [Ev.reord, hj]
      have e3 : (ρ.reord p).foot j = ρ.foot i := by simp [Ev.reord, hj]
      have hc := hh.ch i
      cases hg : getC s.H i with
      | emp => rw [hg] at hc; exact ⟨e3.trans hc.1, e1.trans hc.2.1, e2.trans hc.2.2⟩
      | gone => trivial
      | cells t cs =>
        rw [hg] at hc
        obtain ⟨b, vs, h1, h2, h3, h4⟩ := hc
        exact ⟨b, vs, e1.trans h1, e3.trans h2, h3, h4.mapL fun _ _ => rn1_den⟩
      | row t e v L => rw [hg] at hc; exact ⟨hc.1.trans e2.symm, by rw [e1, e3]; exact hc.2⟩
      | rmap ks e L R c j => trivial
      | itp q => trivial
      | map ks e L => rw [hg] at hc; obtain ⟨b, es, clock, h1, h2, h3, h4⟩ := hc; exact ⟨b, es, clock, e1.trans h1, e3.trans h2, h3, h4⟩
      | abs x => rw [hg] at hc; simp only [rnC, HoldsC, e1, e3] at hc ⊢; exact hc
  · obtain ⟨i', h1, h2⟩ := hfoot i b hi
    obtain ⟨j', h3, h4⟩ := hfoot j b hj
    refine hh.dis i' j' b (fun e => hij ?_) h2 h4
    subst e
    exact (List.getElem?_inj (List.getElem?_eq_some_iff.1 h1).1 hn).1 (h1.trans h3.symm)
  · obtain ⟨i, _, h2⟩ := hfoot j b hb; exact hh.lt i b h2
  · obtain ⟨i, _, h2⟩ := hfoot j b hb; exact (hh.im b o v hm).2 i h2
  · obtain ⟨i, _, h2⟩ := hfoot j b hb; exact hh.fro i b h2
  · have := hf i hi
    rw [Nat.zero_add] at this
    simp only [Ev.reord, this]; exact hh.rt i b hi hb
  · have := hf i hi
    rw [Nat.zero_add] at this
    simp only [Ev.reord, this]; exact hh.rts i hi

theorem finR_of [SubA A] {AI : Abs A} {E : Env A} (hT : TIok P E.ti) {fn : Func} {n0 : Nat} (hn0 : G.n0 = n0) {v : SV} {H1 : List (Chunk A)} {e : XE} {s' : SS A} (h : finR E.ti n0 fn.results.toList v H1 e s') {R : Ending → World → Prop}
    (hR : ∀ y ρ' w', Holds AI { G with size := 0 } ⟨[], H1⟩ ρ' #[] w' → Den ρ' v y → R (.returned y) w') : Then AI G s' (bodyPost P fn R e.out) := by
  have key : ∀ l, resV E.ti s' fn.results.toList = some l → (∃ p, permOk n0 p = true ∧ Sub n0 (reord p ⟨[(0, resOf l)], s'.H⟩) ⟨[(0, v)], H1⟩) → ∀ (a' : Act) (w' : World), a'.defers = [] → (∃ ρ', Holds AI G s' ρ' a'.tmps w') → a'.defers = [] ∧ ∃ y, (results fn a'.tmps).run P w' = .ok y w' ∧ R (.returned y) w' := by
    rintro l hl ⟨p, hperm, hsub⟩ a' w' hd ⟨ρ', hh⟩
    obtain ⟨y, h3, h4⟩ := results_sound hT hh hl
    refine ⟨hd, y, h3, ?_⟩
    let G1 : Fr := { G with size := 1 }
    have h5 : Sat AI G1 ⟨[(0, resOf l)], s'.H⟩ ⟨#[y], []⟩ w' := by
      refine ⟨rfl, ρ', ⟨rfl, fun t x ht => ?_, hh.ch, hh.dis, hh.lt, hh.im, hh.os, hh.tape, hh.output, hh.grow, hh.kept, hh.fro, hh.rt, hh.rts, hh.mono, hh.mfr⟩⟩
      rw [look_cons] at ht
      split at ht
      · rename_i e; subst e; cases ht; exact ⟨y, rfl, h4⟩
      · cases ht
    obtain ⟨_, ρ2, h6⟩ := hsub.sound (G := G1) hn0 (reord_sound (G := G1) (p := p) (by show permOk G.n0 p = true; rw [hn0]; exact hperm) h5)
    obtain ⟨u, h7, h8⟩ := h6.tm 0 v (by simp [look])
    simp at h7
    subst h7
    refine hR y ρ2 w' ⟨rfl, (fun t x ht => by cases ht), h6.ch, h6.dis, h6.lt, h6.im, h6.os, h6.tape, h6.output, h6.grow, h6.kept, h6.fro, h6.rt, h6.rts, h6.mono, h6.mfr⟩ h8
  cases e with
  | exit id => exact (Failed.elim h)
  | normal =>
    simp only [finR] at h
    split at h
    · rename_i l hl; exact key l hl h
    · exact h.elim
  | ret =>
    simp only [finR] at h
    split at h
    · rename_i l hl; exact key l hl h
    · exact h.elim

/-- A function that makes a new object and returns its address first. -/
theorem tmpl_new [SubA A] {E : Env A} (hE : EnvOk P (absOf lay) E) (hm : P.follows .mixedOrders = true) {f : FuncId} {fn : Func} {c : Code} (hf : P.funcs[f]? = some fn) (hb : fn.body = some c) (hok : codeOk fn.ntmps c = true) {args : List SV} (hargs : args.length ≤ fn.ntmps)
    {x : A} (hl : LayOk (lay x)) {rs : List SV2} (hrs : rs.all closed2 = true)
    (h : svc E 0 c ⟨argT 0 args, []⟩ (finR E.ti 0 fn.results.toList (resOf (.one (.ptr 0 0) :: rs)) (openObj (lay x) []))) :
    TmplOk P (absOf lay) f args [] (resOf (.one (.ptr 0 0) :: rs)) [.abs x] := by
  intro G ρ w us hG hsz hh hd
  refine calls_of_wp hf hb ?_
  have hlen := hd.length
  have h1 := hh.enter hd (n := fn.ntmps) (by omega)
  refine svc_sound (AI := absOf lay) (G := { G with size := fn.ntmps }) hE hm hG c hok _ _ _ _ w h ⟨rfl, ρ, h1⟩ fun e s' hq => ?_
  refine finR_of (AI := absOf lay) (G := { G with size := fn.ntmps }) hE.ti hG hq (R := fun e w' => ∃ y ρ', e = .returned y ∧ Holds (absOf lay) G ⟨[], [.abs x]⟩ ρ' #[] w' ∧ Den ρ' (resOf (.one (.ptr 0 0) :: rs)) y) fun y ρ' w' h2 h3 => ?_
  have e1 : ({ { G with size := fn.ntmps } with size := 0 } : Fr) = G := by cases G; simp at hsz; subst hsz; rfl
  rw [e1] at h2
  obtain ⟨ρ3, h4, h5, h6⟩ := h2.close_obj (rest' := []) hl rfl (by rw [hG]; simp)
  refine ⟨y, ρ3, rfl, h4, Den_ptr_cons (fun u hu => ?_) h5 hrs h3⟩
  obtain ⟨b, h7, h8⟩ := hu
  exact ⟨b, by rw [h6]; exact h7, h8⟩

end Go.Sx
