/-
  Symbolic execution: a method of an object.
-/
import Derived.Test.YtebhcmgfhkjmcaaSxT
namespace Go.Sx
set_option linter.all false
set_option linter.unusedVariables false
set_option linter.unusedSimpArgs false
set_option linter.unusedSectionVars false
open Go.RowKit

variable {A : Type} {G : Fr} {s : SS A} {ρ : Ev} {a : Act} {w : World} {P : Program} {lay : A → List (Chunk A)}

/-- The object (its parts are l) that is chunk 0 opened: its parts behind the others. -/
def openObj (l : List (Chunk A)) (rest : List (Chunk A)) : List (Chunk A) := match place 0 (rest.length + 1) with
  | f => renC f (getC l 0) :: (rest ++ l.tail.map (renC f))
/-- The object closed again. -/
def shutObj (x : A) (k : Nat) (rest news : List (Chunk A)) : List (Chunk A) := .abs x :: (rest ++ (List.replicate k .gone ++ news))

theorem getC_cons_succ (c : Chunk A) (l : List (Chunk A)) (i : Nat) : getC (c :: l) (i + 1) = getC l i := rfl
theorem getC_app_left {l m : List (Chunk A)} {i : Nat} (h : i < l.length) : getC (l ++ m) i = getC l i := by
  unfold getC; rw [nth_eq, nth_eq, List.getElem?_append_left h]
theorem getC_app_right {l m : List (Chunk A)} {i : Nat} (h : l.length ≤ i) : getC (l ++ m) i = getC m (i - l.length) := by
  unfold getC; rw [nth_eq, nth_eq, List.getElem?_append_right h]
theorem getC_map {f : Chunk A → Chunk A} (hf : f .emp = .emp) (l : List (Chunk A)) (i : Nat) : getC (l.map f) i = f (getC l i) := by
  unfold getC; rw [nth_eq, nth_eq, List.getElem?_map]; cases l[i]? <;> simp [hf]
theorem getC_tail (l : List (Chunk A)) (i : Nat) : getC l.tail i = getC l (i + 1) := by
  cases l with
  | nil => rfl
  | cons c r => rfl

theorem openObj_part {l rest news : List (Chunk A)} {j : Nat} (hj : j < l.length) : getC (openObj l rest ++ news) (place 0 (rest.length + 1) j) = renC (place 0 (rest.length + 1)) (getC l j) := by
  cases j with
  | zero => rfl
  | succ j =>
    have hl : (openObj l rest).length = rest.length + 1 + l.tail.length := by simp [openObj]; omega
    rw [getC_app_left (by rw [hl]; simp [place]; omega)]
    show getC (renC _ (getC l 0) :: (rest ++ l.tail.map _)) (rest.length + 1 + j) = _
    rw [show rest.length + 1 + j = (rest.length + j) + 1 by omega, getC_cons_succ, getC_app_right (by omega), show rest.length + j - rest.length = j by omega, getC_map rfl, getC_tail]

theorem openObj_other {l rest news : List (Chunk A)} (hpos : 0 < l.length) {k : Nat} (hk : ∀ j, j < l.length → k ≠ place 0 (rest.length + 1) j) : getC (openObj l rest ++ news) k = if k < rest.length + 1 then getC rest (k - 1) else getC news (k - (rest.length + l.length)) := by
  have hl : (openObj l rest).length = rest.length + l.length := by simp [openObj]; omega
  cases k with
  | zero => exact absurd rfl (hk 0 hpos)
  | succ k =>
    split
    · rename_i h
      rw [getC_app_left (by rw [hl]; omega)]
      show getC (renC _ (getC l 0) :: (rest ++ l.tail.map _)) (k + 1) = _
      rw [getC_cons_succ, getC_app_left (by omega)]; rfl
    · rename_i h
      have h1 : rest.length + l.length ≤ k + 1 := by
        rcases Nat.lt_or_ge (k + 1) (rest.length + l.length) with h2 | h2
        · exact absurd (show k + 1 = place 0 (rest.length + 1) (k + 1 - rest.length) by rw [show k + 1 - rest.length = (k - rest.length) + 1 by omega]; simp [place]; omega) (hk _ (by omega))
        · exact h2
      rw [getC_app_right (by rw [hl]; exact h1), hl]

/-- Chunks that name no others. -/
def flatC : Chunk A → Bool
  | .cells _ _ => false
  | .rmap _ _ _ _ _ _ => false
  | _ => true

theorem Holds.drop {AI : Abs A} {tm : List (Nat × SV)} {H H1 : List (Chunk A)} {tmps : Array Value} (h : Holds AI G ⟨tm, H⟩ ρ tmps w) (hn : G.n0 ≤ H1.length) (hH : ∀ i, i < H1.length → getC H1 i = getC H i) (hf : H1.all flatC = true) : Holds AI G ⟨[], H1⟩ (ρ.trim H1.length) tmps w := by
  have hfoot : ∀ i b, b ∈ (ρ.trim H1.length).foot i → b ∈ ρ.foot i := by
    intro i b hb
    simp only [Ev.trim] at hb
    split at hb
    · exact hb
    · cases hb
  refine ⟨h.sz, (fun t v ht => by cases ht), fun i => ?_, fun i j b hij hi hj => h.dis i j b hij (hfoot i b hi) (hfoot j b hj), fun i b hb => h.lt i b (hfoot i b hb), fun b o v hm => ⟨(h.im b o v hm).1, fun i hb => (h.im b o v hm).2 i (hfoot i b hb)⟩,
    h.os, h.tape, h.output, h.grow, h.kept, fun i b hb => h.fro i b (hfoot i b hb), fun i b hi hb => ?_, fun i hi => ?_, h.mono, h.mfr⟩
  · show HoldsC AI _ w i (getC H1 i)
    by_cases hi : i < H1.length
    · have hc := h.ch i
      have e1 := hH i hi
      have hc : HoldsC AI ρ w i (getC H i) := hc
      rw [← e1] at hc
      have hfl : flatC (getC H1 i) = true := by
        have : getC H1 i = H1[i] := by unfold getC; rw [nth_eq, List.getElem?_eq_getElem hi]
        rw [this]; exact List.all_eq_true.1 hf _ (List.getElem_mem hi)
      cases hg : getC H1 i with
      | emp => rw [hg] at hc; simp only [HoldsC, Ev.trim, if_pos hi] at hc ⊢; exact hc
      | gone => trivial
      | cells t cs => rw [hg] at hfl; cases hfl
      | row t e v L => rw [hg] at hc; simp only [HoldsC, Ev.trim, if_pos hi] at hc ⊢; exact hc
      | map ks e L => rw [hg] at hc; simp only [HoldsC, Ev.trim, if_pos hi] at hc ⊢; exact hc
      | rmap ks e L R c j => rw [hg] at hfl; cases hfl
      | itp q => rw [hg] at hc; simp only [HoldsC, Ev.trim, if_pos hi] at hc ⊢; exact hc
      | abs x => rw [hg] at hc; simp only [HoldsC, Ev.trim, if_pos hi] at hc ⊢; exact hc
    · rw [getC_beyond (by omega)]
      simp [HoldsC, Ev.trim, hi]
  · have : i < H1.length := by omega
    simp only [Ev.trim, if_pos this]; exact h.rt i b hi hb
  · have : i < H1.length := by omega
    simp only [Ev.trim, if_pos this]; exact h.rts i hi

def closed2 : SV2 → Bool
  | .one x => closed1 x
  | .agg l => l.all closed1
  | .fn _ l => l.all closed1
def closedV : SV → Bool
  | .val x => closed2 x
  | .tup l => l.all closed2

theorem closed1s_den {ρ ρ' : Ev} (hM : ρ'.M = ρ.M) {l : List SV1} {vs : List Value} (hl : l.all closed1 = true) (h : All2 (Den1 ρ) l vs) : All2 (Den1 ρ') l vs := by
  induction h with
  | nil => exact .nil
  | cons h1 _ ih =>
    simp only [List.all_cons, Bool.and_eq_true] at hl
    exact .cons ((closed1_den hM hl.1).2 h1) (ih hl.2)
theorem closed2_den {ρ ρ' : Ev} (hM : ρ'.M = ρ.M) {x : SV2} {u : Value} (hx : closed2 x = true) (h : Den2 ρ x u) : Den2 ρ' x u := by
  cases x with
  | one x => exact (closed1_den hM hx).2 h
  | agg l => obtain ⟨vs, h1, h2⟩ := h; exact ⟨vs, h1, closed1s_den hM hx h2⟩
  | fn f l => obtain ⟨vs, h1, h2⟩ := h; exact ⟨vs, h1, closed1s_den hM hx h2⟩
theorem closed2s_den {ρ ρ' : Ev} (hM : ρ'.M = ρ.M) {l : List SV2} {vs : List Value} (hl : l.all closed2 = true) (h : All2 (Den2 ρ) l vs) : All2 (Den2 ρ') l vs := by
  induction h with
  | nil => exact .nil
  | cons h1 _ ih =>
    simp only [List.all_cons, Bool.and_eq_true] at hl
    exact .cons (closed2_den hM hl.1 h1) (ih hl.2)
theorem closedV_den {ρ ρ' : Ev} (hM : ρ'.M = ρ.M) {v : SV} {u : Value} (hv : closedV v = true) (h : Den ρ v u) : Den ρ' v u := by
  cases v with
  | val x => exact closed2_den hM hv h
  | tup l =>
    obtain ⟨vs, h1, h2⟩ := h
    refine ⟨vs, h1, ?_⟩
    clear h1
    exact closed2s_den hM hv h2

theorem Holds.close_obj {x' : A} {rest' : List (Chunk A)} {tmps : Array Value} (hl' : LayOk (lay x')) (hflat : rest'.all flatC = true) (hn : G.n0 ≤ rest'.length + 1) (h : Holds (absOf lay) G ⟨[], openObj (lay x') rest'⟩ ρ tmps w) :
    ∃ ρ', Holds (absOf lay) G ⟨[], .abs x' :: rest'⟩ ρ' tmps w ∧ ρ'.M = ρ.M ∧ ρ'.root 0 = ρ.root 0 := by
  obtain ⟨ρ2, h2, e1, e2, e3⟩ := h.close_ (i := 0) (base := rest'.length + 1) (x := x') (by omega) hl' (fun j hj => by have := openObj_part (rest := rest') (news := []) hj; simpa using this)
    (H' := shutObj x' ((lay x').length - 1) rest' []) rfl (fun j h0 hj => by
      cases j with
      | zero => omega
      | succ j =>
        show getC (.abs x' :: (rest' ++ (List.replicate _ .gone ++ []))) (rest'.length + 1 + j) = .gone
        rw [show rest'.length + 1 + j = (rest'.length + j) + 1 by omega, getC_cons_succ, getC_app_right (by omega), List.append_nil]
        unfold getC
        rw [nth_eq, List.getElem?_replicate, if_pos (by omega)]) (fun k hk => by
      have := openObj_other (news := []) hl'.pos hk
      rw [List.append_nil] at this
      show getC (.abs x' :: (rest' ++ (List.replicate _ .gone ++ []))) k = getC (openObj (lay x') rest') k
      rw [this]
      cases k with
      | zero => exact absurd rfl (hk 0 hl'.pos)
      | succ k =>
        rw [getC_cons_succ]
        split
        · rename_i hlt; rw [getC_app_left (by omega)]; rfl
        · rename_i hlt
          rw [getC_beyond (show ([] : List (Chunk A)).length ≤ _ by simp), getC_beyond]
          have h1 : rest'.length + (lay x').length ≤ k + 1 := by
            rcases Nat.lt_or_ge (k + 1) (rest'.length + (lay x').length) with h2 | h2
            · exact absurd (show k + 1 = place 0 (rest'.length + 1) (k + 1 - rest'.length) by rw [show k + 1 - rest'.length = (k - rest'.length) + 1 by omega]; simp [place]; omega) (hk _ (by omega))
            · exact h2
          have := hl'.pos
          simp; omega)
  have h3 := h2.drop (H1 := .abs x' :: rest') (by simpa using hn) (fun i hi => by
    cases i with
    | zero => rfl
    | succ i =>
      simp only [List.length_cons] at hi
      show getC rest' i = getC (rest' ++ _) i
      rw [getC_app_left (by omega)]) (by simp only [List.all_cons, hflat, Bool.and_true]; rfl)
  exact ⟨_, h3, e3, by simp [Ev.trim, e1]⟩

/-- A method of the object that is chunk 0: nothing new is left behind. -/
theorem tmpl_obj [SubA A] {E : Env A} (hE : EnvOk P (absOf lay) E) (hm : P.follows .mixedOrders = true) {f : FuncId} {fn : Func} {c : Code} (hf : P.funcs[f]? = some fn) (hb : fn.body = some c) (hok : codeOk fn.ntmps c = true) {args : List SV} (hargs : args.length ≤ fn.ntmps)
    {x x' : A} {rest rest' : List (Chunk A)} (hl : LayOk (lay x)) (hl' : LayOk (lay x')) (hrl : rest'.length = rest.length) (hflat : rest'.all flatC = true) {v : SV} (hv : closedV v = true)
    (h : svc E (rest.length + 1) c ⟨argT 0 args, openObj (lay x) rest⟩ (finP E.ti (rest.length + 1) fn.results.toList v (openObj (lay x') rest'))) :
    TmplOk P (absOf lay) f args (.abs x :: rest) v (.abs x' :: rest') := by
  intro G ρ w us hG hsz hh hd
  simp only [List.length_cons] at hG
  obtain ⟨ρ1, h1, le1⟩ := hh.open_ (i := 0) (base := rest.length + 1) (x := x) rfl (by omega) (fun k hk => getC_beyond (by simpa using hk)) hl (H' := openObj (lay x) rest)
    (fun j hj => by have := openObj_part (rest := rest) (news := []) hj; simpa using this) (fun k hk => by
      have := openObj_other (news := []) hl.pos hk
      rw [List.append_nil] at this
      rw [this]
      split
      · rename_i hlt
        cases k with
        | zero => exact absurd rfl (hk 0 hl.pos)
        | succ k => rfl
      · rename_i hlt
        rw [getC_beyond (show ([] : List (Chunk A)).length ≤ _ by simp), getC_beyond (by simp; omega)])
  refine (body_ok hE hm hf hb hok hargs h hG hsz h1 (hd.mono fun _ _ => Den.mono le1)).mono ?_
  rintro e w' ⟨y, ρ2, rfl, h2, h3⟩
  obtain ⟨ρ3, h4, h5, _⟩ := h2.close_obj hl' hflat (by omega)
  exact ⟨y, ρ3, rfl, h4, closedV_den h5 hv h3⟩

end Go.Sx
