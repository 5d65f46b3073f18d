/-
  Symbolic execution: what an operation's plan depends on; what it leaves alone.
-/
import Derived.Test.YtebhcmgfhkjmcaaSxM
namespace Go.Sx
set_option linter.all false
set_option linter.unusedVariables false
set_option linter.unusedSimpArgs false
set_option linter.unusedSectionVars false
open Go.RowKit

variable {A : Type} {AI : Abs A} {G : Fr} {s : SS A} {ρ : Ev} {a : Act} {w : World} {P : Program}

theorem evalOp_congr {tm tm' : List (Nat × SV)} {x : Operand} (h : ∀ t, x = .tmp t → look tm t = look tm' t) : evalOp tm x = evalOp tm' x := by
  cases x <;> simp only [evalOp]
  exact h _ rfl
theorem evalOps_congr {tm tm' : List (Nat × SV)} : ∀ {xs : List Operand}, (∀ t, .tmp t ∈ xs → look tm t = look tm' t) → evalOps tm xs = evalOps tm' xs
  | [], _ => rfl
  | x :: r, h => by
    have h1 : evalOp tm x = evalOp tm' x := evalOp_congr fun t e => h t (by simp [e])
    have h2 : evalOps tm r = evalOps tm' r := evalOps_congr fun t e => h t (by simp [e])
    simp only [evalOps, h1, h2]
theorem argParts_congr {tm tm' : List (Nat × SV)} : ∀ {xs : List (Nat × Operand)}, (∀ t, .tmp t ∈ xs.map (·.2) → look tm t = look tm' t) → argParts tm xs = argParts tm' xs
  | [], _ => rfl
  | (i, x) :: r, h => by
    have h1 : evalOp tm x = evalOp tm' x := evalOp_congr fun t e => h t (by simp [e])
    have h2 : argParts tm r = argParts tm' r := argParts_congr fun t e => h t (by simp at e ⊢; exact .inr e)
    simp only [argParts, h1, h2]
theorem evalOpt_congr {tm tm' : List (Nat × SV)} {x : Option Operand} (h : ∀ t, x = some (.tmp t) → look tm t = look tm' t) : evalOpt tm x = evalOpt tm' x := by
  cases x with
  | none => rfl
  | some x => simp only [evalOpt, evalOp_congr (tm := tm) (tm' := tm') (x := x) fun t e => h t (by rw [e])]

theorem sop_congr {E : Env A} {tm tm' : List (Nat × SV)} {fresh : Nat} {o : Op} (h : ∀ t, .tmp t ∈ o.operands → look tm t = look tm' t) : sop E tm fresh o = sop E tm' fresh o := by
  have e1 : ∀ x ∈ o.operands, evalOp tm x = evalOp tm' x := fun x hx => evalOp_congr fun t e => h t (e ▸ hx)
  cases o <;> simp only [sop] <;> simp only [Op.operands] at h e1
  case move x => rw [e1 x (by simp)]
  case assign x => rw [e1 x (by simp)]
  case pick c x y => rw [e1 c (by simp), e1 x (by simp), e1 y (by simp)]
  case load t x => rw [e1 x (by simp)]
  case store t x y => rw [e1 x (by simp), e1 y (by simp)]
  case nilCheck x => rw [e1 x (by simp)]
  case binOp op t x y yt => rw [e1 x (by simp), e1 y (by simp)]
  case unOp op t x => rw [e1 x (by simp)]
  case convert s d x => rw [e1 x (by simp)]
  case slice t x lo hi mx =>
    rw [e1 x (by simp), evalOpt_congr (tm := tm) (tm' := tm') (x := lo) fun t e => h t (by simp [e]), evalOpt_congr (tm := tm) (tm' := tm') (x := hi) fun t e => h t (by simp [e]), evalOpt_congr (tm := tm) (tm' := tm') (x := mx) fun t e => h t (by simp [e])]
  case fieldAddr t x f => rw [e1 x (by simp)]
  case indexAddr t x i => rw [e1 x (by simp), e1 i (by simp)]
  case extract x n => rw [e1 x (by simp)]
  case box t x => rw [e1 x (by simp)]
  case build t ps => rw [argParts_congr (tm := tm) (tm' := tm') fun t e => h t (by simpa using e)]
  case buildSlice t n ps => rw [argParts_congr (tm := tm) (tm' := tm') fun t e => h t (by simpa using e)]
  case makeSlice t x y => rw [e1 x (by simp), e1 y (by simp)]
  case makeMap t r => cases r <;> rfl
  case lookup t x ix ok => rw [e1 x (by simp), e1 ix (by simp)]
  case range t x => rw [e1 x (by simp)]
  case entry x => rw [e1 x (by simp)]
  case mapUpdate t x ix y => rw [e1 x (by simp), e1 ix (by simp), e1 y (by simp)]
  case makeFunc f first caps =>
    cases f <;> simp only [sop]
    rw [evalOps_congr (tm := tm) (tm' := tm') fun t e => h t (by simp at e ⊢; exact .inr e)]
  case call c =>
    congr 1
    unfold callP
    obtain ⟨callee, xs, ats⟩ := c
    have h1 : evalOps tm xs.toList = evalOps tm' xs.toList := evalOps_congr fun t e => h t (by simp [Call.operands]; exact .inr (by simpa using e))
    rw [h1]
    cases callee with
    | value f => dsimp only; rw [show evalOp tm f = evalOp tm' f from evalOp_congr fun t e => h t (by simp [Call.operands, e])]
    | invoke r m => rfl
    | builtin b => rfl

/-- A plan that does not write leaves what it found. -/
def NoWrite (p : Plan A) : Prop := p.w = false → ∀ (H : List (Chunk A)) d C v cs, p.eff (getCs H p.ids) d = .done C v cs → cs = getCs H p.ids

theorem noWrite_pure {C : U Prop} {v : SV} {p : Plan A} (h : pureP C v = some p) : NoWrite p := by
  cases h; intro _ H d C v cs h; simp at h; simp [getCs, h]
theorem noWrite_w {p : Plan A} (h : p.w = true) : NoWrite p := fun e => by rw [h] at e; cases e

theorem noWrite_load {t : TI} {x : SV} {p : Plan A} (h : loadP t x = some p) : NoWrite p := by
  unfold loadP at h
  split at h
  · cases h
    intro _ H d C v cs he
    simp only [getCs] at he ⊢
    split at he <;> (try cases he)
    rename_i heq
    split at he <;> cases he
    exact heq.symm
  · split at h <;> (try cases h)
    intro _ H d C v cs he; simp at he; simp [getCs, he]
  · cases h
    intro _ H d C v cs he
    simp only [getCs] at he ⊢
    split at he <;> (try cases he)
    rename_i heq
    split at he <;> (try cases he)
    split at he <;> cases he
    exact heq.symm
  · cases h
theorem noWrite_len {x : SV} {p : Plan A} (h : lenP x = some p) : NoWrite p := by
  unfold lenP at h
  split at h <;> (try cases h)
  any_goals (intro _ H d C v cs he; simp at he; simp [getCs, he]; done)
  all_goals
    intro _ H d C v cs he
    simp only [getCs] at he ⊢
    split at he <;> (try cases he)
    rename_i heq
    first
      | exact heq.symm
      | (split at he <;> cases he; exact heq.symm)
theorem noWrite_index {t : TI} {z : Nat} {x ix : SV} {p : Plan A} (h : indexP t z x ix = some p) : NoWrite p := by
  unfold indexP at h
  split at h
  · split at h <;> (try cases h)
    split at h <;> (try cases h)
    split at h <;> (try cases h)
    all_goals (intro _ H d C v cs he; simp at he; simp [getCs, he])
  · split at h <;> (try cases h)
    split at h <;> (try cases h)
    · split at h <;> (try cases h)
      intro _ H d C v cs he; simp at he; simp [getCs, he]
    · intro _ H d C v cs he
      simp only [getCs] at he ⊢
      split at he <;> (try cases he)
      rename_i heq
      split at he <;> cases he
      exact heq.symm
  · cases h
theorem noWrite_slice {t : TI} {z : Nat} {x : SV} {lo hi mx : Option SV} {p : Plan A} (h : sliceP t z x lo hi mx = some p) : NoWrite p := by
  unfold sliceP at h
  split at h <;> (try cases h)
  split at h <;> (try cases h)
  split at h <;> (try cases h)
  split at h <;> (try cases h)
  · split at h <;> (try cases h)
    intro _ H d C v cs he; simp at he; simp [getCs, he]
  · intro _ H d C v cs he
    simp only [getCs] at he ⊢
    split at he <;> (try cases he)
    rename_i heq
    split at he <;> cases he
    exact heq.symm
theorem noWrite_field {t : TI} {x : SV} {f : Nat} {p : Plan A} (h : fieldP t x f = some p) : NoWrite p := by
  unfold fieldP at h
  split at h <;> (try cases h)
  split at h <;> (try cases h)
  split at h <;> (try cases h)
  all_goals (intro _ H d C v cs he; simp at he; simp [getCs, he])
theorem noWrite_bin {op : BinOp} {x y : SV} {p : Plan A} (h : binopP op x y = some p) : NoWrite p := by
  unfold binopP at h
  split at h <;> (try cases h)
  split at h <;> (try cases h)
  intro _ H d C v cs he; simp at he; simp [getCs, he]
theorem noWrite_un {op : UnOp} {x : SV} {p : Plan A} (h : unopP op x = some p) : NoWrite p := by
  unfold unopP at h
  split at h <;> (try cases h)
  all_goals (intro _ H d C v cs he; simp at he; simp [getCs, he])
theorem noWrite_build {t : TI} {z : Option Nat} {l : List (Nat × SV)} {p : Plan A} (h : buildP t z l = some p) : NoWrite p := by
  unfold buildP at h
  split at h <;> (try cases h)
  · split at h <;> (try cases h)
    intro _ H d C v cs he; simp at he; simp [getCs, he]
  · split at h <;> (try cases h)
    split at h <;> (try cases h)
    intro _ H d C v cs he; simp at he; simp [getCs, he]
theorem noWrite_minmax {b : Bool} {l : List SV} {p : Plan A} (h : minmaxP b l = some p) : NoWrite p := by
  unfold minmaxP at h
  split at h
  · split at h <;> (try cases h)
    split at h <;> (try cases h)
    split at h <;> (try cases h)
    intro _ H d C v cs he; simp at he; simp [getCs, he]
  · split at h <;> (try cases h)
    split at h <;> (try cases h)
    split at h <;> (try cases h)
    split at h <;> (try cases h)
    split at h <;> (try cases h)
    intro _ H d C v cs he; simp at he; simp [getCs, he]
  · cases h
theorem noWrite_conv {i j : TI} {x : SV} {p : Plan A} (h : convertP i j x = some p) : NoWrite p := by
  unfold convertP at h
  split at h
  all_goals try cases h
  any_goals (intro _ H d C v cs he; simp at he; simp [getCs, he]; done)
  all_goals
    intro _ H d C v cs he
    simp only [getCs] at he ⊢
    split at he <;> (try cases he)
    rename_i heq
    split at he <;> cases he
    exact heq.symm
theorem noWrite_convNew {j : TI} {x : SV} {p : Plan A} (h : convNew j x = some p) : NoWrite p := by
  unfold convNew at h
  split at h <;> cases h
  intro _ H d C v cs he; simp at he; simp [getCs, he]
theorem noWrite_lookup {t : TI} {x ix : SV} {ok : Bool} {p : Plan A} (h : lookupP t x ix ok = some p) : NoWrite p := by
  unfold lookupP at h
  split at h <;> cases h
  intro _ H d C v cs he
  simp only [getCs] at he ⊢
  split at he <;> (try cases he)
  rename_i heq
  split at he <;> (try cases he)
  split at he <;> (try cases he)
  split at he <;> cases he
  exact heq.symm

theorem sop_noWrite {E : Env A} (hE : EnvOk P AI E) {tm : List (Nat × SV)} {fresh : Nat} {o : Op} {p : Plan A} (h : sop E tm fresh o = .plan p) : NoWrite p := by
  cases o <;> simp only [sop, reduceCtorEq] at h
  case load t x => split at h <;> (try cases h); split at h <;> (try cases h); exact noWrite_load (PO.of_plan h)
  case store t x y =>
    split at h <;> (try cases h)
    split at h <;> (try cases h)
    split at h <;> (try cases h)
    have h := PO.of_plan h
    unfold storeP at h
    split at h
    · unfold storeQ at h
      split at h <;> (try cases h)
      split at h <;> (try cases h)
      split at h <;> cases h <;> exact noWrite_w rfl
    · split at h <;> (try cases h)
      split at h <;> cases h
      exact noWrite_w rfl
  case convert s d x =>
    split at h <;> (try cases h)
    split at h <;> (try cases h)
    split at h <;> (try cases h)
    split at h <;> (try cases h)
    split at h
    · rename_i hc
      cases PO.of_plan h
      split at hc <;> (try cases hc)
      unfold convRow at hc
      split at hc <;> cases hc
      exact noWrite_w rfl
    split at h
    · rename_i hc; cases PO.of_plan h; exact noWrite_convNew hc
    · exact noWrite_conv (PO.of_plan h)
  case slice t x lo hi mx =>
    split at h <;> (try cases h)
    split at h <;> (try cases h)
    split at h <;> (try cases h)
    split at h <;> (try cases h)
    split at h <;> (try cases h)
    split at h
    · split at h <;> (try cases h)
      exact noWrite_slice (PO.of_plan h)
    · have h := PO.of_plan h
      unfold sliceZ at h
      split at h <;> (try cases h)
      split at h <;> cases h
      exact noWrite_w rfl
  case fieldAddr t x f => split at h <;> (try cases h); split at h <;> (try cases h); exact noWrite_field (PO.of_plan h)
  case indexAddr t x i =>
    split at h <;> (try cases h)
    split at h <;> (try cases h)
    split at h <;> (try cases h)
    split at h <;> (try cases h)
    exact noWrite_index (PO.of_plan h)
  case binOp op t x y yt =>
    split at h <;> (try cases h)
    split at h <;> (try cases h)
    split at h <;> (try cases h)
    split at h
    · exact noWrite_pure (PO.of_plan h)
    · split at h <;> (try cases h)
      exact noWrite_bin (PO.of_plan h)
  case unOp op t x => split at h <;> (try cases h); exact noWrite_un (PO.of_plan h)
  case build t ps => split at h <;> (try cases h); split at h <;> (try cases h); exact noWrite_build (PO.of_plan h)
  case buildSlice t n ps =>
    split at h <;> (try cases h)
    split at h <;> (try cases h)
    have h := PO.of_plan h
    unfold buildSliceP at h
    split at h <;> (try cases h)
    split at h <;> (try cases h)
    split at h <;> (try cases h)
    split at h <;> (try cases h)
    split at h
    · cases h; exact noWrite_w rfl
    · exact noWrite_pure h
  case makeMap t r =>
    cases r <;> simp only [sop, reduceCtorEq] at h
    split at h <;> (try cases h)
    have h := PO.of_plan h
    unfold makeMapP at h
    split at h <;> cases h
    exact noWrite_w rfl
  case range t x =>
    split at h <;> (try cases h)
    split at h <;> (try cases h)
    have h := PO.of_plan h
    unfold rangeP at h
    split at h <;> cases h
    exact noWrite_w rfl
  case entry x =>
    split at h <;> (try cases h)
    have h := PO.of_plan h
    unfold entryP at h
    split at h <;> cases h
    intro _ H d C v cs he
    dsimp only at he
    split at he <;> (try (simp at he; done))
    split at he <;> (try (simp at he; done))
    split at he <;> (try (simp at he; done))
    split at he <;> (try (simp at he; done))
    simp at he
    exact he.2.2.symm
  case lookup t x ix ok =>
    split at h <;> (try cases h)
    split at h <;> (try cases h)
    split at h <;> (try cases h)
    exact noWrite_lookup (PO.of_plan h)
  case mapUpdate t x ix y =>
    split at h <;> (try cases h)
    split at h <;> (try cases h)
    split at h <;> (try cases h)
    split at h <;> (try cases h)
    have h := PO.of_plan h
    unfold mapUpdateP at h
    split at h <;> cases h
    exact noWrite_w rfl
  case makeSlice t x y =>
    split at h <;> (try cases h)
    split at h <;> (try cases h)
    split at h <;> (try cases h)
    have h := PO.of_plan h
    unfold makeSliceP at h
    split at h <;> (try cases h)
    split at h <;> (try cases h)
    split at h <;> (try cases h)
    exact noWrite_w rfl
  case makeFunc f first caps =>
    cases f <;> simp only [sop, reduceCtorEq] at h
    split at h <;> (try cases h)
    split at h <;> (try cases h)
    intro _ H d C v cs he; simp at he; simp [getCs, he]
  case call c =>
    have h := PO.of_plan h
    unfold callP at h
    split at h <;> (try cases h)
    split at h
    · split at h <;> (try cases h)
      · split at h <;> (try cases h)
        split at h <;> (try cases h)
        exact noWrite_len h
      · split at h <;> (try cases h)
        unfold deleteP at h
        split at h <;> cases h
        exact noWrite_w rfl
      · exact noWrite_minmax h
      · exact noWrite_minmax h
      · split at h <;> (try cases h)
        split at h <;> (try cases h)
        split at h <;> (try cases h)
        unfold appendP appendQ at h
        split at h <;> (try cases h)
        split at h <;> (try cases h)
        · split at h <;> cases h; exact noWrite_w rfl
        · split at h <;> cases h; exact noWrite_w rfl
    · split at h <;> (try cases h)
      split at h <;> (try cases h)
      rename_i k hk
      exact (hE.con _ k hk).2.1 _ _ _ h
    · cases h
  case alloc t => split at h <;> cases h; exact noWrite_w rfl
  case box t x =>
    split at h <;> (try cases h)
    split at h <;> (try cases h)
    split at h <;> cases h
    exact noWrite_w rfl
  all_goals
    repeat' (first | exact noWrite_pure (PO.of_plan h) | (split at h))
  all_goals cases h

end Go.Sx
