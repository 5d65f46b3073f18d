/-
  Symbolic execution: contracts of functions that read slices of any kind.
-/
import Derived.Test.YtebhcmgfhkjmcaaSxW
namespace Go.Sx
set_option linter.all false
set_option linter.unusedVariables false
set_option linter.unusedSimpArgs false
set_option linter.unusedSectionVars false
open Go.RowKit

variable {A : Type} {AI : Abs A} {G : Fr} {s : SS A} {ρ : Ev} {a : Act} {w : World} {P : Program}

/-- Nothing that was there is changed. -/
theorem Holds.grown {tmps : Array Value} (h : Holds AI G s ρ tmps w) {w' : World} (old : ∀ b, b < w.heap.size → w'.heap[b]? = w.heap[b]?) (os : w'.os = w.os) (tape : w'.tape = w.tape) (output : w'.output = w.output) (size : w.heap.size ≤ w'.heap.size) :
    Holds AI G s ρ tmps w' := by
  refine ⟨h.sz, h.tm, fun i => (h.ch i).stays (.refl _) rfl rfl rfl fun b hb => old b (h.lt i b hb), h.dis, fun i b hb => Nat.lt_of_lt_of_le (h.lt i b hb) size, fun b o v hm => ?_, os.trans h.os, tape.trans h.tape, output.trans h.output, Nat.le_trans h.grow size,
    fun b hb hn => (old b (Nat.lt_of_lt_of_le hb h.grow)).trans (h.kept b hb hn), h.fro, h.rt, h.rts, h.mono, h.mfr⟩
  have hlt : b < w.heap.size := World.block_lt_of_cell? w ⟨b, o, none⟩ (h.im b o v hm).1
  exact ⟨(cell_congr (old b hlt) o).trans (h.im b o v hm).1, (h.im b o v hm).2⟩

theorem froze_M {tmps : Array Value} (h : Holds AI G s ρ tmps w) (S : Nat → Prop) : ∀ b o v, ρ.M b o = some v → (ρ.froze S w).M b o = some v := by
  intro b o v hm
  simp only [Ev.froze]
  rw [if_neg]
  · exact hm
  · rintro ⟨i, _, hi⟩; exact (h.im b o v hm).2 i hi
theorem froze_cell {tmps : Array Value} (h : Holds AI G s ρ tmps w) (S : Nat → Prop) : ∀ b o v, (ρ.froze S w).M b o = some v → w.cell? ⟨b, o, none⟩ = some v := by
  intro b o v hm
  simp only [Ev.froze] at hm
  split at hm
  · exact hm
  · exact (h.im b o v hm).1

theorem srcList_shows {tmps : Array Value} (h : Holds AI G s ρ tmps w) {v : SV} {u : Value} (hv : Den ρ v u) {S : Nat → Prop} (hS : ∀ i ∈ (srcOf v).ids, S i) {e : Ty} {L : U (List e.T)} (hL : Src.list e (srcOf v) (getCs s.H (srcOf v).ids) = some L) : ShowsM (ρ.froze S w).M e (L ()) u := by
  have hM := froze_M h S
  unfold srcOf at hS hL
  split at hS
  · simp only [Src.ids, getCs, Src.list] at hL
    cases hL
    have hv : u = .slice none 0 0 := hv
    subst hv
    exact ⟨none, 0, rfl, by simp, by simp⟩
  · simp only [Src.ids, getCs, Src.list] at hL
    split at hL <;> cases hL
    rename_i f hf
    obtain ⟨rfl, h1⟩ := castL_id hf
    have hv : ShowsM ρ.M _ _ u := hv
    dsimp only
    rw [h1]; exact hv.monoM hM
  · rename_i i ver
    simp only [Src.ids, getCs] at hL hS
    have hc := h.ch i
    generalize hg : getC s.H i = c at hL hc
    cases c <;> simp only [Src.list, reduceCtorEq] at hL
    rename_i t e' ver' L'
    split at hL <;> (try cases hL)
    rename_i hb
    have hb := beq_eq hb
    subst hb
    split at hL <;> cases hL
    rename_i f hf
    obtain ⟨rfl, h1⟩ := castL_id hf
    obtain ⟨h2, h3⟩ := hc
    obtain ⟨_, _, h4⟩ := hv
    rw [h4 h2]
    dsimp only
    rw [h1]
    exact rowAt_shows h (S := S) (hS i (by simp)) h3 hM
  · rename_i i ver esz lo n
    simp only [Src.ids, getCs] at hL hS
    have hc := h.ch i
    generalize hg : getC s.H i = c at hL hc
    cases c <;> simp only [Src.list, reduceCtorEq] at hL
    rename_i t e' ver' L'
    split at hL <;> (try cases hL)
    rename_i hb
    obtain ⟨hb, hbz⟩ := Bool.and_eq_true_iff.1 hb
    have hb := beq_eq hb
    have hbz := beq_eq hbz
    subst hb; subst hbz
    split at hL <;> cases hL
    rename_i f hf
    obtain ⟨rfl, h1⟩ := castL_id hf
    obtain ⟨h2, h3⟩ := hc
    obtain ⟨_, _, _, h4⟩ := hv
    dsimp only
    rw [h1]
    exact shows_part (rowAt_shows h (S := S) (hS i (by simp)) h3 hM) (h4 h2)
  · simp only [Src.ids, getCs, Src.list, reduceCtorEq] at hL

/-- The rows that the arguments name. -/
def idsA : List DT → List SV → List Nat
  | .lst _ :: r, v :: vs => (srcOf v).ids ++ idsA r vs
  | .cell _ :: r, _ :: vs => idsA r vs
  | _, _ => []
def ofA {A : Type} : (ds : List DT) → List SV → List (Chunk A) → Option (U (Tup ds))
  | [], [], [] => some (fun _ => ())
  | .lst e :: r, v :: vs, cs => (match srcOf v with
    | src => (match takeN cs src.ids.length with
      | some c1 => (match src.list e c1 with
        | some x => (match ofA r vs (cs.drop src.ids.length) with
          | some y => some (fun _ => (x (), y ()))
          | none => none)
        | none => none)
      | none => none))
  | .cell e :: r, v :: vs, cs => (match DT.of (.cell e) v with
    | some x => (match ofA r vs cs with
      | some y => some (fun _ => (x (), y ()))
      | none => none)
    | none => none)
  | _, _, _ => none

theorem getCs_append (H : List (Chunk A)) : ∀ (l m : List Nat), getCs H (l ++ m) = getCs H l ++ getCs H m
  | [], _ => rfl
  | i :: r, m => by simp only [List.cons_append, getCs, getCs_append H r m]
theorem getCs_length (H : List (Chunk A)) : ∀ (l : List Nat), (getCs H l).length = l.length
  | [] => rfl
  | i :: r => by simp only [getCs, List.length_cons, getCs_length H r]
theorem takeN_app {α : Type} : ∀ (l m : List α), takeN (l ++ m) l.length = some l
  | [], m => by cases m <;> rfl
  | x :: r, m => by simp only [List.cons_append, List.length_cons, takeN, takeN_app r m]

theorem ofA_den {tmps : Array Value} (h : Holds AI G s ρ tmps w) {S : Nat → Prop} : ∀ {ds : List DT} {vs : List SV} {more : List (Chunk A)} {x : U (Tup ds)} {us : List Value}, more = [] → (∀ i ∈ idsA ds vs, S i) → ofA ds vs (getCs s.H (idsA ds vs) ++ more) = some x → All2 (Den ρ) vs us → All2 (Den2 (ρ.froze S w)) (svs ds x) us
  | [], vs, more, x, us, hm, hS, hx, hu => by
    cases vs with
    | nil => cases hu; exact .nil
    | cons v vs => simp [ofA] at hx
  | .lst e :: r, vs, more, x, us, hm, hS, hx, hu => by
    cases vs with
    | nil => simp [ofA] at hx
    | cons v vs =>
      subst hm
      simp only [idsA, List.append_nil] at hS hx
      simp only [ofA] at hx
      rw [getCs_append] at hx
      have e1 := takeN_app (getCs s.H (srcOf v).ids) (getCs s.H (idsA r vs))
      rw [getCs_length] at e1
      rw [e1] at hx
      dsimp only at hx
      split at hx <;> (try cases hx)
      rename_i x1 h1
      have e2 : (getCs s.H (srcOf v).ids ++ getCs s.H (idsA r vs)).drop (srcOf v).ids.length = getCs s.H (idsA r vs) := by
        rw [← getCs_length s.H (srcOf v).ids]; simp
      rw [e2] at hx
      split at hx <;> cases hx
      rename_i y h2
      cases hu with
      | cons h3 h4 =>
        refine .cons ?_ (ofA_den h (more := []) rfl (fun i hi => hS i (by simp [hi])) (by rw [List.append_nil]; exact h2) h4)
        exact srcList_shows h h3 (fun i hi => hS i (by simp [hi])) h1
  | .cell e :: r, vs, more, x, us, hm, hS, hx, hu => by
    cases vs with
    | nil => simp [ofA] at hx
    | cons v vs =>
      simp only [idsA] at hS hx
      simp only [ofA] at hx
      split at hx <;> (try cases hx)
      rename_i x1 h1
      split at hx <;> cases hx
      rename_i y h2
      cases hu with
      | cons h3 h4 => exact .cons (Den2.mono ⟨froze_M h S, fun _ _ h => h, fun _ => Nat.le_refl _, fun _ _ _ => rfl⟩ (DT.of_den h1 h3)) (ofA_den h hm hS h2 h4)

/-- Results that name no memory. -/
def flat1 : SV1 → Bool
  | .int _ _ => true
  | .li _ _ => true
  | .sb _ => true
  | .lb _ => true
  | .str _ => true
  | _ => false
def flat2 : SV2 → Bool
  | .one x => flat1 x
  | .agg l => l.all flat1
  | .fn _ _ => false
theorem flat1_den {ρ ρ' : Ev} {x : SV1} (hx : flat1 x = true) {v : Value} (h : Den1 ρ x v) : Den1 ρ' x v := by
  cases x <;> simp [flat1] at hx <;> exact h
theorem flat1s_den {ρ ρ' : Ev} {l : List SV1} {vs : List Value} (hl : l.all flat1 = true) (h : All2 (Den1 ρ) l vs) : All2 (Den1 ρ') l vs := by
  induction h with
  | nil => exact .nil
  | cons h1 _ ih =>
    simp only [List.all_cons, Bool.and_eq_true] at hl
    exact .cons (flat1_den hl.1 h1) (ih hl.2)
theorem flat2_den {ρ ρ' : Ev} {x : SV2} (hx : flat2 x = true) {v : Value} (h : Den2 ρ x v) : Den2 ρ' x v := by
  cases x with
  | one x => exact flat1_den hx h
  | agg l => obtain ⟨vs, h1, h2⟩ := h; exact ⟨vs, h1, flat1s_den hx h2⟩
  | fn f l => cases hx
theorem flat2s_den {ρ ρ' : Ev} {l : List SV2} {vs : List Value} (hl : l.all flat2 = true) (h : All2 (Den2 ρ) l vs) : All2 (Den2 ρ') l vs := by
  induction h with
  | nil => exact .nil
  | cons h1 _ ih =>
    simp only [List.all_cons, Bool.and_eq_true] at hl
    exact .cons (flat2_den hl.1 h1) (ih hl.2)
theorem flatRes_den {ρ ρ' : Ev} {l : List SV2} (hl : l.all flat2 = true) {v : Value} (h : Den ρ (resOf l) v) : Den ρ' (resOf l) v := by
  unfold resOf at h ⊢
  split
  · simp only [List.all_cons, List.all_nil, Bool.and_true] at hl; exact flat2_den hl h
  · rename_i l h0
    split at h
    · rename_i x; exact absurd rfl (h0 x)
    · obtain ⟨vs, h1, h2⟩ := h; exact ⟨vs, h1, flat2s_den hl h2⟩

/-- The template, used where the rows stay as they are for the while of the call. -/
theorem lone_call {f : FuncId} {args0 : List SV} {v0 : SV} {H1 : List (Chunk A)} (hT : TmplOk P AI f args0 [] v0 H1) {tmps : Array Value} (h : Holds AI G s ρ tmps w) {us : List Value} (S : Nat → Prop) (hargs : ∀ ρc : Ev, ρc.M = (ρ.froze S w).M → All2 (Den ρc) args0 us) :
    Calls P f us.toArray w fun e w' => ∃ y ρr, e = .returned y ∧ Holds AI ⟨w, fun _ => False, 0, fun _ => .bool false, (ρ.froze S w).M, 0, fun _ => 0⟩ ⟨[], H1⟩ ρr #[] w' ∧ Den ρr v0 y := by
  let ρc : Ev := { root := fun _ => .bool false, ver := fun _ => 0, M := (ρ.froze S w).M, foot := fun _ => [] }
  refine hT ⟨w, fun _ => False, 0, fun _ => .bool false, (ρ.froze S w).M, 0, fun _ => 0⟩ ρc w us rfl rfl ?_ (hargs ρc rfl)
  refine ⟨rfl, (fun t x ht => by cases ht), fun j => ⟨rfl, rfl, rfl⟩, (fun _ _ _ _ h => by cases h), (fun _ _ h => by cases h), fun b o x hm => ⟨froze_cell h S b o x hm, fun i hi => by cases hi⟩, rfl, rfl, rfl, Nat.le_refl _, fun _ _ _ => rfl, (fun _ _ h => by cases h), (fun i b hi hb => by cases hb), (fun i hi => absurd hi (Nat.not_lt_zero i)), fun _ _ _ hm => hm, fun b o x hm => .inl hm⟩

def PureSpec.conA (k : PureSpec) : Con A := fun args _ => some ⟨idsA k.ds args, 0, false, fun cs _ => match ofA k.ds args cs with
  | some x => .done (fun _ => k.pre (x ())) (resOf (svs k.rs (fun _ => k.f (x ())))) cs
  | none => .fail⟩

/-- A function of data whose results name no memory: its slices may be rows. -/
theorem PureSpec.soundA {fn : FuncId} {k : PureSpec} (hen : Enters P fn) (hk : k.Ok P AI fn) (hflat : ∀ x, (svs k.rs x).all flat2 = true) : ConSound P AI fn k.conA := by
  refine ⟨hen, fun args fresh p hp _ H d C v cs he => ?_, fun G s ρ tmps w args us fresh p d C v cs h hargs hp hfr he hC => ?_⟩
  · cases hp
    dsimp only at he
    split at he
    · simp at he; exact he.2.2.symm
    · simp at he
  · cases hp
    dsimp only at he ⊢
    split at he <;> (try (simp at he; done))
    rename_i x hx
    simp at he
    obtain ⟨rfl, rfl, rfl⟩ := he
    have hd := ofA_den h (S := fun i => i ∈ idsA k.ds args) (more := []) rfl (fun _ hi => hi) (by rw [List.append_nil]; exact hx) hargs
    refine (lone_call (hk (x ()) hC) h (fun i => i ∈ idsA k.ds args) (us := us) fun ρc hM => argS_den hd hM).mono ?_
    rintro e w' ⟨y, ρr, rfl, h1, h2⟩
    refine ⟨y, ρ, rfl, (h.grown (fun b hb => h1.kept b hb (fun h => h)) h1.os h1.tape h1.output h1.grow).congrH (putCs_self _ _ _ fun _ => rfl), flatRes_den (hflat _) h2, .refl _⟩

/-! ### functions that make a new row out of what they read -/
def Ty.flat : Ty → Bool
  | .bytes => false
  | .lst _ => false
  | .pair a b => a.flat && b.flat
  | _ => true
theorem CellsM.flat {M M' : Mem} : ∀ {e : Ty} {x : e.T} {c : Nat → Option Value}, e.flat = true → CellsM M e x c → CellsM M' e x c
  | .int _, _, _, _, h => h
  | .bool, _, _, _, h => h
  | .str, _, _, _, h => h
  | .unit, _, _, _, _ => trivial
  | .pair a b, _, _, hf, h => by
    simp only [Ty.flat, Bool.and_eq_true] at hf
    exact ⟨CellsM.flat hf.1 h.1, CellsM.flat hf.2 h.2⟩
theorem RowAt.flat {M M' : Mem} {e : Ty} (he : e.flat = true) {L : List e.T} {r : Value} {F : List Nat} (h : RowAt M w e L r F) : RowAt M' w e L r F := by
  rcases h with h | ⟨b, off, cap, h1, h2, h3, h4, h5, h6⟩
  · exact .inl h
  · exact .inr ⟨b, off, cap, h1, h2, h3, h4, fun j x hj => (h5 j x hj).flat he, h6⟩

structure RowSpec where
  ds : List DT
  et : TypeId
  e : Ty
  pre : Tup ds → Prop
  f : Tup ds → List e.T

def RowSpec.con (k : RowSpec) : Con A := fun args fresh => match (idsA k.ds args).any (beqN fresh) with
  | true => none
  | false => some ⟨idsA k.ds args ++ [fresh], 1, true, fun cs _ => match takeN cs (idsA k.ds args).length with
    | some c1 => (match cs.drop (idsA k.ds args).length with
      | [.emp] => (match ofA k.ds args c1 with
        | some x => .done (fun _ => k.pre (x ())) (one (.hd fresh 0)) (c1 ++ [.row k.et k.e 0 (fun _ => k.f (x ()))])
        | none => .fail)
      | _ => .fail)
    | none => .fail⟩

def RowSpec.Ok (P : Program) (AI : Abs A) (fn : FuncId) (k : RowSpec) : Prop :=
  ∀ x, k.pre x → TmplOk P AI fn (argS k.ds (fun _ => x)) [] (one (.hd 0 0)) [.row k.et k.e 0 (fun _ => k.f x)]

theorem putCs_append : ∀ (l m : List Nat) (H : List (Chunk A)) (c d : List (Chunk A)), c.length = l.length → putCs H (l ++ m) (c ++ d) = putCs (putCs H l c) m d
  | [], m, H, c, d, h => by
    have : c = [] := List.eq_nil_of_length_eq_zero h
    subst this
    cases m <;> cases d <;> rfl
  | i :: l, m, H, c, d, h => by
    cases c with
    | nil => simp at h
    | cons x c =>
      simp only [List.cons_append, putCs]
      exact putCs_append l m _ c d (by simpa using h)

theorem RowSpec.sound {fn : FuncId} {k : RowSpec} (hen : Enters P fn) (hk : k.Ok P AI fn) (hflat : k.e.flat = true) : ConSound P AI fn k.con := by
  refine ⟨hen, fun args fresh p hp hw => ?_, fun G s ρ tmps w args us fresh p d C v cs h hargs hp hfr he hC => ?_⟩
  · unfold RowSpec.con at hp
    split at hp <;> cases hp
    simp at hw
  · unfold RowSpec.con at hp
    split at hp <;> cases hp
    rename_i hany
    have hemp : getC s.H fresh = .emp := hfr fresh (by simp) (Nat.le_refl _)
    dsimp only at he ⊢
    rw [getCs_append] at he
    have e1 := takeN_app (getCs s.H (idsA k.ds args)) (getCs s.H [fresh])
    rw [getCs_length] at e1
    rw [e1] at he
    have e2 : (getCs s.H (idsA k.ds args) ++ getCs s.H [fresh]).drop (idsA k.ds args).length = [.emp] := by
      rw [← getCs_length s.H (idsA k.ds args)]; simp [getCs, hemp]
    rw [e2] at he
    dsimp only at he
    split at he <;> (try (simp at he; done))
    rename_i x hx
    simp at he
    obtain ⟨rfl, rfl, rfl⟩ := he
    have hd := ofA_den h (S := fun i => i ∈ idsA k.ds args) (more := []) rfl (fun _ hi => hi) (by rw [List.append_nil]; exact hx) hargs
    refine (lone_call (hk (x ()) hC) h (fun i => i ∈ idsA k.ds args) (us := us) fun ρc hM => argS_den hd hM).mono ?_
    rintro e w' ⟨y, ρr, rfl, h1, h2⟩
    obtain ⟨h3, h4⟩ := h1.ch 0
    obtain ⟨h5, h6, h7⟩ := h2
    have h7 := h7 h3
    have hc := h.ch fresh
    rw [hemp] at hc
    obtain ⟨hc1, hc2, hc3⟩ := hc
    obtain ⟨h8, h9⟩ := h.upd1 fresh y 0 (ρr.foot 0) (.row k.et k.e 0 (fun _ => k.f (x ()))) w' (by rw [hc2]; simp) (by omega) (by rw [hc2]; simp) (fun b hb => ⟨.inr ((h1.fro 0 b hb).resolve_left fun h => h), h1.lt 0 b hb⟩) (fun b hb _ => h1.kept b hb fun h => h) h1.os h1.tape h1.output h1.grow
      ⟨by simp [Ev.upd], by
        have e3 : (ρ.upd fresh y 0 (ρr.foot 0)).root fresh = y := by simp [Ev.upd]
        have e4 : (ρ.upd fresh y 0 (ρr.foot 0)).foot fresh = ρr.foot 0 := by simp [Ev.upd]
        rw [e3, e4, h7]
        exact h4.flat hflat⟩
    refine ⟨y, _, rfl, h8.congrH fun j => ?_, ⟨h5, by simp [Ev.upd], fun _ => by simp [Ev.upd]⟩, h9⟩
    rw [putCs_append _ _ _ _ _ (getCs_length _ _)]
    simp only [putCs, getC_putC]
    rw [putCs_self _ _ s.H fun _ => rfl]

end Go.Sx
