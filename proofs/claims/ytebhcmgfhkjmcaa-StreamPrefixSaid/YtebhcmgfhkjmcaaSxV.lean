/-
  Symbolic execution: contracts of functions whose arguments and results are data.
-/
import Derived.Test.YtebhcmgfhkjmcaaSxU
namespace Go.Sx
set_option linter.all false
set_option linter.unusedVariables false
set_option linter.unusedSimpArgs false
set_option linter.unusedSectionVars false
open Go.RowKit

variable {A : Type} {AI : Abs A} {G : Fr} {s : SS A} {ρ : Ev} {a : Act} {w : World} {P : Program}

/-- What an argument or a result is, seen as data. -/
inductive DT where
  | cell (e : Ty)
  | lst (e : Ty)
abbrev DT.T : DT → Type
  | .cell e => e.T
  | .lst e => List e.T
def DT.sv : (d : DT) → U d.T → SV2
  | .cell e, x => (match elV e x with | some y => y | none => .one .any)
  | .lst e, L => .one (.ro e L)
def DT.of : (d : DT) → SV → Option (U d.T)
  | .cell e, v => (match aggV v == e.agg with | true => velt e v | false => none)
  | .lst e, .val (.one (.ro e' L)) => (match castL e' e with | some f => some (fun _ => f (L ())) | none => none)
  | .lst _, .val (.one .nilS) => some (fun _ => [])
  | _, _ => none
abbrev Tup : List DT → Type
  | [] => Unit
  | d :: r => d.T × Tup r
def svs : (ds : List DT) → U (Tup ds) → List SV2
  | [], _ => []
  | d :: r, x => d.sv (fun _ => (x ()).1) :: svs r (fun _ => (x ()).2)
def ofs : (ds : List DT) → List SV → Option (U (Tup ds))
  | [], [] => some (fun _ => ())
  | d :: r, v :: vs => (match d.of v with
    | some x => (match ofs r vs with
      | some y => some (fun _ => (x (), y ()))
      | none => none)
    | none => none)
  | _, _ => none
def argS (ds : List DT) (x : U (Tup ds)) : List SV := (svs ds x).map .val

theorem dec_closed : ∀ (e : Ty) (x : U e.T), (dec e x).all closed1 = true
  | .int _, _ => rfl
  | .bool, _ => rfl
  | .bytes, _ => rfl
  | .lst _, _ => rfl
  | .str, _ => rfl
  | .unit, _ => rfl
  | .pair a b, x => by simp only [dec, List.all_append, dec_closed a, dec_closed b]; rfl
theorem elV_closed {e : Ty} {x : U e.T} {y : SV2} (h : elV e x = some y) : closed2 y = true := by
  have hc := dec_closed e x
  unfold elV at h
  split at h
  · cases h; exact hc
  · split at h
    · rename_i z hz; cases h; rw [hz] at hc; simp only [List.all_cons, List.all_nil, Bool.and_true] at hc; exact hc
    · cases h
theorem DT.sv_closed : ∀ (d : DT) (x : U d.T), closed2 (d.sv x) = true
  | .cell e, x => by
    simp only [DT.sv]
    split
    · rename_i y hy; exact elV_closed hy
    · rfl
  | .lst e, x => rfl
theorem svs_closed : ∀ (ds : List DT) (x : U (Tup ds)), (svs ds x).all closed2 = true
  | [], _ => rfl
  | d :: r, x => by simp only [svs, List.all_cons, DT.sv_closed, svs_closed r]; rfl

theorem DT.of_den {d : DT} {v : SV} {x : U d.T} (h : d.of v = some x) {u : Value} (hu : Den ρ v u) : Den2 ρ (d.sv x) u := by
  unfold DT.of at h
  split at h
  · split at h <;> (try cases h)
    rename_i hb
    have hv := velt_den (ρ := ρ) h (by simpa using hb) hu
    simp only [DT.sv]
    split
    · rename_i y hy; exact elV_den hy hv
    · trivial
  · split at h <;> cases h
    rename_i f hf
    obtain ⟨rfl, h1⟩ := castL_id hf
    have hu : ShowsM ρ.M _ _ u := hu
    show ShowsM ρ.M _ _ u
    dsimp only
    rw [h1]; exact hu
  · cases h
    have hu : u = .slice none 0 0 := hu
    subst hu
    exact ⟨none, 0, rfl, by simp, by simp⟩
  · cases h
theorem ofs_den : ∀ {ds : List DT} {vs : List SV} {x : U (Tup ds)} {us : List Value}, ofs ds vs = some x → All2 (Den ρ) vs us → All2 (Den2 ρ) (svs ds x) us
  | [], [], x, us, h, hu => by cases hu; exact .nil
  | d :: r, v :: vs, x, us, h, hu => by
    simp only [ofs] at h
    split at h <;> (try cases h)
    rename_i x1 h1
    split at h <;> cases h
    rename_i y h2
    cases hu with
    | cons h3 h4 => exact .cons (DT.of_den h1 h3) (ofs_den h2 h4)
  | [], _ :: _, _, _, h, _ => by cases h
  | _ :: _, [], _, _, h, _ => by cases h

theorem argS_den {ds : List DT} {x : U (Tup ds)} {us : List Value} (h : All2 (Den2 ρ) (svs ds x) us) {ρ' : Ev} (hM : ρ'.M = ρ.M) : All2 (Den ρ') (argS ds x) us := by
  have h1 := closed2s_den hM (svs_closed ds x) h
  unfold argS
  generalize svs ds x = l at h1
  clear h
  induction h1 with
  | nil => exact .nil
  | cons h2 _ ih => exact .cons h2 ih

/-- The run of a call enters the function. -/
def Enters (P : Program) (f : FuncId) : Prop := ∀ args w, (callFunc f args).run P w = .ok (.enter f args) w

/-! ### functions of data -/
structure PureSpec where
  ds : List DT
  pre : Tup ds → Prop
  rs : List DT
  f : Tup ds → Tup rs

def PureSpec.con (k : PureSpec) : Con A := fun args _ => match ofs k.ds args with
  | some x => some ⟨[], 0, false, fun _ _ => .done (fun _ => k.pre (x ())) (resOf (svs k.rs (fun _ => k.f (x ())))) []⟩
  | none => none

def PureSpec.Ok (P : Program) (AI : Abs A) (fn : FuncId) (k : PureSpec) : Prop :=
  ∀ x, k.pre x → TmplOk P AI fn (argS k.ds (fun _ => x)) [] (resOf (svs k.rs (fun _ => k.f x))) []

theorem resOf_closed {l : List SV2} (h : l.all closed2 = true) : closedV (resOf l) = true := by
  unfold resOf
  split
  · simp only [List.all_cons, List.all_nil, Bool.and_true] at h; exact h
  · exact h

theorem PureSpec.sound {fn : FuncId} {k : PureSpec} (hen : Enters P fn) (hk : k.Ok P AI fn) : ConSound P AI fn k.con := by
  refine ⟨hen, fun args fresh p hp _ H d C v cs he => ?_, fun G s ρ tmps w args us fresh p d C v cs h hargs hp hfr he hC => ?_⟩
  · unfold PureSpec.con at hp
    split at hp <;> cases hp
    simp at he
    simp [getCs, he]
  · unfold PureSpec.con at hp
    split at hp <;> cases hp
    rename_i x hx
    simp at he
    obtain ⟨rfl, rfl, rfl⟩ := he
    have hd := ofs_den hx hargs
    refine (frame_call (hk (x ()) hC) (s := s) (H' := s.H) (ids := []) (news := []) h (by simp) rfl (by simp) (by simp) (by simp) (fun _ _ => rfl) (us := us) (fun ρc hM _ => argS_den hd hM)
      (v := resOf (svs k.rs (fun _ => k.f (x ())))) (fun ρc ρ' hM _ _ y hy => closedV_den hM (resOf_closed (svs_closed _ _)) hy)).mono ?_
    rintro e w' ⟨y, ρ', rfl, h1, h2, h3⟩
    exact ⟨y, ρ', rfl, h1, h2, h3⟩

/-! ### methods -/
structure MethSpec (A : Type) where
  S : Type
  sel : A → Option (U S)
  put : U S → A
  ro : Bool                       -- leaves the object as it is
  ds : List DT
  pre : S → Tup ds → Prop
  rs : List DT
  f : S → Tup ds → Tup rs
  next : S → Tup ds → S

def MethSpec.con (k : MethSpec A) : Con A := fun args _ => match args with
  | .val (.one (.ptr i 0)) :: args => (match ofs k.ds args with
    | some x => some ⟨[i], 0, !k.ro, fun cs _ => match cs with
      | [.abs a] => (match k.sel a with
        | some W => (match k.ro with
          | true => .done (fun _ => k.pre (W ()) (x ())) (resOf (svs k.rs (fun _ => k.f (W ()) (x ())))) [.abs a]
          | false => .done (fun _ => k.pre (W ()) (x ())) (resOf (svs k.rs (fun _ => k.f (W ()) (x ())))) [.abs (k.put (fun _ => k.next (W ()) (x ())))])
        | none => .fail)
      | _ => .fail⟩
    | none => none)
  | _ => none

structure MethSpec.Ok (P : Program) (AI : Abs A) (fn : FuncId) (k : MethSpec A) : Prop where
  sel : ∀ a W, k.sel a = some W → a = k.put (fun _ => W ())
  ro : k.ro = true → ∀ W x, k.next W x = W
  ok : ∀ W x, k.pre W x → TmplOk P AI fn (one (.ptr 0 0) :: argS k.ds (fun _ => x)) [.abs (k.put (fun _ => W))] (resOf (svs k.rs (fun _ => k.f W x))) [.abs (k.put (fun _ => k.next W x))]

theorem MethSpec.sound {fn : FuncId} {k : MethSpec A} (hen : Enters P fn) (hk : k.Ok P AI fn) : ConSound P AI fn k.con := by
  refine ⟨hen, fun args fresh p hp hw H d C v cs he => ?_, fun G s ρ tmps w args us fresh p d C v cs h hargs hp hfr he hC => ?_⟩
  · unfold MethSpec.con at hp
    split at hp <;> (try cases hp)
    split at hp <;> cases hp
    simp at hw
    simp only [getCs, hw] at he ⊢
    split at he <;> (try (simp at he; done))
    rename_i a heq
    split at he <;> (try (simp at he; done))
    simp at he
    rw [← he.2.2, heq]
  · unfold MethSpec.con at hp
    split at hp <;> (try cases hp)
    rename_i i args
    split at hp <;> cases hp
    rename_i x hx
    simp only [getCs] at he
    generalize hg : getC s.H i = c at he
    cases c <;> (try (simp at he; done))
    rename_i a
    dsimp only at he
    split at he <;> (try (simp at he; done))
    rename_i W hW
    have ha := hk.sel a W hW
    obtain ⟨rfl, rfl, hcs⟩ : C = (fun _ => k.pre (W ()) (x ())) ∧ v = resOf (svs k.rs (fun _ => k.f (W ()) (x ()))) ∧ cs = [.abs (k.put (fun _ => k.next (W ()) (x ())))] := by
      split at he
      · rename_i hro
        simp at he
        obtain ⟨rfl, rfl, rfl⟩ := he
        refine ⟨rfl, rfl, ?_⟩
        rw [hk.ro hro, ← ha]
      · simp at he
        obtain ⟨rfl, rfl, rfl⟩ := he
        exact ⟨rfl, rfl, rfl⟩
    subst hcs
    cases hargs with
    | @cons _ u _ us hu hargs =>
    have hd := ofs_den hx hargs
    obtain ⟨b, hb1, hb2⟩ := hu
    refine (frame_call (hk.ok (W ()) (x ()) hC) (s := s) (H' := putC s.H i (.abs (k.put (fun _ => k.next (W ()) (x ()))))) (ids := [i]) (news := []) h (by simp) rfl (by simp) (fun j i' hj => ?_) (by simp) (fun i' hi' => by
        rw [getC_putC, if_neg (by simpa using hi')]) (us := u :: us) (fun ρc hM hr => ?_)
      (v := resOf (svs k.rs (fun _ => k.f (W ()) (x ())))) (fun ρc ρ' hM _ _ y hy => closedV_den hM (resOf_closed (svs_closed _ _)) hy)).mono ?_
    · cases j with
      | zero =>
        simp at hj
        subst hj
        exact .inl ⟨a, _, hg, by rw [getC_putC, if_pos rfl], by rw [ha]; rfl, rfl⟩
      | succ j => simp at hj
    · refine .cons ?_ (argS_den hd hM)
      obtain ⟨h1, h2⟩ := hr 0 i rfl
      exact ⟨b, by rw [h1]; exact hb1, hb2⟩
    · rintro e w' ⟨y, ρ', rfl, h1, h2, h3⟩
      exact ⟨y, ρ', rfl, h1, h2, h3⟩

/-! ### constructors -/
structure NewSpec (A : Type) where
  ds : List DT
  c : Tup ds → Bool
  rs : List DT
  f : Tup ds → Tup rs
  put : U (Tup ds) → A

def NewSpec.con (k : NewSpec A) : Con A := fun args fresh => match ofs k.ds args with
  | some x => some ⟨[fresh], 1, true, fun cs d => match cs with
    | [.emp] => (match d with
      | true :: _ => .done (fun _ => k.c (x ()) = true) (resOf (.one (.ptr fresh 0) :: svs k.rs (fun _ => k.f (x ())))) [.abs (k.put x)]
      | false :: _ => .done (fun _ => k.c (x ()) = false) (resOf (.one .nilP :: svs k.rs (fun _ => k.f (x ())))) [.emp]
      | [] => .need (fun _ => k.c (x ())))
    | _ => .fail⟩
  | none => none

structure NewSpec.Ok (P : Program) (AI : Abs A) (fn : FuncId) (k : NewSpec A) : Prop where
  put : ∀ x, k.put x = k.put (fun _ => x ())
  yes : ∀ x, k.c x = true → TmplOk P AI fn (argS k.ds (fun _ => x)) [] (resOf (.one (.ptr 0 0) :: svs k.rs (fun _ => k.f x))) [.abs (k.put (fun _ => x))]
  no : ∀ x, k.c x = false → TmplOk P AI fn (argS k.ds (fun _ => x)) [] (resOf (.one .nilP :: svs k.rs (fun _ => k.f x))) []

theorem Den_ptr_cons {ρ ρ' : Ev} {x y : SV2} (hxy : ∀ u, Den2 ρ x u → Den2 ρ' y u) (hM : ρ'.M = ρ.M) {l : List SV2} (hl : l.all closed2 = true) {u : Value} (h : Den ρ (resOf (x :: l)) u) : Den ρ' (resOf (y :: l)) u := by
  cases l with
  | nil => exact hxy _ h
  | cons z l =>
    obtain ⟨vs, h1, h2⟩ := h
    cases h2 with
    | cons h3 h4 => exact ⟨_, h1, .cons (hxy _ h3) (closed2s_den hM hl h4)⟩

theorem NewSpec.sound {fn : FuncId} {k : NewSpec A} (hen : Enters P fn) (hk : k.Ok P AI fn) : ConSound P AI fn k.con := by
  refine ⟨hen, fun args fresh p hp hw H d C v cs he => ?_, fun G s ρ tmps w args us fresh p d C v cs h hargs hp hfr he hC => ?_⟩
  · unfold NewSpec.con at hp
    split at hp <;> cases hp
    simp at hw
  · unfold NewSpec.con at hp
    split at hp <;> cases hp
    rename_i x hx
    have hemp : getC s.H fresh = .emp := hfr fresh (by simp) (Nat.le_refl _)
    simp only [getCs, hemp] at he
    have hd := ofs_den hx hargs
    split at he <;> (try (simp at he; done))
    · simp at he
      obtain ⟨rfl, rfl, rfl⟩ := he
      refine (frame_call (hk.yes (x ()) hC) (s := s) (H' := putC s.H fresh (.abs (k.put x))) (ids := []) (news := [fresh]) h (by simp) rfl (fun i hi => by simp at hi; subst hi; exact hemp) (by simp) (fun j i hj => ?_) (fun i' hi' => by
          rw [getC_putC, if_neg (by simpa using hi')]) (us := us) (fun ρc hM hr => argS_den hd hM)
        (v := resOf (.one (.ptr fresh 0) :: svs k.rs (fun _ => k.f (x ())))) (fun ρc ρ' hM hr _ y hy => Den_ptr_cons (fun u hu => ?_) hM (svs_closed _ _) hy)).mono ?_
      · cases j with
        | zero =>
          simp at hj
          subst hj
          exact ⟨by rw [getC_putC, if_pos rfl, hk.put]; rfl, (fun t cs => by simp [getC, nth]), fun ks e L R c q => by simp [getC, nth]⟩
        | succ j => simp at hj
      · obtain ⟨b, h1, h2⟩ := hu
        exact ⟨b, by rw [hr 0 fresh rfl]; exact h1, h2⟩
      · rintro e w' ⟨y, ρ', rfl, h1, h2, h3⟩
        exact ⟨y, ρ', rfl, h1, h2, h3⟩
    · simp at he
      obtain ⟨rfl, rfl, rfl⟩ := he
      refine (frame_call (hk.no (x ()) hC) (s := s) (H' := putC s.H fresh .emp) (ids := []) (news := []) h (by simp) rfl (by simp) (by simp) (by simp) (fun i' _ => by
          rw [getC_putC]; split
          · rename_i e; rw [e, hemp]
          · rfl) (us := us) (fun ρc hM hr => argS_den hd hM)
        (v := resOf (.one .nilP :: svs k.rs (fun _ => k.f (x ())))) (fun ρc ρ' hM hr _ y hy => Den_ptr_cons (ρ := ρc) (ρ' := ρ') (x := .one .nilP) (y := .one .nilP) (fun u hu => hu) hM (svs_closed _ _) hy)).mono ?_
      rintro e w' ⟨y, ρ', rfl, h1, h2, h3⟩
      exact ⟨y, ρ', rfl, h1, h2, h3⟩

/-- One contract or, for other arguments, the other. -/
def orCon (k l : Con A) : Con A := fun args fresh => match k args fresh with
  | some p => some p
  | none => l args fresh
theorem orCon_sound {fn : FuncId} {k l : Con A} (hk : ConSound P AI fn k) (hl : ConSound P AI fn l) : ConSound P AI fn (orCon k l) := by
  refine ⟨hk.1, fun args fresh p hp => ?_, fun G s ρ tmps w args us fresh p d C v cs h hargs hp => ?_⟩
  · unfold orCon at hp
    split at hp
    · rename_i h1; cases hp; exact hk.2.1 args fresh _ h1
    · exact hl.2.1 args fresh p hp
  · unfold orCon at hp
    split at hp
    · rename_i h1; cases hp; exact hk.2.2 G s ρ tmps w args us fresh _ d C v cs h hargs h1
    · exact hl.2.2 G s ρ tmps w args us fresh p d C v cs h hargs hp

theorem EnvOk.add {E : Env A} (hE : EnvOk P AI E) {f : FuncId} {k : Con A} (hk : ConSound P AI f k) : EnvOk P AI ⟨E.ti, (f, k) :: E.con⟩ := by
  refine ⟨hE.ti, fun g l h => ?_⟩
  dsimp only at h
  rw [look_cons] at h
  split at h
  · rename_i e; cases h; subst e; exact hk
  · exact hE.con g l h

end Go.Sx
