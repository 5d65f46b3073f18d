/-
  Symbolic execution: a function's body; a contract in another state.
-/
import Derived.Test.YtebhcmgfhkjmcaaSxR
namespace Go.Sx
set_option linter.all false
set_option linter.unusedVariables false
set_option linter.unusedSimpArgs false
set_option linter.unusedSectionVars false
open Go.RowKit

variable {A : Type} {AI : Abs A} {G : Fr} {s : SS A} {ρ : Ev} {a : Act} {w : World} {P : Program}

theorem look_argT : ∀ {n : Nat} {l : List SV} {t : Nat} {v : SV}, look (argT n l) t = some v → n ≤ t ∧ l[t - n]? = some v
  | n, [], t, v, h => by cases h
  | n, x :: r, t, v, h => by
    simp only [argT] at h
    rw [look_cons] at h
    split at h
    · rename_i e
      subst e
      cases h
      exact ⟨Nat.le_refl _, by simp⟩
    · rename_i e
      obtain ⟨h1, h2⟩ := look_argT h
      refine ⟨by omega, ?_⟩
      rw [show t - n = (t - (n + 1)) + 1 by omega, List.getElem?_cons_succ]; exact h2

/-- The state at a function's entry. -/
theorem Holds.enter {H : List (Chunk A)} {tmps0 : Array Value} (h : Holds AI G ⟨[], H⟩ ρ tmps0 w) {args : List SV} {us : List Value} (hd : All2 (Den ρ) args us) {n : Nat} (hn : us.length ≤ n) :
    Holds AI { G with size := n } ⟨argT 0 args, H⟩ ρ (us.toArray ++ Array.replicate (n - us.toArray.size) undef) w := by
  refine ⟨by simp; omega, fun t v ht => ?_, h.ch, h.dis, h.lt, h.im, h.os, h.tape, h.output, h.grow, h.kept, h.fro, h.rt, h.rts, h.mono, h.mfr⟩
  obtain ⟨_, h1⟩ := look_argT ht
  rw [Nat.sub_zero, ← nth_eq] at h1
  obtain ⟨u, h2, h3⟩ := hd.nth h1
  refine ⟨u, ?_, h3⟩
  have hlt := (List.getElem?_eq_some_iff.1 h2).1
  rw [Array.getElem?_append_left (by simpa using hlt)]
  simpa using h2

def rvOf (tmps : Array Value) : ResultVar → Go.Sem Value
  | .tmp t => pure (tmps.getD t undef)
  | .cell x t => do loadVar t (← asAddr (tmps.getD x undef))

theorem resV_sound {ti : List (Nat × TI)} (hT : TIok P ti) (h : Holds AI G s ρ a.tmps w) : ∀ {rs : List ResultVar} {l : List SV2}, resV ti s rs = some l → ∃ vs : List Value, All2 (Den2 ρ) l vs ∧
    (rs.mapM (rvOf a.tmps)).run P w = .ok vs w
  | [], l, h' => by simp [resV] at h'; subst h'; exact ⟨[], .nil, by simp⟩
  | .tmp t :: r, l, h' => by
    simp only [resV] at h'
    split at h' <;> (try cases h')
    rename_i x hx
    split at h' <;> cases h'
    rename_i l' hl'
    obtain ⟨vs, h1, h2⟩ := resV_sound hT h hl'
    obtain ⟨u, h3, h4⟩ := h.tm t _ hx
    refine ⟨u :: vs, .cons h4 h1, ?_⟩
    have h5 : (rvOf a.tmps (.tmp t)).run P w = .ok u w := by simp [rvOf, h3]
    rw [List.mapM_cons, Sem.run_bind, h5]
    simp only [Result.andThen, Sem.run_bind, h2]
    rfl
  | .cell y t :: r, l, h' => by
    simp only [resV] at h'
    split at h' <;> (try cases h')
    rename_i i off hx
    split at h' <;> (try cases h')
    rename_i ct cs hcs
    split at h' <;> (try cases h')
    rename_i j hj
    split at h' <;> (try cases h')
    rename_i x hx2
    split at h' <;> cases h'
    rename_i l' hl'
    obtain ⟨vs, h1, h2⟩ := resV_sound hT h hl'
    obtain ⟨u, h3, h4⟩ := h.tm y _ hx
    obtain ⟨b, h5, h6⟩ := h4
    have hc := h.ch i
    rw [hcs] at hc
    obtain ⟨b', us, h7, h8, h9, h10⟩ := hc
    rw [h5] at h7
    cases h7
    obtain ⟨z, h11, h12⟩ := load_part (P := P) (w := w) (hT t j hj) h10 hx2 (b := b) (off := 0) (fun k v hk => by simp [World.cell?, h9, hk])
    have h13 : (loadVar t ⟨b, off, none⟩).run P w = .ok z w := by
      have : (Instr.loadAt t (.pointer (some ⟨b, 0 + off, none⟩))).run P w = (loadVar t ⟨b, off, none⟩).run P w := by simp [Instr.loadAt, Instr.sureAddr]
      rw [← this]; exact h11
    refine ⟨z :: vs, .cons h12 h1, ?_⟩
    have h14 : (rvOf a.tmps (.cell y t)).run P w = .ok z w := by simp [rvOf, h3, h6, asAddr, h13]
    rw [List.mapM_cons, Sem.run_bind, h14]
    simp only [Result.andThen, Sem.run_bind, h2]
    rfl

/-- What a function does, its arguments and chunks numbered from 0 on. -/
def TmplOk (P : Program) (AI : Abs A) (f : FuncId) (args : List SV) (H0 : List (Chunk A)) (v : SV) (H1 : List (Chunk A)) : Prop :=
  ∀ (G : Fr) (ρ : Ev) (w : World) (us : List Value), G.n0 = H0.length → G.size = 0 → Holds AI G ⟨[], H0⟩ ρ #[] w → All2 (Den ρ) args us →
    Calls P f us.toArray w fun e w' => ∃ y ρ', e = .returned y ∧ Holds AI G ⟨[], H1⟩ ρ' #[] w' ∧ Den ρ' v y

theorem results_sound {ti : List (Nat × TI)} (hT : TIok P ti) (hh : Holds AI G s ρ a.tmps w) {fn : Func} {l : List SV2} (hl : resV ti s fn.results.toList = some l) : ∃ y, (results fn a.tmps).run P w = .ok y w ∧ Den ρ (resOf l) y := by
  obtain ⟨vs, h1, h2⟩ := resV_sound hT hh hl
  have h3 : (fn.results.mapM (rvOf a.tmps)).run P w = .ok vs.toArray w := by
    rw [Array.mapM_eq_mapM_toList]
    show (List.toArray <$> _ : Go.Sem _).run P w = _
    rw [map_eq_pure_bind, Sem.run_bind, h2]
    rfl
  refine ⟨if h : vs.toArray.size = 1 then vs.toArray[0] else .tuple vs.toArray, ?_, ?_⟩
  · have h4 : results fn a.tmps = (do let vs ← fn.results.mapM (rvOf a.tmps); pure (if h : vs.size = 1 then vs[0] else .tuple vs)) := by
      unfold results
      first
        | rfl
        | (congr 1; done)
        | (congr 1; congr 1; funext r; cases r <;> rfl)
    rw [h4, Sem.run_bind, h3]
    rfl
  · cases h1 with
    | nil => exact ⟨[], by simp, .nil⟩
    | cons hx hr =>
      cases hr with
      | nil => simpa [resOf, Den] using hx
      | cons hy hr => exact ⟨_, by simp, .cons hx (.cons hy hr)⟩

theorem bodyPost_of {E : Env A} [SubA A] (hT : TIok P E.ti) {fn : Func} {n0 : Nat} (hn0 : G.n0 = n0) {v : SV} {H1 : List (Chunk A)} {e : XE} {s' : SS A} (h : finP E.ti n0 fn.results.toList v H1 e s') {R : Ending → World → Prop}
    (hR : ∀ y ρ' w', Holds AI { G with size := 0 } ⟨[], H1⟩ ρ' #[] w' → Den ρ' v y → R (.returned y) w') : Then AI G s' (bodyPost P fn R e.out) := by
  have key : ∀ l, resV E.ti s' fn.results.toList = some l → Sub n0 ⟨[(0, resOf l)], s'.H⟩ ⟨[(0, v)], H1⟩ → ∀ (a' : Act) (w' : World), a'.defers = [] → (∃ ρ', Holds AI G s' ρ' a'.tmps w') → a'.defers = [] ∧ ∃ y, (results fn a'.tmps).run P w' = .ok y w' ∧ R (.returned y) w' := by
    rintro l hl hsub a' w' hd ⟨ρ', hh⟩
    obtain ⟨vs, h1, h2⟩ := resV_sound hT hh hl
    have hres : ∃ y, (results fn a'.tmps).run P w' = .ok y w' ∧ Den ρ' (resOf l) y := by
      have h3 : (fn.results.mapM (rvOf a'.tmps)).run P w' = .ok vs.toArray w' := by
        rw [Array.mapM_eq_mapM_toList]
        show (List.toArray <$> _ : Go.Sem _).run P w' = _
        rw [map_eq_pure_bind, Sem.run_bind, h2]
        rfl
      refine ⟨if h : vs.toArray.size = 1 then vs.toArray[0] else .tuple vs.toArray, ?_, ?_⟩
      · have h4 : results fn a'.tmps = (do let vs ← fn.results.mapM (rvOf a'.tmps); pure (if h : vs.size = 1 then vs[0] else .tuple vs)) := by
          unfold results
          first
            | rfl
            | (congr 1; done)
            | (congr 1; congr 1; funext r; cases r <;> rfl)
        rw [h4, Sem.run_bind, h3]
        rfl
      · cases h1 with
        | nil => exact ⟨[], by simp, .nil⟩
        | cons hx hr =>
          cases hr with
          | nil => simpa [resOf, Den] using hx
          | cons hy hr => exact ⟨_, by simp, .cons hx (.cons hy hr)⟩
    obtain ⟨y, h3, h4⟩ := hres
    refine ⟨hd, y, h3, ?_⟩
    let G1 : Fr := { G with size := 1 }
    have h5 : Sat AI G1 ⟨[(0, resOf l)], s'.H⟩ ⟨#[y], []⟩ w' := by
      refine ⟨rfl, ρ', ⟨rfl, fun t x ht => ?_, hh.ch, hh.dis, hh.lt, hh.im, hh.os, hh.tape, hh.output, hh.grow, hh.kept, hh.fro, hh.rt, hh.rts, hh.mono, hh.mfr⟩⟩
      rw [look_cons] at ht
      split at ht
      · rename_i e; subst e; cases ht; exact ⟨y, rfl, h4⟩
      · cases ht
    obtain ⟨_, ρ2, h6⟩ := hsub.sound (G := G1) hn0 h5
    obtain ⟨u, h7, h8⟩ := h6.tm 0 v (by simp [look])
    simp at h7
    subst h7
    refine hR y ρ2 w' ⟨rfl, (fun t x ht => by cases ht), h6.ch, h6.dis, h6.lt, h6.im, h6.os, h6.tape, h6.output, h6.grow, h6.kept, h6.fro, h6.rt, h6.rts, h6.mono, h6.mfr⟩ h8
  cases e with
  | exit id => exact (Failed.elim h)
  | normal =>
    simp only [finP] at h
    split at h
    · rename_i l hl; exact key l hl h
    · exact h.elim
  | ret =>
    simp only [finP] at h
    split at h
    · rename_i l hl; exact key l hl h
    · exact h.elim

/-- A function's body. -/
theorem body_ok [SubA A] {E : Env A} (hE : EnvOk P AI E) (hm : P.follows .mixedOrders = true) {f : FuncId} {fn : Func} {c : Code} (hf : P.funcs[f]? = some fn) (hb : fn.body = some c) (hok : codeOk fn.ntmps c = true) {args : List SV} (hargs : args.length ≤ fn.ntmps) {H0 : List (Chunk A)} {n0 : Nat}
    {v : SV} {H1 : List (Chunk A)} (h : svc E n0 c ⟨argT 0 args, H0⟩ (finP E.ti n0 fn.results.toList v H1)) (hG : G.n0 = n0) (hsz : G.size = 0) {us : List Value} (hh : Holds AI G ⟨[], H0⟩ ρ #[] w) (hd : All2 (Den ρ) args us) :
    Calls P f us.toArray w fun e w' => ∃ y ρ', e = .returned y ∧ Holds AI G ⟨[], H1⟩ ρ' #[] w' ∧ Den ρ' v y := by
  refine calls_of_wp hf hb ?_
  have hlen := hd.length
  have h1 := hh.enter hd (n := fn.ntmps) (by omega)
  refine svc_sound (AI := AI) (G := { G with size := fn.ntmps }) hE hm hG c hok _ _ _ _ w h ⟨rfl, ρ, h1⟩ fun e s' hq => ?_
  refine bodyPost_of (AI := AI) (G := { G with size := fn.ntmps }) hE.ti hG hq (R := fun e w' => ∃ y ρ', e = .returned y ∧ Holds AI G ⟨[], H1⟩ ρ' #[] w' ∧ Den ρ' v y) fun y ρ' w' h2 h3 => ⟨y, ρ', rfl, ?_, h3⟩
  have e1 : ({ { G with size := fn.ntmps } with size := 0 } : Fr) = G := by cases G; simp at hsz; subst hsz; rfl
  rw [e1] at h2
  exact h2

theorem tmpl_of_body [SubA A] {E : Env A} (hE : EnvOk P AI E) (hm : P.follows .mixedOrders = true) {f : FuncId} {fn : Func} {c : Code} (hf : P.funcs[f]? = some fn) (hb : fn.body = some c) (hok : codeOk fn.ntmps c = true) {args : List SV} (hargs : args.length ≤ fn.ntmps) {H0 : List (Chunk A)}
    {v : SV} {H1 : List (Chunk A)} (h : svc E H0.length c ⟨argT 0 args, H0⟩ (finP E.ti H0.length fn.results.toList v H1)) : TmplOk P AI f args H0 v H1 :=
  fun _ _ _ _ hG hsz hh hd => body_ok hE hm hf hb hok hargs h hG hsz hh hd

/-! ### a contract in another state -/
/-- Values that name no chunk. -/
def closed1 : SV1 → Bool
  | .ptr _ _ => false
  | .mp _ => false
  | .hd _ _ => false
  | .vw _ _ _ _ _ => false
  | .ep _ _ _ _ _ => false
  | _ => true
theorem closed1_den {ρ ρ' : Ev} (hM : ρ'.M = ρ.M) {x : SV1} (hx : closed1 x = true) {v : Value} : Den1 ρ' x v ↔ Den1 ρ x v := by
  cases x <;> simp [closed1] at hx <;> simp only [Den1, hM]

/-- The chunk of the caller before and behind the call (c, c'), and as the callee numbers it (c0, c1). -/
def Kin (ver : Nat) (c c' c0 c1 : Chunk A) : Prop := (∃ x x', c = .abs x ∧ c' = .abs x' ∧ c0 = .abs x ∧ c1 = .abs x') ∨ ∃ t e L L', c = .row t e ver L ∧ c' = .row t e ver L' ∧ c0 = .row t e 0 L ∧ c1 = .row t e 0 L'

/-- The place of a number in a list. -/
def posOf : List Nat → Nat → Option Nat
  | [], _ => none
  | x :: r, i => if x = i then some 0 else (posOf r i).map (· + 1)
theorem posOf_some : ∀ {l : List Nat} {i j : Nat}, posOf l i = some j → l[j]? = some i
  | [], i, j, h => by cases h
  | x :: r, i, j, h => by
    simp only [posOf] at h
    split at h
    · rename_i e; cases h; simp [e]
    · simp only [Option.map_eq_some_iff] at h
      obtain ⟨k, h1, rfl⟩ := h
      simpa using posOf_some h1
theorem posOf_none : ∀ {l : List Nat} {i : Nat}, posOf l i = none → i ∉ l
  | [], i, h => by simp
  | x :: r, i, h => by
    simp only [posOf] at h
    split at h
    · cases h
    · rename_i e
      simp only [Option.map_eq_none_iff] at h
      simp only [List.mem_cons, not_or]
      exact ⟨fun e' => e e'.symm, posOf_none h⟩
theorem posOf_nodup {l : List Nat} (hn : l.Nodup) {i j : Nat} (h : l[j]? = some i) : posOf l i = some j := by
  cases hp : posOf l i with
  | none => exact absurd (List.mem_of_getElem? h) (posOf_none hp)
  | some k =>
    have h1 := posOf_some hp
    have hk := (List.getElem?_eq_some_iff.1 h1).1
    exact congrArg some ((List.getElem?_inj hk hn).1 (h1.trans h.symm))

theorem frame_call {f : FuncId} {args0 : List SV} {H0 H1 : List (Chunk A)} {v0 : SV} (hT : TmplOk P AI f args0 H0 v0 H1) {tmps : Array Value} (h : Holds AI G s ρ tmps w) {ids news : List Nat} (hn : (ids ++ news).Nodup) (hl0 : ids.length = H0.length)
    (hnew : ∀ i ∈ news, getC s.H i = .emp) {H' : List (Chunk A)} (hkin : ∀ j i, ids[j]? = some i → Kin (ρ.ver i) (getC s.H i) (getC H' i) (getC H0 j) (getC H1 j)) (hnew' : ∀ j i, news[j]? = some i → getC H' i = getC H1 (ids.length + j) ∧ (∀ t cs, getC H1 (ids.length + j) ≠ .cells t cs) ∧ ∀ ks e L R c q, getC H1 (ids.length + j) ≠ .rmap ks e L R c q) (hrest : ∀ i, i ∉ ids ++ news → getC H' i = getC s.H i)
    {us : List Value} (hargs : ∀ ρc : Ev, ρc.M = ρ.M → (∀ j i, ids[j]? = some i → ρc.root j = ρ.root i ∧ ρc.ver j = 0) → All2 (Den ρc) args0 us) {v : SV}
    (hres : ∀ ρc ρ' : Ev, ρ'.M = ρc.M → (∀ j i, (ids ++ news)[j]? = some i → ρ'.root i = ρc.root j) → (∀ j i, news[j]? = some i → ρ'.ver i = ρc.ver (ids.length + j)) → ∀ y, Den ρc v0 y → Den ρ' v y) :
    Calls P f us.toArray w fun e w' => ∃ y ρ', e = .returned y ∧ Holds AI G ⟨s.tm, H'⟩ ρ' tmps w' ∧ Den ρ' v y ∧ ρ.Le ρ' := by
  let n0 := ids.length
  let idO : Nat → Nat := fun j => ids[j]?.getD 0
  let ρc : Ev := { root := fun j => if j < n0 then ρ.root (idO j) else .bool false, ver := fun _ => 0, M := ρ.M, foot := fun j => if j < n0 then ρ.foot (idO j) else [] }
  let Gc : Fr := { w0 := w, own := fun b => ∃ j, j < n0 ∧ b ∈ ρ.foot (idO j), n0 := n0, root0 := ρc.root, M0 := ρ.M, size := 0 }
  have hid : ∀ j i, ids[j]? = some i → j < n0 ∧ idO j = i := fun j i hj => ⟨(List.getElem?_eq_some_iff.1 hj).1, by simp [idO, hj]⟩
  have hidj : ∀ j, j < n0 → ids[j]? = some (idO j) := fun j hj => by
    have : ids[j]? = some (ids[j]'hj) := List.getElem?_eq_getElem hj
    simp [idO, this]
  have hnO : ids.Nodup := (List.nodup_append.1 hn).1
  have hinj : ∀ j k, j < n0 → k < n0 → idO j = idO k → j = k := fun j k hj hk e =>
    (List.getElem?_inj hj hnO).1 ((hidj j hj).trans (by rw [e]; exact (hidj k hk).symm))
  have hfc : ∀ j, j < n0 → ρc.foot j = ρ.foot (idO j) := fun j hj => by simp [ρc, hj]
  have hfc2 : ∀ j b, b ∈ ρc.foot j → j < n0 ∧ b ∈ ρ.foot (idO j) := by
    intro j b hb
    simp only [ρc] at hb
    split at hb
    · rename_i hj; exact ⟨hj, hb⟩
    · cases hb
  have hc : Holds AI Gc ⟨[], H0⟩ ρc #[] w := by
    refine ⟨rfl, (fun t x ht => by cases ht), fun j => ?_, fun i j b hij hi hj => ?_, fun i b hb => h.lt _ b (hfc2 i b hb).2, fun b o x hm => ⟨(h.im b o x hm).1, fun i hb => (h.im b o x hm).2 _ (hfc2 i b hb).2⟩, rfl, rfl, rfl, Nat.le_refl _, fun _ _ _ => rfl,
      fun i b hb => .inl ⟨i, hfc2 i b hb⟩, fun _ _ _ hb => hb, fun i _ => ⟨Nat.zero_le _, fun _ _ _ hb _ => hb⟩, fun _ _ _ hm => hm, fun b o x hm => .inl hm⟩
    · by_cases hj : j < n0
      · have hcc := h.ch (idO j)
        have e1 : ρc.root j = ρ.root (idO j) := by simp [ρc, hj]
        rcases hkin j _ (hidj j hj) with ⟨x, x', h1, -, h2, -⟩ | ⟨t, e, L, L', h1, -, h2, -⟩
        · rw [h1] at hcc
          show HoldsC AI ρc w j (getC H0 j)
          rw [h2]
          simp only [HoldsC, e1, hfc j hj] at hcc ⊢
          exact hcc
        · rw [h1] at hcc
          show HoldsC AI ρc w j (getC H0 j)
          rw [h2]
          exact ⟨rfl, by rw [e1, hfc j hj]; exact hcc.2⟩
      · show HoldsC AI ρc w j (getC H0 j)
        rw [getC_beyond (by omega)]
        exact ⟨by simp [ρc, hj], by simp [ρc, hj], rfl⟩
    · obtain ⟨h1, h2⟩ := hfc2 i b hi
      obtain ⟨h3, h4⟩ := hfc2 j b hj
      exact h.dis _ _ b (fun e => hij (hinj i j h1 h3 e)) h2 h4
  have hcall := hT Gc ρc w us hl0 rfl hc (hargs ρc rfl fun j i hj => by obtain ⟨h1, h2⟩ := hid j i hj; exact ⟨by simp [ρc, h1, h2], rfl⟩)
  refine hcall.mono ?_
  rintro e w' ⟨y, ρr, rfl, hr, hy⟩
  let all := ids ++ news
  let ρ' : Ev := { root := fun i => match posOf all i with | some j => ρr.root j | none => ρ.root i, ver := fun i => match posOf all i with | some j => if j < n0 then ρ.ver i else ρr.ver j | none => ρ.ver i, M := ρr.M, foot := fun i => match posOf all i with | some j => ρr.foot j | none => ρ.foot i }
  have hpos : ∀ {j i}, all[j]? = some i → posOf all i = some j := posOf_nodup hn
  have hroot : ∀ {j i}, all[j]? = some i → ρ'.root i = ρr.root j := fun hj => by simp only [ρ', hpos hj]
  have hfoot : ∀ {j i}, all[j]? = some i → ρ'.foot i = ρr.foot j := fun hj => by simp only [ρ', hpos hj]
  have hverO : ∀ {j i}, all[j]? = some i → j < n0 → ρ'.ver i = ρ.ver i := fun hj hlt => by simp only [ρ', hpos hj, if_pos hlt]
  have hverN : ∀ {j i}, all[j]? = some i → ¬ j < n0 → ρ'.ver i = ρr.ver j := fun hj hlt => by simp only [ρ', hpos hj, if_neg hlt]
  have hout : ∀ {i}, posOf all i = none → ρ'.root i = ρ.root i ∧ ρ'.ver i = ρ.ver i ∧ ρ'.foot i = ρ.foot i := fun hp => ⟨by simp only [ρ', hp], by simp only [ρ', hp], by simp only [ρ', hp]⟩
  have hallO : ∀ {j}, j < n0 → all[j]? = some (idO j) := fun hj => by
    have := hidj _ hj
    simp only [all]
    rw [List.getElem?_append_left hj]; exact this
  have hallN : ∀ {j i}, all[j]? = some i → ¬ j < n0 → news[j - n0]? = some i := fun {j i} hj hlt => by
    simp only [all] at hj
    rwa [List.getElem?_append_right (by omega)] at hj
  have hblk : ∀ b, b < w.heap.size → (∀ j, j < n0 → b ∉ ρ.foot (idO j)) → w'.heap[b]? = w.heap[b]? := fun b hb hnb => hr.kept b hb (by rintro ⟨j, hj, hb'⟩; exact hnb j hj hb')
  have hrfoot : ∀ j b, b ∈ ρr.foot j → (∃ k, k < n0 ∧ b ∈ ρ.foot (idO k)) ∨ w.heap.size ≤ b := fun j b hb => hr.fro j b hb
  have hnone : ∀ {i b}, posOf all i = none → b ∈ ρ.foot i → ∀ j, j < n0 → b ∉ ρ.foot (idO j) := fun {i b} hp hb j hj hb' => by
    refine h.dis i (idO j) b (fun e => ?_) hb hb'
    subst e
    rw [hpos (hallO hj)] at hp; cases hp
  have le : ρ.Le ρ' := by
    refine ⟨hr.mono, fun i b hb => ?_, fun i => ?_, fun i hv hs => ?_⟩
    · cases hp : posOf all i with
      | none => rw [(hout hp).1]; exact hb
      | some j =>
        have hj := posOf_some hp
        rw [hroot hj]
        by_cases hlt : j < n0
        · have e1 := hallO hlt
          rw [hj] at e1
          cases e1
          exact hr.rt j b hlt (by show ρc.root j = _; simp only [ρc, if_pos hlt]; exact hb)
        · have := hnew i (List.mem_of_getElem? (hallN hj hlt))
          have h1 := h.ch i
          rw [this] at h1
          rw [h1.2.1] at hb; cases hb
    · cases hp : posOf all i with
      | none => rw [(hout hp).2.1]; exact Nat.le_refl _
      | some j =>
        have hj := posOf_some hp
        by_cases hlt : j < n0
        · rw [hverO hj hlt]; exact Nat.le_refl _
        · have := hnew i (List.mem_of_getElem? (hallN hj hlt))
          have h1 := h.ch i
          rw [this] at h1
          rw [h1.2.2]; exact Nat.zero_le _
    · cases hp : posOf all i with
      | none => exact (hout hp).1
      | some j =>
        have hj := posOf_some hp
        by_cases hlt : j < n0
        · have e1 := hallO hlt
          rw [hj] at e1
          cases e1
          rw [hroot hj]
          obtain ⟨ao, l, c, hs⟩ := hs
          have hr0 : Gc.root0 j = .slice ao l c := by show ρc.root j = _; simp only [ρc, if_pos hlt]; exact hs
          rcases hkin j _ (hidj j hlt) with ⟨x, x', h1, -, -, -⟩ | ⟨t, e, L, L', -, -, -, h2⟩
          · have h4 := h.ch (idO j)
            rw [h1] at h4
            obtain ⟨b, h7⟩ := AI.root h4
            rw [hs] at h7; cases h7
          · have h3 := hr.ch j
            simp only [] at h3
            rw [h2] at h3
            rw [(hr.rts j hlt).2 ao l c hr0 h3.1.symm, hs]
        · have := hnew i (List.mem_of_getElem? (hallN hj hlt))
          have h1 := h.ch i
          rw [this] at h1
          obtain ⟨_, _, _, hs⟩ := hs
          rw [h1.2.1] at hs; cases hs
  refine ⟨y, ρ', rfl, ⟨h.sz, fun t x ht => ?_, fun i => ?_, fun i k b hik hi hk => ?_, fun i b hb => ?_, fun b o x hm => ⟨(hr.im b o x hm).1, fun i hb => ?_⟩, hr.os.trans h.os, hr.tape.trans h.tape, hr.output.trans h.output, Nat.le_trans h.grow hr.grow,
    fun b hb hn' => ?_, fun i b hb => ?_, fun i b hi hb => le.ptr i b (h.rt i b hi hb), fun i hi => ?_, fun b o x hm => hr.mono b o x (h.mono b o x hm), fun b o x hm => ?_⟩, ?_, le⟩
  · obtain ⟨u, h1, h2⟩ := h.tm t x ht; exact ⟨u, h1, h2.mono le⟩
  · show HoldsC AI ρ' w' i (getC H' i)
    cases hp : posOf all i with
    | none =>
      rw [hrest i (posOf_none hp)]
      obtain ⟨e1, e2, e3⟩ := hout hp
      exact (h.ch i).stays le e1 e2 e3 fun b hb => hblk b (h.lt i b hb) (hnone hp hb)
    | some j =>
      have hj := posOf_some hp
      have h3 := hr.ch j
      simp only [] at h3
      by_cases hlt : j < n0
      · have e1 := hallO hlt
        rw [hj] at e1
        cases e1
        rcases hkin j _ (hidj j hlt) with ⟨x, x', -, h1, -, h2⟩ | ⟨t, e, L, L', -, h1, -, h2⟩
        · rw [h1]
          rw [h2] at h3
          simp only [HoldsC, hroot hj, hfoot hj] at h3 ⊢
          exact h3
        · rw [h1]
          rw [h2] at h3
          exact ⟨(hverO hj hlt).symm, by rw [hroot hj, hfoot hj]; exact h3.2⟩
      · have hj' := hallN hj hlt
        obtain ⟨h4, h5, h5'⟩ := hnew' _ _ hj'
        have hjn : ids.length + (j - n0) = j := by show n0 + (j - n0) = j; omega
        rw [hjn] at h4 h5 h5'
        rw [h4]
        cases hg : getC H1 j with
        | emp => rw [hg] at h3; simp only [HoldsC, hroot hj, hfoot hj, hverN hj hlt] at h3 ⊢; exact h3
        | gone => trivial
        | cells t cs => exact absurd hg (h5 t cs)
        | row t e ver L => rw [hg] at h3; exact ⟨h3.1.trans (hverN hj hlt).symm, by rw [hroot hj, hfoot hj]; exact h3.2⟩
        | map ks e L => rw [hg] at h3; simp only [HoldsC, hroot hj, hfoot hj] at h3 ⊢; exact h3
        | rmap ks e L R c q => exact absurd hg (h5' ks e L R c q)
        | itp q => rw [hg] at h3; simp only [HoldsC, hroot hj, hfoot hj] at h3 ⊢; exact h3
        | abs x => rw [hg] at h3; simp only [HoldsC, hroot hj, hfoot hj] at h3 ⊢; exact h3
  · cases hp : posOf all i with
    | none =>
      rw [(hout hp).2.2] at hi
      cases hq : posOf all k with
      | none => rw [(hout hq).2.2] at hk; exact h.dis i k b hik hi hk
      | some j =>
        rw [hfoot (posOf_some hq)] at hk
        rcases hrfoot j b hk with ⟨m, hm, hb⟩ | hge
        · exact hnone hp hi m hm hb
        · have := h.lt i b hi; omega
    | some j =>
      rw [hfoot (posOf_some hp)] at hi
      cases hq : posOf all k with
      | none =>
        rw [(hout hq).2.2] at hk
        rcases hrfoot j b hi with ⟨m, hm, hb⟩ | hge
        · exact hnone hq hk m hm hb
        · have := h.lt k b hk; omega
      | some j' =>
        rw [hfoot (posOf_some hq)] at hk
        refine hr.dis j j' b (fun e => hik ?_) hi hk
        subst e
        have h1 := posOf_some hp
        have h2 := posOf_some hq
        rw [h1] at h2
        exact Option.some.inj h2
  · cases hp : posOf all i with
    | none => rw [(hout hp).2.2] at hb; exact Nat.lt_of_lt_of_le (h.lt i b hb) hr.grow
    | some j => rw [hfoot (posOf_some hp)] at hb; exact hr.lt j b hb
  · cases hp : posOf all i with
    | none =>
      rw [(hout hp).2.2] at hb
      rcases hr.mfr b o x hm with h1 | ⟨m, h1, h2⟩ | h1
      · exact (h.im b o x h1).2 i hb
      · exact hnone hp hb m h1 h2
      · have h1 : w.heap.size ≤ b := h1
        have := h.lt i b hb; omega
    | some j => rw [hfoot (posOf_some hp)] at hb; exact (hr.im b o x hm).2 j hb
  · refine (hblk b (Nat.lt_of_lt_of_le hb h.grow) fun j hj hb' => ?_).trans (h.kept b hb hn')
    rcases h.fro _ b hb' with h1 | h1
    · exact hn' h1
    · omega
  · have new : ∀ b, w.heap.size ≤ b → G.w0.heap.size ≤ b := fun b hb => Nat.le_trans h.grow hb
    cases hp : posOf all i with
    | none => rw [(hout hp).2.2] at hb; exact h.fro i b hb
    | some j =>
      rw [hfoot (posOf_some hp)] at hb
      rcases hrfoot j b hb with ⟨m, hm, hb'⟩ | hge
      · exact h.fro _ b hb'
      · exact .inr (new b hge)
  · obtain ⟨hv0, hs⟩ := h.rts i hi
    refine ⟨Nat.le_trans hv0 (le.ver i), fun ao l c hb hv => ?_⟩
    have e0 : ρ.ver i = G.ver0 i := Nat.le_antisymm (hv ▸ le.ver i) hv0
    have h1 := hs ao l c hb e0
    rw [le.same i (by rw [e0, hv]) ⟨_, _, _, h1⟩]; exact h1
  · rcases hr.mfr b o x hm with h1 | ⟨m, h1, h2⟩ | h1
    · exact h.mfr b o x h1
    · exact .inr (h.fro _ b h2)
    · exact .inr (.inr (Nat.le_trans h.grow h1))
  · refine hres ρr ρ' rfl (fun j i hj => hroot hj) (fun j i hj => ?_) y hy
    have hj2 : all[n0 + j]? = some i := by
      simp only [all]
      rw [List.getElem?_append_right (by show n0 ≤ n0 + j; omega)]
      simpa [n0] using hj
    exact hverN hj2 (by omega)

end Go.Sx
