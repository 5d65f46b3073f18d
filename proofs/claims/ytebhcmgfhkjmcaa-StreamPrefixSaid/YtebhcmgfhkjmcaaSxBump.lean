/-
  Symbolic execution: versions that are raised to a fixed number; a function that turns an open object (all chunks are of a known shape before and behind the call).
-/
import Derived.Test.YtebhcmgfhkjmcaaSxZ
namespace Go.Sx
set_option linter.all false
set_option linter.unusedVariables false
set_option linter.unusedSimpArgs false
set_option linter.unusedSectionVars false
open Go.RowKit

variable {A : Type} {AI : Abs A} {G : Fr} {s : SS A} {ρ : Ev} {a : Act} {w : World} {P : Program}

def maxN (v K : Nat) : Nat := match bleN v K with | true => K | false => v
theorem le_maxN {v K : Nat} : v ≤ maxN v K := by
  unfold maxN
  split
  · rename_i h; exact leN h
  · exact Nat.le_refl _
def bump1 (K : Nat) (vs : List (Option Nat)) : SV1 → SV1
  | .hd i v => (match nth vs i with | some (some u) => (match beqN u v with | true => .hd i (maxN v K) | false => .any) | _ => .any)
  | .vw _ _ _ _ _ => .any
  | .ep _ _ _ _ _ => .any
  | x => x
def bumpC {A : Type} (K : Nat) (vs : List (Option Nat)) : Chunk A → Chunk A
  | .cells t cs => .cells t (cs.map (bump1 K vs))
  | .row t e v L => .row t e (maxN v K) L
  | c => c
def bumpCs {A : Type} (K : Nat) (vs : List (Option Nat)) : List (Chunk A) → List (Chunk A)
  | [] => []
  | c :: r => bumpC K vs c :: bumpCs K vs r
def bump {A : Type} (K : Nat) (s : SS A) : SS A := match vers s.H with
  | vs => ⟨mapT (bump1 K vs) s.tm, bumpCs K vs s.H⟩

def Ev.bump (ρ : Ev) (K : Nat) (vs : List (Option Nat)) : Ev := { ρ with ver := fun i => match nth vs i with | some (some u) => maxN u K | _ => ρ.ver i }

theorem bumpCs_get {K : Nat} {vs : List (Option Nat)} : ∀ {H : List (Chunk A)} {i : Nat}, getC (bumpCs K vs H) i = bumpC K vs (getC H i)
  | [], i => rfl
  | c :: r, 0 => rfl
  | c :: r, i + 1 => by
    have := bumpCs_get (K := K) (vs := vs) (H := r) (i := i)
    simp only [getC, bumpCs, nth] at this ⊢
    rw [this]
theorem vers_of {H : List (Chunk A)} : ∀ {i : Nat} {t : TypeId} {e : Ty} {u : Nat} {L : U (List e.T)}, getC H i = .row t e u L → nth (vers H) i = some (some u) := by
  induction H with
  | nil => intro i t e u L h; cases h
  | cons c r ih =>
    intro i t e u L h
    cases i with
    | zero =>
      have h : c = .row t e u L := h
      subst h; rfl
    | succ i =>
      have h1 : getC r i = .row t e u L := h
      have := ih h1
      cases c <;> exact this
theorem ver_le {H : List (Chunk A)} (hH : ∀ i, HoldsC AI ρ w i (getC H i)) {K i : Nat} : ρ.ver i ≤ (ρ.bump K (vers H)).ver i := by
  simp only [Ev.bump]
  split
  · rename_i u hu
    obtain ⟨t, e, L, h1⟩ := vers_get hu
    have h2 := hH i
    rw [h1] at h2
    rw [← h2.1]; exact le_maxN
  · exact Nat.le_refl _
theorem bump1_den {K : Nat} {H : List (Chunk A)} (hH : ∀ i, HoldsC AI ρ w i (getC H i)) {x : SV1} {v : Value} (hv : Den1 ρ x v) : Den1 (ρ.bump K (vers H)) (bump1 K (vers H) x) v := by
  cases x <;> simp only [bump1] <;> (try exact hv) <;> (try trivial)
  case hd i ver =>
    split
    · rename_i u hu
      split
      · rename_i hb
        have hb := beq_eq hb
        subst hb
        obtain ⟨t, e, L, h1⟩ := vers_get hu
        have h2 := hH i
        rw [h1] at h2
        obtain ⟨h3, _⟩ := h2
        obtain ⟨h4, h5, h6⟩ := hv
        refine ⟨h4, ?_, fun _ => h6 h3⟩
        simp only [Ev.bump, hu]
        exact Nat.le_refl _
      · trivial
    · trivial
theorem bump2_den {K : Nat} {H : List (Chunk A)} (hH : ∀ i, HoldsC AI ρ w i (getC H i)) {x : SV2} {v : Value} (hv : Den2 ρ x v) : Den2 (ρ.bump K (vers H)) (map2 (bump1 K (vers H)) x) v := by
  cases x with
  | one x => exact bump1_den hH hv
  | agg l => obtain ⟨vs, h1, h2⟩ := hv; exact ⟨vs, h1, h2.mapL fun _ _ => bump1_den hH⟩
  | fn f l => obtain ⟨vs, h1, h2⟩ := hv; exact ⟨vs, h1, h2.mapL fun _ _ => bump1_den hH⟩
theorem bumpV_den {K : Nat} {H : List (Chunk A)} (hH : ∀ i, HoldsC AI ρ w i (getC H i)) {x : SV} {v : Value} (hv : Den ρ x v) : Den (ρ.bump K (vers H)) (mapV (bump1 K (vers H)) x) v := by
  cases x with
  | val x => exact bump2_den hH hv
  | tup l => obtain ⟨vs, h1, h2⟩ := hv; exact ⟨vs, h1, h2.mapL fun _ _ => bump2_den hH⟩
theorem mapT_look' {f : SV1 → SV1} : ∀ {tm : List (Nat × SV)} {t : Nat} {v : SV}, look (mapT f tm) t = some v → ∃ u, look tm t = some u ∧ v = mapV f u
  | [], t, v, h => by cases h
  | (k, x) :: r, t, v, h => by
    simp only [mapT] at h
    rw [look_cons] at h
    split at h
    · rename_i e; cases h; exact ⟨x, by rw [look_cons, if_pos e], rfl⟩
    · rename_i e
      obtain ⟨u, h1, h2⟩ := mapT_look' h
      exact ⟨u, by rw [look_cons, if_neg e]; exact h1, h2⟩

theorem bump_sound {K : Nat} (hs : Sat AI G s a w) : Sat AI G (bump K s) a w := by
  obtain ⟨hd, ρ, hh⟩ := hs
  have hnr : ∀ {i : Nat}, (∀ t e u L, getC s.H i ≠ Chunk.row t e u L) → (ρ.bump K (vers s.H)).ver i = ρ.ver i := by
    intro i hi
    simp only [Ev.bump]
    split
    · rename_i u hu
      obtain ⟨t, e, L, h1⟩ := vers_get hu
      exact absurd h1 (hi t e u L)
    · rfl
  refine ⟨hd, ρ.bump K (vers s.H), ⟨hh.sz, fun t v ht => ?_, fun i => ?_, hh.dis, hh.lt, hh.im, hh.os, hh.tape, hh.output, hh.grow, hh.kept, hh.fro, hh.rt, fun i hi => ?_, hh.mono, hh.mfr⟩⟩
  · obtain ⟨u, h1, rfl⟩ := mapT_look' ht
    obtain ⟨x, h2, h3⟩ := hh.tm t u h1
    exact ⟨x, h2, bumpV_den hh.ch h3⟩
  · show HoldsC AI (ρ.bump K (vers s.H)) w i (getC (bumpCs K (vers s.H) s.H) i)
    rw [bumpCs_get]
    have hc := hh.ch i
    cases hg : getC s.H i with
    | emp =>
      rw [hg] at hc
      obtain ⟨h1, h2, h3⟩ := hc
      exact ⟨h1, h2, (hnr (fun t e u L h => by rw [hg] at h; cases h)).trans h3⟩
    | gone => trivial
    | cells t cs =>
      rw [hg] at hc
      obtain ⟨b, vs, h1, h2, h3, h4⟩ := hc
      exact ⟨b, vs, h1, h2, h3, h4.mapL fun _ _ => bump1_den hh.ch⟩
    | map ks e L => rw [hg] at hc; exact hc
    | rmap ks e L R c j => rw [hg] at hc; exact hc
    | itp q => rw [hg] at hc; exact hc
    | row t e v L =>
      rw [hg] at hc
      obtain ⟨h1, h2⟩ := hc
      refine ⟨?_, h2⟩
      simp only [Ev.bump, vers_of hg]
    | abs x => rw [hg] at hc; exact hc
  · obtain ⟨h1, h2⟩ := hh.rts i hi
    have h3 := ver_le (K := K) hh.ch (i := i)
    exact ⟨Nat.le_trans h1 h3, fun ao l c hb hv => h2 ao l c hb (by omega)⟩

/-- The end of a function, its rows' versions being raised. -/
def finB {A : Type} [SubA A] (ti : List (Nat × TI)) (n0 : Nat) (rs : List ResultVar) (v : SV) (H1 : List (Chunk A)) (e : XE) (s : SS A) : Prop := finP ti n0 rs v H1 e (bump 9 s)

theorem body_okB [SubA A] {E : Env A} (hE : EnvOk P AI E) (hm : P.follows .mixedOrders = true) {f : FuncId} {fn : Func} {c : Code} (hf : P.funcs[f]? = some fn) (hb : fn.body = some c) (hok : codeOk fn.ntmps c = true) {args : List SV} (hargs : args.length ≤ fn.ntmps) {H0 : List (Chunk A)} {n0 : Nat}
    {v : SV} {H1 : List (Chunk A)} (h : svc E n0 c ⟨argT 0 args, H0⟩ (finB E.ti n0 fn.results.toList v H1)) (hG : G.n0 = n0) (hsz : G.size = 0) {us : List Value} (hh : Holds AI G ⟨[], H0⟩ ρ #[] w) (hd : All2 (Den ρ) args us) :
    Calls P f us.toArray w fun e w' => ∃ y ρ', e = .returned y ∧ Holds AI G ⟨[], H1⟩ ρ' #[] w' ∧ Den ρ' v y := by
  refine calls_of_wp hf hb ?_
  have hlen := hd.length
  have h1 := hh.enter hd (n := fn.ntmps) (by omega)
  refine svc_sound (AI := AI) (G := { G with size := fn.ntmps }) hE hm hG c hok _ _ _ _ w h ⟨rfl, ρ, h1⟩ fun e s' hq => ?_
  have h5 := bodyPost_of (AI := AI) (G := { G with size := fn.ntmps }) hE.ti hG hq (R := fun e w' => ∃ y ρ', e = .returned y ∧ Holds AI G ⟨[], H1⟩ ρ' #[] w' ∧ Den ρ' v y) fun y ρ' w' h2 h3 => ⟨y, ρ', rfl, by
    have e1 : ({ { G with size := fn.ntmps } with size := 0 } : Fr) = G := by cases G; simp at hsz; subst hsz; rfl
    rw [e1] at h2
    exact h2, h3⟩
  exact fun a' w' hd' hh' => h5 a' w' hd' (bump_sound (K := 9) (a := a') (w := w') ⟨hd', hh'⟩).2

structure StepSpec (A : Type) where
  n : Nat
  X : Type
  un : List SV → List (Chunk A) → Option (U X)
  pre : X → Prop
  res : U X → SV
  next : U X → List (Chunk A)

def StepSpec.con (k : StepSpec A) : Con A := fun args fresh => match beqN fresh k.n with
  | true => some ⟨upTo 0 k.n, 0, true, fun cs _ => (match args.all (belV k.n) && cs.all (belC k.n) with
    | true => (match k.un args cs with
      | some x => (match beqN (k.next x).length k.n with
        | true => .done (fun _ => k.pre (x ())) (k.res x) (k.next x)
        | false => .fail)
      | none => .fail)
    | false => .fail)⟩
  | false => none

theorem StepSpec.sound [SubA A] {E : Env A} (hE : EnvOk P AI E) (hm : P.follows .mixedOrders = true) {f : FuncId} {fn : Func} {c : Code} (hen : Enters P f) (hf : P.funcs[f]? = some fn) (hb : fn.body = some c) (hok : codeOk fn.ntmps c = true) {k : StepSpec A}
    (h : ∀ args cs x, k.un args cs = some x → k.pre (x ()) → cs.length = k.n → args.length ≤ fn.ntmps ∧ svc E k.n c ⟨argT 0 args, cs⟩ (finB E.ti k.n fn.results.toList (k.res x) (k.next x))) : ConSound P AI f k.con := by
  refine ⟨hen, fun args fresh p hp hw H d C v cs he => ?_, fun G s ρ tmps w args us fresh p d C v cs hh hargs hp hfr he hC => ?_⟩
  · unfold StepSpec.con at hp
    split at hp <;> cases hp
    cases hw
  · unfold StepSpec.con at hp
    split at hp <;> cases hp
    dsimp only at he hfr ⊢
    split at he
    · rename_i hbel
      obtain ⟨hb1, hb2⟩ := Bool.and_eq_true_iff.1 hbel
      split at he
      · rename_i x hx
        split at he
        · rename_i hlen
          have hlen := beq_eq hlen
          simp at he
          obtain ⟨rfl, rfl, rfl⟩ := he
          obtain ⟨hl, hs⟩ := h _ _ x hx hC length_getCs_upTo
          have hgc : ∀ j, j < k.n → getC (getCs s.H (upTo 0 k.n)) j = getC s.H j := fun j hj => by rw [getC_getCs hj, Nat.zero_add]
          have hbey : ∀ j, k.n ≤ j → getC (getCs s.H (upTo 0 k.n)) j = .emp := fun j hj => getC_beyond (by rw [length_getCs_upTo]; exact hj)
          refine (frame_all hh (m := k.n) (H0 := getCs s.H (upTo 0 k.n)) (H1 := k.next x) (fresh := k.n) (v := k.res x) (Nat.le_refl _) (fun j => ?_) (fun j hj => ?_) (fun j h1 h2 => by omega) (fun j hj => getC_beyond (by rw [hlen]; exact hj))
            (H' := putCs s.H (upTo 0 k.n) (k.next x)) (fun j hj => ?_) (fun j hj => ?_) fun Gc hn0 hsz h0 => ?_)
          · split
            · rename_i hj; exact hgc j hj
            · rename_i hj; exact hbey j (by omega)
          · have h1 : (getCs s.H (upTo 0 k.n))[j]? = some (getC s.H j) := by
              have h2 := hgc j hj
              unfold getC at h2
              rw [nth_eq] at h2
              have h3 : j < (getCs s.H (upTo 0 k.n)).length := by rw [length_getCs_upTo]; exact hj
              rw [List.getElem?_eq_getElem h3] at h2 ⊢
              exact congrArg some h2
            exact List.all_eq_true.1 hb2 _ (List.mem_of_getElem? h1)
          · rw [getC_putCs_upTo j hlen, if_pos (by omega), Nat.sub_zero]
          · rw [getC_putCs_upTo j hlen, if_neg (by omega)]
          · exact body_okB hE hm hf hb hok hl hs hn0 hsz h0 (belVs_den hargs hb1)
        · cases he
      · cases he
    · cases he
end Go.Sx
