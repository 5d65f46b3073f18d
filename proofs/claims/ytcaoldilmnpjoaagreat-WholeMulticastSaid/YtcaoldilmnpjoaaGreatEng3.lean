/-
  Part Eng3 of the proof.
-/
import Derived.Test.YtcaoldilmnpjoaaGreatEng2
import Derived.DeepKeys4
import Derived.ChangeKeysEq
import Derived.Deep.Slices
import Derived.ChangeOld
import Derived.OpenShut
import Derived.ShutString
import Derived.Below
namespace Go.Sx
set_option linter.all false
open Go.RowKit
variable {A : Type} {G : Fr} {s : SS A} {ρ : Ev} {a : Act} {w : World} {P : Program}
inductive kz (lay : A → List (Chunk A)) (w : World) : Ev → Nat → Chunk A → Prop
 | emp {ρ i} (h1 : ρ.foot i = []) (h2 : ρ.root i = .bool false) (h3 : ρ.ver i = 0) : kz lay w ρ i .emp
 | gone {ρ i} : kz lay w ρ i .gone
 | cells {ρ i t cs b vs} (h1 : ρ.root i = .pointer (some ⟨b, 0, none⟩)) (h2 : ρ.foot i = [b]) (h3 : w.heap[b]? = some (.cells vs t (0, 0))) (h4 : aL (aK ρ) cs vs.toList) : kz lay w ρ i (.cells t cs)
 | row {ρ i t e ver L} (h1 : ver = ρ.ver i) (h2 : bg t ρ.M w e (L ()) (ρ.root i) (ρ.foot i)) : kz lay w ρ i (.row t e ver L)
 | map {ρ i ks e L b es clock} (h1 : ρ.root i = .pointer (some ⟨b, 0, none⟩)) (h2 : ρ.foot i = [b]) (h3 : w.heap[b]? = some (.map es clock)) (h4 : gm ρ.M ks e (L ()) es.toList clock) : kz lay w ρ i (.map ks e L)
 | rmap {ρ i ks e L R c j b r} (h1 : ρ.root i = .pointer (some ⟨b, 0, none⟩)) (h2 : ρ.root j = .pointer (some ⟨r, 0, none⟩)) (h3 : ρ.foot i = [b, r]) (h4 : qt ρ.M w ks e (L ()) (R ()) c b r) : kz lay w ρ i (.rmap ks e L R c j)
 | itp {ρ i q r} (h1 : ρ.foot i = []) (h2 : ρ.root i = .pointer (some ⟨r, 0, none⟩)) : kz lay w ρ i (.itp q)
 | nest {ρ i t tb z ver L h} (h1 : ver = ρ.ver i) (h2 : cc tb z ρ w (L ()) h (ρ.root i) (ρ.foot i)) : kz lay w ρ i (.nest t tb z ver L h)
 | mnest {ρ i tb L h} (h2 : mY tb ρ w (L ()) h (ρ.root i) (ρ.foot i)) : kz lay w ρ i (.mnest tb L h)
 | abs {ρ i x} (ρ' : Ev) (hM : ρ'.M = ρ.M) (hr : ρ'.root 0 = ρ.root i) (hp : ∃ b, ρ.root i = .pointer (some ⟨b, 0, none⟩)) (hf : ∀ b, b ∈ ρ.foot i ↔ ∃ j, j < (lay x).length ∧ b ∈ ρ'.foot j)
    (hd : ∀ j k b, j < (lay x).length → k < (lay x).length → j ≠ k → b ∈ ρ'.foot j → b ∉ ρ'.foot k) (hc : ∀ j, j < (lay x).length → kz lay w ρ' j (aC (lay x) j)) : kz lay w ρ i (.abs x)
theorem kz.stays {lay : A → List (Chunk A)} {i : Nat} {c : Chunk A} (h : kz lay w ρ i c) : ∀ {M' : Mem} {w' : World}, (∀ b o v, ρ.M b o = some v → M' b o = some v) → (∀ b ∈ ρ.foot i, w'.heap[b]? = w.heap[b]?) → kz lay w' { ρ with M := M' } i c := by
 induction h with
 | emp h1 h2 h3 => intro M' w' _ _; exact .emp h1 h2 h3
 | gone => intro M' w' _ _; exact .gone
 | @cells ρ i t cs b vs h1 h2 h3 h4 =>
   intro M' w' hm hb
   refine .cells h1 h2 ((hb b (by simp [h2])).trans h3) (h4.mono fun x v hx => aK.mono (ρ := ρ) (ρ' := { ρ with M := M' }) ⟨hm, fun _ _ h => h, fun _ => Nat.le_refl _, fun _ _ _ => rfl⟩ hx)
 | @row ρ i t e ver L h1 h2 => intro M' w' hm hb; exact .row h1 (h2.stays hm hb)
 | map h1 h2 h3 h4 => intro M' w' hm hb; exact .map h1 h2 ((hb _ (by simp [h2])).trans h3) (h4.mono hm)
 | rmap h1 h2 h3 h4 => intro M' w' hm hb; exact .rmap h1 h2 h3 (h4.mono hm (hb _ (by simp [h3])) (hb _ (by simp [h3])))
 | itp h1 h2 => intro M' w' hm hb; exact .itp h1 h2
 | nest h1 h2 => intro M' w' hm hb; exact .nest h1 (h2.stays ⟨hm, fun _ _ h => h, fun _ => Nat.le_refl _, fun _ _ _ => rfl⟩ hb)
 | mnest h2 => intro M' w' hm hb; exact .mnest (h2.stays ⟨hm, fun _ _ h => h, fun _ => Nat.le_refl _, fun _ _ _ => rfl⟩ hb)
 | @abs ρ i x ρ' hM hr hp hf hd hc ih =>
   intro M' w' hm hb
   refine .abs { ρ' with M := M' } rfl hr hp hf hd fun j hj => ?_
   exact ih j hj (fun b o v h => hm b o v (hM ▸ h)) fun b hb' => hb b ((hf b).2 ⟨j, hj, hb'⟩)
def CK (lay : A → List (Chunk A)) (tq : mX := mX.none) : Abs A where
 tq := tq
 I x M r F w := ∃ ρ i, kz lay w ρ i (.abs x) ∧ ρ.M = M ∧ ρ.root i = r ∧ ρ.foot i = F
 root := by
  rintro x M r F w ⟨ρ, i, h, rfl, rfl, rfl⟩
  cases h with
  | abs ρ' hM hr hp => exact hp
 stays := by
  rintro x M M' r F w w' ⟨ρ, i, h, rfl, rfl, rfl⟩ hm hb
  exact ⟨{ ρ with M := M' }, i, h.stays hm hb, rfl, rfl, rfl⟩
variable {lay : A → List (Chunk A)} {tq : mX}
end Go.Sx
namespace Go.Sx
set_option linter.all false
open Go.RowKit
variable {A : Type} {AI : Abs A} {G : Fr} {s : SS A} {ρ : Ev} {a : Act} {w : World} {P : Program}
theorem s5 : ∀ {n : Nat} {l : List SV} {t : Nat} {v : SV}, look (cQ n l) t = some v → n ≤ t ∧ l[t - n]? = some v
 | n, [], t, v, h => by cases h
 | n, x :: r, t, v, h => by
   simp only [cQ] at h
   rw [ax] at h
   split at h
   · rename_i e
     subst e
     cases h
     exact ⟨Nat.le_refl _, by simp⟩
   · rename_i e
     obtain ⟨h1, h2⟩ := s5 h
     refine ⟨by omega, ?_⟩
     rw [show t - n = (t - (n + 1)) + 1 by omega, List.getElem?_cons_succ]; exact h2
theorem Holds.enter {H : List (Chunk A)} {tmps0 : Array Value} (h : Holds AI G ⟨[], H⟩ ρ tmps0 w) {args : List SV} {us : List Value} (hd : aL (Den ρ) args us) {n : Nat} (hn : us.length ≤ n) :
 Holds AI { G with size := n } ⟨cQ 0 args, H⟩ ρ (us.toArray ++ Array.replicate (n - us.toArray.size) undef) w := by
 refine ⟨by simp; omega, h.gt, fun t v ht => ?_, h.ch, h.dis, h.lt, h.im, h.os, h.tape, h.output, h.grow, h.kept, h.fro, h.rt, h.rts, h.mono, h.mfr⟩
 obtain ⟨_, h1⟩ := s5 ht
 rw [Nat.sub_zero, ← eY] at h1
 obtain ⟨u, h2, h3⟩ := hd.nth h1
 refine ⟨u, ?_, h3⟩
 have hlt := (List.getElem?_eq_some_iff.1 h2).1
 rw [Array.getElem?_append_left (by simpa using hlt)]
 simpa using h2
def pH (tmps : Array Value) : ResultVar → Go.Sem Value
 | .tmp t => pure (tmps.getD t undef)
 | .cell x t => do loadVar t (← asAddr (tmps.getD x undef))
theorem gz {ti : List (Nat × TI)} (hT : rN P ti) (h : Holds AI G s ρ a.tmps w) : ∀ {rs : List ResultVar} {l : List SV2}, kQ ti s rs = some l → ∃ vs : List Value, aL (cM ρ) l vs ∧
 (rs.mapM (pH a.tmps)).run P w = .ok vs w
 | [], l, h' => by simp [kQ] at h'; subst h'; exact ⟨[], .nil, by simp⟩
 | .tmp t :: r, l, h' => by
   simp only [kQ] at h'
   split at h' <;> (try cases h')
   rename_i x hx
   split at h' <;> cases h'
   rename_i l' hl'
   obtain ⟨vs, h1, h2⟩ := gz hT h hl'
   obtain ⟨u, h3, h4⟩ := h.tm t _ hx
   refine ⟨u :: vs, .cons h4 h1, ?_⟩
   have h5 : (pH a.tmps (.tmp t)).run P w = .ok u w := by simp [pH, h3]
   rw [List.mapM_cons, Sem.run_bind, h5]
   simp only [Result.andThen, Sem.run_bind, h2]
   rfl
 | .cell y t :: r, l, h' => by
   simp only [kQ] at h'
   split at h' <;> (try cases h')
   rename_i i off hx
   split at h' <;> (try cases h')
   rename_i ct cs hcs
   split at h' <;> (try cases h')
   rename_i j hj
   split at h' <;> (try cases h')
   rename_i x hx2
   split at h' <;> cases h'
   rename_i l' hl'
   obtain ⟨vs, h1, h2⟩ := gz hT h hl'
   obtain ⟨u, h3, h4⟩ := h.tm y _ hx
   obtain ⟨b, h5, h6⟩ := h4
   have hc := h.ch i
   rw [hcs] at hc
   obtain ⟨b', us, h7, h8, h9, h10⟩ := hc
   rw [h5] at h7
   cases h7
   obtain ⟨z, h11, h12⟩ := jj (P := P) (w := w) (hT t j hj) h10 hx2 (b := b) (off := 0) (fun k v hk => by simp [World.cell?, h9, hk])
   have h13 : (loadVar t ⟨b, off, none⟩).run P w = .ok z w := by
    have : (Instr.loadAt t (.pointer (some ⟨b, 0 + off, none⟩))).run P w = (loadVar t ⟨b, off, none⟩).run P w := by simp [Instr.loadAt, Instr.sureAddr]
    rw [← this]; exact h11
   refine ⟨z :: vs, .cons h12 h1, ?_⟩
   have h14 : (pH a.tmps (.cell y t)).run P w = .ok z w := by simp [pH, h3, h6, asAddr, h13]
   rw [List.mapM_cons, Sem.run_bind, h14]
   simp only [Result.andThen, Sem.run_bind, h2]
   rfl
def bQ (P : Program) (AI : Abs A) (f : FuncId) (args : List SV) (H0 : List (Chunk A)) (v : SV) (H1 : List (Chunk A)) : Prop :=
 ∀ (G : Fr) (ρ : Ev) (w : World) (us : List Value), G.n0 = H0.length → G.size = 0 → Holds AI G ⟨[], H0⟩ ρ #[] w → aL (Den ρ) args us →
   Calls P f us.toArray w fun e w' => ∃ y ρ', e = .returned y ∧ Holds AI G ⟨[], H1⟩ ρ' #[] w' ∧ Den ρ' v y
theorem k9 {ti : List (Nat × TI)} (hT : rN P ti) (hh : Holds AI G s ρ a.tmps w) {fn : Func} {l : List SV2} (hl : kQ ti s fn.results.toList = some l) : ∃ y, (results fn a.tmps).run P w = .ok y w ∧ Den ρ (ag l) y := by
 obtain ⟨vs, h1, h2⟩ := gz hT hh hl
 have h3 : (fn.results.mapM (pH a.tmps)).run P w = .ok vs.toArray w := by
  rw [Array.mapM_eq_mapM_toList]
  show (List.toArray <$> _ : Go.Sem _).run P w = _
  rw [map_eq_pure_bind, Sem.run_bind, h2]
  rfl
 refine ⟨if h : vs.toArray.size = 1 then vs.toArray[0] else .tuple vs.toArray, ?_, ?_⟩
 · have h4 : results fn a.tmps = (do let vs ← fn.results.mapM (pH a.tmps); pure (if h : vs.size = 1 then vs[0] else .tuple vs)) := by
    unfold results
    first
     | rfl
     | (congr 1; done)
     | (congr 1; congr 1; funext r; cases r <;> rfl)
   rw [h4, Sem.run_bind, h3]
   rfl
 · cases h1 with
   | nil => exact ⟨[], by simp, .nil⟩
   | cons hx hr =>
     cases hr with
     | nil => simpa [ag, Den] using hx
     | cons hy hr => exact ⟨_, by simp, .cons hx (.cons hy hr)⟩
theorem oB {E : Env A} [fo A] (hT : rN P E.ti) {fn : Func} {n0 : Nat} (hn0 : G.n0 = n0) {v : SV} {H1 : List (Chunk A)} {e : XE} {s' : SS A} (h : ek E.ti n0 fn.results.toList v H1 e s') {R : Ending → World → Prop}
 (hR : ∀ y ρ' w', Holds AI { G with size := 0 } ⟨[], H1⟩ ρ' #[] w' → Den ρ' v y → R (.returned y) w') : fc AI G s' (bodyPost P fn R e.out) := by
 have key : ∀ l, kQ E.ti s' fn.results.toList = some l → Sub n0 ⟨[(0, ag l)], s'.H⟩ ⟨[(0, v)], H1⟩ → ∀ (a' : Act) (w' : World), a'.defers = [] → (∃ ρ', Holds AI G s' ρ' a'.tmps w') → a'.defers = [] ∧ ∃ y, (results fn a'.tmps).run P w' = .ok y w' ∧ R (.returned y) w' := by
  rintro l hl hsub a' w' hd ⟨ρ', hh⟩
  obtain ⟨vs, h1, h2⟩ := gz hT hh hl
  have hres : ∃ y, (results fn a'.tmps).run P w' = .ok y w' ∧ Den ρ' (ag l) y := by
   have h3 : (fn.results.mapM (pH a'.tmps)).run P w' = .ok vs.toArray w' := by
    rw [Array.mapM_eq_mapM_toList]
    show (List.toArray <$> _ : Go.Sem _).run P w' = _
    rw [map_eq_pure_bind, Sem.run_bind, h2]
    rfl
   refine ⟨if h : vs.toArray.size = 1 then vs.toArray[0] else .tuple vs.toArray, ?_, ?_⟩
   · have h4 : results fn a'.tmps = (do let vs ← fn.results.mapM (pH a'.tmps); pure (if h : vs.size = 1 then vs[0] else .tuple vs)) := by
      unfold results
      first
       | rfl
       | (congr 1; done)
       | (congr 1; congr 1; funext r; cases r <;> rfl)
     rw [h4, Sem.run_bind, h3]
     rfl
   · cases h1 with
     | nil => exact ⟨[], by simp, .nil⟩
     | cons hx hr =>
       cases hr with
       | nil => simpa [ag, Den] using hx
       | cons hy hr => exact ⟨_, by simp, .cons hx (.cons hy hr)⟩
  obtain ⟨y, h3, h4⟩ := hres
  refine ⟨hd, y, h3, ?_⟩
  let G1 : Fr := { G with size := 1 }
  have h5 : Sat AI G1 ⟨[(0, ag l)], s'.H⟩ ⟨#[y], []⟩ w' := by
   refine ⟨rfl, ρ', ⟨rfl, hh.gt, fun t x ht => ?_, hh.ch, hh.dis, hh.lt, hh.im, hh.os, hh.tape, hh.output, hh.grow, hh.kept, hh.fro, hh.rt, hh.rts, hh.mono, hh.mfr⟩⟩
   rw [ax] at ht
   split at ht
   · rename_i e; subst e; cases ht; exact ⟨y, rfl, h4⟩
   · cases ht
  obtain ⟨_, ρ2, h6⟩ := hsub.sound (G := G1) hn0 h5
  obtain ⟨u, h7, h8⟩ := h6.tm 0 v (by simp [look])
  simp at h7
  subst h7
  refine hR y ρ2 w' ⟨rfl, h6.gt, (fun t x ht => by cases ht), h6.ch, h6.dis, h6.lt, h6.im, h6.os, h6.tape, h6.output, h6.grow, h6.kept, h6.fro, h6.rt, h6.rts, h6.mono, h6.mfr⟩ h8
 cases e with
 | exit id => exact (bz.elim h)
 | normal =>
   simp only [ek] at h
   split at h
   · rename_i l hl; exact key l hl h
   · exact h.elim
 | ret =>
   simp only [ek] at h
   split at h
   · rename_i l hl; exact key l hl h
   · exact h.elim
theorem yN [fo A] {E : Env A} (hE : aU P AI E) (hm : P.follows .mixedOrders = true) {f : FuncId} {fn : Func} {c : Code} (hf : P.funcs[f]? = some fn) (hb : fn.body = some c) (hok : codeOk fn.ntmps c = true) {args : List SV} (hargs : args.length ≤ fn.ntmps) {H0 : List (Chunk A)} {n0 : Nat}
 {v : SV} {H1 : List (Chunk A)} (h : svc E n0 c ⟨cQ 0 args, H0⟩ (ek E.ti n0 fn.results.toList v H1)) (hG : G.n0 = n0) (hsz : G.size = 0) {us : List Value} (hh : Holds AI G ⟨[], H0⟩ ρ #[] w) (hd : aL (Den ρ) args us) :
 Calls P f us.toArray w fun e w' => ∃ y ρ', e = .returned y ∧ Holds AI G ⟨[], H1⟩ ρ' #[] w' ∧ Den ρ' v y := by
 refine calls_of_wp hf hb ?_
 have hlen := hd.length
 have h1 := hh.enter hd (n := fn.ntmps) (by omega)
 refine jV (AI := AI) (G := { G with size := fn.ntmps }) hE hm hG c hok _ _ _ _ w h ⟨rfl, ρ, h1⟩ fun e s' hq => ?_
 refine oB (AI := AI) (G := { G with size := fn.ntmps }) hE.ti hG hq (R := fun e w' => ∃ y ρ', e = .returned y ∧ Holds AI G ⟨[], H1⟩ ρ' #[] w' ∧ Den ρ' v y) fun y ρ' w' h2 h3 => ⟨y, ρ', rfl, ?_, h3⟩
 have e1 : ({ { G with size := fn.ntmps } with size := 0 } : Fr) = G := by cases G; simp at hsz; subst hsz; rfl
 rw [e1] at h2
 exact h2
theorem av [fo A] {E : Env A} (hE : aU P AI E) (hm : P.follows .mixedOrders = true) {f : FuncId} {fn : Func} {c : Code} (hf : P.funcs[f]? = some fn) (hb : fn.body = some c) (hok : codeOk fn.ntmps c = true) {args : List SV} (hargs : args.length ≤ fn.ntmps) {H0 : List (Chunk A)}
 {v : SV} {H1 : List (Chunk A)} (h : svc E H0.length c ⟨cQ 0 args, H0⟩ (ek E.ti H0.length fn.results.toList v H1)) : bQ P AI f args H0 v H1 :=
 fun _ _ _ _ hG hsz hh hd => yN hE hm hf hb hok hargs h hG hsz hh hd
def eo : SV1 → Bool
 | .ptr _ _ => false
 | .mp _ => false
 | .hd _ _ => false
 | .vw _ _ _ _ _ => false
 | .ep _ _ _ _ _ => false
 | .fnc _ _ => false
 | _ => true
theorem oA {ρ ρ' : Ev} (hM : ρ'.M = ρ.M) {x : SV1} (hx : eo x = true) {v : Value} : aK ρ' x v ↔ aK ρ x v := by
 cases x <;> simp [eo] at hx <;> simp only [aK, hM]
def Kin (ver : Nat) (c c' c0 c1 : Chunk A) : Prop := (∃ x x', c = .abs x ∧ c' = .abs x' ∧ c0 = .abs x ∧ c1 = .abs x') ∨ ∃ t e L L', c = .row t e ver L ∧ c' = .row t e ver L' ∧ c0 = .row t e 0 L ∧ c1 = .row t e 0 L'
def posOf : List Nat → Nat → Option Nat
 | [], _ => none
 | x :: r, i => if x = i then some 0 else (posOf r i).map (· + 1)
theorem bL : ∀ {l : List Nat} {i j : Nat}, posOf l i = some j → l[j]? = some i
 | [], i, j, h => by cases h
 | x :: r, i, j, h => by
   simp only [posOf] at h
   split at h
   · rename_i e; cases h; simp [e]
   · simp only [Option.map_eq_some_iff] at h
     obtain ⟨k, h1, rfl⟩ := h
     simpa using bL h1
theorem kU : ∀ {l : List Nat} {i : Nat}, posOf l i = none → i ∉ l
 | [], i, h => by simp
 | x :: r, i, h => by
   simp only [posOf] at h
   split at h
   · cases h
   · rename_i e
     simp only [Option.map_eq_none_iff] at h
     simp only [List.mem_cons, not_or]
     exact ⟨fun e' => e e'.symm, kU h⟩
theorem ux {l : List Nat} (hn : l.Nodup) {i j : Nat} (h : l[j]? = some i) : posOf l i = some j := by
 cases hp : posOf l i with
 | none => exact absurd (List.mem_of_getElem? h) (kU hp)
 | some k =>
   have h1 := bL hp
   have hk := (List.getElem?_eq_some_iff.1 h1).1
   exact congrArg some ((List.getElem?_inj hk hn).1 (h1.trans h.symm))
theorem qL {f : FuncId} {args0 : List SV} {H0 H1 : List (Chunk A)} {v0 : SV} (hT : bQ P AI f args0 H0 v0 H1) {tmps : Array Value} (h : Holds AI G s ρ tmps w) {ids news : List Nat} (hn : (ids ++ news).Nodup) (hl0 : ids.length = H0.length)
 (hnew : ∀ i ∈ news, aC s.H i = .emp) {H' : List (Chunk A)} (hkin : ∀ j i, ids[j]? = some i → Kin (ρ.ver i) (aC s.H i) (aC H' i) (aC H0 j) (aC H1 j)) (hnew' : ∀ j i, news[j]? = some i → aC H' i = aC H1 (ids.length + j) ∧ (∀ t cs, aC H1 (ids.length + j) ≠ .cells t cs) ∧ (∀ ks e L R c q, aC H1 (ids.length + j) ≠ .rmap ks e L R c q) ∧ (∀ t tb z u L q, aC H1 (ids.length + j) ≠ .nest t tb z u L (some q)) ∧ ∀ tb L q, aC H1 (ids.length + j) ≠ .mnest tb L (some q)) (hrest : ∀ i, i ∉ ids ++ news → aC H' i = aC s.H i)
 {us : List Value} (hargs : ∀ ρc : Ev, ρc.M = ρ.M → (∀ j i, ids[j]? = some i → ρc.root j = ρ.root i ∧ ρc.ver j = 0) → aL (Den ρc) args0 us) {v : SV}
 (hres : ∀ ρc ρ' : Ev, ρ'.M = ρc.M → (∀ j i, (ids ++ news)[j]? = some i → ρ'.root i = ρc.root j) → (∀ j i, news[j]? = some i → ρ'.ver i = ρc.ver (ids.length + j)) → ∀ y, Den ρc v0 y → Den ρ' v y) :
 Calls P f us.toArray w fun e w' => ∃ y ρ', e = .returned y ∧ Holds AI G ⟨s.tm, H'⟩ ρ' tmps w' ∧ Den ρ' v y ∧ ρ.Le ρ' := by
 let n0 := ids.length
 let idO : Nat → Nat := fun j => ids[j]?.getD 0
 let ρc : Ev := { root := fun j => if j < n0 then ρ.root (idO j) else .bool false, ver := fun _ => 0, M := ρ.M, foot := fun j => if j < n0 then ρ.foot (idO j) else [] }
 let Gc : Fr := { w0 := w, own := fun b => ∃ j, j < n0 ∧ b ∈ ρ.foot (idO j), n0 := n0, root0 := ρc.root, M0 := ρ.M, size := 0 }
 have hid : ∀ j i, ids[j]? = some i → j < n0 ∧ idO j = i := fun j i hj => ⟨(List.getElem?_eq_some_iff.1 hj).1, by simp [idO, hj]⟩
 have hidj : ∀ j, j < n0 → ids[j]? = some (idO j) := fun j hj => by
  have : ids[j]? = some (ids[j]'hj) := List.getElem?_eq_getElem hj
  simp [idO, this]
 have hnO : ids.Nodup := (List.nodup_append.1 hn).1
 have hinj : ∀ j k, j < n0 → k < n0 → idO j = idO k → j = k := fun j k hj hk e =>
  (List.getElem?_inj hj hnO).1 ((hidj j hj).trans (by rw [e]; exact (hidj k hk).symm))
 have hfc : ∀ j, j < n0 → ρc.foot j = ρ.foot (idO j) := fun j hj => by simp [ρc, hj]
 have hfc2 : ∀ j b, b ∈ ρc.foot j → j < n0 ∧ b ∈ ρ.foot (idO j) := by
  intro j b hb
  simp only [ρc] at hb
  split at hb
  · rename_i hj; exact ⟨hj, hb⟩
  · cases hb
 have hc : Holds AI Gc ⟨[], H0⟩ ρc #[] w := by
  refine ⟨rfl, h.gtOf (fun b hb => by obtain ⟨j, _, hj⟩ := hb; exact ⟨_, hj⟩), (fun t x ht => by cases ht), fun j => ?_, fun i j b hij hi hj => ?_, fun i b hb => h.lt _ b (hfc2 i b hb).2, fun b o x hm => ⟨(h.im b o x hm).1, fun i hb => (h.im b o x hm).2 _ (hfc2 i b hb).2⟩, rfl, rfl, rfl, Nat.le_refl _, fun _ _ _ => rfl,
   fun i b hb => .inl ⟨i, hfc2 i b hb⟩, fun _ _ _ hb => hb, fun i _ => ⟨Nat.zero_le _, fun _ _ _ hb _ => hb⟩, fun _ _ _ hm => hm, fun b o x hm => .inl hm⟩
  · by_cases hj : j < n0
    · have hcc := h.ch (idO j)
      have e1 : ρc.root j = ρ.root (idO j) := by simp [ρc, hj]
      rcases hkin j _ (hidj j hj) with ⟨x, x', h1, -, h2, -⟩ | ⟨t, e, L, L', h1, -, h2, -⟩
      · rw [h1] at hcc
        show aQ AI ρc w j (aC H0 j)
        rw [h2]
        simp only [aQ, e1, hfc j hj] at hcc ⊢
        exact hcc
      · rw [h1] at hcc
        show aQ AI ρc w j (aC H0 j)
        rw [h2]
        exact ⟨rfl, by rw [e1, hfc j hj]; exact hcc.2⟩
    · show aQ AI ρc w j (aC H0 j)
      rw [bf (by omega)]
      exact ⟨by simp [ρc, hj], by simp [ρc, hj], rfl⟩
  · obtain ⟨h1, h2⟩ := hfc2 i b hi
    obtain ⟨h3, h4⟩ := hfc2 j b hj
    exact h.dis _ _ b (fun e => hij (hinj i j h1 h3 e)) h2 h4
 have hcall := hT Gc ρc w us hl0 rfl hc (hargs ρc rfl fun j i hj => by obtain ⟨h1, h2⟩ := hid j i hj; exact ⟨by simp [ρc, h1, h2], rfl⟩)
 refine hcall.mono ?_
 rintro e w' ⟨y, ρr, rfl, hr, hy⟩
 let all := ids ++ news
 let ρ' : Ev := { root := fun i => match posOf all i with | some j => ρr.root j | none => ρ.root i, ver := fun i => match posOf all i with | some j => if j < n0 then ρ.ver i else ρr.ver j | none => ρ.ver i, M := ρr.M, foot := fun i => match posOf all i with | some j => ρr.foot j | none => ρ.foot i }
 have hpos : ∀ {j i}, all[j]? = some i → posOf all i = some j := ux hn
 have hroot : ∀ {j i}, all[j]? = some i → ρ'.root i = ρr.root j := fun hj => by simp only [ρ', hpos hj]
 have hfoot : ∀ {j i}, all[j]? = some i → ρ'.foot i = ρr.foot j := fun hj => by simp only [ρ', hpos hj]
 have hverO : ∀ {j i}, all[j]? = some i → j < n0 → ρ'.ver i = ρ.ver i := fun hj hlt => by simp only [ρ', hpos hj, if_pos hlt]
 have hverN : ∀ {j i}, all[j]? = some i → ¬ j < n0 → ρ'.ver i = ρr.ver j := fun hj hlt => by simp only [ρ', hpos hj, if_neg hlt]
 have hout : ∀ {i}, posOf all i = none → ρ'.root i = ρ.root i ∧ ρ'.ver i = ρ.ver i ∧ ρ'.foot i = ρ.foot i := fun hp => ⟨by simp only [ρ', hp], by simp only [ρ', hp], by simp only [ρ', hp]⟩
 have hallO : ∀ {j}, j < n0 → all[j]? = some (idO j) := fun hj => by
  have := hidj _ hj
  simp only [all]
  rw [List.getElem?_append_left hj]; exact this
 have hallN : ∀ {j i}, all[j]? = some i → ¬ j < n0 → news[j - n0]? = some i := fun {j i} hj hlt => by
  simp only [all] at hj
  rwa [List.getElem?_append_right (by omega)] at hj
 have hblk : ∀ b, b < w.heap.size → (∀ j, j < n0 → b ∉ ρ.foot (idO j)) → w'.heap[b]? = w.heap[b]? := fun b hb hnb => hr.kept b hb (by rintro ⟨j, hj, hb'⟩; exact hnb j hj hb')
 have hrfoot : ∀ j b, b ∈ ρr.foot j → (∃ k, k < n0 ∧ b ∈ ρ.foot (idO k)) ∨ w.heap.size ≤ b := fun j b hb => hr.fro j b hb
 have hnone : ∀ {i b}, posOf all i = none → b ∈ ρ.foot i → ∀ j, j < n0 → b ∉ ρ.foot (idO j) := fun {i b} hp hb j hj hb' => by
  refine h.dis i (idO j) b (fun e => ?_) hb hb'
  subst e
  rw [hpos (hallO hj)] at hp; cases hp
 have le : ρ.Le ρ' := by
  refine ⟨hr.mono, fun i b hb => ?_, fun i => ?_, fun i hv hs => ?_⟩
  · cases hp : posOf all i with
    | none => rw [(hout hp).1]; exact hb
    | some j =>
      have hj := bL hp
      rw [hroot hj]
      by_cases hlt : j < n0
      · have e1 := hallO hlt
        rw [hj] at e1
        cases e1
        exact hr.rt j b hlt (by show ρc.root j = _; simp only [ρc, if_pos hlt]; exact hb)
      · have := hnew i (List.mem_of_getElem? (hallN hj hlt))
        have h1 := h.ch i
        rw [this] at h1
        rw [h1.2.1] at hb; cases hb
  · cases hp : posOf all i with
    | none => rw [(hout hp).2.1]; exact Nat.le_refl _
    | some j =>
      have hj := bL hp
      by_cases hlt : j < n0
      · rw [hverO hj hlt]; exact Nat.le_refl _
      · have := hnew i (List.mem_of_getElem? (hallN hj hlt))
        have h1 := h.ch i
        rw [this] at h1
        rw [h1.2.2]; exact Nat.zero_le _
  · cases hp : posOf all i with
    | none => exact (hout hp).1
    | some j =>
      have hj := bL hp
      by_cases hlt : j < n0
      · have e1 := hallO hlt
        rw [hj] at e1
        cases e1
        rw [hroot hj]
        obtain ⟨ao, l, c, hs⟩ := hs
        have hr0 : Gc.root0 j = .slice ao l c := by show ρc.root j = _; simp only [ρc, if_pos hlt]; exact hs
        rcases hkin j _ (hidj j hlt) with ⟨x, x', h1, -, -, -⟩ | ⟨t, e, L, L', -, -, -, h2⟩
        · have h4 := h.ch (idO j)
          rw [h1] at h4
          obtain ⟨b, h7⟩ := AI.root h4
          rw [hs] at h7; cases h7
        · have h3 := hr.ch j
          simp only [] at h3
          rw [h2] at h3
          rw [(hr.rts j hlt).2 ao l c hr0 h3.1.symm, hs]
      · have := hnew i (List.mem_of_getElem? (hallN hj hlt))
        have h1 := h.ch i
        rw [this] at h1
        obtain ⟨_, _, _, hs⟩ := hs
        rw [h1.2.1] at hs; cases hs
 refine ⟨y, ρ', rfl, ⟨h.sz, h.gt, fun t x ht => ?_, fun i => ?_, fun i k b hik hi hk => ?_, fun i b hb => ?_, fun b o x hm => ⟨(hr.im b o x hm).1, fun i hb => ?_⟩, hr.os.trans h.os, hr.tape.trans h.tape, hr.output.trans h.output, Nat.le_trans h.grow hr.grow,
  fun b hb hn' => ?_, fun i b hb => ?_, fun i b hi hb => le.ptr i b (h.rt i b hi hb), fun i hi => ?_, fun b o x hm => hr.mono b o x (h.mono b o x hm), fun b o x hm => ?_⟩, ?_, le⟩
 · obtain ⟨u, h1, h2⟩ := h.tm t x ht; exact ⟨u, h1, h2.mono le⟩
 · show aQ AI ρ' w' i (aC H' i)
   cases hp : posOf all i with
   | none =>
     rw [hrest i (kU hp)]
     obtain ⟨e1, e2, e3⟩ := hout hp
     exact (h.ch i).stays le e1 e2 e3 fun b hb => hblk b (h.lt i b hb) (hnone hp hb)
   | some j =>
     have hj := bL hp
     have h3 := hr.ch j
     simp only [] at h3
     by_cases hlt : j < n0
     · have e1 := hallO hlt
       rw [hj] at e1
       cases e1
       rcases hkin j _ (hidj j hlt) with ⟨x, x', -, h1, -, h2⟩ | ⟨t, e, L, L', -, h1, -, h2⟩
       · rw [h1]
         rw [h2] at h3
         simp only [aQ, hroot hj, hfoot hj] at h3 ⊢
         exact h3
       · rw [h1]
         rw [h2] at h3
         exact ⟨(hverO hj hlt).symm, by rw [hroot hj, hfoot hj]; exact h3.2⟩
     · have hj' := hallN hj hlt
       obtain ⟨h4, h5, h5', h5'', h5m⟩ := hnew' _ _ hj'
       have hjn : ids.length + (j - n0) = j := by show n0 + (j - n0) = j; omega
       rw [hjn] at h4 h5 h5' h5'' h5m
       rw [h4]
       cases hg : aC H1 j with
       | emp => rw [hg] at h3; simp only [aQ, hroot hj, hfoot hj, hverN hj hlt] at h3 ⊢; exact h3
       | gone => trivial
       | cells t cs => exact absurd hg (h5 t cs)
       | row t e ver L => rw [hg] at h3; exact ⟨h3.1.trans (hverN hj hlt).symm, by rw [hroot hj, hfoot hj]; exact h3.2⟩
       | map ks e L => rw [hg] at h3; simp only [aQ, hroot hj, hfoot hj] at h3 ⊢; exact h3
       | rmap ks e L R c q => exact absurd hg (h5' ks e L R c q)
       | itp q => rw [hg] at h3; simp only [aQ, hroot hj, hfoot hj] at h3 ⊢; exact h3
       | mnest tb L q =>
         cases q with
         | some q => exact absurd hg (h5m _ _ _)
         | none =>
           rw [hg] at h3
           simp only [aQ, hroot hj, hfoot hj] at h3 ⊢
           exact h3.kN (fun _ _ _ h => h) (fun _ _ e => by cases e) fun _ _ => rfl
       | nest t tb z ver L q =>
         cases q with
         | some q => exact absurd hg (h5'' _ _ _ _ _ _)
         | none => rw [hg] at h3; exact ⟨h3.1.trans (hverN hj hlt).symm, by rw [hroot hj, hfoot hj]; exact h3.2.kn rfl⟩
       | abs x => rw [hg] at h3; simp only [aQ, hroot hj, hfoot hj] at h3 ⊢; exact h3
 · cases hp : posOf all i with
   | none =>
     rw [(hout hp).2.2] at hi
     cases hq : posOf all k with
     | none => rw [(hout hq).2.2] at hk; exact h.dis i k b hik hi hk
     | some j =>
       rw [hfoot (bL hq)] at hk
       rcases hrfoot j b hk with ⟨m, hm, hb⟩ | hge
       · exact hnone hp hi m hm hb
       · have := h.lt i b hi; omega
   | some j =>
     rw [hfoot (bL hp)] at hi
     cases hq : posOf all k with
     | none =>
       rw [(hout hq).2.2] at hk
       rcases hrfoot j b hi with ⟨m, hm, hb⟩ | hge
       · exact hnone hq hk m hm hb
       · have := h.lt k b hk; omega
     | some j' =>
       rw [hfoot (bL hq)] at hk
       refine hr.dis j j' b (fun e => hik ?_) hi hk
       subst e
       have h1 := bL hp
       have h2 := bL hq
       rw [h1] at h2
       exact Option.some.inj h2
 · cases hp : posOf all i with
   | none => rw [(hout hp).2.2] at hb; exact Nat.lt_of_lt_of_le (h.lt i b hb) hr.grow
   | some j => rw [hfoot (bL hp)] at hb; exact hr.lt j b hb
 · cases hp : posOf all i with
   | none =>
     rw [(hout hp).2.2] at hb
     rcases hr.mfr b o x hm with h1 | ⟨m, h1, h2⟩ | h1
     · exact (h.im b o x h1).2 i hb
     · exact hnone hp hb m h1 h2
     · have h1 : w.heap.size ≤ b := h1
       have := h.lt i b hb; omega
   | some j => rw [hfoot (bL hp)] at hb; exact (hr.im b o x hm).2 j hb
 · refine (hblk b (Nat.lt_of_lt_of_le hb h.grow) fun j hj hb' => ?_).trans (h.kept b hb hn')
   rcases h.fro _ b hb' with h1 | h1
   · exact hn' h1
   · omega
 · have new : ∀ b, w.heap.size ≤ b → G.w0.heap.size ≤ b := fun b hb => Nat.le_trans h.grow hb
   cases hp : posOf all i with
   | none => rw [(hout hp).2.2] at hb; exact h.fro i b hb
   | some j =>
     rw [hfoot (bL hp)] at hb
     rcases hrfoot j b hb with ⟨m, hm, hb'⟩ | hge
     · exact h.fro _ b hb'
     · exact .inr (new b hge)
 · obtain ⟨hv0, hs⟩ := h.rts i hi
   refine ⟨Nat.le_trans hv0 (le.ver i), fun ao l c hb hv => ?_⟩
   have e0 : ρ.ver i = G.ver0 i := Nat.le_antisymm (hv ▸ le.ver i) hv0
   have h1 := hs ao l c hb e0
   rw [le.same i (by rw [e0, hv]) ⟨_, _, _, h1⟩]; exact h1
 · rcases hr.mfr b o x hm with h1 | ⟨m, h1, h2⟩ | h1
   · exact h.mfr b o x h1
   · exact .inr (h.fro _ b h2)
   · exact .inr (.inr (Nat.le_trans h.grow h1))
 · refine hres ρr ρ' rfl (fun j i hj => hroot hj) (fun j i hj => ?_) y hy
   have hj2 : all[n0 + j]? = some i := by
    simp only [all]
    rw [List.getElem?_append_right (by show n0 ≤ n0 + j; omega)]
    simpa [n0] using hj
   exact hverN hj2 (by omega)
end Go.Sx
namespace Go.Sx
set_option linter.all false
open Go.RowKit
variable {P : Program}
theorem mapM_some {α β : Type} {f : α → Option β} : ∀ {l : List α}, (∀ x ∈ l, ∃ y, f x = some y) → ∃ ys, l.mapM f = some ys
 | [], _ => ⟨[], rfl⟩
 | x :: r, h => by
   obtain ⟨y, hy⟩ := h x (List.mem_cons_self ..)
   obtain ⟨ys, hys⟩ := mapM_some fun z hz => h z (List.mem_cons_of_mem _ hz)
   exact ⟨y :: ys, by simp [List.mapM_cons, hy, hys]⟩
theorem BL {α : Type} {l : List α} {i : Nat} {v : α} (h : l[i]? = some v) : (l.drop i).take 1 = [v] := by
 obtain ⟨hl, e⟩ := List.getElem?_eq_some_iff.1 h
 rw [List.drop_eq_getElem_cons hl, e]; rfl
def lG (P : Program) (t : TypeId) (e : Ty) : Bool := P.cellsOf t == 1 && e.ka && match e, P.underlying t with
 | .int k, some (.int k') => k == k'
 | .bool, some .bool => true
 | _, _ => false
theorem jZ {t : TypeId} {e : Ty} (h : lG P t e = true) {x : e.T} (hx : e.bW x) : ∃ v l, e.b8 x = [v] ∧ ∀ d, P.keyLits (d + 1) t [v] = some [l] := by
 unfold lG at h
 simp only [Bool.and_eq_true, beq_iff_eq] at h
 obtain ⟨⟨h1, h2⟩, h3⟩ := h
 split at h3
 · rename_i k k' hu
   simp at h3; subst h3
   cases k <;> cases h2
   refine ⟨_, .int .i64 x, rfl, fun d => ?_⟩
   have : (Lit.int .i64 x).wf = true := by
    have hx : -9223372036854775808 ≤ x ∧ x ≤ 9223372036854775807 := hx
    simp [Lit.wf, IntKind.min, IntKind.max, IntKind.signed, IntKind.bits]
    omega
   simp [Program.keyLits, hu, this]
 · rename_i hu
   exact ⟨_, .bool x, rfl, fun d => by simp [Program.keyLits, hu]⟩
 · cases h3
theorem pG {t : TypeId} {e : Ty} (h : lG P t e = true) : P.cellsOf t = 1 := by
 unfold lG at h
 simp only [Bool.and_eq_true, beq_iff_eq] at h
 exact h.1.1
def va (P : Program) : Nat → List Field → Ty → Bool
 | j, [f], e => f.offset == j && f.name != "_" && lG P f.type e
 | j, f :: g :: r, .pair a b => f.offset == j && f.name != "_" && lG P f.type a && va P (j + 1) (g :: r) b
 | _, _, _ => false
theorem vZ : ∀ {fs : List Field} {j : Nat} {e : Ty}, va P j fs e = true → ∀ {x : e.T}, e.bW x → ∀ f ∈ fs, f.name ≠ "_" ∧ P.cellsOf f.type = 1 ∧ j ≤ f.offset ∧ ∃ v l, (e.b8 x)[f.offset - j]? = some v ∧ ∀ d, P.keyLits (d + 1) f.type [v] = some [l]
 | [], j, e, h, x, hx, f, hf => by cases hf
 | [g], j, e, h, x, hx, f, hf => by
   simp only [va, Bool.and_eq_true, beq_iff_eq, bne_iff_ne] at h
   obtain ⟨⟨h1, h2⟩, h3⟩ := h
   obtain rfl := List.mem_singleton.1 hf
   obtain ⟨v, l, e1, hl⟩ := jZ h3 hx
   exact ⟨h2, pG h3, by omega, v, l, by rw [e1, h1]; simp, hl⟩
 | g :: g2 :: r, j, e, h, x, hx, f, hf => by
   cases e <;> simp only [va, Bool.and_eq_true, beq_iff_eq, bne_iff_ne, Bool.false_eq_true] at h
   rename_i a b
   obtain ⟨⟨⟨h1, h2⟩, h3⟩, h4⟩ := h
   have hx : a.bW x.1 ∧ b.bW x.2 := hx
   obtain ⟨v, l, e1, hl⟩ := jZ h3 hx.1
   rcases List.mem_cons.1 hf with rfl | hf
   · exact ⟨h2, pG h3, by omega, v, l, by simp [Ty.b8, e1, h1], hl⟩
   · obtain ⟨q1, q2, q3, v2, l2, q4, q5⟩ := vZ h4 hx.2 f hf
     refine ⟨q1, q2, by omega, v2, l2, ?_, q5⟩
     simp only [Ty.b8, e1]
     rw [List.getElem?_append_right (by simp; omega)]
     rw [← q4]; congr 1
def arrB (P : Program) (el : TypeId) : Nat → Ty → Bool
 | 0, _ => false
 | 1, e => lG P el e
 | n + 2, .pair a b => lG P el a && arrB P el (n + 1) b
 | _, _ => false
theorem yP {el : TypeId} : ∀ {n : Nat} {e : Ty}, arrB P el n e = true → ∀ {x : e.T}, e.bW x → ∀ i, i < n → ∃ v l, (e.b8 x)[i]? = some v ∧ ∀ d, P.keyLits (d + 1) el [v] = some [l]
 | 0, e, h, x, hx, i, hi => by omega
 | 1, e, h, x, hx, i, hi => by
   obtain ⟨v, l, e1, hl⟩ := jZ (show lG P el e = true from h) hx
   obtain rfl : i = 0 := by omega
   exact ⟨v, l, by rw [e1]; rfl, hl⟩
 | n + 2, e, h, x, hx, i, hi => by
   cases e <;> simp only [arrB, Bool.and_eq_true, Bool.false_eq_true] at h
   rename_i a b
   have hx : a.bW x.1 ∧ b.bW x.2 := hx
   obtain ⟨v, l, e1, hl⟩ := jZ h.1 hx.1
   cases i with
   | zero => exact ⟨v, l, by simp [Ty.b8, e1], hl⟩
   | succ i =>
     obtain ⟨v2, l2, q4, q5⟩ := yP h.2 hx.2 i (by omega)
     exact ⟨v2, l2, by simp only [Ty.b8, e1]; simpa using q4, q5⟩
def keyB (P : Program) (t : TypeId) (e : Ty) : Bool := e.ka && P.keyTypeAt 3 t && P.keyType t && P.tiled 3 t && P.cellsOf t == e.size && jI 1 P.types.size && match P.underlying t with
 | some (.struct fs) => va P 0 fs.toList e
 | some (.array n el) => arrB P el n e && P.cellsOf el == 1
 | _ => false
theorem fP : ∀ {e : Ty}, e.ka = true → ∀ (x : e.T), (e.b8 x).length = e.size
 | .int k, _, _ => rfl
 | .bool, _, _ => rfl
 | .pair a b, hf, x => by
   simp only [Ty.ka, Bool.and_eq_true] at hf
   simp [Ty.b8, Ty.size, fP hf.1, fP hf.2]
 | .bytes, hf, _ => by cases hf
 | .str, hf, _ => by cases hf
 | .unit, hf, _ => by cases hf
 | .lst _, hf, _ => by cases hf
theorem nK : ∀ {e : Ty}, e.ka = true → ∀ {x y : e.T}, e.b8 x = e.b8 y → x = y
 | .int k, _, x, y, h => by simp [Ty.b8] at h; exact h
 | .bool, _, x, y, h => by simp [Ty.b8] at h; exact h
 | .pair a b, hf, x, y, h => by
   simp only [Ty.ka, Bool.and_eq_true] at hf
   simp only [Ty.b8] at h
   obtain ⟨h1, h2⟩ := List.append_inj h (by rw [fP hf.1, fP hf.1])
   exact Prod.ext (nK hf.1 h1) (nK hf.2 h2)
 | .bytes, hf, _, _, _ => by cases hf
 | .str, hf, _, _, _ => by cases hf
 | .unit, hf, _, _, _ => by cases hf
 | .lst _, hf, _, _, _ => by cases hf
theorem wu {t : TypeId} {e : Ty} (h : keyB P t e = true) : uD P t e := by
 unfold keyB at h
 simp only [Bool.and_eq_true, beq_iff_eq, qe] at h
 obtain ⟨⟨⟨⟨⟨⟨h1, h2⟩, h3⟩, h4⟩, h5⟩, h6⟩, h7⟩ := h
 obtain ⟨n, hn⟩ : ∃ n, P.types.size = n + 1 := ⟨P.types.size - 1, by omega⟩
 have hwide : (match P.underlying t with | some (.array _ _) | some (.struct _) => true | _ => false) = true := by
  split at h7
  · rename_i hu; rw [hu]
  · rename_i hu; rw [hu]
  · cases h7
 have hread : ∀ x : e.T, e.bW x → ∃ l, keyOf P t (.agg (e.b8 x).toArray) = some l := by
  intro x hx
  have hlen := fP h1 x
  have hlits : ∃ ls, P.keyLits (P.types.size + 1) t (e.b8 x) = some ls := by
   rw [hn]
   unfold Program.keyLits
   split at h7
   · rename_i fs hu
     simp only [hu]
     have hm := vZ h7 hx
     rw [if_pos ⟨by rw [hlen, h5], by
      rw [Array.all_eq_true_iff_forall_mem]
      intro f hf
      have := (hm f (Array.mem_toList_iff.2 hf)).1
      simpa using this⟩]
     obtain ⟨ys, hys⟩ := mapM_some (f := fun f : Field => P.keyLits (n + 1) f.type (((e.b8 x).drop f.offset).take (P.cellsOf f.type))) (l := fs.toList) (fun f hf => by
      obtain ⟨q1, q2, q3, v, l, q4, q5⟩ := hm f hf
      rw [Nat.sub_zero] at q4
      exact ⟨[l], by rw [q2, BL q4]; exact q5 n⟩)
     exact ⟨_, by rw [hys]; rfl⟩
   · rename_i m el hu
     simp only [hu]
     simp only [Bool.and_eq_true, beq_iff_eq] at h7
     rw [if_pos (by rw [hlen, h5])]
     obtain ⟨ys, hys⟩ := mapM_some (f := fun i => P.keyLits (n + 1) el (((e.b8 x).drop (i * P.cellsOf el)).take (P.cellsOf el))) (l := List.range m) (fun i hi => by
      obtain ⟨v, l, q4, q5⟩ := yP h7.1 hx i (List.mem_range.1 hi)
      exact ⟨[l], by rw [h7.2, Nat.mul_one, BL q4]; exact q5 n⟩)
     exact ⟨_, by rw [hys]; rfl⟩
   · cases h7
  obtain ⟨ls, hls⟩ := hlits
  have hform : (Value.agg (e.b8 x).toArray).formed P t = true := by
   unfold Value.formed
   split at hwide
   · rename_i hu; simp [hu, hlen, h5]
   · rename_i hu; simp [hu, hlen, h5]
   · cases hwide
  have hcells : (Value.agg (e.b8 x).toArray).cells.toList = e.b8 x := by simp [Value.cells]
  refine ⟨.string (keyBytes ls), ?_⟩
  unfold keyOf
  split at hwide
  · rename_i hu
    simp only [hu, h3, hform, Bool.and_self, if_true, hcells, hls]; rfl
  · rename_i hu
    simp only [hu, h3, hform, Bool.and_self, if_true, hcells, hls]; rfl
  · cases hwide
 have law := deep_law (P := P) (m := 3) (by decide) h2 h4 hwide
 refine ⟨hwide, fun x y hx hy w => ?_, fun x hx em w => ?_, fun x hx w => ?_⟩
 · obtain ⟨lx, e1⟩ := hread x hx
   obtain ⟨ly, e2⟩ := hread y hy
   obtain ⟨r, hr, hiff⟩ := run_equal_deep w (show 3 ≤ 10000 by decide) h2 hwide e1 e2
   rw [hr]
   congr 1
   letI := e.dec
   rw [Bool.eq_iff_iff, hiff, decide_eq_true_iff]
   constructor
   · intro e3
     subst e3
     have := law.inj e1 e2
     simp only [Value.agg.injEq] at this
     exact nK h1 (by simpa using congrArg Array.toList this)
   · rintro rfl
     rw [e1] at e2; exact Option.some.inj e2
 · obtain ⟨lx, e1⟩ := hread x hx
   exact law.check w em e1
 · obtain ⟨lx, e1⟩ := hread x hx
   exact law.stays w e1
end Go.Sx
namespace Go.Sx
set_option linter.all false
open Go.RowKit
variable {P : Program}
def cd : Ty → List Value → Option (List Value)
 | .int k, .int k' n :: r => if k = k' ∧ n = 0 then some r else none
 | .bool, .bool b :: r => if b = false then some r else none
 | .bytes, .slice none 0 0 :: r => some r
 | .lst _, .slice none 0 0 :: r => some r
 | .str, .string s :: r => if s.size = 0 then some r else none
 | .unit, r => some r
 | .pair a b, r => match cd a r with
   | some r => cd b r
   | none => none
 | _, _ => none
def isNil : Option (List Value) → Bool
 | some [] => true
 | _ => false
theorem qE {o : Option (List Value)} (h : isNil o = true) : o = some [] := by
 unfold isNil at h
 split at h
 · rfl
 · cases h
theorem eR {M : Mem} : ∀ {T : Ty} {l r : List Value}, cd T l = some r → ∃ l1, l = l1 ++ r ∧ l1.length = T.size ∧ aI M T T.cY (fun j => l1[j]?)
 | .int k, l, r, h => by
   cases l with
   | nil => simp [cd] at h
   | cons v l =>
     cases v <;> simp [cd] at h
     obtain ⟨⟨rfl, rfl⟩, rfl⟩ := h
     exact ⟨[.int k 0], rfl, rfl, rfl⟩
 | .bool, l, r, h => by
   cases l with
   | nil => simp [cd] at h
   | cons v l =>
     cases v <;> simp [cd] at h
     obtain ⟨rfl, rfl⟩ := h
     exact ⟨[.bool false], rfl, rfl, rfl⟩
 | .bytes, l, r, h => by
   cases l with
   | nil => simp [cd] at h
   | cons v l =>
     cases v <;> (try (simp [cd] at h; done))
     rename_i ao len cap
     cases ao <;> cases len <;> cases cap <;> (try (simp [cd] at h; done))
     simp [cd] at h
     subst h
     exact ⟨[.slice none 0 0], rfl, rfl, _, rfl, none, 0, rfl, by simp [Ty.cY], by simp [Ty.cY]⟩
 | .lst e, l, r, h => by
   cases l with
   | nil => simp [cd] at h
   | cons v l =>
     cases v <;> (try (simp [cd] at h; done))
     rename_i ao len cap
     cases ao <;> cases len <;> cases cap <;> (try (simp [cd] at h; done))
     simp [cd] at h
     subst h
     exact ⟨[.slice none 0 0], rfl, rfl, _, rfl, none, 0, rfl, by simp [Ty.cY], by simp [Ty.cY]⟩
 | .str, l, r, h => by
   cases l with
   | nil => simp [cd] at h
   | cons v l =>
     cases v <;> simp [cd] at h
     rename_i s
     obtain ⟨h0, rfl⟩ := h
     refine ⟨[.string s], rfl, rfl, ?_⟩
     have : s = ⟨#[]⟩ := h0
     subst this
     show _ = _
     rfl
 | .unit, l, r, h => by simp [cd] at h; subst h; exact ⟨[], rfl, rfl, trivial⟩
 | .pair a b, l, r, h => by
   simp only [cd] at h
   split at h
   · rename_i r1 h1
     obtain ⟨l1, e1, e2, e3⟩ := eR (M := M) h1
     obtain ⟨l2, e4, e5, e6⟩ := eR (M := M) h
     refine ⟨l1 ++ l2, by rw [e1, e4]; simp, by simp [Ty.size, e2, e5], aI.congr a e3 fun j v hj hv => ?_, aI.congr b e6 fun j v hj hv => ?_⟩
     · simp only [List.getElem?_append_left (show j < l1.length by omega)]; exact hv
     · simp only [List.getElem?_append_right (show l1.length ≤ a.size + j by omega), show a.size + j - l1.length = j by omega]; exact hv
   · cases h
def ru (P : Program) : List (Nat × Nat) → List Field → Bool
 | [], [] => true
 | (o, sz) :: l, f :: fs => f.offset == o && (match P.info? f.type with | some g => g.size == sz | none => false) && ru P l fs
 | _, _ => false
theorem nw : ∀ {l : List (Nat × Nat)} {fs : List Field}, ru P l fs = true → aL (fun (p : Nat × Nat) (f : Field) => f.offset = p.1 ∧ ∃ g, P.info? f.type = some g ∧ g.size = p.2) l fs
 | [], [], _ => .nil
 | (o, sz) :: l, f :: fs, h => by
   simp only [ru, Bool.and_eq_true, beq_iff_eq] at h
   obtain ⟨⟨h1, h2⟩, h3⟩ := h
   split at h2
   · rename_i g hg; exact .cons ⟨h1, g, hg, by simpa using h2⟩ (nw h3)
   · cases h2
 | [], _ :: _, h => by cases h
 | _ :: _, [], h => by cases h
def vP (P : Program) (t : TypeId) (k : TK) : Bool := match k, P.underlying t with
 | .int k, some (.int k') => k == k'
 | .bool, some .bool => true
 | .str, some .string => true
 | .struct offs, some (.struct fs) => ru P offs fs.toList
 | .slice e ty, some (.slice e') => e == e' && (match P.info? e with
   | some g => (match ty with
     | none => true
     | some T => g.size == T.size && decide (0 < g.size) && decide (g.bytes ≤ 128) && (match T, P.underlying e with | .int k, some (.int k') => k == k' | .int _, _ => false | _, _ => true) && (match g.zero with | some z => z.cells.size == T.size && isNil (cd T z.cells.toList) | none => false))
   | none => false)
 | .array n e, some (.array n' e') => n == n' && e == e' && (P.info? e).isSome
 | .ptr e, some (.pointer e') => e == e'
 | .other, some (.func _ _ _) => true
 | .map k e ty, some (.map k' e') => k == k' && e == e' && (match ty with
   | none => true
   | some (ks, T) => (match ks, P.underlying k with | .int kk, some (.int kk') => kk == kk' | .str, some .string => true | .agg e2, _ => keyB P k e2 | _, _ => false) && (match P.info? e with
     | some g => (match g.zero with
       | some (.agg cs) => T.agg && cs.size == T.size && isNil (cd T cs.toList)
       | some z => !T.agg && T.size == 1 && isNil (cd T [z])
       | none => false)
     | none => false))
 | _, _ => false
theorem vO {t : TypeId} {k : TK} (h : vP P t k = true) : jO P t k := by
 unfold vP at h
 split at h
 · rename_i k k' hu; simp at h; subst h; exact hu
 · rename_i hu; exact hu
 · rename_i hu; exact hu
 · rename_i offs fs hu; exact ⟨fs, hu, nw h⟩
 · rename_i e ty e' hu
   simp only [Bool.and_eq_true, beq_iff_eq] at h
   obtain ⟨rfl, h⟩ := h
   split at h
   · rename_i g hg
     refine ⟨hu, g, hg, fun T hT => ?_⟩
     subst hT
     simp only [Bool.and_eq_true, beq_iff_eq, decide_eq_true_eq] at h
     obtain ⟨⟨⟨⟨h1, h2⟩, h3⟩, h4⟩, h5⟩ := h
     refine ⟨h1, h2, h3, fun k hk => ?_, ?_⟩
     · subst hk
       split at h4
       · rename_i k1 k2 e1 e2; cases e1; simp at h4; subst h4; exact e2
       · cases h4
       · rename_i hno _; exact absurd rfl (hno _)
     · split at h5
       · rename_i z hz
         simp only [Bool.and_eq_true, beq_iff_eq] at h5
         obtain ⟨h6, h7⟩ := h5
         refine ⟨z, hz, h6, fun M => ?_⟩
         obtain ⟨l1, e1, e2, e3⟩ := eR (M := M) (qE h7)
         simp only [List.append_nil] at e1
         rw [e1]; exact e3
       · cases h5
   · cases h
 · rename_i n e n' e' hu
   simp only [Bool.and_eq_true, beq_iff_eq] at h
   obtain ⟨⟨rfl, rfl⟩, h⟩ := h
   exact ⟨hu, Option.isSome_iff_exists.1 h⟩
 · rename_i e e' hu; simp at h; subst h; exact hu
 · rename_i hu; exact ⟨_, hu, fun x => ⟨fun e => (by cases e), fun n e q => (by cases q)⟩⟩
 · rename_i k e ty k' e' hu
   simp only [Bool.and_eq_true, beq_iff_eq] at h
   obtain ⟨⟨rfl, rfl⟩, h⟩ := h
   refine ⟨hu, fun ks T hT => ?_⟩
   subst hT
   simp only [Bool.and_eq_true] at h
   obtain ⟨h1, h2⟩ := h
   refine ⟨?_, ?_⟩
   · split at h1
     · rename_i h3; simp at h1; subst h1; exact h3
     · rename_i h3; exact h3
     · exact wu h1
     · cases h1
   · split at h2 <;> (try cases h2)
     rename_i g hg
     split at h2 <;> (try cases h2)
     · rename_i cs hz
       simp only [Bool.and_eq_true, beq_iff_eq] at h2
       obtain ⟨⟨h3, h4⟩, h5⟩ := h2
       refine ⟨g, _, hg, hz, fun M => ?_⟩
       obtain ⟨l1, e1, e2, e3⟩ := eR (M := M) (qE h5)
       simp only [List.append_nil] at e1
       refine ⟨cs.toList, by simpa using h4, e1 ▸ e3, ?_⟩
       rw [h3]
     · rename_i z _ hz
       simp only [Bool.and_eq_true, beq_iff_eq, Bool.not_eq_true'] at h2
       obtain ⟨⟨h3, h4⟩, h5⟩ := h2
       refine ⟨g, _, hg, hz, fun M => ?_⟩
       obtain ⟨l1, e1, e2, e3⟩ := eR (M := M) (qE h5)
       simp only [List.append_nil] at e1
       refine ⟨[z], by simpa using h4.symm, e1 ▸ e3, ?_⟩
       rw [h3]
 · cases h
def nM (P : Program) (t : TypeId) : Bool := match P.underlying t with
 | some (.int _) => true
 | _ => false
def yE (P : Program) : Nat → List Field → Bool
 | _, [] => true
 | j, f :: r => f.name != "_" && f.offset == j && nM P f.type && yE P (j + 1) r
def eqB (P : Program) (t : TypeId) (n : Nat) : Bool := match P.underlying t with
 | some (.struct fs) => !P.stoodInHeld t && !P.eqGuardType P.depth t && yE P 0 fs.toList && fs.size == n
 | some (.array m e) => !P.eqGuardType P.depth t && nM P e && (P.info? e).isSome && P.cellsOf e == 1 && m == n
 | _ => false
theorem iL {t : TypeId} (h : nM P t = true) : ∃ k, P.underlying t = some (.int k) := by
 unfold nM at h
 split at h
 · rename_i k hk; exact ⟨k, hk⟩
 · cases h
theorem lN {e : TypeId} (he : nM P e = true) {xs : Array Value} {off : Nat} {v : Value} (hx : xs[off]? = some v) (w : World) : (part e xs off).run P w = .ok v w := by
 obtain ⟨k, hk⟩ := iL he
 unfold part
 rw [Sem.run_bind]
 have h1 : (isAgg e).run P w = .ok false w := by simp [isAgg, run_underlying hk]
 rw [h1]
 simp only [Result.andThen, Bool.false_eq_true, if_false, hx]
 rfl
theorem mD (d : Nat) (w : World) (xs ys : Array Value) : ∀ (fs : List Field) (j : Nat) (vs us : List Value), yE P j fs = true → fs.length = vs.length → aL (fun v u => ∃ k a b, v = .int k a ∧ u = .int k b) vs us → (∀ i v, vs[i]? = some v → xs[j + i]? = some v) → (∀ i v, us[i]? = some v → ys[j + i]? = some v) →
 (Op.eqFields (d + 1) xs ys fs).run P w = .ok (oQ vs us) w
 | [], j, vs, us, _, hl, h2, _, _ => by
   cases h2 with
   | nil => simp [Op.eqFields, oQ]
   | cons _ _ => simp at hl
 | f :: fs, j, vs, us, hf, hl, h2, hx, hy => by
   cases h2 with
   | nil => simp at hl
   | @cons v u vs us h h2 =>
     obtain ⟨k, a, b, rfl, rfl⟩ := h
     simp only [yE, Bool.and_eq_true, bne_iff_ne, ne_eq, beq_iff_eq] at hf
     obtain ⟨⟨⟨f1, f2⟩, f3⟩, f4⟩ := hf
     have e1 := lN (P := P) f3 (hx 0 _ rfl) w
     have e2 := lN (P := P) f3 (hy 0 _ rfl) w
     obtain ⟨k', hk'⟩ := iL f3
     have e3 := run_equalIn_int (P := P) w d f.type k k' a b hk'
     have ih := mD d w xs ys fs (j + 1) vs us f4 (by simpa using hl) h2 (fun i v hi => by rw [show j + 1 + i = j + (i + 1) by omega]; exact hx (i + 1) v (by simpa using hi)) (fun i v hi => by rw [show j + 1 + i = j + (i + 1) by omega]; exact hy (i + 1) v (by simpa using hi))
     rw [Nat.add_zero] at e1 e2
     subst f2
     simp only [Op.eqFields, f1, ne_eq, not_false_eq_true, if_true, Sem.run_bind, e1, e2, e3, Result.andThen_ok]
     by_cases hab : a = b
     · subst hab
       simp only [beq_self_eq_true, Bool.not_true, Bool.false_eq_true, if_false, oQ, Bool.true_and]
       exact ih
     · have : (a == b) = false := by simpa using hab
       simp [this, oQ]
theorem o5 (d : Nat) (w : World) {e : TypeId} (he : nM P e = true) (xs ys : Array Value) : ∀ (n j : Nat) (vs us : List Value), n = vs.length → aL (fun v u => ∃ k a b, v = .int k a ∧ u = .int k b) vs us → (∀ i v, vs[i]? = some v → xs[j + i]? = some v) → (∀ i v, us[i]? = some v → ys[j + i]? = some v) →
 (Op.eqItems (d + 1) e 1 xs ys (List.range' j n)).run P w = .ok (oQ vs us) w
 | 0, j, vs, us, hl, h2, _, _ => by
   cases h2 with
   | nil => simp [Op.eqItems, oQ]
   | cons _ _ => simp at hl
 | n + 1, j, vs, us, hl, h2, hx, hy => by
   cases h2 with
   | nil => simp at hl
   | @cons v u vs us h h2 =>
     obtain ⟨k, a, b, rfl, rfl⟩ := h
     have e1 := lN (P := P) he (hx 0 _ rfl) w
     have e2 := lN (P := P) he (hy 0 _ rfl) w
     obtain ⟨k', hk'⟩ := iL he
     have e3 := run_equalIn_int (P := P) w d e k k' a b hk'
     have ih := o5 d w he xs ys n (j + 1) vs us (by simpa using hl) h2 (fun i v hi => by rw [show j + 1 + i = j + (i + 1) by omega]; exact hx (i + 1) v (by simpa using hi)) (fun i v hi => by rw [show j + 1 + i = j + (i + 1) by omega]; exact hy (i + 1) v (by simpa using hi))
     rw [Nat.add_zero] at e1 e2
     simp only [List.range'_succ, Op.eqItems, Nat.mul_one, Sem.run_bind, e1, e2, e3, Result.andThen_ok]
     by_cases hab : a = b
     · subst hab
       simp only [beq_self_eq_true, Bool.not_true, Bool.false_eq_true, if_false, oQ, Bool.true_and]
       exact ih
     · have : (a == b) = false := by simpa using hab
       simp [this, oQ]
theorem A1 {t : TypeId} {n : Nat} (h : eqB P t n = true) : EqOk P t n := by
 unfold eqB at h
 split at h
 · rename_i fs hu
   simp only [Bool.and_eq_true, Bool.not_eq_true', beq_iff_eq] at h
   obtain ⟨⟨⟨h1, h2⟩, h3⟩, h4⟩ := h
   refine ⟨h2, fun w vs us hl h5 => ?_⟩
   have hf : P.fieldsOf t = fs := by simp [Program.fieldsOf, hu]
   rw [run_equalIn_struct w 9999 t _ _ (by rw [hf]; exact hu) h1, hf]
   exact mD 9998 w _ _ fs.toList 0 vs us h3 (by simp [h4, hl]) h5 (fun i v hi => by simpa using hi) (fun i v hi => by simpa using hi)
 · rename_i m e hu
   simp only [Bool.and_eq_true, Bool.not_eq_true', beq_iff_eq] at h
   obtain ⟨⟨⟨⟨h1, h2⟩, h3⟩, h4⟩, rfl⟩ := h
   obtain ⟨i, hi⟩ := Option.isSome_iff_exists.1 h3
   refine ⟨h1, fun w vs us hl h5 => ?_⟩
   rw [run_equalIn_array w 9999 _ _ hu hi, h4, List.range_eq_range']
   exact o5 9998 w h2 _ _ m 0 vs us hl.symm h5 (fun i v hi => by simpa using hi) (fun i v hi => by simpa using hi)
 · cases h
def tiB (P : Program) (p : Nat × TI) : Bool := (p.2.bytes == 0 || eqB P p.1 p.2.size) && vP P p.1 p.2.kind && (match P.info? p.1 with | some f => f.size == p.2.size && f.zero.isSome | none => false)
def xa (P : Program) (t : TypeId) : List SV1 := match P.info? t with
 | some f => (match f.zero with | some z => z.cells.toList.map cy | none => [])
 | none => []
theorem vN {α : Type} : ∀ {l : List (Nat × α)} {t : Nat} {x : α}, look l t = some x → (t, x) ∈ l
 | [], t, x, h => by cases h
 | (k, y) :: r, t, x, h => by
   rw [ax] at h
   split at h
   · rename_i e; cases h; subst e; simp
   · exact List.mem_cons_of_mem _ (vN h)
theorem py {α β : Type} {f g : α → β} : ∀ {l : List α}, l.map f = l.map g → ∀ x ∈ l, f x = g x
 | [], _, x, h => by cases h
 | y :: r, h, x, hx => by
   simp only [List.map_cons, List.cons.injEq] at h
   rcases List.mem_cons.1 hx with rfl | hx
   · exact h.1
   · exact py h.2 x hx
theorem tiOk_of {ti : List (Nat × TI)} (h : ti.all (tiB P) = true) (hz : ti.map (fun p => xa P p.1) = ti.map fun p => p.2.zero) : rN P ti := by
 intro t i hl
 have hm := vN hl
 have h1 := List.all_eq_true.1 h _ hm
 have h2 := py hz _ hm
 unfold tiB at h1
 simp only [Bool.and_eq_true] at h1
 obtain ⟨⟨h0, h3⟩, h4⟩ := h1
 refine ⟨?_, vO h3, fun hb => ?_⟩
 rotate_left 1
 · simp only [Bool.or_eq_true, beq_iff_eq] at h0
   rcases h0 with h0 | h0
   · omega
   · exact A1 h0
 split at h4
 · rename_i f hf
   simp only [Bool.and_eq_true, beq_iff_eq] at h4
   obtain ⟨z, hz2⟩ := Option.isSome_iff_exists.1 h4.2
   refine ⟨f, hf, h4.1, z, hz2, ?_⟩
   dsimp only at h2
   rw [← h2]
   unfold xa
   rw [hf]
   dsimp only
   rw [hz2]
 · cases h4
end Go.Sx
namespace Go.Sx
set_option linter.all false
open Go.RowKit
variable {A : Type} {G : Fr} {s : SS A} {ρ : Ev} {a : Act} {w : World} {P : Program} {lay : A → List (Chunk A)} {tq : mX}
def yI : Chunk A → Bool
 | .cells _ _ => false
 | .rmap _ _ _ _ _ _ => false
 | .nest _ _ _ _ _ (some _) => false
 | .mnest _ _ (some _) => false
 | _ => true
theorem Holds.drop {AI : Abs A} {tm : List (Nat × SV)} {H H1 : List (Chunk A)} {tmps : Array Value} (h : Holds AI G ⟨tm, H⟩ ρ tmps w) (hn : G.n0 ≤ H1.length) (hH : ∀ i, i < H1.length → aC H1 i = aC H i) (hf : H1.all yI = true) : Holds AI G ⟨[], H1⟩ (ρ.trim H1.length) tmps w := by
 have hfoot : ∀ i b, b ∈ (ρ.trim H1.length).foot i → b ∈ ρ.foot i := by
  intro i b hb
  simp only [Ev.trim] at hb
  split at hb
  · exact hb
  · cases hb
 refine ⟨h.sz, h.gt, (fun t v ht => by cases ht), fun i => ?_, fun i j b hij hi hj => h.dis i j b hij (hfoot i b hi) (hfoot j b hj), fun i b hb => h.lt i b (hfoot i b hb), fun b o v hm => ⟨(h.im b o v hm).1, fun i hb => (h.im b o v hm).2 i (hfoot i b hb)⟩,
  h.os, h.tape, h.output, h.grow, h.kept, fun i b hb => h.fro i b (hfoot i b hb), fun i b hi hb => ?_, fun i hi => ?_, h.mono, h.mfr⟩
 · show aQ AI _ w i (aC H1 i)
   by_cases hi : i < H1.length
   · have hc := h.ch i
     have e1 := hH i hi
     have hc : aQ AI ρ w i (aC H i) := hc
     rw [← e1] at hc
     have hfl : yI (aC H1 i) = true := by
      have : aC H1 i = H1[i] := by unfold aC; rw [eY, List.getElem?_eq_getElem hi]
      rw [this]; exact List.all_eq_true.1 hf _ (List.getElem_mem hi)
     cases hg : aC H1 i with
     | emp => rw [hg] at hc; simp only [aQ, Ev.trim, if_pos hi] at hc ⊢; exact hc
     | gone => trivial
     | cells t cs => rw [hg] at hfl; cases hfl
     | row t e v L => rw [hg] at hc; simp only [aQ, Ev.trim, if_pos hi] at hc ⊢; exact hc
     | map ks e L => rw [hg] at hc; simp only [aQ, Ev.trim, if_pos hi] at hc ⊢; exact hc
     | rmap ks e L R c j => rw [hg] at hfl; cases hfl
     | itp q => rw [hg] at hc; simp only [aQ, Ev.trim, if_pos hi] at hc ⊢; exact hc
     | mnest tb L q =>
       cases q with
       | some q => rw [hg] at hfl; cases hfl
       | none =>
         rw [hg] at hc
         simp only [aQ, Ev.trim, if_pos hi] at hc ⊢
         exact hc.kN (fun _ _ _ h => h) (fun _ _ e => by cases e) fun _ _ => rfl
     | nest t tb z ver L q =>
       cases q with
       | some q => rw [hg] at hfl; cases hfl
       | none => rw [hg] at hc; simp only [aQ, Ev.trim, if_pos hi] at hc ⊢; exact ⟨hc.1, hc.2.kn rfl⟩
     | abs x => rw [hg] at hc; simp only [aQ, Ev.trim, if_pos hi] at hc ⊢; exact hc
   · rw [bf (by omega)]
     simp [aQ, Ev.trim, hi]
 · have : i < H1.length := by omega
   simp only [Ev.trim, if_pos this]; exact h.rt i b hi hb
 · have : i < H1.length := by omega
   simp only [Ev.trim, if_pos this]; exact h.rts i hi
def eO : SV2 → Bool
 | .one x => eo x
 | .agg l => l.all eo
 | .fn _ l => l.all eo
def mL : SV → Bool
 | .val x => eO x
 | .tup l => l.all eO
theorem mN {ρ ρ' : Ev} (hM : ρ'.M = ρ.M) {l : List SV1} {vs : List Value} (hl : l.all eo = true) (h : aL (aK ρ) l vs) : aL (aK ρ') l vs := by
 induction h with
 | nil => exact .nil
 | cons h1 _ ih =>
   simp only [List.all_cons, Bool.and_eq_true] at hl
   exact .cons ((oA hM hl.1).2 h1) (ih hl.2)
theorem o9 {ρ ρ' : Ev} (hM : ρ'.M = ρ.M) {x : SV2} {u : Value} (hx : eO x = true) (h : cM ρ x u) : cM ρ' x u := by
 cases x with
 | one x => exact (oA hM hx).2 h
 | agg l => obtain ⟨vs, h1, h2⟩ := h; exact ⟨vs, h1, mN hM hx h2⟩
 | fn f l => obtain ⟨vs, h1, h2⟩ := h; exact ⟨vs, h1, mN hM hx h2⟩
theorem mM {ρ ρ' : Ev} (hM : ρ'.M = ρ.M) {l : List SV2} {vs : List Value} (hl : l.all eO = true) (h : aL (cM ρ) l vs) : aL (cM ρ') l vs := by
 induction h with
 | nil => exact .nil
 | cons h1 _ ih =>
   simp only [List.all_cons, Bool.and_eq_true] at hl
   exact .cons (o9 hM hl.1 h1) (ih hl.2)
theorem jF {ρ ρ' : Ev} (hM : ρ'.M = ρ.M) {v : SV} {u : Value} (hv : mL v = true) (h : Den ρ v u) : Den ρ' v u := by
 cases v with
 | val x => exact o9 hM hv h
 | tup l =>
   obtain ⟨vs, h1, h2⟩ := h
   refine ⟨vs, h1, ?_⟩
   clear h1
   exact mM hM hv h2
end Go.Sx
namespace Go.Sx
set_option linter.all false
open Go.RowKit
variable {A : Type} {AI : Abs A} {G : Fr} {s : SS A} {ρ : Ev} {a : Act} {w : World} {P : Program}
inductive DT where
 | cell (e : Ty)
 | lst (e : Ty)
 | any
abbrev DT.T : DT → Type
 | .cell e => e.T
 | .lst e => List e.T
 | .any => Unit
def DT.sv : (d : DT) → U d.T → SV2
 | .cell e, x => (match elV e x with | some y => y | none => .one .any)
 | .lst e, L => .one (.ro e L)
 | .any, _ => .one .any
def DT.of : (d : DT) → SV → Option (U d.T)
 | .cell e, v => (match w6 v == e.agg with | true => yY e v | false => none)
 | .lst e, .val (.one (.ro e' L)) => (match bO e' e with | some f => some (fun _ => f (L ())) | none => none)
 | .lst _, .val (.one .nilS) => some (fun _ => [])
 | .any, _ => some (fun _ => ())
 | _, _ => none
abbrev Tup : List DT → Type
 | [] => Unit
 | d :: r => d.T × Tup r
def svs : (ds : List DT) → U (Tup ds) → List SV2
 | [], _ => []
 | d :: r, x => d.sv (fun _ => (x ()).1) :: svs r (fun _ => (x ()).2)
def ofs : (ds : List DT) → List SV → Option (U (Tup ds))
 | [], [] => some (fun _ => ())
 | d :: r, v :: vs => (match d.of v with
   | some x => (match ofs r vs with
     | some y => some (fun _ => (x (), y ()))
     | none => none)
   | none => none)
 | _, _ => none
def dM (ds : List DT) (x : U (Tup ds)) : List SV := (svs ds x).map .val
theorem kj : ∀ (e : Ty) (x : U e.T), (dec e x).all eo = true
 | .int _, _ => rfl
 | .bool, _ => rfl
 | .bytes, _ => rfl
 | .lst _, _ => rfl
 | .str, _ => rfl
 | .unit, _ => rfl
 | .pair a b, x => by simp only [dec, List.all_append, kj a, kj b]; rfl
theorem x9 {e : Ty} {x : U e.T} {y : SV2} (h : elV e x = some y) : eO y = true := by
 have hc := kj e x
 unfold elV at h
 split at h
 · cases h; exact hc
 · split at h
   · rename_i z hz; cases h; rw [hz] at hc; simp only [List.all_cons, List.all_nil, Bool.and_true] at hc; exact hc
   · cases h
theorem DT.yk : ∀ (d : DT) (x : U d.T), eO (d.sv x) = true
 | .cell e, x => by
   simp only [DT.sv]
   split
   · rename_i y hy; exact x9 hy
   · rfl
 | .lst e, x => rfl
 | .any, x => rfl
theorem gu : ∀ (ds : List DT) (x : U (Tup ds)), (svs ds x).all eO = true
 | [], _ => rfl
 | d :: r, x => by simp only [svs, List.all_cons, DT.yk, gu r]; rfl
theorem DT.BN {d : DT} {v : SV} {x : U d.T} (h : d.of v = some x) {u : Value} (hu : Den ρ v u) : cM ρ (d.sv x) u := by
 unfold DT.of at h
 split at h
 · split at h <;> (try cases h)
   rename_i hb
   have hv := uG (ρ := ρ) h (by simpa using hb) hu
   simp only [DT.sv]
   split
   · rename_i y hy; exact oe hy hv
   · trivial
 · split at h <;> cases h
   rename_i f hf
   obtain ⟨rfl, h1⟩ := dA hf
   have hu : ba ρ.M _ _ u := hu
   show ba ρ.M _ _ u
   dsimp only
   rw [h1]; exact hu
 · cases h
   have hu : u = .slice none 0 0 := hu
   subst hu
   exact ⟨none, 0, rfl, by simp, by simp⟩
 · trivial
 · cases h
theorem tD : ∀ {ds : List DT} {vs : List SV} {x : U (Tup ds)} {us : List Value}, ofs ds vs = some x → aL (Den ρ) vs us → aL (cM ρ) (svs ds x) us
 | [], [], x, us, h, hu => by cases hu; exact .nil
 | d :: r, v :: vs, x, us, h, hu => by
   simp only [ofs] at h
   split at h <;> (try cases h)
   rename_i x1 h1
   split at h <;> cases h
   rename_i y h2
   cases hu with
   | cons h3 h4 => exact .cons (DT.BN h1 h3) (tD h2 h4)
 | [], _ :: _, _, _, h, _ => by cases h
 | _ :: _, [], _, _, h, _ => by cases h
theorem mT {ds : List DT} {x : U (Tup ds)} {us : List Value} (h : aL (cM ρ) (svs ds x) us) {ρ' : Ev} (hM : ρ'.M = ρ.M) : aL (Den ρ') (dM ds x) us := by
 have h1 := mM hM (gu ds x) h
 unfold dM
 generalize svs ds x = l at h1
 clear h
 induction h1 with
 | nil => exact .nil
 | cons h2 _ ih => exact .cons h2 ih
def Enters (P : Program) (f : FuncId) : Prop := ∀ args w, (callFunc f args).run P w = .ok (.enter f args) w
structure aB where
 ds : List DT
 pre : Tup ds → Prop
 rs : List DT
 f : Tup ds → Tup rs
def aB.con (k : aB) : Con A := fun args _ => match ofs k.ds args with
 | some x => some ⟨[], 0, false, fun _ _ => .done (fun _ => k.pre (x ())) (ag (svs k.rs (fun _ => k.f (x ())))) []⟩
 | none => none
def aB.Ok (P : Program) (AI : Abs A) (fn : FuncId) (k : aB) : Prop :=
 ∀ x, k.pre x → bQ P AI fn (dM k.ds (fun _ => x)) [] (ag (svs k.rs (fun _ => k.f x))) []
theorem lL {l : List SV2} (h : l.all eO = true) : mL (ag l) = true := by
 unfold ag
 split
 · simp only [List.all_cons, List.all_nil, Bool.and_true] at h; exact h
 · exact h
theorem aB.sound {fn : FuncId} {k : aB} (hen : Enters P fn) (hk : k.Ok P AI fn) : aE P AI fn k.con := by
 refine ⟨hen, fun args fresh p hp _ H d C v cs he => ?_, fun G s ρ tmps w args us fresh p d C v cs h hargs hp hfr he hC => ?_⟩
 · unfold aB.con at hp
   split at hp <;> cases hp
   simp at he
   simp [aD, he]
 · unfold aB.con at hp
   split at hp <;> cases hp
   rename_i x hx
   simp at he
   obtain ⟨rfl, rfl, rfl⟩ := he
   have hd := tD hx hargs
   refine (qL (hk (x ()) hC) (s := s) (H' := s.H) (ids := []) (news := []) h (by simp) rfl (by simp) (by simp) (by simp) (fun _ _ => rfl) (us := us) (fun ρc hM _ => mT hd hM)
    (v := ag (svs k.rs (fun _ => k.f (x ())))) (fun ρc ρ' hM _ _ y hy => jF hM (lL (gu _ _)) hy)).mono ?_
   rintro e w' ⟨y, ρ', rfl, h1, h2, h3⟩
   exact ⟨y, ρ', rfl, h1, h2, h3⟩
theorem aU.add {E : Env A} (hE : aU P AI E) {f : FuncId} {k : Con A} (hk : aE P AI f k) : aU P AI ⟨E.ti, (f, k) :: E.con⟩ := by
 refine ⟨hE.ti, fun g l h => ?_⟩
 dsimp only at h
 rw [ax] at h
 split at h
 · rename_i e; cases h; subst e; exact hk
 · exact hE.con g l h
end Go.Sx
namespace Go.Sx
set_option linter.all false
open Go.RowKit
variable {A : Type} {G : Fr} {s : SS A} {ρ : Ev} {a : Act} {w : World} {P : Program} {lay : A → List (Chunk A)} {tq : mX}
theorem jf : ∀ {p : List Nat} {i j : Nat}, oI p i = some j → p[j]? = some i
 | [], i, j, h => by cases h
 | x :: r, i, j, h => by
   simp only [oI] at h
   split at h
   · rename_i e; cases h; have := beq_eq e; subst this; rfl
   · split at h <;> cases h
     rename_i k hk
     simpa using jf hk
theorem ny : ∀ {p : List Nat}, kY p = true → p.Nodup
 | [], _ => .nil
 | x :: r, h => by
   simp only [kY, Bool.and_eq_true, Bool.not_eq_true'] at h
   refine List.nodup_cons.2 ⟨fun hx => ?_, ny h.2⟩
   have : r.any (aG x) = true := List.any_eq_true.2 ⟨x, hx, by simp⟩
   rw [this] at h; cases h.1
theorem sF : ∀ {n k : Nat} {p : List Nat}, A0 n k p = true → ∀ i, i < n → p[i]? = some (k + i)
 | 0, k, p, _, i, hi => by omega
 | n + 1, k, x :: r, h, i, hi => by
   simp only [A0, Bool.and_eq_true] at h
   cases i with
   | zero => have := beq_eq h.1; subst this; rfl
   | succ i => have := sF h.2 i (by omega); simp only [List.getElem?_cons_succ, this]; congr 1; omega
 | n + 1, k, [], h, _, _ => by cases h
theorem pK {p : List Nat} {H : List (Chunk A)} : ∀ {l : List Nat} {j : Nat}, aC (kR p H l) j = match l[j]? with | some i => rnC p (aC H i) | none => .emp
 | [], j => rfl
 | x :: r, 0 => rfl
 | x :: r, j + 1 => by
   have := pK (p := p) (H := H) (l := r) (j := j)
   simp only [aC, kR, nth, List.getElem?_cons_succ] at this ⊢
   exact this
def Ev.cF (ρ : Ev) (p : List Nat) : Ev :=
 { root := fun j => match p[j]? with | some i => ρ.root i | none => .bool false, ver := fun j => match p[j]? with | some i => ρ.ver i | none => 0, M := ρ.M, foot := fun j => match p[j]? with | some i => ρ.foot i | none => [] }
theorem qb {p : List Nat} : ∀ {l l' : List Nat} {us : List Value}, xy p l = some l' → aL (fun i u => ∃ b, ρ.root i = .pointer (some ⟨b, 0, none⟩) ∧ u = .pointer (some ⟨b, 0, none⟩)) l us → aL (fun i u => ∃ b, (ρ.cF p).root i = .pointer (some ⟨b, 0, none⟩) ∧ u = .pointer (some ⟨b, 0, none⟩)) l' us
 | [], l', us, h, hu => by cases h; cases hu; exact .nil
 | i :: r, l', us, h, hu => by
   unfold xy at h
   split at h <;> (try cases h)
   rename_i j hj
   split at h <;> cases h
   rename_i l2 hl
   cases hu with
   | cons h1 h2 =>
     obtain ⟨b, h3, h4⟩ := h1
     exact .cons ⟨b, by simp only [Ev.cF, jf hj]; exact h3, h4⟩ (qb hl h2)
theorem xu {p : List Nat} {x : SV1} {v : Value} (h : aK ρ x v) : aK (ρ.cF p) (rn1 p x) v := by
 cases x <;> simp only [rn1] <;> (try exact h)
 case fnc g l =>
  split
  · rename_i l2 hl
    obtain ⟨vs, h1, h2⟩ := h
    exact ⟨vs, h1, qb hl h2⟩
  · trivial
 all_goals
  split
  · rename_i j hj
    have hj := jf hj
    simp only [aK, Ev.cF, hj] at h ⊢
    exact h
  · trivial
theorem um {AI : Abs A} {p : List Nat} (hp : mw G.n0 p = true) (hs : Sat AI G s a w) : Sat AI G (cF p s) a w := by
 obtain ⟨hd, ρ, hh⟩ := hs
 obtain ⟨hp1, hp2⟩ := Bool.and_eq_true_iff.1 hp
 have hn := ny hp1
 have hf := sF hp2
 have hfoot : ∀ j b, b ∈ (ρ.cF p).foot j → ∃ i, p[j]? = some i ∧ b ∈ ρ.foot i := by
  intro j b hb
  simp only [Ev.cF] at hb
  split at hb
  · rename_i i hi; exact ⟨i, hi, hb⟩
  · cases hb
 refine ⟨hd, ρ.cF p, ⟨hh.sz, hh.gt, fun t v ht => ?_, fun j => ?_, fun i j b hij hi hj => ?_, fun j b hb => ?_, fun b o v hm => ⟨(hh.im b o v hm).1, fun j hb => ?_⟩, hh.os, hh.tape, hh.output, hh.grow, hh.kept, fun j b hb => ?_, fun i b hi hb => ?_, fun i hi => ?_, hh.mono, hh.mfr⟩⟩
 · obtain ⟨u, h1, rfl⟩ := ji ht
   obtain ⟨x, h2, h3⟩ := hh.tm t u h1
   exact ⟨x, h2, gY (fun _ _ => xu) h3⟩
 · show aQ AI (ρ.cF p) w j (aC (kR p s.H p) j)
   rw [pK]
   cases hj : p[j]? with
   | none => exact ⟨by simp [Ev.cF, hj], by simp [Ev.cF, hj], by simp [Ev.cF, hj]⟩
   | some i =>
     dsimp only
     have e1 : (ρ.cF p).root j = ρ.root i := by simp [Ev.cF, hj]
     have e2 : (ρ.cF p).ver j = ρ.ver i := by simp [Ev.cF, hj]
     have e3 : (ρ.cF p).foot j = ρ.foot i := by simp [Ev.cF, hj]
     have hc := hh.ch i
     cases hg : aC s.H i with
     | emp => rw [hg] at hc; exact ⟨e3.trans hc.1, e1.trans hc.2.1, e2.trans hc.2.2⟩
     | gone => trivial
     | cells t cs =>
       rw [hg] at hc
       obtain ⟨b, vs, h1, h2, h3, h4⟩ := hc
       exact ⟨b, vs, e1.trans h1, e3.trans h2, h3, h4.nI fun _ _ => xu⟩
     | row t e v L => rw [hg] at hc; exact ⟨hc.1.trans e2.symm, by rw [e1, e3]; exact hc.2⟩
     | rmap ks e L R c j => trivial
     | itp q => trivial
     | mnest tb L q =>
       cases q with
       | some q => trivial
       | none =>
         rw [hg] at hc
         show mY _ _ w _ none (Ev.root _ _) (Ev.foot _ _)
         rw [e1, e3]
         exact mY.kN hc (fun _ _ _ h => h) (fun _ _ e => by cases e) fun _ _ => rfl
     | nest t tb z ver L q =>
       cases q with
       | some q => trivial
       | none => rw [hg] at hc; exact ⟨hc.1.trans e2.symm, by rw [e1, e3]; exact hc.2.kn rfl⟩
     | map ks e L => rw [hg] at hc; obtain ⟨b, es, clock, h1, h2, h3, h4⟩ := hc; exact ⟨b, es, clock, e1.trans h1, e3.trans h2, h3, h4⟩
     | abs x => rw [hg] at hc; simp only [rnC, aQ, e1, e3] at hc ⊢; exact hc
 · obtain ⟨i', h1, h2⟩ := hfoot i b hi
   obtain ⟨j', h3, h4⟩ := hfoot j b hj
   refine hh.dis i' j' b (fun e => hij ?_) h2 h4
   subst e
   exact (List.getElem?_inj (List.getElem?_eq_some_iff.1 h1).1 hn).1 (h1.trans h3.symm)
 · obtain ⟨i, _, h2⟩ := hfoot j b hb; exact hh.lt i b h2
 · obtain ⟨i, _, h2⟩ := hfoot j b hb; exact (hh.im b o v hm).2 i h2
 · obtain ⟨i, _, h2⟩ := hfoot j b hb; exact hh.fro i b h2
 · have := hf i hi
   rw [Nat.zero_add] at this
   simp only [Ev.cF, this]; exact hh.rt i b hi hb
 · have := hf i hi
   rw [Nat.zero_add] at this
   simp only [Ev.cF, this]; exact hh.rts i hi
theorem yJ [fo A] {AI : Abs A} {E : Env A} (hT : rN P E.ti) {fn : Func} {n0 : Nat} (hn0 : G.n0 = n0) {v : SV} {H1 : List (Chunk A)} {e : XE} {s' : SS A} (h : nQ E.ti n0 fn.results.toList v H1 e s') {R : Ending → World → Prop}
 (hR : ∀ y ρ' w', Holds AI { G with size := 0 } ⟨[], H1⟩ ρ' #[] w' → Den ρ' v y → R (.returned y) w') : fc AI G s' (bodyPost P fn R e.out) := by
 have key : ∀ l, kQ E.ti s' fn.results.toList = some l → (∃ p, mw n0 p = true ∧ Sub n0 (cF p ⟨[(0, ag l)], s'.H⟩) ⟨[(0, v)], H1⟩) → ∀ (a' : Act) (w' : World), a'.defers = [] → (∃ ρ', Holds AI G s' ρ' a'.tmps w') → a'.defers = [] ∧ ∃ y, (results fn a'.tmps).run P w' = .ok y w' ∧ R (.returned y) w' := by
  rintro l hl ⟨p, hperm, hsub⟩ a' w' hd ⟨ρ', hh⟩
  obtain ⟨y, h3, h4⟩ := k9 hT hh hl
  refine ⟨hd, y, h3, ?_⟩
  let G1 : Fr := { G with size := 1 }
  have h5 : Sat AI G1 ⟨[(0, ag l)], s'.H⟩ ⟨#[y], []⟩ w' := by
   refine ⟨rfl, ρ', ⟨rfl, hh.gt, fun t x ht => ?_, hh.ch, hh.dis, hh.lt, hh.im, hh.os, hh.tape, hh.output, hh.grow, hh.kept, hh.fro, hh.rt, hh.rts, hh.mono, hh.mfr⟩⟩
   rw [ax] at ht
   split at ht
   · rename_i e; subst e; cases ht; exact ⟨y, rfl, h4⟩
   · cases ht
  obtain ⟨_, ρ2, h6⟩ := hsub.sound (G := G1) hn0 (um (G := G1) (p := p) (by show mw G.n0 p = true; rw [hn0]; exact hperm) h5)
  obtain ⟨u, h7, h8⟩ := h6.tm 0 v (by simp [look])
  simp at h7
  subst h7
  refine hR y ρ2 w' ⟨rfl, h6.gt, (fun t x ht => by cases ht), h6.ch, h6.dis, h6.lt, h6.im, h6.os, h6.tape, h6.output, h6.grow, h6.kept, h6.fro, h6.rt, h6.rts, h6.mono, h6.mfr⟩ h8
 cases e with
 | exit id => exact (bz.elim h)
 | normal =>
   simp only [nQ] at h
   split at h
   · rename_i l hl; exact key l hl h
   · exact h.elim
 | ret =>
   simp only [nQ] at h
   split at h
   · rename_i l hl; exact key l hl h
   · exact h.elim
end Go.Sx
namespace Go.Sx
set_option linter.all false
open Go.RowKit
variable {A : Type} {AI : Abs A} {G : Fr} {s : SS A} {ρ : Ev} {a : Act} {w : World} {P : Program}
theorem Holds.grown {tmps : Array Value} (h : Holds AI G s ρ tmps w) {w' : World} (old : ∀ b, b < w.heap.size → w'.heap[b]? = w.heap[b]?) (os : w'.os = w.os) (tape : w'.tape = w.tape) (output : w'.output = w.output) (size : w.heap.size ≤ w'.heap.size) :
 Holds AI G s ρ tmps w' := by
 refine ⟨h.sz, h.gt, h.tm, fun i => (h.ch i).stays (.refl _) rfl rfl rfl fun b hb => old b (h.lt i b hb), h.dis, fun i b hb => Nat.lt_of_lt_of_le (h.lt i b hb) size, fun b o v hm => ?_, os.trans h.os, tape.trans h.tape, output.trans h.output, Nat.le_trans h.grow size,
  fun b hb hn => (old b (Nat.lt_of_lt_of_le hb h.grow)).trans (h.kept b hb hn), h.fro, h.rt, h.rts, h.mono, h.mfr⟩
 have hlt : b < w.heap.size := World.block_lt_of_cell? w ⟨b, o, none⟩ (h.im b o v hm).1
 exact ⟨(dY (old b hlt) o).trans (h.im b o v hm).1, (h.im b o v hm).2⟩
theorem x4 {tmps : Array Value} (h : Holds AI G s ρ tmps w) (S : Nat → Prop) : ∀ b o v, (ρ.froze S w).M b o = some v → w.cell? ⟨b, o, none⟩ = some v := by
 intro b o v hm
 simp only [Ev.froze] at hm
 split at hm
 · exact hm
 · exact (h.im b o v hm).1
theorem qw {tmps : Array Value} (h : Holds AI G s ρ tmps w) {v : SV} {u : Value} (hv : Den ρ v u) {S : Nat → Prop} (hS : ∀ i ∈ (ez v).ids, S i) {e : Ty} {L : U (List e.T)} (hL : Src.list e (ez v) (aD s.H (ez v).ids) = some L) : ba (ρ.froze S w).M e (L ()) u := by
 have hM := oc h S
 unfold ez at hS hL
 split at hS
 · simp only [Src.ids, aD, Src.list] at hL
   cases hL
   have hv : u = .slice none 0 0 := hv
   subst hv
   exact ⟨none, 0, rfl, by simp, by simp⟩
 · simp only [Src.ids, aD, Src.list] at hL
   split at hL <;> cases hL
   rename_i f hf
   obtain ⟨rfl, h1⟩ := dA hf
   have hv : ba ρ.M _ _ u := hv
   dsimp only
   rw [h1]; exact hv.monoM hM
 · rename_i i ver
   simp only [Src.ids, aD] at hL hS
   have hc := h.ch i
   generalize hg : aC s.H i = c at hL hc
   cases c <;> simp only [Src.list, reduceCtorEq] at hL
   rename_i t e' ver' L'
   split at hL <;> (try cases hL)
   rename_i hb
   have hb := beq_eq hb
   subst hb
   split at hL <;> cases hL
   rename_i f hf
   obtain ⟨rfl, h1⟩ := dA hf
   obtain ⟨h2, h3⟩ := hc
   obtain ⟨_, _, h4⟩ := hv
   rw [h4 h2]
   dsimp only
   rw [h1]
   exact db h (S := S) (hS i (by simp)) h3 hM
 · rename_i i ver esz lo n
   simp only [Src.ids, aD] at hL hS
   have hc := h.ch i
   generalize hg : aC s.H i = c at hL hc
   cases c <;> simp only [Src.list, reduceCtorEq] at hL
   rename_i t e' ver' L'
   split at hL <;> (try cases hL)
   rename_i hb
   obtain ⟨hb, hbz⟩ := Bool.and_eq_true_iff.1 hb
   have hb := beq_eq hb
   have hbz := beq_eq hbz
   subst hb; subst hbz
   split at hL <;> cases hL
   rename_i f hf
   obtain ⟨rfl, h1⟩ := dA hf
   obtain ⟨h2, h3⟩ := hc
   obtain ⟨_, _, _, h4⟩ := hv
   dsimp only
   rw [h1]
   exact pD (db h (S := S) (hS i (by simp)) h3 hM) (h4 h2)
 · simp only [Src.ids, aD, Src.list, reduceCtorEq] at hL
def gI : List DT → List SV → List Nat
 | .lst _ :: r, v :: vs => (ez v).ids ++ gI r vs
 | .cell _ :: r, _ :: vs => gI r vs
 | _, _ => []
def ofA {A : Type} : (ds : List DT) → List SV → List (Chunk A) → Option (U (Tup ds))
 | [], [], [] => some (fun _ => ())
 | .lst e :: r, v :: vs, cs => (match ez v with
   | src => (match takeN cs src.ids.length with
     | some c1 => (match src.list e c1 with
       | some x => (match ofA r vs (cs.drop src.ids.length) with
         | some y => some (fun _ => (x (), y ()))
         | none => none)
       | none => none)
     | none => none))
 | .cell e :: r, v :: vs, cs => (match DT.of (.cell e) v with
   | some x => (match ofA r vs cs with
     | some y => some (fun _ => (x (), y ()))
     | none => none)
   | none => none)
 | _, _, _ => none
theorem du (H : List (Chunk A)) : ∀ (l m : List Nat), aD H (l ++ m) = aD H l ++ aD H m
 | [], _ => rfl
 | i :: r, m => by simp only [List.cons_append, aD, du H r m]
theorem bx (H : List (Chunk A)) : ∀ (l : List Nat), (aD H l).length = l.length
 | [] => rfl
 | i :: r => by simp only [aD, List.length_cons, bx H r]
theorem jU {α : Type} : ∀ (l m : List α), takeN (l ++ m) l.length = some l
 | [], m => by cases m <;> rfl
 | x :: r, m => by simp only [List.cons_append, List.length_cons, takeN, jU r m]
theorem tE {tmps : Array Value} (h : Holds AI G s ρ tmps w) {S : Nat → Prop} : ∀ {ds : List DT} {vs : List SV} {more : List (Chunk A)} {x : U (Tup ds)} {us : List Value}, more = [] → (∀ i ∈ gI ds vs, S i) → ofA ds vs (aD s.H (gI ds vs) ++ more) = some x → aL (Den ρ) vs us → aL (cM (ρ.froze S w)) (svs ds x) us
 | [], vs, more, x, us, hm, hS, hx, hu => by
   cases vs with
   | nil => cases hu; exact .nil
   | cons v vs => simp [ofA] at hx
 | .lst e :: r, vs, more, x, us, hm, hS, hx, hu => by
   cases vs with
   | nil => simp [ofA] at hx
   | cons v vs =>
     subst hm
     simp only [gI, List.append_nil] at hS hx
     simp only [ofA] at hx
     rw [du] at hx
     have e1 := jU (aD s.H (ez v).ids) (aD s.H (gI r vs))
     rw [bx] at e1
     rw [e1] at hx
     dsimp only at hx
     split at hx <;> (try cases hx)
     rename_i x1 h1
     have e2 : (aD s.H (ez v).ids ++ aD s.H (gI r vs)).drop (ez v).ids.length = aD s.H (gI r vs) := by
      rw [← bx s.H (ez v).ids]; simp
     rw [e2] at hx
     split at hx <;> cases hx
     rename_i y h2
     cases hu with
     | cons h3 h4 =>
       refine .cons ?_ (tE h (more := []) rfl (fun i hi => hS i (by simp [hi])) (by rw [List.append_nil]; exact h2) h4)
       exact qw h h3 (fun i hi => hS i (by simp [hi])) h1
 | .cell e :: r, vs, more, x, us, hm, hS, hx, hu => by
   cases vs with
   | nil => simp [ofA] at hx
   | cons v vs =>
     simp only [gI] at hS hx
     simp only [ofA] at hx
     split at hx <;> (try cases hx)
     rename_i x1 h1
     split at hx <;> cases hx
     rename_i y h2
     cases hu with
     | cons h3 h4 => exact .cons (cM.mono ⟨oc h S, fun _ _ h => h, fun _ => Nat.le_refl _, fun _ _ _ => rfl⟩ (DT.BN h1 h3)) (tE h hm hS h2 h4)
theorem zm {f : FuncId} {args0 : List SV} {v0 : SV} {H1 : List (Chunk A)} (hT : bQ P AI f args0 [] v0 H1) {tmps : Array Value} (h : Holds AI G s ρ tmps w) {us : List Value} (S : Nat → Prop) (hargs : ∀ ρc : Ev, ρc.M = (ρ.froze S w).M → aL (Den ρc) args0 us) :
 Calls P f us.toArray w fun e w' => ∃ y ρr, e = .returned y ∧ Holds AI ⟨w, fun _ => False, 0, fun _ => .bool false, (ρ.froze S w).M, 0, fun _ => 0⟩ ⟨[], H1⟩ ρr #[] w' ∧ Den ρr v0 y := by
 let ρc : Ev := { root := fun _ => .bool false, ver := fun _ => 0, M := (ρ.froze S w).M, foot := fun _ => [] }
 refine hT ⟨w, fun _ => False, 0, fun _ => .bool false, (ρ.froze S w).M, 0, fun _ => 0⟩ ρc w us rfl rfl ?_ (hargs ρc rfl)
 refine ⟨rfl, h.gtOf (fun b hb => hb.elim), (fun t x ht => by cases ht), fun j => ⟨rfl, rfl, rfl⟩, (fun _ _ _ _ h => by cases h), (fun _ _ h => by cases h), fun b o x hm => ⟨x4 h S b o x hm, fun i hi => by cases hi⟩, rfl, rfl, rfl, Nat.le_refl _, fun _ _ _ => rfl, (fun _ _ h => by cases h), (fun i b hi hb => by cases hb), (fun i hi => absurd hi (Nat.not_lt_zero i)), fun _ _ _ hm => hm, fun b o x hm => .inl hm⟩
def Ty.flat : Ty → Bool
 | .bytes => false
 | .lst _ => false
 | .pair a b => a.flat && b.flat
 | _ => true
theorem aI.flat {M M' : Mem} : ∀ {e : Ty} {x : e.T} {c : Nat → Option Value}, e.flat = true → aI M e x c → aI M' e x c
 | .int _, _, _, _, h => h
 | .bool, _, _, _, h => h
 | .str, _, _, _, h => h
 | .unit, _, _, _, _ => trivial
 | .pair a b, _, _, hf, h => by
   simp only [Ty.flat, Bool.and_eq_true] at hf
   exact ⟨aI.flat hf.1 h.1, aI.flat hf.2 h.2⟩
theorem bg.flat {t : TypeId} {w : World} {M M' : Mem} {e : Ty} (he : e.flat = true) {L : List e.T} {r : Value} {F : List Nat} (h : bg t M w e L r F) : bg t M' w e L r F := by
 rcases h with h | ⟨b, off, cap, h1, h2, h3, h4, h5, h6, h7⟩
 · exact .inl h
 · exact .inr ⟨b, off, cap, h1, h2, h3, h4, fun j x hj => (h5 j x hj).flat he, h6, h7⟩
theorem iA : ∀ (l m : List Nat) (H : List (Chunk A)) (c d : List (Chunk A)), c.length = l.length → aO H (l ++ m) (c ++ d) = aO (aO H l c) m d
 | [], m, H, c, d, h => by
   have : c = [] := List.eq_nil_of_length_eq_zero h
   subst this
   cases m <;> cases d <;> rfl
 | i :: l, m, H, c, d, h => by
   cases c with
   | nil => simp at h
   | cons x c =>
     simp only [List.cons_append, aO]
     exact iA l m _ c d (by simpa using h)
end Go.Sx
namespace Go.Sx
set_option linter.all false
open Go.RowKit
variable {A : Type} {AI : Abs A} {G : Fr} {s : SS A} {ρ : Ev} {a : Act} {w : World} {P : Program}
inductive XO (A : Type) where
 | fail (why : Nat)
 | need (b : U Bool)
 | done (Cs : List (U Prop)) (e : XE) (s : SS A) (ds : List Bool)
def wC (E : Env A) (ops : List Oper) (draw : Bool) (s : SS A) : Nat → Dec → List Bool → XO A
 | 0, _, _ => .fail 1000
 | n + 1, d, ds => match ic d.sl d.sl s.tm with
   | (tm, C0) => (match pA E ops d ops 0 ⟨tm, s.H⟩ C0 [] with
     | .fail j => .fail j
     | .needS t b => (match ds with | [] => .need b | v :: ds => wC E ops draw s n ⟨(t, v) :: d.sl, d.op⟩ ds)
     | .needC j b => (match ds with | [] => .need b | v :: ds => wC E ops draw s n ⟨d.sl, d.op ++ [(j, v)]⟩ ds)
     | .done Cs s' effs => (match draw with
       | false => .done Cs .normal s' ds
       | true => .done ((fun _ => o6 ops effs = true) :: Cs) .normal s' ds))
def yF (id : Nat) : XE → XE
 | .exit id' => (match aG id id' with | true => .normal | false => .exit id')
 | e => e
def eu (E : Env A) : Code → SS A → List Bool → XO A
 | .skip, s, ds => .done [] .normal s ds
 | .region _ ops draw, s, ds => wC E ops.toList draw s 24 ⟨[], []⟩ ds
 | .seq x y, s, ds => (match eu E x s ds with
   | .done Cs .normal s ds => (match eu E y s ds with
     | .done Cs' e s ds => .done (Cs ++ Cs') e s ds
     | r => r)
   | r => r)
 | .cond c x y, s, ds => (match evalOp s.tm c with
   | some (.val (.one (.lb true))) => eu E x s ds
   | some (.val (.one (.lb false))) => eu E y s ds
   | some (.val (.one (.sb g))) => (match c with
     | .tmp t => (match ds with
       | [] => .need g
       | true :: ds => (match eu E x ⟨(t, one (.lb true)) :: s.tm, s.H⟩ ds with | .done Cs e s ds => .done ((fun _ => g () = true) :: Cs) e s ds | r => r)
       | false :: ds => (match eu E y ⟨(t, one (.lb false)) :: s.tm, s.H⟩ ds with | .done Cs e s ds => .done ((fun _ => g () = false) :: Cs) e s ds | r => r))
     | _ => .fail 3000)
   | _ => .fail 3001)
 | .block id c, s, ds => (match eu E c s ds with
   | .done Cs e s ds => .done Cs (yF id e) s ds
   | r => r)
 | .exit id, s, ds => .done [] (.exit id) s ds
 | .ret, s, ds => .done [] .ret s ds
 | .scope c, s, ds => eu E c s ds
 | _, _, _ => .fail 4000
theorem qY : ∀ {Cs : List (U Prop)} {R : Prop}, (∀ C ∈ Cs, C ()) → R → conds R Cs
 | [], _, _, h => h
 | C :: r, R, hC, h => qY (Cs := r) (fun D hD => hC D (by simp [hD])) ⟨hC C (by simp), h⟩
theorem nr {E : Env A} (hE : aU P AI E) (hm : P.follows .mixedOrders = true) {id : Nat} {opsA : Array Oper} {draw : Bool} (hdst : ∀ o ∈ opsA.toList, ∀ t, o.dst = some t → t < G.size) {Qx : Exit → Act → World → Prop} {d : Dec} {tm : List (Nat × SV)} {C0 Cs : List (U Prop)} {s' : SS A} {effs : List (Eff A)}
 (hp : ic d.sl d.sl s.tm = (tm, C0)) (hr : pA E opsA.toList d opsA.toList 0 ⟨tm, s.H⟩ C0 [] = .done Cs s' effs) (hok : draw = true → o6 opsA.toList effs = true) (hC : ∀ C ∈ Cs, C ()) (hs : Sat AI G s a w) (hQ : fc AI G s' (Qx .normal)) :
 (Code.region id opsA draw).wp P Qx a w := by
 refine dT hE hm hdst (Q := fun x => x = s') (Qx := Qx) (by rintro _ rfl; exact hQ) 1 d ?_ hs
 simp only [pB, hp, hr]
 cases draw with
 | false => exact qY hC (by trivial)
 | true => exact ⟨hok rfl, qY hC (by trivial)⟩
theorem kF {E : Env A} (hE : aU P AI E) (hm : P.follows .mixedOrders = true) {id : Nat} {opsA : Array Oper} {draw : Bool} (hdst : ∀ o ∈ opsA.toList, ∀ t, o.dst = some t → t < G.size) {Qx : Exit → Act → World → Prop} {Cs : List (U Prop)} {e : XE} {s' : SS A} {ds' : List Bool}
 (hC : ∀ C ∈ Cs, C ()) (hs : Sat AI G s a w) (hQ : fc AI G s' (Qx e.out)) : ∀ (n : Nat) (d : Dec) (ds : List Bool), wC E opsA.toList draw s n d ds = .done Cs e s' ds' → (Code.region id opsA draw).wp P Qx a w
 | 0, d, ds, h => by cases h
 | n + 1, d, ds, h => by
   simp only [wC] at h
   cases hp : ic d.sl d.sl s.tm with
   | mk tm C0 =>
     rw [hp] at h
     dsimp only at h
     split at h
     · cases h
     · split at h
       · cases h
       · exact kF hE hm hdst hC hs hQ n _ _ h
     · split at h
       · cases h
       · exact kF hE hm hdst hC hs hQ n _ _ h
     · rename_i Cs2 s2 effs hr
       split at h
       · cases h
         exact nr hE hm hdst hp hr (fun e => by cases e) hC hs hQ
       · cases h
         exact nr hE hm hdst hp hr (fun _ => hC _ (List.mem_cons_self ..)) (fun C hC' => hC C (List.mem_cons_of_mem _ hC')) hs hQ
theorem uE {E : Env A} (hE : aU P AI E) (hm : P.follows .mixedOrders = true) : ∀ (c : Code), codeOk G.size c = true → ∀ (s : SS A) (ds : List Bool) {Cs : List (U Prop)} {e : XE} {s' : SS A} {ds' : List Bool} {Qx : Exit → Act → World → Prop} {a : Act} {w : World},
 eu E c s ds = .done Cs e s' ds' → (∀ C ∈ Cs, C ()) → Sat AI G s a w → fc AI G s' (Qx e.out) → c.wp P Qx a w := by
 intro c
 induction c with
 | skip => intro _ s ds Cs e s' ds' Qx a w h hC hs hQ; cases h; exact wp_skip (hQ _ _ hs.1 hs.2)
 | region id ops draw =>
   intro hok s ds Cs e s' ds' Qx a w h hC hs hQ
   refine kF hE hm (fun o ho t ht => ?_) hC hs hQ 24 ⟨[], []⟩ ds h
   have h1 := Array.all_eq_true'.1 hok o (by simpa using ho)
   rw [ht] at h1
   exact leN h1
 | seq x y ihx ihy =>
   intro hok s ds Cs e s' ds' Qx a w h hC hs hQ
   obtain ⟨o1, o2⟩ := Bool.and_eq_true_iff.1 hok
   simp only [eu] at h
   split at h
   · rename_i C1 s1 d1 hx
     split at h
     · rename_i C2 e2 s2 d2 hy
       cases h
       refine wp_seq (ihx o1 s ds hx (fun C hC' => hC C (List.mem_append.2 (.inl hC'))) hs ?_)
       exact fun a' w' hd hh => ihy o2 s1 d1 hy (fun C hC' => hC C (List.mem_append.2 (.inr hC'))) ⟨hd, hh⟩ hQ
     · rename_i hne; exact absurd h (hne _ _ _ _)
   · rename_i hne
     refine wp_seq (ihx o1 s ds h hC hs ?_)
     cases e with
     | normal => exact absurd h (hne _ _ _)
     | ret => exact hQ
     | exit id => exact hQ
 | cond c x y ihx ihy =>
   intro hok s ds Cs e s' ds' Qx a w h hC hs hQ
   obtain ⟨o1, o2⟩ := Bool.and_eq_true_iff.1 hok
   obtain ⟨hd, ρ, hh⟩ := id hs
   simp only [eu] at h
   split at h
   · rename_i hc; exact wp_cond_true (hh.eval hc) (ihx o1 s ds h hC hs hQ)
   · rename_i hc; exact wp_cond_false (hh.eval hc) (ihy o2 s ds h hC hs hQ)
   · rename_i g hc
     have hg := hh.eval hc
     split at h
     · rename_i t
       split at h
       · cases h
       · split at h
         · rename_i C2 e2 s2 d2 hx
           cases h
           have hb : g () = true := hC _ (List.mem_cons_self ..)
           exact wp_cond_true (by rw [show a.eval (.tmp t) = .bool (g ()) from hg, hb]) (ihx o1 _ _ hx (fun C hC' => hC C (List.mem_cons_of_mem _ hC')) (hs.lb hc hb) hQ)
         · rename_i hne; exact absurd h (hne _ _ _ _)
       · split at h
         · rename_i C2 e2 s2 d2 hx
           cases h
           have hb : g () = false := hC _ (List.mem_cons_self ..)
           exact wp_cond_false (by rw [show a.eval (.tmp t) = .bool (g ()) from hg, hb]) (ihy o2 _ _ hx (fun C hC' => hC C (List.mem_cons_of_mem _ hC')) (hs.lb hc hb) hQ)
         · rename_i hne; exact absurd h (hne _ _ _ _)
     · cases h
   · cases h
 | block id c ih =>
   intro hok s ds Cs e s' ds' Qx a w h hC hs hQ
   simp only [eu] at h
   split at h
   · rename_i C2 e2 s2 d2 hx
     cases h
     refine wp_block (ih hok s ds hx hC hs ?_)
     cases e2 with
     | normal => exact hQ
     | ret => exact hQ
     | exit id' =>
       simp only [yF] at hQ
       intro a' w' hd hh
       split at hQ
       · rename_i hb
         have hb := beq_eq hb
         subst hb
         simp only [XE.out, Exit.inBlock, if_pos]
         exact hQ a' w' hd hh
       · rename_i hb
         have hne : ¬ id' = id := by rintro rfl; simp at hb
         simp only [XE.out, Exit.inBlock, if_neg hne]
         exact hQ a' w' hd hh
   · rename_i hne; exact absurd h (hne _ _ _ _)
 | exit id => intro _ s ds Cs e s' ds' Qx a w h hC hs hQ; cases h; exact wp_exit (hQ _ _ hs.1 hs.2)
 | ret => intro _ s ds Cs e s' ds' Qx a w h hC hs hQ; cases h; exact wp_ret (hQ _ _ hs.1 hs.2)
 | scope c ih =>
   intro hok s ds Cs e s' ds' Qx a w h hC hs hQ
   refine wp_scope_straight (ih hok s ds h hC hs ?_)
   cases e <;> exact hQ
 | loop c ih => intro _ s ds Cs e s' ds' Qx a w h; cases h
 | label l => intro _ s ds Cs e s' ds' Qx a w h; cases h
 | goto l => intro _ s ds Cs e s' ds' Qx a w h; cases h
 | refuse y => intro _ s ds Cs e s' ds' Qx a w h; cases h
 | rangeFunc f p x y _ _ => intro _ s ds Cs e s' ds' Qx a w h; cases h
def oS (n : Nat) : SV1 → Bool
 | .ptr i _ => aq i n
 | .mp i => aq i n
 | .hd i _ => aq i n
 | .vw i _ _ _ _ => aq i n
 | .ep i _ _ _ _ => aq i n
 | .fnc _ l => l.all fun i => aq i n
 | _ => true
def rK (n : Nat) : SV2 → Bool
 | .one x => oS n x
 | .agg l => l.all (oS n)
 | .fn _ l => l.all (oS n)
def iX (n : Nat) : SV → Bool
 | .val x => rK n x
 | .tup l => l.all (rK n)
theorem vr {n : Nat} {x : SV1} (hx : oS n x = true) {v : Value} (hv : aK ρ x v) : aK (ρ.trim n) x v := by
 have lt : ∀ {i : Nat}, aq i n = true → i < n := fun h => leN h
 cases x <;> try exact hv
 case ptr i o => have := lt hx; simpa only [aK, Ev.trim, if_pos this] using hv
 case mp i => have := lt hx; simpa only [aK, Ev.trim, if_pos this] using hv
 case fnc g l => obtain ⟨vs, h1, h2⟩ := hv; exact ⟨vs, h1, sM h2 hx⟩
 case hd i u => have := lt hx; simpa only [aK, Ev.trim, if_pos this] using hv
 case vw i u e l k => have := lt hx; simpa only [aK, Ev.trim, if_pos this] using hv
 case ep i u e k o => have := lt hx; simpa only [aK, Ev.trim, if_pos this] using hv
theorem nW {n : Nat} {l : List SV1} {vs : List Value} (h : aL (aK ρ) l vs) (hl : l.all (oS n) = true) : aL (aK (ρ.trim n)) l vs := by
 induction h with
 | nil => exact .nil
 | cons h1 _ ih => simp only [List.all_cons, Bool.and_eq_true] at hl; exact .cons (vr hl.1 h1) (ih hl.2)
theorem vq {n : Nat} {x : SV2} (hx : rK n x = true) {v : Value} (hv : cM ρ x v) : cM (ρ.trim n) x v := by
 cases x with
 | one x => exact vr hx hv
 | agg l => obtain ⟨vs, h1, h2⟩ := hv; exact ⟨vs, h1, nW h2 hx⟩
 | fn f l => obtain ⟨vs, h1, h2⟩ := hv; exact ⟨vs, h1, nW h2 hx⟩
theorem CA {n : Nat} {x : SV} (hx : iX n x = true) {v : Value} (hv : Den ρ x v) : Den (ρ.trim n) x v := by
 cases x with
 | val x => exact vq hx hv
 | tup l =>
   obtain ⟨vs, h1, h2⟩ := hv
   refine ⟨vs, h1, ?_⟩
   clear h1
   change l.all (rK n) = true at hx
   induction h2 with
   | nil => exact .nil
   | cons h1 _ ih => simp only [List.all_cons, Bool.and_eq_true] at hx; exact .cons (vq hx.1 h1) (ih hx.2)
theorem nV {n : Nat} {l : List SV} {vs : List Value} (h : aL (Den ρ) l vs) (hl : l.all (iX n) = true) : aL (Den (ρ.trim n)) l vs := by
 induction h with
 | nil => exact .nil
 | cons h1 _ ih => simp only [List.all_cons, Bool.and_eq_true] at hl; exact .cons (CA hl.1 h1) (ih hl.2)
def oT : List (U Prop) → Prop
 | [] => True
 | C :: r => C () ∧ oT r
theorem w5 : ∀ {Cs : List (U Prop)}, oT Cs → ∀ C ∈ Cs, C ()
 | [], _, C, h => by cases h
 | D :: r, h, C, hC => by
   rcases List.mem_cons.1 hC with e | e
   · rw [e]; exact h.1
   · exact w5 h.2 C e
theorem uJ : tt () := True.intro
theorem Ck.all_nil {R : Prop} (h : R) : Ck (fun _ => oT []) R := ⟨trivial, h⟩
theorem Ck.all_cons {C : U Prop} {Cs : List (U Prop)} {R : Prop} (h : Ck C (Ck (fun _ => oT Cs) R)) : Ck (fun _ => oT (C :: Cs)) R := by
 cases h with
 | mk h1 h2 => cases h2 with | mk h3 h4 => exact ⟨⟨h1, h3⟩, h4⟩
def dW : Nat → List (Chunk A) → List (Chunk A)
 | 0, _ => []
 | n + 1, c :: r => c :: dW n r
 | n + 1, [] => .emp :: dW n []
theorem px : ∀ {n i j : Nat}, j ∈ bY i n ↔ i ≤ j ∧ j < i + n
 | 0, i, j => by simp only [bY, List.not_mem_nil, false_iff]; omega
 | n + 1, i, j => by simp only [bY, List.mem_cons, px (n := n)]; omega
theorem fz : ∀ {n : Nat} {H : List (Chunk A)} {j : Nat}, aC (dW n H) j = if j < n then aC H j else .emp
 | 0, H, j => by simp [dW, aC, nth]
 | n + 1, c :: r, 0 => by simp [dW, aC, nth]
 | n + 1, [], 0 => by simp [dW, aC, nth]
 | n + 1, c :: r, j + 1 => by
   have := fz (n := n) (H := r) (j := j)
   simp only [Nat.add_lt_add_iff_right]
   rw [show aC (c :: r) (j + 1) = aC r j from rfl, ← this]; rfl
 | n + 1, [], j + 1 => by
   have := fz (n := n) (H := ([] : List (Chunk A))) (j := j)
   simp only [Nat.add_lt_add_iff_right]
   rw [show aC ([] : List (Chunk A)) (j + 1) = aC ([] : List (Chunk A)) j from by simp [aC, nth], ← this]; rfl
theorem eL : ∀ {n : Nat} {H : List (Chunk A)}, (dW n H).length = n
 | 0, H => rfl
 | n + 1, c :: r => by simp [dW, eL]
 | n + 1, [] => by simp [dW, eL]
theorem cX : ∀ {n i : Nat} {H cs : List (Chunk A)} (j : Nat), cs.length = n → aC (aO H (bY i n) cs) j = if i ≤ j ∧ j < i + n then aC cs (j - i) else aC H j
 | 0, i, H, cs, j, h => by simp only [bY, aO]; rw [if_neg (by omega)]
 | n + 1, i, H, [], j, h => by simp at h
 | n + 1, i, H, c :: cs, j, h => by
   simp only [bY, aO]
   rw [cX (n := n) (i := i + 1) j (by simpa using h)]
   by_cases h1 : i + 1 ≤ j ∧ j < i + 1 + n
   · rw [if_pos h1, if_pos (by omega)]
     rw [show j - i = j - (i + 1) + 1 by omega]; rfl
   · rw [if_neg h1, aP]
     by_cases h2 : j = i
     · subst h2; rw [if_pos rfl, if_pos (by omega)]; simp [aC, nth]
     · rw [if_neg h2, if_neg (by omega)]
def u5 (n : Nat) : Chunk A → Bool
 | .cells _ l => l.all (oS n)
 | .rmap _ _ _ _ _ j => aq j n
 | .nest _ _ _ _ _ (some (_, j)) => aq j n
 | .mnest _ _ (some _) => false
 | _ => true
theorem qg {n i : Nat} (hi : i < n) {c : Chunk A} (hb : u5 n c = true) (h : aQ AI ρ w i c) : aQ AI (ρ.trim n) w i c := by
 cases c with
 | emp => simpa only [aQ, Ev.trim, if_pos hi] using h
 | gone => trivial
 | cells t l =>
   obtain ⟨b, vs, h1, h2, h3, h4⟩ := h
   exact ⟨b, vs, by simpa only [Ev.trim, if_pos hi] using h1, by simpa only [Ev.trim, if_pos hi] using h2, h3, nW h4 hb⟩
 | row t e v L => simpa only [aQ, Ev.trim, if_pos hi] using h
 | map ks e L => simpa only [aQ, Ev.trim, if_pos hi] using h
 | rmap ks e L R c j =>
   have hj : j < n := leN hb
   obtain ⟨b, r, h1, h2, h3, h4⟩ := h
   exact ⟨b, r, by simpa only [Ev.trim, if_pos hi] using h1, by simpa only [Ev.trim, if_pos hj] using h2, by simpa only [Ev.trim, if_pos hi] using h3, h4⟩
 | itp q => simpa only [aQ, Ev.trim, if_pos hi] using h
 | mnest tb L q =>
   cases q with
   | some q => cases hb
   | none =>
     simp only [aQ, Ev.trim, if_pos hi] at h ⊢
     exact h.kN (fun _ _ _ h => h) (fun _ _ e => by cases e) fun _ _ => rfl
 | nest t tb z v L q =>
   cases q with
   | some q =>
     obtain ⟨k, j⟩ := q
     have hj : j < n := leN hb
     simp only [aQ, Ev.trim, if_pos hi] at h ⊢
     exact ⟨h.1, cc.bt (ρ := ρ) rfl rfl (fun v hv => by simpa only [aK, Ev.trim, if_pos hj] using hv) h.2⟩
   | none => simp only [aQ, Ev.trim, if_pos hi] at h ⊢; exact ⟨h.1, h.2.kn rfl⟩
 | abs x => simpa only [aQ, Ev.trim, if_pos hi] using h
def nO (E : Env A) (nt : Nat) (rs : List ResultVar) (body : Code) (k : Nat) : Con A := fun args fresh =>
 match jI args.length nt && args.all (iX fresh) with
 | true => some ⟨bY 0 (fresh + k), k, true, fun cs ds => (match cs.all (u5 fresh) with
   | true => (match eu E body ⟨cQ 0 args, dW fresh cs⟩ ds with
     | .done Cs e s _ => (match e with
       | .exit _ => .fail
       | _ => (match kQ E.ti s rs with
         | some l => (match jI s.H.length (fresh + k) with
           | true => .done (fun _ => oT Cs) (ag l) (dW (fresh + k) s.H)
           | false => .fail)
         | none => .fail))
     | .need b => .need b
     | .fail _ => .fail)
   | false => .fail)⟩
 | false => none
theorem sD {f : FuncId} {tmps : Array Value} (h : Holds AI G s ρ tmps w) {m : Nat} {us : List Value} {H0 H1 : List (Chunk A)} {v : SV} {fresh : Nat} (hf : fresh ≤ m) (hH0 : ∀ j, aC H0 j = if j < fresh then aC s.H j else .emp) (hbel : ∀ j, j < fresh → u5 fresh (aC s.H j) = true) (hemp : ∀ j, fresh ≤ j → j < m → aC s.H j = .emp) (hH1 : ∀ j, m ≤ j → aC H1 j = .emp) {H' : List (Chunk A)} (hin : ∀ j, j < m → aC H' j = aC H1 j) (hout : ∀ j, m ≤ j → aC H' j = aC s.H j)
 (hT : ∀ (Gc : Fr), Gc.n0 = fresh → Gc.size = 0 → Holds AI Gc ⟨[], H0⟩ (ρ.trim fresh) #[] w → Calls P f us.toArray w fun e w' => ∃ y ρr, e = .returned y ∧ Holds AI Gc ⟨[], H1⟩ ρr #[] w' ∧ Den ρr v y) :
 Calls P f us.toArray w fun e w' => ∃ y ρ', e = .returned y ∧ Holds AI G ⟨s.tm, H'⟩ ρ' tmps w' ∧ Den ρ' v y ∧ ρ.Le ρ' := by
 let ρc : Ev := ρ.trim fresh
 let Gc : Fr := { w0 := w, own := fun b => ∃ j, j < fresh ∧ b ∈ ρ.foot j, n0 := fresh, root0 := ρ.root, M0 := ρ.M, size := 0, ver0 := ρ.ver }
 have hfc : ∀ j b, b ∈ ρc.foot j → j < fresh ∧ b ∈ ρ.foot j := by
  intro j b hb
  simp only [ρc, Ev.trim] at hb
  split at hb
  · rename_i hj; exact ⟨hj, hb⟩
  · cases hb
 have hempv : ∀ j, fresh ≤ j → j < m → ρ.foot j = [] ∧ ρ.root j = .bool false ∧ ρ.ver j = 0 := fun j h1 h2 => by
  have := h.ch j; rw [hemp j h1 h2] at this; exact this
 have hc : Holds AI Gc ⟨[], H0⟩ ρc #[] w := by
  refine ⟨rfl, h.gtOf (fun b hb => by obtain ⟨j, _, hj⟩ := hb; exact ⟨_, hj⟩), (fun t x ht => by cases ht), fun j => ?_, fun i j b hij hi hj => h.dis i j b hij (hfc i b hi).2 (hfc j b hj).2, fun i b hb => h.lt i b (hfc i b hb).2, fun b o x hm => ⟨(h.im b o x hm).1, fun i hb => (h.im b o x hm).2 i (hfc i b hb).2⟩, rfl, rfl, rfl, Nat.le_refl _, fun _ _ _ => rfl,
   fun i b hb => .inl ⟨i, hfc i b hb⟩, fun i b hi hb => by show (ρ.trim fresh).root i = _; simp only [Ev.trim, if_pos (show i < fresh from hi)]; exact hb, fun i hi => ⟨by show _ ≤ (ρ.trim fresh).ver i; simp only [Ev.trim, if_pos (show i < fresh from hi)]; exact Nat.le_refl _, fun ao l c hb hv => by show (ρ.trim fresh).root i = _; simp only [Ev.trim, if_pos (show i < fresh from hi)]; exact hb⟩, fun _ _ _ hm => hm, fun b o x hm => .inl hm⟩
  show aQ AI ρc w j (aC H0 j)
  rw [hH0]
  split
  · rename_i hj; exact qg hj (hbel j hj) (h.ch j)
  · exact ⟨by simp [ρc, Ev.trim, *], by simp [ρc, Ev.trim, *], by simp [ρc, Ev.trim, *]⟩
 refine (hT Gc rfl rfl hc).mono ?_
 rintro e w' ⟨y, ρr, rfl, hr, hy⟩
 have hbey : ∀ j, m ≤ j → ρr.foot j = [] ∧ ρr.root j = .bool false ∧ ρr.ver j = 0 := fun j hj => by
  have := hr.ch j; dsimp only at this; rw [hH1 j hj] at this; exact this
 let ρ' : Ev := { root := fun i => if i < m then ρr.root i else ρ.root i, ver := fun i => if i < m then ρr.ver i else ρ.ver i, M := ρr.M, foot := fun i => if i < m then ρr.foot i else ρ.foot i }
 have ltr : ∀ i, ρr.root i ≠ .bool false → i < m := fun i hi => Nat.lt_of_not_le fun hle => hi (hbey i hle).2.1
 have lrr : ρr.Le ρ' := by
  refine ⟨fun _ _ _ h => h, fun i b hb => ?_, fun i => ?_, fun i hv hs => ?_⟩
  · have := ltr i (by rw [hb]; simp)
    simp only [ρ', if_pos this]; exact hb
  · simp only [ρ']; split
    · exact Nat.le_refl _
    · rename_i hi; rw [(hbey i (by omega)).2.2]; exact Nat.zero_le _
  · obtain ⟨ao, l, c, hs⟩ := hs
    have := ltr i (by rw [hs]; simp)
    simp only [ρ', if_pos this]
 have le : ρ.Le ρ' := by
  refine ⟨hr.mono, fun i b hb => ?_, fun i => ?_, fun i hv hs => ?_⟩
  · by_cases hi : i < m
    · simp only [ρ', if_pos hi]
      by_cases hi2 : i < fresh
      · exact hr.rt i b hi2 hb
      · rw [(hempv i (by omega) hi).2.1] at hb; cases hb
    · simp only [ρ', if_neg hi]; exact hb
  · by_cases hi : i < m
    · simp only [ρ', if_pos hi]
      by_cases hi2 : i < fresh
      · exact (hr.rts i hi2).1
      · rw [(hempv i (by omega) hi).2.2]; exact Nat.zero_le _
    · simp only [ρ', if_neg hi]; exact Nat.le_refl _
  · obtain ⟨ao, l, c, hs⟩ := hs
    by_cases hi : i < m
    · simp only [ρ', if_pos hi] at hv ⊢
      by_cases hi2 : i < fresh
      · rw [(hr.rts i hi2).2 ao l c hs hv.symm, hs]
      · rw [(hempv i (by omega) hi).2.1] at hs; cases hs
    · simp only [ρ', if_neg hi]
 have hrfoot : ∀ j b, b ∈ ρr.foot j → (∃ k, k < fresh ∧ b ∈ ρ.foot k) ∨ w.heap.size ≤ b := fun j b hb => hr.fro j b hb
 have hblk : ∀ b, b < w.heap.size → (∀ j, j < fresh → b ∉ ρ.foot j) → w'.heap[b]? = w.heap[b]? := fun b hb hnb => hr.kept b hb (by rintro ⟨j, hj, hb'⟩; exact hnb j hj hb')
 have hnot : ∀ {i b}, ¬ i < m → b ∈ ρ.foot i → ∀ j, j < fresh → b ∉ ρ.foot j := fun {i b} hi hb j hj hb' => h.dis i j b (by omega) hb hb'
 refine ⟨y, ρ', rfl, ⟨h.sz, h.gt, fun t x ht => ?_, fun i => ?_, fun i k b hik hi hk => ?_, fun i b hb => ?_, fun b o x hm => ⟨(hr.im b o x hm).1, fun i hb => ?_⟩, hr.os.trans h.os, hr.tape.trans h.tape, hr.output.trans h.output, Nat.le_trans h.grow hr.grow,
  fun b hb hn' => ?_, fun i b hb => ?_, fun i b hi hb => le.ptr i b (h.rt i b hi hb), fun i hi => ?_, fun b o x hm => hr.mono b o x (h.mono b o x hm), fun b o x hm => ?_⟩, hy.mono lrr, le⟩
 · obtain ⟨u, h1, h2⟩ := h.tm t x ht; exact ⟨u, h1, h2.mono le⟩
 · show aQ AI ρ' w' i (aC H' i)
   by_cases hi : i < m
   · rw [hin i hi]
     have h3 := hr.ch i
     dsimp only at h3
     exact h3.stays lrr (by simp only [ρ', if_pos hi]) (by simp only [ρ', if_pos hi]) (by simp only [ρ', if_pos hi]) fun _ _ => rfl
   · rw [hout i (by omega)]
     exact (h.ch i).stays le (by simp only [ρ', if_neg hi]) (by simp only [ρ', if_neg hi]) (by simp only [ρ', if_neg hi]) fun b hb => hblk b (h.lt i b hb) (hnot hi hb)
 · simp only [ρ'] at hi hk
   split at hi <;> split at hk
   · exact hr.dis i k b hik hi hk
   · rename_i _ hk'
     rcases hrfoot i b hi with ⟨q, hq, hb⟩ | hge
     · exact hnot hk' hk q hq hb
     · have := h.lt k b hk; omega
   · rename_i hi' _
     rcases hrfoot k b hk with ⟨q, hq, hb⟩ | hge
     · exact hnot hi' hi q hq hb
     · have := h.lt i b hi; omega
   · exact h.dis i k b hik hi hk
 · simp only [ρ'] at hb
   split at hb
   · exact hr.lt i b hb
   · exact Nat.lt_of_lt_of_le (h.lt i b hb) hr.grow
 · simp only [ρ'] at hb
   split at hb
   · exact (hr.im b o x hm).2 i hb
   · rename_i hi
     rcases hr.mfr b o x hm with h1 | ⟨q, h1, h2⟩ | h1
     · exact (h.im b o x h1).2 i hb
     · exact hnot hi hb q h1 h2
     · have h1 : w.heap.size ≤ b := h1
       have := h.lt i b hb; omega
 · refine (hblk b (Nat.lt_of_lt_of_le hb h.grow) fun j hj hb' => ?_).trans (h.kept b hb hn')
   rcases h.fro _ b hb' with h1 | h1
   · exact hn' h1
   · omega
 · simp only [ρ'] at hb
   split at hb
   · rcases hrfoot i b hb with ⟨q, hq, hb'⟩ | hge
     · exact h.fro _ b hb'
     · exact .inr (Nat.le_trans h.grow hge)
   · exact h.fro i b hb
 · obtain ⟨hv0, hs⟩ := h.rts i hi
   refine ⟨Nat.le_trans hv0 (le.ver i), fun ao l c hb hv => ?_⟩
   have e0 : ρ.ver i = G.ver0 i := Nat.le_antisymm (hv ▸ le.ver i) hv0
   have h1 := hs ao l c hb e0
   rw [le.same i (by rw [e0, hv]) ⟨_, _, _, h1⟩]; exact h1
 · rcases hr.mfr b o x hm with h1 | ⟨q, h1, h2⟩ | h1
   · exact h.mfr b o x h1
   · exact .inr (h.fro _ b h2)
   · exact .inr (.inr (Nat.le_trans h.grow h1))
theorem cI {E : Env A} (hE : aU P AI E) (hm : P.follows .mixedOrders = true) {f : FuncId} {fn : Func} {c : Code} (hen : Enters P f) (hf : P.funcs[f]? = some fn) (hb : fn.body = some c) (hok : codeOk fn.ntmps c = true) (k : Nat) :
 aE P AI f (nO E fn.ntmps fn.results.toList c k) := by
 refine ⟨hen, fun args fresh p hp hw => ?_, fun G s ρ tmps w args us fresh p d C v cs h hargs hp hfr he hC => ?_⟩
 · unfold nO at hp
   split at hp <;> cases hp
   cases hw
 · unfold nO at hp
   split at hp <;> cases hp
   rename_i hcond
   simp only [Bool.and_eq_true] at hcond
   obtain ⟨hlen, hbel⟩ := hcond
   have hlen := leN hlen
   dsimp only at he hfr ⊢
   split at he
   · rename_i hall
     split at he
     · rename_i Cs e s1 ds1 hx
       have key : (e = .normal ∨ e = .ret) ∧ ∃ l, kQ E.ti s1 fn.results.toList = some l ∧ s1.H.length ≤ fresh + k ∧ (C = fun _ => oT Cs) ∧ v = ag l ∧ cs = dW (fresh + k) s1.H := by
        cases e with
        | exit id => cases he
        | normal =>
          refine ⟨.inl rfl, ?_⟩
          dsimp only at he
          split at he
          · rename_i l hl
            split at he
            · rename_i hle
              simp at he
              exact ⟨l, hl, leN hle, he.1.symm, he.2.1.symm, he.2.2.symm⟩
            · cases he
          · cases he
        | ret =>
          refine ⟨.inr rfl, ?_⟩
          dsimp only at he
          split at he
          · rename_i l hl
            split at he
            · rename_i hle
              simp at he
              exact ⟨l, hl, leN hle, he.1.symm, he.2.1.symm, he.2.2.symm⟩
            · cases he
          · cases he
       obtain ⟨hend, l, hl, hle, rfl, rfl, rfl⟩ := key
       have hgc : ∀ j, j < fresh + k → aC (aD s.H (bY 0 (fresh + k))) j = aC s.H j := fun j hj => by rw [fS hj, Nat.zero_add]
       refine sD h (m := fresh + k) (H0 := dW fresh (aD s.H (bY 0 (fresh + k)))) (H1 := s1.H) (fresh := fresh) (by omega) (fun j => ?_) (fun j hj => ?_) (fun j h1 h2 => hfr j (px.2 (by omega)) h1) (fun j hj => bf (by omega)) (fun j hj => ?_) (fun j hj => ?_) fun Gc hn0 hsz hh => ?_
       · rw [fz]
         split
         · rw [hgc j (by omega)]
         · rfl
       · have hlen2 : ∀ {n i : Nat}, (aD s.H (bY i n)).length = n := by
          intro n
          induction n with
          | zero => intro i; rfl
          | succ n ih => intro i; simp only [bY, aD, List.length_cons, ih]
         have h1 : (aD s.H (bY 0 (fresh + k)))[j]? = some (aC s.H j) := by
          have h2 := hgc j (by omega)
          unfold aC at h2
          rw [eY] at h2
          have h3 : j < (aD s.H (bY 0 (fresh + k))).length := by rw [hlen2]; omega
          rw [List.getElem?_eq_getElem h3] at h2 ⊢
          exact congrArg some h2
         exact List.all_eq_true.1 hall _ (List.mem_of_getElem? h1)
       · rw [cX j eL, if_pos (by omega), Nat.sub_zero, fz, if_pos hj]
       · rw [cX j eL, if_neg (by omega)]
       · refine calls_of_wp hf hb ?_
         have hd := nV hargs hbel
         have hl1 := hd.length
         have h1 := hh.enter hd (n := fn.ntmps) (by omega)
         refine uE (AI := AI) (G := { Gc with size := fn.ntmps }) hE hm c hok _ _ hx (w5 hC) ⟨rfl, _, h1⟩ ?_
         intro a' w' hdf ⟨ρ', hh'⟩
         obtain ⟨y, h3, h4⟩ := k9 (AI := AI) (G := { Gc with size := fn.ntmps }) hE.ti hh' hl
         have h5 : Holds AI Gc ⟨[], s1.H⟩ ρ' #[] w' := ⟨hsz.symm, hh'.gt, (fun t x ht => by cases ht), hh'.ch, hh'.dis, hh'.lt, hh'.im, hh'.os, hh'.tape, hh'.output, hh'.grow, hh'.kept, hh'.fro, hh'.rt, hh'.rts, hh'.mono, hh'.mfr⟩
         rcases hend with rfl | rfl
         · exact ⟨hdf, y, h3, y, ρ', rfl, h5, h4⟩
         · exact ⟨hdf, y, h3, y, ρ', rfl, h5, h4⟩
     · cases he
     · cases he
   · cases he
end Go.Sx
namespace Go.Sx
set_option linter.all false
theorem ifF {α : Type} {b : Bool} {x y : α} (h : b = false) : (if b = true then x else y) = y := if_neg (by rw [h]; exact Bool.false_ne_true)
theorem ifN {α : Type} {b : Bool} {x y : α} (h : b = true) : (if b = false then x else y) = y := if_neg (by rw [h]; exact Bool.noConfusion)
theorem natCast_eq (n : Nat) : @NatCast.natCast Int instNatCastInt n = (n : Int) := rfl
def aS (f : Func) : Code := f.body.getD .skip
noncomputable def inl {A : Type} (E : Env A) (f : Func) (k : Nat) : Con A := nO E f.ntmps f.results.toList (aS f) k
theorem nrm : (∀ (p : Prop) [Decidable p], (decide p = true) = p) ∧ (∀ (p : Prop) [Decidable p], decide p = false ↔ ¬ p) ∧ (∀ b : Bool, ((!b) = true) = (b = false)) ∧ (∀ b : Bool, ((!b) = false) = (b = true)) ∧ (∀ b : Bool, (¬ b = true) = (b = false)) ∧ (∀ b : Bool, (¬ b = false) = (b = true)) ∧ (!true) = false ∧ (!false) = true ∧ (∀ (α : Type) (a b : α), (a ≠ b) = ¬ a = b) ∧ (false = true) = False ∧ (true = false) = False ∧ (∀ (α : Type) [BEq α] [LawfulBEq α] (a b : α), (a == b) = true ↔ a = b) ∧ (∀ (α : Type) [BEq α] [LawfulBEq α] (a b : α), (a == b) = false ↔ a ≠ b) ∧ (¬ True) = False ∧ (¬ False) = True :=
 ⟨fun p _ => decide_eq_true_eq, fun p _ => decide_eq_false_iff_not, fun b => Bool.not_eq_true' b, fun b => Bool.not_eq_false' b, fun b => Bool.not_eq_true b, fun b => Bool.not_eq_false b, rfl, rfl, fun _ _ _ => rfl, eq_false Bool.false_ne_true, eq_false Bool.noConfusion, fun _ _ _ _ _ => beq_iff_eq, fun _ _ _ _ _ => beq_eq_false_iff_ne, eq_false (fun h => h trivial), eq_true id⟩
theorem nrb : (∀ b : Bool, (b || true) = true) ∧ (∀ b : Bool, (true || b) = true) ∧ (∀ b : Bool, (b || false) = b) ∧ (∀ b : Bool, (false || b) = b) ∧ (∀ b : Bool, (b && true) = b) ∧ (∀ b : Bool, (true && b) = b) ∧ (∀ b : Bool, (b && false) = false) ∧ (∀ b : Bool, (false && b) = false) ∧ (!true) = false ∧ (!false) = true :=
 ⟨Bool.or_true, Bool.true_or, Bool.or_false, Bool.false_or, Bool.and_true, Bool.true_and, Bool.and_false, Bool.false_and, rfl, rfl⟩
theorem lens : (∀ (α : Type) (a b : List α), (a ++ b).length = a.length + b.length) ∧ (∀ (α : Type) (a : α) (l : List α), (a :: l).length = l.length + 1) ∧ (∀ α : Type, ([] : List α).length = 0) ∧ (∀ (α : Type) (n : Nat) (a : α), (List.replicate n a).length = n) ∧ (∀ (α : Type) (n : Nat) (l : List α), (l.take n).length = min n l.length) ∧ (∀ (α : Type) (n : Nat) (l : List α), (l.drop n).length = l.length - n) :=
 ⟨fun _ _ _ => List.length_append, fun _ _ _ => List.length_cons, fun _ => List.length_nil, fun _ _ _ => List.length_replicate, fun _ _ _ => List.length_take, fun _ _ _ => List.length_drop⟩
theorem take_cg {α : Type} {l : List α} {a b : Int} (h : a = b) : l.take a.toNat = l.take b.toNat := by rw [h]
theorem drop_cg {α : Type} {l : List α} {a b : Int} (h : a = b) : l.drop a.toNat = l.drop b.toNat := by rw [h]
theorem sS {α : Type} {l : List α} {a b c d : Int} (h : a = b) (h2 : c = d) : (l.drop c.toNat).take a.toNat = (l.drop d.toNat).take b.toNat := by rw [h, h2]
theorem tf {α : Type} {l : List α} {a b c : Int} (h0 : 0 ≤ a) (h1 : 0 ≤ b) (h : c = a + b) : (l.take c.toNat).drop a.toNat = (l.drop a.toNat).take b.toNat := by rw [List.drop_take, h]; congr 1; omega
theorem uP {α : Type} {l : List α} {a : Int} (h : l.length ≤ a) : l.take a.toNat = l := List.take_of_length_le (by omega)
theorem qu {α : Type} {l : List α} {a b : Int} (h0 : 0 ≤ b) (h : l.length - b ≤ a) : (l.drop b.toNat).take a.toNat = l.drop b.toNat := List.take_of_length_le (by rw [List.length_drop]; omega)
theorem aH {α β : Type} (p : α × β) : (p.1, p.2) = p := rfl
theorem aJ {α : Type} (l : List α) : l.map (fun x => x) = l := by simp
theorem vJ {α β : Type} (l : List (α × β)) : l.map (fun x => ((fun x => x) x.1, (fun l => l) x.2)) = l := by
 induction l with
 | nil => rfl
 | cons x r ih => rw [List.map_cons, ih]
end Go.Sx
namespace Go.Sx
set_option linter.all false
open Go.RowKit
variable {A : Type} {AI : Abs A} {G : Fr} {s : SS A} {ρ : Ev} {a : Act} {w : World} {P : Program}
structure aj (A : Type) where
 n : Nat
 X : Type
 un : List SV → List (Chunk A) → Option (U X)
 pre : X → Prop
 res : U X → SV
def aj.con (k : aj A) : Con A := fun args fresh => match aG fresh k.n with
 | true => some ⟨bY 0 k.n, 0, false, fun cs _ => (match args.all (iX k.n) && cs.all (u5 k.n) with
   | true => (match k.un args cs with
     | some x => .done (fun _ => k.pre (x ())) (k.res x) cs
     | none => .fail)
   | false => .fail)⟩
 | false => none
theorem bw {H : List (Chunk A)} : ∀ {n i : Nat}, (aD H (bY i n)).length = n
 | 0, i => rfl
 | n + 1, i => by simp only [bY, aD, List.length_cons, bw]
theorem aj.sound [fo A] {E : Env A} (hE : aU P AI E) (hm : P.follows .mixedOrders = true) {f : FuncId} {fn : Func} {c : Code} (hen : Enters P f) (hf : P.funcs[f]? = some fn) (hb : fn.body = some c) (hok : codeOk fn.ntmps c = true) {k : aj A}
 (h : ∀ args cs x, k.un args cs = some x → k.pre (x ()) → cs.length = k.n → args.length ≤ fn.ntmps ∧ svc E k.n c ⟨cQ 0 args, cs⟩ (ek E.ti k.n fn.results.toList (k.res x) cs)) : aE P AI f k.con := by
 refine ⟨hen, fun args fresh p hp _ H d C v cs he => ?_, fun G s ρ tmps w args us fresh p d C v cs hh hargs hp hfr he hC => ?_⟩
 · unfold aj.con at hp
   split at hp <;> cases hp
   dsimp only at he
   split at he
   · split at he
     · simp at he; exact he.2.2.symm
     · cases he
   · cases he
 · unfold aj.con at hp
   split at hp <;> cases hp
   dsimp only at he hfr ⊢
   split at he
   · rename_i hbel
     obtain ⟨hb1, hb2⟩ := Bool.and_eq_true_iff.1 hbel
     split at he
     · rename_i x hx
       simp at he
       obtain ⟨rfl, rfl, rfl⟩ := he
       obtain ⟨hl, hs⟩ := h _ _ x hx hC bw
       have hgc : ∀ j, j < k.n → aC (aD s.H (bY 0 k.n)) j = aC s.H j := fun j hj => by rw [fS hj, Nat.zero_add]
       have hbey : ∀ j, k.n ≤ j → aC (aD s.H (bY 0 k.n)) j = .emp := fun j hj => bf (by rw [bw]; exact hj)
       refine (sD hh (m := k.n) (H0 := aD s.H (bY 0 k.n)) (H1 := aD s.H (bY 0 k.n)) (fresh := k.n) (v := k.res x) (Nat.le_refl _) (fun j => ?_) (fun j hj => ?_) (fun j h1 h2 => by omega) (fun j hj => hbey j hj)
        (H' := aO s.H (bY 0 k.n) (aD s.H (bY 0 k.n))) (fun j hj => ?_) (fun j hj => ?_) fun Gc hn0 hsz h0 => ?_)
       · split
         · rename_i hj; exact hgc j hj
         · rename_i hj; exact hbey j (by omega)
       · have h1 : (aD s.H (bY 0 k.n))[j]? = some (aC s.H j) := by
          have h2 := hgc j hj
          unfold aC at h2
          rw [eY] at h2
          have h3 : j < (aD s.H (bY 0 k.n)).length := by rw [bw]; exact hj
          rw [List.getElem?_eq_getElem h3] at h2 ⊢
          exact congrArg some h2
         exact List.all_eq_true.1 hb2 _ (List.mem_of_getElem? h1)
       · rw [cw _ _ _ (fun _ => rfl) j, hgc j hj]
       · exact cw _ _ _ (fun _ => rfl) j
       · exact yN hE hm hf hb hok hl hs hn0 hsz h0 (nV hargs hb1)
     · cases he
   · cases he
end Go.Sx
namespace Go.Sx
set_option linter.all false
open Go.RowKit
theorem Cl1 {P : Prop} (h : P := by
 first
  | with_reducible rfl
  | with_reducible assumption
  | (symm; with_reducible assumption)
  | omega
  | ((try dsimp only [Ty.T, Ty.cY, KT.T, getM, eh, gL, b5, bP]); first | done | with_reducible rfl | with_reducible assumption | (symm; with_reducible assumption) | ((try simp only [natCast_eq, List.nil_append]); first | done | with_reducible rfl | omega | exact take_cg (by omega) | exact drop_cg (by omega) | exact sS (by omega) (by omega) | exact uP (by omega) | exact qu (by omega) (by omega) | exact tf (by omega) (by omega) (by omega)))) : P := h
theorem Cl2 {P : Prop} (h : P := by
 first
  | ((try dsimp only [Ty.T, Ty.cY, KT.T, getM, eh, gL, b5, bP]); first | (simp only [nrm, reduceCtorEq, aH, aJ, natCast_eq, b5, bP]; first | done | with_reducible assumption | omega) | exact vJ _)
  | ((try dsimp only [Ty.T, Ty.cY, KT.T, getM, eh, gL, b5, bP] at *); first | ((try simp only [natCast_eq] at *) <;> omega) | ((try simp only [lens, natCast_eq] at *) <;> omega))
  | assumption
  | (symm; assumption)
  | (dsimp only; simp only [nrb, *]; done)
  | (simp; done)
  | (and_intros <;> first | trivial | with_reducible assumption | omega)
  | ((try dsimp only [Ty.T, Ty.cY, KT.T, getM, eh, gL, b5, bP] at *) <;> simp [*] <;> done)
  | fail) : P := h
theorem Ck.au {C : U Prop} {R : Prop} (r : R) (h : C () := by with_reducible first | exact uJ | exact (show o6 _ _ = true by kernel_rfl) | assumption | exact decide_eq_true (by assumption) | exact decide_eq_false (by assumption) | fail) : Ck C R := ⟨h, r⟩
abbrev T2 (G X : Prop) := (G = X) → X = G
theorem Nx {G X : Prop} (x : X) (h : X = G := by with_reducible refine (?_ : T2 _ _) ?_; rotate_left 1; (conv => lhs; cbv; (try cbv); (try cbv)); intro hT; clear hT; kernel_rfl) : G := h ▸ x
theorem Dd {P : Prop} (h : False := by first | omega | (simp only [nrm, reduceCtorEq, aH, aJ] at h <;> fail) | exact absurd (h.symm.trans (by assumption) : true = false) Bool.noConfusion | exact absurd (h.symm.trans (by assumption) : false = true) Bool.noConfusion | fail) : P := h.elim
theorem ifP {α : Type} {c : Prop} [Decidable c] {x y : α} (h : c := by first | assumption | omega) : (if c then x else y) = x := if_pos h
theorem ifM {α : Type} {c : Prop} [Decidable c] {x y : α} (h : ¬ c := by first | assumption | omega | (simp only [Bool.false_eq_true, Bool.true_eq_false, reduceCtorEq, not_false_eq_true]; done) | (simp only [Bool.not_eq_true]; assumption) | (simp only [Bool.not_eq_false]; assumption)) : (if c then x else y) = y := if_neg h
theorem Pr {P Q : Prop} (q : Q) (e : Q → P := by (intro q; (try (conv in (yU.inv _ _) => dsimp only)); (try (conv in (SS.mk _ _) => cbv; (try dsimp only [Ty.T, Ty.cY, KT.T]); (try simp only [natCast_eq]))); exact q)) : P := e q
theorem hri {α : Type} {x y r : α} (hr : x = r) (e : x = y := by first | rw [if_pos h] | rw [if_neg h] | rw [ifF h] | rw [ifN h] | rw [if_pos rfl] | rw [if_neg Bool.false_ne_true]) : y = r := e.symm.trans hr
end Go.Sx
namespace Go.Sx
set_option linter.all false
open Go.RowKit
theorem Pq {P X : Prop} (x : X) (e : X → P := by (intro q; refine Pr ?_; exact Nx q)) : P := e x
theorem Ca {C : U Prop} {R : Prop} (r : R) (h : C () := by with_reducible first | exact uJ | exact (show o6 _ _ = true by kernel_rfl) | assumption | exact decide_eq_true (by assumption) | exact decide_eq_false (by assumption) | fail) : Ck C R := ⟨h, r⟩
theorem Cb {C : U Prop} {Cs : List (U Prop)} {R : Prop} (h : Ck C (Ck (fun _ => oT Cs) R)) : Ck (fun _ => oT (C :: Cs)) R := Ck.all_cons h
theorem Cd {R : Prop} (h : R) : Ck (fun _ => oT []) R := ⟨trivial, h⟩
theorem Ce {p : Prop} (h : p) : End p := ⟨h⟩
theorem Cm {C : U Prop} {R : Prop} (h : C ()) (r : R) : Ck C R := ⟨h, r⟩
theorem Bo {b : U Bool} {p q : U Prop} {P Q : Prop} (x : b () = true → P → p ()) (y : b () = false → Q → q ()) (e : b () = true → P := by first | (intro h; (try simp only [nrm, reduceCtorEq, aH, aJ] at h); (try dsimp only [Ty.T, Ty.cY, KT.T, getM, eh, gL] at h); (try simp only [natCast_eq] at h); exact h) | exact fun h => h) (f : b () = false → Q := by first | (intro h; (try simp only [nrm, reduceCtorEq, aH, aJ] at h); (try dsimp only [Ty.T, Ty.cY, KT.T, getM, eh, gL] at h); (try simp only [natCast_eq] at h); exact h) | exact fun h => h) : Both b p q := .mk (fun h => x h (e h)) fun h => y h (f h)
theorem Al {n : Bool} {C p q : U Prop} {P Q : Prop} (x : (n = false → C ()) → P → p ()) (y : (n = true → C ()) → Q → q ()) (e : (n = false → C ()) → P := by first | (intro h; (try simp only [nrm, reduceCtorEq, aH, aJ] at h); (try dsimp only [Ty.T, Ty.cY, KT.T, getM, eh, gL] at h); (try simp only [natCast_eq] at h); exact h) | exact fun h => h) (f : (n = true → C ()) → Q := by first | (intro h; (try simp only [nrm, reduceCtorEq, aH, aJ] at h); (try dsimp only [Ty.T, Ty.cY, KT.T, getM, eh, gL] at h); (try simp only [natCast_eq] at h); exact h) | exact fun h => h) : Alt n C p q := .mk (fun h => x h (e h)) fun h => y h (f h)
theorem Ez {α : Sort _} {p : α → Prop} (h : Exists p) : Exists p := h
theorem Tb {A : Type} {AI : Abs A} {P : Program} [fo A] {E : Env A} (hE : aU P AI E) (hm : P.follows .mixedOrders = true) {f : FuncId} {fn : Func} {args : List SV} {H0 H1 : List (Chunk A)} {v : SV} (h : svc E H0.length (aS fn) ⟨cQ 0 args, H0⟩ (ek E.ti H0.length fn.results.toList v H1)) (hf : P.funcs[f]? = some fn := by kernel_rfl) (hb : fn.body = some (aS fn) := by kernel_rfl) (hok : codeOk fn.ntmps (aS fn) = true := by kernel_rfl) (hargs : Nat.ble args.length fn.ntmps = true := by kernel_rfl) : bQ P AI f args H0 v H1 := av hE hm hf hb hok (Nat.le_of_ble_eq_true hargs) h
abbrev PTk {A : Type} (P : Program) (AI : Abs A) (f : FuncId) (k : aB) (x : Tup k.ds) : Prop := bQ P AI f (dM k.ds (fun _ => x)) [] (ag (svs k.rs (fun _ => k.f x))) []
end Go.Sx
namespace Go.Sx
set_option linter.all false
open Go.RowKit Go.Deep Go.ChangeShapes Go.WideShapes
variable {P : Program}
def Ty.ok : (e : Ty) → e.T → Prop
 | .int k, n => k.min ≤ n ∧ n ≤ k.max
 | .bool, _ => True
 | .bytes, l => l.length ≤ maxLen ∧ bq l
 | .lst e, l => @List.length e.T l ≤ maxLen ∧ ∀ x ∈ (show List e.T from l), e.ok x
 | .str, l => l.length ≤ maxLen ∧ bq l
 | .unit, _ => True
 | .pair a b, x => a.ok x.1 ∧ b.ok x.2
def gW (w : World) : Mem := fun b o => w.cell? ⟨b, o, none⟩
def eN (tyB : TypeId → Ty → Bool) (P : Program) : Nat → List TypeId → Ty → Bool
 | _, [t], e => P.cellsOf t == e.size && tyB t e
 | n, t :: ts, .pair a b => P.cellsOf t == a.size && tyB t a && eN tyB P (n + a.size) ts b
 | _, _, _ => false
def nA : Nat → Program → List Field → Bool
 | _, _, [] => true
 | n, P, f :: fs => f.offset == n && nA (n + P.cellsOf f.type) P fs
def tyB (P : Program) : Nat → TypeId → Ty → Bool
 | 0, _, _ => false
 | n + 1, t, e => match P.underlying t with
   | some (.int k) => (match e with | .int k' => k == k' | _ => false)
   | some .bool => (match e with | .bool => true | _ => false)
   | some .string => (match e with | .str => true | _ => false)
   | some (.slice u) => (match e with | .bytes => (match P.underlying u with | some (.int .u8) => P.cellsOf u == 1 | _ => false) | .lst e => P.cellsOf u == e.size && aq 0 e.size && tyB P n u e | _ => false)
   | some (.struct fs) => P.cellsOf t == e.size && nA 0 P fs.toList && eN (tyB P n) P 0 (fs.toList.map (·.type)) e
   | some (.array m u) => P.cellsOf t == e.size && eN (tyB P n) P 0 (List.replicate m u) e
   | _ => false
section
variable {H : Type} {enc : TypeId × Value → H} {W : World} {sp : Nat → Bool} {held : Bool}
theorem CF (b off n : Nat) : (⟨b, off, none⟩ : Addr).add n = ⟨b, off + n, none⟩ := by
 unfold Addr.add
 split
 · rename_i h; have : n = 0 := by simpa using h
   subst this; rfl
 · rfl
theorem list_of {α : Type} (n : Nat) (p : Nat → α → Prop) (h : ∀ i, i < n → ∃ x, p i x) : ∃ l : List α, l.length = n ∧ ∀ i x, l[i]? = some x → p i x := by
 induction n with
 | zero => exact ⟨[], rfl, fun i x hi => by cases hi⟩
 | succ n ih =>
   obtain ⟨l, hl, hp⟩ := ih (fun i hi => h i (by omega))
   obtain ⟨x, hx⟩ := h n (by omega)
   refine ⟨l ++ [x], by simp [hl], fun i y hi => ?_⟩
   by_cases e : i < l.length
   · rw [List.getElem?_append_left e] at hi; exact hp i y hi
   · have hlt := (List.getElem?_eq_some_iff.1 hi).1
     have : i = l.length := by simp at hlt; omega
     subst this
     simp at hi
     subst hi
     rw [hl]; exact hx
theorem pE {t u : TypeId} (ht : P.underlying t = some (.slice u)) {e : Ty} (hc : P.cellsOf u = e.size) (hpos : 0 < e.size) {fuel : Nat} {cs : List Value} {x : DataW H × List MemPlace} (h : DataW.trod enc P W 0 sp held fuel t cs = some x)
 (he : ∀ n cs' x', DataW.trod enc P W 0 sp held n u cs' = some x' → ∃ y : e.T, cs'.length = e.size ∧ aI (gW W) e y (fun i => cs'[i]?) ∧ e.ok y) :
 ∃ L : List e.T, L.length ≤ maxLen ∧ (∀ y ∈ L, e.ok y) ∧ ∃ v, cs = [v] ∧ ba (gW W) e L v := by
 rcases open_slice ht h with ⟨rfl, _⟩ | ⟨a, len, cap, m, n, D, Pl, rfl, _, hl, hm, hmm, _, hx⟩
 · exact ⟨[], Nat.zero_le _, by simp, _, rfl, none, 0, rfl, Nat.le_refl _, by simp⟩
 · have hlm : len ≤ m := by rw [hmm]; split <;> omega
   have each : ∀ i, i < len → ∃ y : e.T, e.ok y ∧ aI (gW W) e y (fun j => if j < e.size then W.cell? (a.add (i * e.size + j)) else none) := by
    intro i hi
    obtain ⟨cs', h1, h2⟩ := hx i (by omega)
    obtain ⟨y, hy1, hy2, hy3⟩ := he _ _ _ h2
    rw [hc] at h1
    obtain ⟨_, hlen, hcell⟩ := World.cells?_some h1
    refine ⟨y, hy3, aI.congr e hy2 fun j v hj hv => ?_⟩
    have := hcell j hj
    rw [add_add] at this
    rw [if_pos hj, this]
    exact hv
   obtain ⟨L, hL, hp⟩ := list_of len _ each
   refine ⟨L, by omega, fun y hy => ?_, _, rfl, some a, cap, by rw [hL], by omega, fun h0 => ?_⟩
   · obtain ⟨i, hi⟩ := List.mem_iff_getElem?.1 hy
     exact (hp i y hi).1
   · obtain ⟨y0, hy0⟩ : ∃ y, L[0]? = some y := ⟨L[0]'h0, by simp⟩
     have hc0 := (hp 0 y0 hy0).2
     obtain ⟨b, off, spot⟩ := a
     have hspot : spot = none := by
      obtain ⟨cs', h1, _⟩ := hx 0 (by omega)
      obtain ⟨_, hlen, hcell⟩ := World.cells?_some h1
      have h3 := hcell 0 (by rw [hc]; exact hpos)
      have : 0 < cs'.length := by rw [hlen, hc]; exact hpos
      rw [List.getElem?_eq_getElem this] at h3
      rw [add_add] at h3
      simpa [Addr.add] using World.cell?_spot h3
     subst hspot
     refine ⟨b, off, rfl, fun j y hj => aI.congr e (hp j y hj).2 fun k v hk hv => ?_⟩
     rw [if_pos hk, CF, ← Nat.add_assoc] at hv
     exact hv
theorem mz {n : Nat} (tyB' : TypeId → Ty → Bool) (hrec : ∀ t e, tyB' t e = true → ∀ fuel cs x, DataW.trod enc P W 0 sp held fuel t cs = some x → ∃ y : e.T, cs.length = e.size ∧ aI (gW W) e y (fun i => cs[i]?) ∧ e.ok y) :
 ∀ (ts : List TypeId) (e : Ty) (off : Nat) (cs : List Value), eN tyB' P off ts e = true →
   (∀ (i : Nat) (t : TypeId), ts[i]? = some t → ∃ x, DataW.trod enc P W 0 sp held n t ((cs.drop ((ts.take i).map P.cellsOf).sum).take (P.cellsOf t)) = some x) →
   ∃ y : e.T, aI (gW W) e y (fun i => cs[i]?) ∧ e.ok y
 | [], e, off, cs, h, _ => by simp [eN] at h
 | [t], e, off, cs, h, hx => by
   simp only [eN, Bool.and_eq_true, beq_iff_eq] at h
   obtain ⟨x, hx⟩ := hx 0 t rfl
   simp only [List.take_zero, List.map_nil, List.sum_nil, List.drop_zero] at hx
   obtain ⟨y, h1, h2, h3⟩ := hrec t e h.2 _ _ _ hx
   refine ⟨y, aI.congr e h2 fun j v hj hv => ?_, h3⟩
   rw [List.getElem?_take] at hv
   split at hv
   · exact hv
   · cases hv
 | t :: t2 :: ts, e, off, cs, h, hx => by
   cases e with
   | pair a b =>
     simp only [eN, Bool.and_eq_true, beq_iff_eq] at h
     obtain ⟨⟨h1, h2⟩, h3⟩ := h
     obtain ⟨x, hx0⟩ := hx 0 t rfl
     simp only [List.take_zero, List.map_nil, List.sum_nil, List.drop_zero] at hx0
     obtain ⟨y, g1, g2, g3⟩ := hrec t a h2 _ _ _ hx0
     obtain ⟨z, k1, k2⟩ := mz tyB' hrec (t2 :: ts) b (off + a.size) (cs.drop a.size) h3 (fun i u hu => by
      obtain ⟨x', hx'⟩ := hx (i + 1) u hu
      refine ⟨x', ?_⟩
      simp only [List.take_succ_cons, List.map_cons, List.sum_cons, h1] at hx'
      rw [List.drop_drop]; exact hx')
     refine ⟨(y, z), ⟨aI.congr a g2 fun j v hj hv => ?_, aI.congr b k1 fun j v hj hv => ?_⟩, g3, k2⟩
     · rw [List.getElem?_take] at hv
       split at hv
       · exact hv
       · cases hv
     · rw [List.getElem?_drop] at hv; exact hv
   | _ => simp [eN] at h
theorem nv {P : Program} : ∀ {fs : List Field} {n : Nat}, nA n P fs = true → ∀ i f, fs[i]? = some f → f.offset = n + (((fs.map (·.type)).take i).map P.cellsOf).sum
 | [], _, _, i, f, h => by cases h
 | g :: fs, n, h, i, f, hf => by
   simp only [nA, Bool.and_eq_true, beq_iff_eq] at h
   cases i with
   | zero => cases hf; simpa using h.1
   | succ i =>
     have := nv h.2 i f hf
     simp only [List.map_cons, List.take_succ_cons, List.sum_cons]
     omega
theorem lP : ∀ (n : Nat) {t : TypeId} {e : Ty}, tyB P n t e = true → ∀ {fuel : Nat} {cs : List Value} {x : DataW H × List MemPlace}, DataW.trod enc P W 0 sp held fuel t cs = some x →
 ∃ y : e.T, cs.length = e.size ∧ aI (gW W) e y (fun i => cs[i]?) ∧ e.ok y
 | 0, t, e, h, _, _, _, _ => by simp [tyB] at h
 | n + 1, t, e, h, fuel, cs, x, hx => by
   unfold tyB at h
   split at h
   · rename_i k hu
     split at h <;> (try cases h)
     have h := eq_of_beq h
     subst h
     obtain ⟨m, rfl, _, hw⟩ := DataW.trod_int hu hx
     simp only [Lit.wf, Bool.and_eq_true, decide_eq_true_eq] at hw
     exact ⟨m, rfl, rfl, hw⟩
   · rename_i hu
     split at h <;> cases h
     obtain ⟨b, rfl, _⟩ := DataW.trod_bool hu hx
     exact ⟨b, rfl, rfl, trivial⟩
   · rename_i hu
     split at h <;> cases h
     obtain ⟨s, rfl, _, hs⟩ := DataW.trod_string hu hx
     refine ⟨s.data.toList.map fun x => (x.toNat : Int), rfl, ?_, by simpa using hs, ?_⟩
     · show some _ = some _
       congr 2
       cases s with | mk d =>
       congr 1
       simp [Function.comp_def]
     · intro y hy
       obtain ⟨z, _, rfl⟩ := List.mem_map.1 hy
       have := z.toNat_lt
       omega
   · rename_i u hu
     split at h <;> (try cases h)
     · split at h <;> (try cases h)
       rename_i hu8
       have hc := eq_of_beq h
       obtain ⟨L, h1, h2, v, rfl, h3⟩ := pE (e := .int .u8) hu hc (by decide) hx fun m cs' x' hx' => by
        obtain ⟨z, rfl, _, hw⟩ := DataW.trod_int hu8 hx'
        simp only [Lit.wf, Bool.and_eq_true, decide_eq_true_eq] at hw
        exact ⟨z, rfl, rfl, hw⟩
       refine ⟨L, rfl, ⟨v, rfl, e8.2 h3⟩, h1, fun y hy => ?_⟩
       obtain ⟨a, b⟩ := h2 y hy
       have e1 : IntKind.u8.min = 0 := by decide
       have e2 : IntKind.u8.max = 255 := by decide
       exact ⟨e1 ▸ a, Int.lt_of_le_of_lt (e2 ▸ b : (y : Int) ≤ 255) (by decide)⟩
     · rename_i e
       simp only [Bool.and_eq_true, beq_iff_eq] at h
       obtain ⟨⟨h1, h2⟩, h3⟩ := h
       have h2 : 0 < e.size := leN h2
       obtain ⟨L, g1, g2, v, rfl, g3⟩ := pE hu h1 h2 hx (fun m cs' x' hx' => lP n h3 hx')
       exact ⟨L, rfl, bn.2 ⟨v, rfl, g3⟩, g1, g2⟩
   · rename_i fs hu
     simp only [Bool.and_eq_true, beq_iff_eq] at h
     obtain ⟨⟨h1, h2⟩, h3⟩ := h
     obtain ⟨xs, m, rfl, _, hl, hlen, hf⟩ := DataW.trod_struct hu hx
     obtain ⟨y, k1, k2⟩ := mz (n := m) (tyB P n) (fun t e ht fuel cs x hx => lP n ht hx) _ e 0 cs h3 (fun i u hi => by
      rw [List.getElem?_map] at hi
      obtain ⟨f, hf1, rfl⟩ := Option.map_eq_some_iff.1 hi
      have g := hf i f (by simpa using hf1)
      have ho := nv h2 i f hf1
      rw [Nat.zero_add] at ho
      rw [← ho, g]
      have hi' : i < xs.length := by
       rw [hlen]; have := (List.getElem?_eq_some_iff.1 hf1).1; simpa using this
      exact ⟨xs[i], by simp⟩)
     exact ⟨y, hl.trans h1, k1, k2⟩
   · rename_i m u hu
     simp only [Bool.and_eq_true, beq_iff_eq] at h
     obtain ⟨h1, h3⟩ := h
     obtain ⟨xs, q, rfl, _, hl, hlen, hf⟩ := DataW.trod_array hu hx
     obtain ⟨y, k1, k2⟩ := mz (n := q) (tyB P n) (fun t e ht fuel cs x hx => lP n ht hx) _ e 0 cs h3 (fun i t' hi => by
      obtain ⟨hi1, hi2⟩ := List.getElem?_eq_some_iff.1 hi
      simp at hi1 hi2
      subst hi2
      have g := hf i hi1
      have hs : ((List.take i (List.replicate m u)).map P.cellsOf).sum = i * P.cellsOf u := by
       rw [List.take_replicate, Nat.min_eq_left (by omega)]; simp
      rw [hs, g]
      exact ⟨xs[i]'(by omega), by simp⟩)
     exact ⟨y, hl.trans h1, k1, k2⟩
   · cases h
def dtB (P : Program) (t : TypeId) : DT → Bool
 | .cell e => tyB P 8 t e && aq 0 e.size && (match P.underlying t with | some (.struct _) => e.agg | some (.array _ _) => e.agg | _ => !e.agg)
 | .lst e => (match P.underlying t with | some (.slice u) => P.cellsOf u == e.size && aq 0 e.size && tyB P 8 u e | _ => false)
 | .any => false
def DT.ok : (d : DT) → d.T → Prop
 | .cell e, x => e.ok x
 | .lst e, L => L.length ≤ maxLen ∧ ∀ x ∈ L, e.ok x
 | .any, _ => True
theorem Bp : ∀ {e : Ty} (x : U e.T), 0 < e.size → ∃ y, elV e x = some y
 | .int _, x, _ => ⟨_, rfl⟩
 | .bool, x, _ => ⟨_, rfl⟩
 | .bytes, x, _ => ⟨_, rfl⟩
 | .lst _, x, _ => ⟨_, rfl⟩
 | .str, x, _ => ⟨_, rfl⟩
 | .unit, x, h => by simp [Ty.size] at h
 | .pair a b, x, _ => ⟨_, rfl⟩
theorem oZ {d : DT} {t : TypeId} (hd : dtB P t d = true) {v : Value} {r : Reach} {b0 : Nat} (hval : Value.okWide P W r b0 t v) {dd : DataW H} {ps : List MemPlace} (h : DataW.Trod enc P W 0 sp held t v dd ps) :
 ∃ x : d.T, d.ok x ∧ ∀ ρ : Ev, ρ.M = gW W → cM ρ (d.sv (fun _ => x)) v := by
 obtain ⟨fuel, hf⟩ := h
 cases d with
 | any => cases hd
 | cell e =>
   simp only [dtB, Bool.and_eq_true] at hd
   obtain ⟨⟨h1, h2⟩, h3⟩ := hd
   have h2 : 0 < e.size := leN h2
   obtain ⟨y, k1, k2, k3⟩ := lP 8 h1 hf
   refine ⟨y, k3, fun ρ hM => ?_⟩
   obtain ⟨z, hz⟩ := Bp (e := e) (fun _ => y) h2
   simp only [DT.sv, hz]
   refine oe hz ?_
   rw [hM]
   refine ⟨v.cells.toList, k1, k2, ?_⟩
   have hag : ∀ cs, v = .agg cs → e.agg = true → (match e.agg with | true => v = .agg v.cells.toList.toArray | false => v.cells.toList = [v]) := by
    rintro cs rfl he
    rw [he]; simp [Value.cells]
   have hone : (∀ cs, v ≠ .agg cs) → e.agg = false → (match e.agg with | true => v = .agg v.cells.toList.toArray | false => v.cells.toList = [v]) := by
    intro hn he
    rw [he]
    cases v <;> first | rfl | exact absurd rfl (hn _)
   unfold tyB at h1
   split at h1
   · rename_i k hu
     obtain ⟨m, rfl⟩ := okWide_int hu hval
     rw [hu] at h3
     exact hone (fun _ h => by cases h) (by simpa using h3)
   · rename_i hu
     obtain ⟨m, rfl⟩ := okWide_bool hu hval
     rw [hu] at h3
     exact hone (fun _ h => by cases h) (by simpa using h3)
   · rename_i hu
     obtain ⟨m, rfl⟩ := okWide_string hu hval
     rw [hu] at h3
     exact hone (fun _ h => by cases h) (by simpa using h3)
   · rename_i u hu
     obtain ⟨a, l, c, rfl⟩ := okWide_slice hu hval
     rw [hu] at h3
     exact hone (fun _ h => by cases h) (by simpa using h3)
   · rename_i fs hu
     obtain ⟨cs, rfl, _⟩ := okWide_struct hu hval
     rw [hu] at h3
     exact hag _ rfl h3
   · rename_i m u hu
     have hval' := hval
     simp only [Value.okWide, hu] at hval'
     obtain ⟨cs, rfl, _⟩ := hval'
     rw [hu] at h3
     exact hag _ rfl h3
   · cases h1
 | lst e =>
   simp only [dtB] at hd
   split at hd
   · rename_i u hu
     simp only [Bool.and_eq_true, beq_iff_eq] at hd
     obtain ⟨⟨h1, h2⟩, h3⟩ := hd
     have h2 : 0 < e.size := leN h2
     obtain ⟨a, l, c, rfl⟩ := okWide_slice hu hval
     obtain ⟨L, g1, g2, v', g3, g4⟩ := pE hu h1 h2 hf (fun n cs' x' hx' => lP 8 h3 hx')
     have hv' : v' = .slice a l c := by simpa [Value.cells] using g3.symm
     subst hv'
     exact ⟨L, ⟨g1, g2⟩, fun ρ hM => by show ba ρ.M e L _; rw [hM]; exact g4⟩
   · cases hd
end
theorem bQ.start {A : Type} {AI : Abs A} {f : FuncId} {args : List SV} {v : SV} (hT : bQ P AI f args [] v []) {W : World} {us : List Value} (htq : AI.tq.T W (fun _ => False)) (hargs : ∀ ρ : Ev, ρ.M = gW W → aL (Den ρ) args us) :
 Calls P f us.toArray W fun e w' => (∃ y ρ, e = .returned y ∧ Den ρ v y) ∧ Below W.heap.size W w' := by
 let ρc : Ev := { root := fun _ => .bool false, ver := fun _ => 0, M := gW W, foot := fun _ => [] }
 refine (hT ⟨W, fun _ => False, 0, fun _ => .bool false, gW W, 0, fun _ => 0⟩ ρc W us rfl rfl ?_ (hargs ρc rfl)).mono ?_
 · exact ⟨rfl, htq, (fun t x ht => by cases ht), fun j => ⟨rfl, rfl, rfl⟩, (fun _ _ _ _ h => by cases h), (fun _ _ h => by cases h), fun b o x hm => ⟨hm, fun i hi => by cases hi⟩, rfl, rfl, rfl, Nat.le_refl _, fun _ _ _ => rfl, (fun _ _ h => by cases h), (fun i b hi hb => by cases hb), (fun i hi => absurd hi (Nat.not_lt_zero i)), fun _ _ _ hm => hm, fun b o x hm => .inl hm⟩
 · rintro e w' ⟨y, ρ', rfl, hh, hy⟩
   exact ⟨⟨y, ρ', rfl, hy⟩, hh.os, hh.tape, hh.output, hh.grow, fun k hk => hh.kept k hk (fun h => h)⟩
theorem aB.law {A : Type} {AI : Abs A} {f : FuncId} {k : aB} (hrs : k.rs = [.cell .bool]) (hk : k.Ok P AI f) {x : Tup k.ds} (hx : k.pre x) (hf : ∀ v : SV, ag (svs k.rs (fun _ => k.f x)) = v → ∀ ρ y, Den ρ v y → y = .bool true) {W : World} {us : List Value}
 (hargs : ∀ ρ : Ev, ρ.M = gW W → aL (cM ρ) (svs k.ds (fun _ => x)) us) (htq : AI.tq.T W (fun _ => False) := by exact mX.T_none _ _) :
 Calls P f us.toArray W fun e w' => e = .returned (.bool true) ∧ Below W.heap.size W w' := by
 refine ((hk x hx).start htq fun ρ hM => mT (hargs ρ hM) rfl).mono ?_
 rintro e w' ⟨⟨y, ρ, rfl, hy⟩, hb⟩
 rw [hf _ rfl ρ y hy]
 exact ⟨rfl, hb⟩
end Go.Sx
namespace Go.Sx
set_option linter.all false
theorem eqns0 : True := by
 have := @aG.eq_1; have := @aG.eq_def; have := @jI.eq_1; have := @jI.eq_def; have := @aq.eq_1; have := @aq.eq_def; have := @U.eq_1; have := @U.eq_def; have := @Ty.T.eq_1; have := @Ty.T.eq_def; have := @Ty.cY.eq_1; have := @Ty.cY.eq_def; have := @Ty.size.eq_1; have := @Ty.size.eq_def; have := @Ty.agg.eq_1; have := @Ty.agg.eq_def; have := @KT.T.eq_1; have := @KT.T.eq_def; have := @dec.eq_1; have := @dec.eq_def; have := @bO.eq_1; have := @bO.eq_def; have := @yC.eq_1; have := @yC.eq_def; have := @enc.eq_1; have := @enc.eq_def; have := @bB.eq_1; have := @bB.eq_def; have := @ak.eq_1; have := @ak.eq_def; have := @k5.eq_1; have := @k5.eq_def; have := @getM.eq_1; have := @getM.eq_def; have := @eh.eq_1; have := @eh.eq_def; have := @gL.eq_1; have := @gL.eq_def; have := @TI.isAgg.eq_1; have := @TI.isAgg.eq_def; trivial
theorem eqns1 : True := by
 have := @look.eq_1; have := @look.eq_def; have := @nth.eq_1; have := @nth.eq_def; have := @iy.eq_1; have := @iy.eq_def; have := @takeN.eq_1; have := @takeN.eq_def; have := @cut.eq_1; have := @cut.eq_def; have := @dN.eq_1; have := @dN.eq_def; have := @cy.eq_1; have := @cy.eq_def; have := @pV.eq_1; have := @pV.eq_def; have := @evalOp.eq_1; have := @evalOp.eq_def; have := @cn.eq_1; have := @cn.eq_def; have := @b5.eq_1; have := @b5.eq_def; have := @one.eq_1; have := @one.eq_def; have := @b7.eq_1; have := @b7.eq_def; have := @tt.eq_1; have := @tt.eq_def; have := @cellsOf.eq_1; have := @cellsOf.eq_def; have := @qD.eq_1; have := @qD.eq_def; have := @cH.eq_1; have := @cH.eq_def; have := @AJ.eq_1; have := @AJ.eq_def; have := @fit.eq_1; have := @fit.eq_def; have := @arith.eq_1; have := @arith.eq_def; trivial
theorem eqns2 : True := by
 have := @bq.eq_1; have := @bq.eq_def; have := @Ak.eq_1; have := @qf.eq_1; have := @qf.eq_def; have := @re.eq_1; have := @re.eq_def; have := @ku.eq_1; have := @ku.eq_def; have := @oo.eq_1; have := @oo.eq_def; have := @nJ.eq_1; have := @nJ.eq_def; have := @fX.eq_1; have := @fX.eq_def; have := @nk.eq_1; have := @nk.eq_def; have := @pack.eq_1; have := @pack.eq_def; have := @partOf.eq_1; have := @partOf.eq_def; have := @q6.eq_1; have := @q6.eq_def; have := @storable.eq_1; have := @storable.eq_def; have := @gE.eq_1; have := @gE.eq_def; have := @sP.eq_1; have := @sP.eq_def; have := @me.eq_1; have := @me.eq_def; have := @kg.eq_1; have := @kg.eq_def; have := @fR.eq_1; have := @fR.eq_def; have := @gG.eq_1; have := @gG.eq_def; have := @eZ.eq_1; have := @eZ.eq_def; have := @fm.eq_1; trivial
theorem eqns3 : True := by
 have := @fm.eq_def; have := @isSlice.eq_1; have := @isSlice.eq_def; have := @isZero.eq_1; have := @isZero.eq_def; have := @kO.eq_1; have := @kO.eq_def; have := @wk.eq_1; have := @wk.eq_def; have := @maxOf.eq_1; have := @maxOf.eq_def; have := @fv.eq_1; have := @fv.eq_def; have := @yM.eq_1; have := @yM.eq_def; have := @sL.eq_1; have := @sL.eq_def; have := @ez.eq_1; have := @ez.eq_def; have := @iw.eq_1; have := @iw.eq_def; have := @jJ.eq_1; have := @jJ.eq_def; have := @u8i.eq_1; have := @u8i.eq_def; have := @Src.ids.eq_1; have := @Src.ids.eq_def; have := @Src.list.eq_1; have := @Src.list.eq_def; have := @bP.eq_1; have := @bP.eq_def; have := @iY.eq_1; have := @iY.eq_def; have := @jt.eq_1; have := @jt.eq_def; have := @ql.eq_1; have := @ql.eq_def; have := @dB.eq_1; have := @dB.eq_def; have := @kV.eq_1; trivial
theorem eqns4 : True := by
 have := @kV.eq_def; have := @kr.eq_1; have := @kr.eq_def; have := @kh.eq_1; have := @kh.eq_def; have := @iN.eq_1; have := @iN.eq_def; have := @wx.eq_1; have := @wx.eq_def; have := @dc.eq_1; have := @dc.eq_def; have := @eF.eq_1; have := @eF.eq_def; have := @gZ.eq_1; have := @gZ.eq_def; have := @tQ.eq_1; have := @tQ.eq_def; have := @elV.eq_1; have := @elV.eq_def; have := @yY.eq_1; have := @yY.eq_def; have := @w6.eq_1; have := @w6.eq_def; have := @iK.eq_1; have := @iK.eq_def; have := @eE.eq_1; have := @eE.eq_def; have := @jq.eq_1; have := @jq.eq_def; have := @Con.eq_1; have := @Con.eq_def; have := @cK.eq_1; have := @cK.eq_def; have := @cV.eq_1; have := @cV.eq_def; have := @sT.eq_1; have := @sT.eq_def; have := @s6.eq_1; have := @s6.eq_def; have := @qd.eq_1; trivial
theorem eqns5 : True := by
 have := @qd.eq_def; have := @PO.of.eq_1; have := @PO.of.eq_def; have := @cellOf.eq_1; have := @cellOf.eq_def; have := @kq.eq_1; have := @kq.eq_def; have := @sN.eq_1; have := @sN.eq_def; have := @en.eq_1; have := @en.eq_def; have := @jr.eq_1; have := @jr.eq_def; have := @mh.eq_1; have := @mh.eq_def; have := @s3.eq_1; have := @s3.eq_def; have := @vi.eq_1; have := @vi.eq_def; have := @qn.eq_1; have := @qn.eq_def; have := @dK.eq_1; have := @dK.eq_def; have := @iP.eq_1; have := @iP.eq_def; have := @dU.eq_1; have := @dU.eq_def; have := @cq.eq_1; have := @cq.eq_def; have := @jR.eq_1; have := @jR.eq_def; have := @sO.eq_1; have := @sO.eq_def; have := @dL.eq_1; have := @dL.eq_def; have := @xQ.eq_1; have := @xQ.eq_def; have := @nH.eq_1; have := @nH.eq_def; have := @pe.eq_1; trivial
theorem eqns6 : True := by
 have := @pe.eq_def; have := @bY.eq_1; have := @bY.eq_def; have := @za.eq_1; have := @za.eq_def; have := @keyS.eq_1; have := @keyS.eq_def; have := @mq.eq_1; have := @mq.eq_def; have := @nS.eq_1; have := @nS.eq_def; have := @sop.eq_1; have := @sop.eq_def; have := @aC.eq_1; have := @aC.eq_def; have := @aD.eq_1; have := @aD.eq_def; have := @bX.eq_1; have := @bX.eq_def; have := @aO.eq_1; have := @aO.eq_def; have := @jz.eq_1; have := @jz.eq_def; have := @bH.eq_1; have := @bH.eq_def; have := @isApp.eq_1; have := @isApp.eq_2; have := @isApp.eq_def; have := @dn.eq_2; have := @dn.eq_1; have := @dn.eq_def; have := @Dec.wa.eq_1; have := @Dec.wa.eq_def; have := @og.eq_1; have := @og.eq_def; have := @ob.eq_1; have := @ob.eq_def; have := @guardOf.eq_1; have := @guardOf.eq_def; have := @oq.eq_1; trivial
theorem eqns7 : True := by
 have := @oq.eq_def; have := @gA.eq_1; have := @gA.eq_def; have := @pA.eq_1; have := @pA.eq_def; have := @ic.eq_1; have := @ic.eq_def; have := @conds.eq_1; have := @conds.eq_def; have := @dq.eq_1; have := @dq.eq_def; have := @vy.eq_1; have := @vy.eq_def; have := @AN.eq_1; have := @AN.eq_def; have := @dQ.eq_1; have := @dQ.eq_def; have := @meets.eq_1; have := @meets.eq_def; have := @sJ.eq_1; have := @sJ.eq_def; have := @rn.eq_1; have := @rn.eq_def; have := @kX.eq_1; have := @kX.eq_def; have := @mn.eq_1; have := @mn.eq_def; have := @wZ.eq_1; have := @wZ.eq_2; have := @wZ.eq_3; have := @wZ.eq_4; have := @wZ.eq_def; have := @lQ.eq_1; have := @lQ.eq_def; have := @iQ.eq_1; have := @iQ.eq_2; have := @iQ.eq_3; have := @iQ.eq_def; have := @Eff.lk.eq_1; have := @Eff.lk.eq_def; trivial
theorem eqns8 : True := by
 have := @keeps.eq_1; have := @keeps.eq_def; have := @wP.eq_1; have := @wP.eq_def; have := @o6.eq_1; have := @o6.eq_def; have := @nT.eq_1; have := @nT.eq_def; have := @pB.eq_1; have := @pB.eq_def; have := @yo.eq_1; have := @yo.eq_def; have := @nj.eq_1; have := @nj.eq_def; have := @yn.eq_1; have := @yn.eq_def; have := @rW.eq_1; have := @rW.eq_def; have := @yl.eq_1; have := @yl.eq_def; have := @ym.eq_1; have := @ym.eq_def; have := @p4.eq_1; have := @p4.eq_def; have := @wJ.eq_1; have := @wJ.eq_def; have := @ir.eq_1; have := @ir.eq_def; have := @fu.eq_1; have := @fu.eq_def; have := @pa.eq_1; have := @pa.eq_def; have := @rv.eq_1; have := @rv.eq_def; have := @pZ.eq_1; have := @pZ.eq_def; have := @iF.eq_1; have := @iF.eq_def; have := @nx.eq_1; have := @nx.eq_def; trivial
theorem eqns9 : True := by
 have := @norm.eq_1; have := @norm.eq_def; have := @BX.eq_1; have := @BX.eq_def; have := @lX.eq_1; have := @lX.eq_def; have := @vK.eq_1; have := @vK.eq_def; have := @zy.eq_1; have := @zy.eq_def; have := @oP.eq_1; have := @oP.eq_def; have := @qK.eq_1; have := @qK.eq_def; have := @frz.eq_1; have := @frz.eq_def; have := @rM.eq_1; have := @rM.eq_def; have := @qq.eq_1; have := @qq.eq_def; have := @xU.eq_1; have := @xU.eq_def; have := @qp.eq_1; have := @qp.eq_def; have := @ye.eq_1; have := @ye.eq_def; have := @unr.eq_1; have := @unr.eq_def; have := @lf.eq_1; have := @lf.eq_def; have := @Sub.eq_1; have := @Sub.eq_def; have := @pf.eq_1; have := @pf.eq_def; have := @uZ.eq_1; have := @uZ.eq_def; have := @svc.eq_1; have := @svc.eq_def; have := @kQ.eq_1; have := @kQ.eq_def; trivial
theorem eqns10 : True := by
 have := @ag.eq_1; have := @ag.eq_def; have := @ek.eq_1; have := @ek.eq_def; have := @cQ.eq_1; have := @cQ.eq_def; have := @place.eq_1; have := @place.eq_def; have := @oI.eq_1; have := @oI.eq_def; have := @rn1.eq_1; have := @rn1.eq_def; have := @rnC.eq_1; have := @rnC.eq_def; have := @kR.eq_1; have := @kR.eq_def; have := @cF.eq_1; have := @cF.eq_def; have := @kY.eq_1; have := @kY.eq_def; have := @A0.eq_1; have := @A0.eq_def; have := @mw.eq_1; have := @mw.eq_def; have := @nQ.eq_1; have := @nQ.eq_def; have := @codeOk.eq_1; have := @codeOk.eq_def; trivial
theorem eqns11 : True := by
 have := @CK.eq_1; have := @CK.eq_def; have := @pH.eq_1; have := @pH.eq_def; have := @bQ.eq_1; have := @bQ.eq_def; have := @eo.eq_1; have := @eo.eq_def; have := @Kin.eq_1; have := @Kin.eq_def; have := @posOf.eq_1; have := @posOf.eq_def; have := @cd.eq_1; have := @cd.eq_def; have := @isNil.eq_1; have := @isNil.eq_def; have := @ru.eq_1; have := @ru.eq_def; have := @vP.eq_1; have := @vP.eq_def; have := @tiB.eq_1; have := @tiB.eq_def; have := @xa.eq_1; have := @xa.eq_def; have := @yI.eq_1; have := @yI.eq_def; have := @eO.eq_1; have := @eO.eq_def; have := @mL.eq_1; have := @mL.eq_def; have := @DT.T.eq_1; have := @DT.T.eq_def; have := @DT.sv.eq_1; have := @DT.sv.eq_def; have := @DT.of.eq_1; have := @DT.of.eq_def; trivial
theorem eqns12 : True := by
 have := @Tup.eq_1; have := @Tup.eq_def; have := @svs.eq_1; have := @svs.eq_def; have := @ofs.eq_1; have := @ofs.eq_def; have := @dM.eq_1; have := @dM.eq_def; have := @Enters.eq_1; have := @Enters.eq_def; have := @aB.con.eq_1; have := @aB.con.eq_def; have := @aB.Ok.eq_1; have := @aB.Ok.eq_def; have := @Ev.cF.eq_1; have := @Ev.cF.eq_def; have := @gI.eq_1; have := @gI.eq_def; have := @ofA.eq_1; have := @ofA.eq_def; have := @Ty.flat.eq_1; have := @Ty.flat.eq_def; have := @wC.eq_1; have := @wC.eq_def; trivial
theorem eqns13 : True := by
 have := @yF.eq_1; have := @yF.eq_def; have := @eu.eq_1; have := @eu.eq_def; have := @oS.eq_1; have := @oS.eq_def; have := @rK.eq_1; have := @rK.eq_def; have := @iX.eq_1; have := @iX.eq_def; have := @oT.eq_1; have := @oT.eq_def; have := @dW.eq_1; have := @dW.eq_def; have := @u5.eq_1; have := @u5.eq_def; have := @nO.eq_1; have := @nO.eq_def; have := @aS.eq_1; have := @aS.eq_def; have := @inl.eq_1; have := @inl.eq_def; have := @aj.con.eq_1; have := @aj.con.eq_def; have := @Ty.ok.eq_1; have := @Ty.ok.eq_def; have := @gW.eq_1; have := @gW.eq_def; have := @eN.eq_1; have := @eN.eq_def; have := @nA.eq_1; have := @nA.eq_def; have := @tyB.eq_1; have := @tyB.eq_def; have := @dtB.eq_1; have := @dtB.eq_def; trivial
theorem eqns14 : True := by
 have := @DT.ok.eq_1; have := @DT.ok.eq_def; have := @bO.castT.eq_1; have := @bO.castT.eq_def; have := @cO.eq_22; have := @cO.eq_21; have := @cO.eq_20; have := @cO.eq_19; have := @cO.eq_18; have := @cO.eq_17; have := @cO.eq_16; have := @cO.eq_15; have := @cO.eq_14; have := @cO.eq_13; have := @cO.eq_12; have := @cO.eq_11; have := @cO.eq_10; have := @cO.eq_9; have := @cO.eq_8; have := @cO.eq_7; have := @cO.eq_6; have := @cO.eq_5; have := @cO.eq_4; have := @cO.eq_3; have := @cO.eq_2; have := @cO.eq_1; have := @cO.eq_def; have := @kZ.eq_2; have := @kZ.eq_1; have := @kZ.eq_def; have := @pg.eq_2; have := @pg.eq_1; have := @pg.eq_def; have := @rV.eq_2; have := @rV.eq_1; have := @rV.eq_def; have := @AA.eq_1; have := @AA.eq_def; have := @fO.eq_2; have := @fO.eq_1; trivial
theorem eqns15 : True := by
 have := @fO.eq_def; have := @eC.eq_2; have := @eC.eq_1; have := @eC.eq_def; have := @iG.eq_2; have := @iG.eq_1; have := @iG.eq_def; have := @dm.eq_6; have := @dm.eq_5; have := @dm.eq_4; have := @dm.eq_3; have := @dm.eq_2; have := @dm.eq_1; have := @dm.eq_def; have := @dt.eq_1; have := @dt.eq_def; have := @qH.eq_1; have := @qH.eq_def; have := @ke.eq_2; have := @ke.eq_1; have := @ke.eq_def; have := @homes.eq_1; have := @homes.eq_def; trivial
end Go.Sx
namespace Go.Sx
set_option linter.all false
open Go.RowKit
variable {A : Type} {AI : Abs A} {G : Fr} {s : SS A} {ρ : Ev} {a : Act} {w : World} {P : Program}
def xq : SV1 → List Nat
 | .hd i _ => [i]
 | _ => []
def rowsIn : SV → List Nat
 | .val (.one x) => xq x
 | .val (.agg l) => l.flatMap xq
 | _ => []
def tY {A : Type} (ids : List Nat) (cs : List (Chunk A)) : SV1 → SV1
 | .hd i v => (match oI ids i with
   | some j => (match za cs j with
     | .row _ e u L => (match aG u v with | true => .ro e L | false => .any)
     | _ => .any)
   | none => .hd i v)
 | x => x
def BW (l m : List Nat) : Bool := l.any fun i => m.any (aG i)
theorem BV {l m : List Nat} (h : BW l m = false) : ∀ i ∈ m, i ∉ l := by
 intro i hi hl
 have : BW l m = true := List.any_eq_true.2 ⟨i, hl, List.any_eq_true.2 ⟨i, hi, gj⟩⟩
 rw [h] at this; cases this
def CE (n : Nat) : List Nat → Bool
 | [] => true
 | i :: r => aq i n && CE n r
theorem vz {n : Nat} : ∀ {l : List Nat}, CE n l = true → ∀ i ∈ l, i < n
 | [], _, i, h => by cases h
 | x :: r, h, i, hi => by
   obtain ⟨h1, h2⟩ := Bool.and_eq_true_iff.1 h
   rcases List.mem_cons.1 hi with rfl | hi
   · exact leN h1
   · exact vz h2 i hi
theorem pW {H : List (Chunk A)} : ∀ {l : List Nat} {j i : Nat}, l[j]? = some i → za (aD H l) j = aC H i
 | [], j, i, h => by simp at h
 | x :: r, 0, i, h => by simp at h; subst h; rfl
 | x :: r, j + 1, i, h => by
   have := pW (H := H) (l := r) (j := j) (i := i) (by simpa using h)
   exact this
theorem iR : ∀ (ids : List Nat) (H : List (Chunk A)) (j : Nat), aC (aO H ids (ids.map fun _ => .gone)) j = if j ∈ ids then .gone else aC H j
 | [], H, j => by simp [aO]
 | i :: r, H, j => by
   show aC (aO (bX H i .gone) r (r.map fun _ => .gone)) j = _
   rw [iR r, aP]
   by_cases h1 : j ∈ r
   · rw [if_pos h1, if_pos (List.mem_cons_of_mem _ h1)]
   · rw [if_neg h1]
     by_cases h2 : j = i
     · rw [if_pos h2, if_pos (by rw [h2]; exact List.mem_cons_self ..)]
     · rw [if_neg h2, if_neg (by simp [h1, h2])]
theorem Holds.frozen {tmps : Array Value} (hh : Holds AI G s ρ tmps w) (ids : List Nat) :
 Holds AI G ⟨s.tm, aO s.H ids (ids.map fun _ => .gone)⟩ (ρ.froze (fun i => i ∈ ids ∧ isRow (aC s.H i) = true) w) tmps w ∧ ρ.Le (ρ.froze (fun i => i ∈ ids ∧ isRow (aC s.H i) = true) w) := by
 let S : Nat → Prop := fun i => i ∈ ids ∧ isRow (aC s.H i) = true
 have hM : ∀ b o v, ρ.M b o = some v → (ρ.froze S w).M b o = some v := oc hh S
 have le : ρ.Le (ρ.froze S w) := ⟨hM, fun _ _ h => h, fun _ => Nat.le_refl _, fun _ _ _ => rfl⟩
 have hfoot : ∀ i b, b ∈ (ρ.froze S w).foot i → ¬ S i ∧ b ∈ ρ.foot i := by
  intro i b hb
  simp only [Ev.froze] at hb
  split at hb
  · cases hb
  · rename_i hn; exact ⟨hn, hb⟩
 refine ⟨⟨hh.sz, hh.gt, fun t v ht => ?_, fun i => ?_, fun i j b hij hi hj => hh.dis i j b hij (hfoot i b hi).2 (hfoot j b hj).2, fun i b hb => hh.lt i b (hfoot i b hb).2, fun b o v hm => ?_, hh.os, hh.tape, hh.output, hh.grow, hh.kept,
  fun i b hb => hh.fro i b (hfoot i b hb).2, hh.rt, hh.rts, fun b o v hm => hM _ _ _ (hh.mono b o v hm), fun b o v hm => ?_⟩, le⟩
 · obtain ⟨x, h2, h3⟩ := hh.tm t v ht
   exact ⟨x, h2, h3.mono le⟩
 · show aQ AI (ρ.froze S w) w i (aC (aO s.H ids (ids.map fun _ => .gone)) i)
   rw [iR]
   split
   · trivial
   · rename_i hn
     exact (hh.ch i).stays le rfl rfl (by simp only [Ev.froze]; rw [if_neg (fun h => hn h.1)]) fun _ _ => rfl
 · simp only [Ev.froze] at hm
   split at hm
   · rename_i hex
     obtain ⟨k, hk, hbk⟩ := hex
     refine ⟨hm, fun i hb => ?_⟩
     obtain ⟨h1, h2⟩ := hfoot i b hb
     exact hh.dis i k b (fun e => h1 (e ▸ hk)) h2 hbk
   · exact ⟨(hh.im b o v hm).1, fun i hb => (hh.im b o v hm).2 i (hfoot i b hb).2⟩
 · simp only [Ev.froze] at hm
   split at hm
   · rename_i hex
     obtain ⟨k, hk, hbk⟩ := hex
     exact .inr (hh.fro k b hbk)
   · exact hh.mfr b o v hm
theorem Ev.Le.trans {ρ ρ' ρ'' : Ev} (h : ρ.Le ρ') (g : ρ'.Le ρ'') : ρ.Le ρ'' := by
 refine ⟨fun b o v hm => g.M _ _ _ (h.M _ _ _ hm), fun i b hb => g.ptr _ _ (h.ptr _ _ hb), fun i => Nat.le_trans (h.ver i) (g.ver i), fun i he hs => ?_⟩
 have h1 := h.ver i; have h2 := g.ver i
 have e1 := h.same i (by omega) hs
 exact (g.same i (by omega) (by rw [e1]; exact hs)).trans e1
theorem uQ {H : List (Chunk A)} (l m : List Nat) : takeN (aD H (l ++ m)) l.length = some (aD H l) := by
 have := jU (aD H l) (aD H m)
 rw [bx] at this
 rw [du]; exact this
theorem xC {H : List (Chunk A)} (l m : List Nat) : (aD H (l ++ m)).drop l.length = aD H m := by
 rw [du]
 have := bx H l
 rw [← this, List.drop_left]
theorem aU.soft {E : Env A} (hE : aU P AI E) {t : Nat} {i : TI} (h : look E.ti t = some i) : aU P AI ⟨(t, ⟨i.kind, i.size, 2, i.zero⟩) :: E.ti, E.con⟩ := by
 refine ⟨fun t' i' h' => ?_, hE.con⟩
 rw [ax] at h'
 split at h'
 · rename_i e
   cases h'; subst e
   obtain ⟨h1, h2, _⟩ := hE.ti _ _ h
   exact ⟨h1, h2, fun hb => by cases hb⟩
 · exact hE.ti _ _ h'
end Go.Sx
namespace Go.Sx
set_option linter.all false
open Go.RowKit
variable {A : Type} {AI : Abs A} {G : Fr} {s : SS A} {ρ : Ev} {a : Act} {w : World} {P : Program} {lay : A → List (Chunk A)}
end Go.Sx
namespace Go.Sx
set_option linter.all false
open Go.RowKit
variable {A : Type} {AI : Abs A} {G : Fr} {s : SS A} {ρ : Ev} {a : Act} {w : World} {P : Program}
end Go.Sx
namespace Go.Sx
set_option linter.all false
open Go.RowKit
variable {A : Type} {AI : Abs A} {G : Fr} {s : SS A} {ρ : Ev} {a : Act} {w : World} {P : Program}
def xb {A : Type} (cs : List (Chunk A)) (k : Nat) : Nat := match aC cs k with | .row _ _ v _ => v | .nest _ _ _ v _ _ => v | _ => 0
def upS (k m : Nat) (vs : Nat → Nat) : SV1 → SV1
 | .hd j u => (match aq j k with | true => .any | false => (match aq j m with | true => .hd j (vs j + 1 + u) | false => .any))
 | .vw _ _ _ _ _ => .any
 | .ep _ _ _ _ _ => .any
 | x => x
def Ae {A : Type} (k m : Nat) (vs : Nat → Nat) (i : Nat) : Chunk A → Chunk A
 | .cells t cs => .cells t (cs.map (upS k m vs))
 | .row t e v L => .row t e (vs i + 1 + v) L
 | .nest t tb z v L none => .nest t tb z (vs i + 1 + v) L none
 | c => c
def ng {A : Type} (k m : Nat) (vs : Nat → Nat) : Nat → List (Chunk A) → List (Chunk A)
 | _, [] => []
 | i, c :: r => Ae k m vs i c :: ng k m vs (i + 1) r
theorem rQ {k m : Nat} {vs : Nat → Nat} : ∀ {H : List (Chunk A)} {n i : Nat}, aC (ng k m vs n H) i = Ae k m vs (n + i) (aC H i)
 | [], n, i => rfl
 | c :: r, n, 0 => rfl
 | c :: r, n, i + 1 => by
   have := rQ (k := k) (m := m) (vs := vs) (H := r) (n := n + 1) (i := i)
   simp only [aC, ng, nth] at this ⊢
   rw [this, show n + 1 + i = n + (i + 1) by omega]
theorem gr {k m : Nat} {vs : Nat → Nat} : ∀ (H : List (Chunk A)) (n : Nat), (ng k m vs n H).length = H.length
 | [], _ => rfl
 | c :: r, n => by simp [ng, gr r]
def j8 {A : Type} : Nat → List (Chunk A) → Bool
 | 0, [] => true
 | 0, c :: r => (match c with | .row _ _ _ _ => true | .nest _ _ _ _ _ none => true | _ => false) && j8 0 r
 | k + 1, c :: r => (match c with | .cells _ _ => true | .abs _ => true | .map _ _ _ => true | _ => false) && j8 k r
 | _ + 1, [] => false
def CP {A : Type} (c : Chunk A) : Prop := (∃ t cs, c = .cells t cs) ∨ (∃ x, c = .abs x) ∨ ∃ ks e L, c = .map ks e L
theorem qA : ∀ {k : Nat} {H : List (Chunk A)}, j8 k H = true → ∀ i, i < k → CP (aC H i)
 | 0, _, _, i, hi => by omega
 | k + 1, [], h, i, hi => by cases h
 | k + 1, c :: r, h, i, hi => by
   obtain ⟨h1, h2⟩ := Bool.and_eq_true_iff.1 h
   cases i with
   | zero =>
     cases c <;> cases h1
     · exact .inl ⟨_, _, rfl⟩
     · exact .inr (.inr ⟨_, _, _, rfl⟩)
     · exact .inr (.inl ⟨_, rfl⟩)
   | succ i => exact qA (H := r) h2 i (by omega)
def CM {A : Type} (c : Chunk A) : Prop := (∃ t e v L, c = .row t e v L) ∨ ∃ t tb z v L, c = .nest t tb z v L none
theorem gf : ∀ {k : Nat} {H : List (Chunk A)}, j8 k H = true → ∀ i, k ≤ i → i < H.length → CM (aC H i)
 | 0, c :: r, h, 0, _, _ => by
   obtain ⟨h1, h2⟩ := Bool.and_eq_true_iff.1 h
   cases c with
   | row t e v L => exact .inl ⟨_, _, _, _, rfl⟩
   | nest t tb z v L q =>
     cases q with
     | none => exact .inr ⟨_, _, _, _, _, rfl⟩
     | some q => cases h1
   | _ => cases h1
 | 0, c :: r, h, i + 1, _, hl => by
   obtain ⟨h1, h2⟩ := Bool.and_eq_true_iff.1 h
   exact gf (k := 0) (H := r) h2 i (Nat.zero_le _) (by simpa using hl)
 | k + 1, c :: r, h, i + 1, hi, hl => by
   obtain ⟨h1, h2⟩ := Bool.and_eq_true_iff.1 h
   exact gf (k := k) (H := r) h2 i (by omega) (by simpa using hl)
 | k + 1, _, _, 0, hi, _ => by omega
 | 0, [], _, i, _, hl => by simp at hl
theorem zH {t : TypeId} {M : Mem} {e : Ty} {L : List e.T} {r : Value} {F : List Nat} (h : bg t M w e L r F) : ∃ ao l c, r = .slice ao l c := by
 rcases h with ⟨⟨ao, h⟩, _⟩ | ⟨b, off, cap, h, _⟩
 · exact ⟨_, _, _, h⟩
 · exact ⟨_, _, _, h⟩
theorem zz {f : FuncId} {tmps : Array Value} (h : Holds AI G s ρ tmps w) {k m : Nat} {us : List Value} {H0 H1 : List (Chunk A)} {v : SV} (hkm : k ≤ m) (hv : mL v = true)
 (hH0 : ∀ j, aC H0 j = if j < m then aC s.H j else .emp) (hbel : ∀ j, j < m → u5 m (aC s.H j) = true)
 (hk0 : ∀ j, j < k → CP (aC s.H j)) (hr0 : ∀ j, k ≤ j → j < m → CM (aC s.H j))
 (hk1 : ∀ j, j < k → CP (aC H1 j)) (hr1 : ∀ j, k ≤ j → j < m → CM (aC H1 j))
 (hH1 : ∀ j, m ≤ j → aC H1 j = .emp) {vs : Nat → Nat} (hvs : ∀ j, k ≤ j → j < m → vs j = ρ.ver j) {H' : List (Chunk A)} (hin : ∀ j, j < m → aC H' j = Ae k m vs j (aC H1 j)) (hout : ∀ j, m ≤ j → aC H' j = aC s.H j)
 (hT : ∀ (Gc : Fr), Gc.n0 = k → Gc.size = 0 → Holds AI Gc ⟨[], H0⟩ (ρ.trim m) #[] w → Calls P f us.toArray w fun e w' => ∃ y ρr, e = .returned y ∧ Holds AI Gc ⟨[], H1⟩ ρr #[] w' ∧ Den ρr v y) :
 Calls P f us.toArray w fun e w' => ∃ y ρ', e = .returned y ∧ Holds AI G ⟨s.tm, H'⟩ ρ' tmps w' ∧ Den ρ' v y ∧ ρ.Le ρ' := by
 let ρc : Ev := ρ.trim m
 let Gc : Fr := { w0 := w, own := fun b => ∃ j, j < m ∧ b ∈ ρ.foot j, n0 := k, root0 := ρ.root, M0 := ρ.M, size := 0, ver0 := ρ.ver }
 have hfc : ∀ j b, b ∈ ρc.foot j → j < m ∧ b ∈ ρ.foot j := by
  intro j b hb
  simp only [ρc, Ev.trim] at hb
  split at hb
  · rename_i hj; exact ⟨hj, hb⟩
  · cases hb
 have hc : Holds AI Gc ⟨[], H0⟩ ρc #[] w := by
  refine ⟨rfl, h.gtOf (fun b hb => by obtain ⟨j, _, hj⟩ := hb; exact ⟨_, hj⟩), (fun t x ht => by cases ht), fun j => ?_, fun i j b hij hi hj => h.dis i j b hij (hfc i b hi).2 (hfc j b hj).2, fun i b hb => h.lt i b (hfc i b hb).2, fun b o x hm => ⟨(h.im b o x hm).1, fun i hb => (h.im b o x hm).2 i (hfc i b hb).2⟩, rfl, rfl, rfl, Nat.le_refl _, fun _ _ _ => rfl,
   fun i b hb => .inl ⟨i, hfc i b hb⟩, fun i b (hi : i < k) hb => by show (ρ.trim m).root i = _; simp only [Ev.trim, if_pos (show i < m by omega)]; exact hb, fun i (hi : i < k) => ⟨by show _ ≤ (ρ.trim m).ver i; simp only [Ev.trim, if_pos (show i < m by omega)]; exact Nat.le_refl _, fun ao l c hb hv => by show (ρ.trim m).root i = _; simp only [Ev.trim, if_pos (show i < m by omega)]; exact hb⟩, fun _ _ _ hm => hm, fun b o x hm => .inl hm⟩
  show aQ AI ρc w j (aC H0 j)
  rw [hH0]
  split
  · rename_i hj; exact qg hj (hbel j hj) (h.ch j)
  · exact ⟨by simp [ρc, Ev.trim, *], by simp [ρc, Ev.trim, *], by simp [ρc, Ev.trim, *]⟩
 refine (hT Gc rfl rfl hc).mono ?_
 rintro e w' ⟨y, ρr, rfl, hr, hy⟩
 have hbey : ∀ j, m ≤ j → ρr.foot j = [] ∧ ρr.root j = .bool false ∧ ρr.ver j = 0 := fun j hj => by
  have := hr.ch j; dsimp only at this; rw [hH1 j hj] at this; exact this
 let ρ' : Ev := { root := fun i => if i < m then ρr.root i else ρ.root i, ver := fun i => if i < k then ρr.ver i else if i < m then ρ.ver i + 1 + ρr.ver i else ρ.ver i, M := ρr.M, foot := fun i => if i < m then ρr.foot i else ρ.foot i }
 have le : ρ.Le ρ' := by
  refine ⟨hr.mono, fun i b hb => ?_, fun i => ?_, fun i hv hs => ?_⟩
  · by_cases hi : i < m
    · simp only [ρ', if_pos hi]
      by_cases hi2 : i < k
      · exact hr.rt i b hi2 hb
      · have h3 := h.ch i
        rcases hr0 i (by omega) hi with ⟨t, e, u, L, hg⟩ | ⟨t, tb, z, u, L, hg⟩
        · rw [hg] at h3
          obtain ⟨ao, l, c, h4⟩ := zH h3.2
          rw [h4] at hb; cases hb
        · rw [hg] at h3
          obtain ⟨_, b, off, n, cap, h4, _⟩ := h3
          rw [h4] at hb; cases hb
    · simp only [ρ', if_neg hi]; exact hb
  · simp only [ρ']; split
    · rename_i hi; exact (hr.rts i hi).1
    · split <;> omega
  · by_cases hi : i < m
    · by_cases hi2 : i < k
      · simp only [ρ', if_pos hi2] at hv
        simp only [ρ', if_pos hi]
        obtain ⟨ao, l, c, hs⟩ := hs
        rw [(hr.rts i hi2).2 ao l c hs hv.symm, hs]
      · simp only [ρ', if_neg hi2, if_pos hi] at hv
        omega
    · simp only [ρ', if_neg hi]
 have ltr : ∀ i, ρr.root i ≠ .bool false → i < m := fun i hi => Nat.lt_of_not_le fun hle => hi (hbey i hle).2.1
 have hcell : ∀ (x : SV1) (u : Value), aK ρr x u → aK ρ' (upS k m vs x) u := by
  intro x u hd
  cases x <;> simp only [upS] <;> (try exact hd) <;> (try trivial)
  case ptr i o =>
   obtain ⟨b, h1, h2⟩ := hd
   have hi := ltr i (by rw [h1]; simp)
   exact ⟨b, by simp only [ρ', if_pos hi]; exact h1, h2⟩
  case mp i =>
   obtain ⟨b, h1, h2⟩ := hd
   have hi := ltr i (by rw [h1]; simp)
   exact ⟨b, by simp only [ρ', if_pos hi]; exact h1, h2⟩
  case fnc g l =>
   obtain ⟨vs, h1, h2⟩ := hd
   exact ⟨vs, h1, h2.mono fun i u ⟨b, h3, h4⟩ => ⟨b, by simp only [ρ', if_pos (ltr i (by rw [h3]; simp))]; exact h3, h4⟩⟩
  case hd i q =>
   split
   · trivial
   · rename_i hik
     have hik : ¬ i < k := fun h => by
      have : aq i k = true := geN h
      rw [this] at hik; cases hik
     split
     · rename_i him
       have him : i < m := leN him
       obtain ⟨h1, h2, h3⟩ := hd
       have e1 := hvs i (by omega) him
       refine ⟨h1, by simp only [ρ', if_neg hik, if_pos him]; omega, fun e => ?_⟩
       simp only [ρ', if_neg hik, if_pos him] at e ⊢
       exact h3 (by omega)
     · trivial
 have hrfoot : ∀ j b, b ∈ ρr.foot j → (∃ k, k < m ∧ b ∈ ρ.foot k) ∨ w.heap.size ≤ b := fun j b hb => hr.fro j b hb
 have hblk : ∀ b, b < w.heap.size → (∀ j, j < m → b ∉ ρ.foot j) → w'.heap[b]? = w.heap[b]? := fun b hb hnb => hr.kept b hb (by rintro ⟨j, hj, hb'⟩; exact hnb j hj hb')
 have hnot : ∀ {i b}, ¬ i < m → b ∈ ρ.foot i → ∀ j, j < m → b ∉ ρ.foot j := fun {i b} hi hb j hj hb' => h.dis i j b (by omega) hb hb'
 refine ⟨y, ρ', rfl, ⟨h.sz, h.gt, fun t x ht => ?_, fun i => ?_, fun i k b hik hi hk => ?_, fun i b hb => ?_, fun b o x hm => ⟨(hr.im b o x hm).1, fun i hb => ?_⟩, hr.os.trans h.os, hr.tape.trans h.tape, hr.output.trans h.output, Nat.le_trans h.grow hr.grow,
  fun b hb hn' => ?_, fun i b hb => ?_, fun i b hi hb => le.ptr i b (h.rt i b hi hb), fun i hi => ?_, fun b o x hm => hr.mono b o x (h.mono b o x hm), fun b o x hm => ?_⟩, jF (ρ := ρr) (ρ' := ρ') rfl hv hy, le⟩
 · obtain ⟨u, h1, h2⟩ := h.tm t x ht; exact ⟨u, h1, h2.mono le⟩
 · show aQ AI ρ' w' i (aC H' i)
   by_cases hi : i < m
   · rw [hin i hi]
     have h3 := hr.ch i
     dsimp only at h3
     have e1 : ρ'.root i = ρr.root i := by simp only [ρ', if_pos hi]
     have e2 : ρ'.foot i = ρr.foot i := by simp only [ρ', if_pos hi]
     by_cases hi2 : i < k
     · rcases hk1 i hi2 with ⟨t, cs, hg⟩ | ⟨x, hg⟩ | ⟨ks, e, L, hg⟩
       · rw [hg] at h3 ⊢
         obtain ⟨b, us, h4, h5, h6, h7⟩ := h3
         exact ⟨b, us, e1.trans h4, e2.trans h5, h6, h7.nI fun _ _ => hcell _ _⟩
       · rw [hg] at h3 ⊢
         simp only [Ae, aQ, e1, e2] at h3 ⊢
         exact h3
       · rw [hg] at h3 ⊢
         simp only [Ae, aQ, e1, e2] at h3 ⊢
         exact h3
     · rcases hr1 i (by omega) hi with ⟨t, e, u, L, hg⟩ | ⟨t, tb, z, u, L, hg⟩
       · rw [hg] at h3 ⊢
         refine ⟨?_, by rw [e1, e2]; exact h3.2⟩
         simp only [ρ', if_neg hi2, if_pos hi]
         rw [← h3.1, hvs i (by omega) hi]
       · rw [hg] at h3 ⊢
         refine ⟨?_, by rw [e1, e2]; exact h3.2⟩
         simp only [ρ', if_neg hi2, if_pos hi]
         rw [← h3.1, hvs i (by omega) hi]
   · rw [hout i (by omega)]
     exact (h.ch i).stays le (by simp only [ρ', if_neg hi]) (by simp only [ρ', if_neg hi, if_neg (show ¬ i < k by omega)]) (by simp only [ρ', if_neg hi]) fun b hb => hblk b (h.lt i b hb) (hnot hi hb)
 · simp only [ρ'] at hi hk
   split at hi <;> split at hk
   · exact hr.dis i k b hik hi hk
   · rename_i _ hk'
     rcases hrfoot i b hi with ⟨q, hq, hb⟩ | hge
     · exact hnot hk' hk q hq hb
     · have := h.lt k b hk; omega
   · rename_i hi' _
     rcases hrfoot k b hk with ⟨q, hq, hb⟩ | hge
     · exact hnot hi' hi q hq hb
     · have := h.lt i b hi; omega
   · exact h.dis i k b hik hi hk
 · simp only [ρ'] at hb
   split at hb
   · exact hr.lt i b hb
   · exact Nat.lt_of_lt_of_le (h.lt i b hb) hr.grow
 · simp only [ρ'] at hb
   split at hb
   · exact (hr.im b o x hm).2 i hb
   · rename_i hi
     rcases hr.mfr b o x hm with h1 | ⟨q, h1, h2⟩ | h1
     · exact (h.im b o x h1).2 i hb
     · exact hnot hi hb q h1 h2
     · have h1 : w.heap.size ≤ b := h1
       have := h.lt i b hb; omega
 · refine (hblk b (Nat.lt_of_lt_of_le hb h.grow) fun j hj hb' => ?_).trans (h.kept b hb hn')
   rcases h.fro _ b hb' with h1 | h1
   · exact hn' h1
   · omega
 · simp only [ρ'] at hb
   split at hb
   · rcases hrfoot i b hb with ⟨q, hq, hb'⟩ | hge
     · exact h.fro _ b hb'
     · exact .inr (Nat.le_trans h.grow hge)
   · exact h.fro i b hb
 · obtain ⟨hv0, hs⟩ := h.rts i hi
   refine ⟨Nat.le_trans hv0 (le.ver i), fun ao l c hb hv => ?_⟩
   have e0 : ρ.ver i = G.ver0 i := Nat.le_antisymm (hv ▸ le.ver i) hv0
   have h1 := hs ao l c hb e0
   rw [le.same i (by rw [e0, hv]) ⟨_, _, _, h1⟩]; exact h1
 · rcases hr.mfr b o x hm with h1 | ⟨q, h1, h2⟩ | h1
   · exact h.mfr b o x h1
   · exact .inr (h.fro _ b h2)
   · exact .inr (.inr (Nat.le_trans h.grow h1))
structure AS (A S : Type) where
 k : Nat
 m : Nat
 un : List (Chunk A) → Option (U S)
 opn : U S → List (Chunk A)
 pos : 0 < k
 eq : ∀ cs W, un cs = some W → cs = opn (fun _ => W ())
def xx : List Nat → List SV → Bool
 | [], [] => true
 | i :: ps, x :: r => (match x with | .val (.one (.ptr j 0)) => aG i j | _ => false) && xx ps r
 | _, _ => false
def cg (ps : List Nat) : List SV := ps.map fun i => one (.ptr i 0)
theorem uw : ∀ {ps : List Nat} {l : List SV}, xx ps l = true → l = cg ps
 | [], [], _ => rfl
 | i :: ps, x :: r, h => by
   simp only [xx, Bool.and_eq_true] at h
   obtain ⟨h1, h2⟩ := h
   split at h1
   · rw [uw h2, ← beq_eq h1]; rfl
   · cases h1
 | [], _ :: _, h => by cases h
 | _ :: _, [], h => by cases h
def gh (ps : List Nat) : Nat → List SV → Option (List SV)
 | 0, l => match xx ps l with | true => some [] | false => none
 | n + 1, x :: r => (match gh ps n r with | some l => some (x :: l) | none => none)
 | _ + 1, [] => none
theorem o8 {ps : List Nat} : ∀ {n : Nat} {l r : List SV}, gh ps n l = some r → l = r ++ cg ps
 | 0, l, r, h => by
   unfold gh at h
   split at h <;> cases h
   rename_i hb
   rw [uw hb]; rfl
 | n + 1, x :: l, r, h => by
   unfold gh at h
   split at h <;> cases h
   rename_i r2 hr
   rw [o8 hr]; rfl
 | n + 1, [], r, h => by cases h
structure bp (A S : Type) where
 L : AS A S
 ds : List DT
 ps : List Nat
 pre : S → Tup ds → Prop
 rs : List DT
 f : S → Tup ds → Tup rs
 next : S → Tup ds → S
def bp.con {S : Type} (q : bp A S) : Con A := fun args fresh => match gh q.ps q.ds.length args with
 | some r => (match ofs q.ds r with
   | some x => (match jI q.L.m fresh with
     | true => some ⟨bY 0 q.L.m, 0, true, fun cs _ => (match cs.all (u5 q.L.m) && j8 q.L.k cs && jI q.L.k q.L.m with
       | true => (match q.L.un (iF q.L.k (ir cs) 0 cs) with
         | some W => (match aG (q.L.opn (fun _ => q.next (W ()) (x ()))).length q.L.m && j8 q.L.k (q.L.opn (fun _ => q.next (W ()) (x ()))) with
           | true => .done (fun _ => q.pre (W ()) (x ())) (ag (svs q.rs (fun _ => q.f (W ()) (x ())))) (ng q.L.k q.L.m (xb cs) 0 (q.L.opn (fun _ => q.next (W ()) (x ()))))
           | false => .fail)
         | none => .fail)
       | false => .fail)⟩
     | false => none)
   | none => none)
 | none => none
theorem vA {k : Nat} {vs : List (Option Nat)} {x : SV1} (h : oS k x = true) : fu k vs x = x := by
 cases x <;> simp only [fu] <;> (first | rfl | (rw [show aq _ k = true from h]))
theorem nB {k : Nat} {vs : List (Option Nat)} : ∀ {l : List SV1}, l.all (oS k) = true → l.map (fu k vs) = l
 | [], _ => rfl
 | x :: r, h => by
   simp only [List.all_cons, Bool.and_eq_true] at h
   rw [List.map_cons, vA h.1, nB h.2]
theorem v8 {k : Nat} {vs : List (Option Nat)} {x : SV2} (h : rK k x = true) : pa k vs x = x := by
 cases x with
 | one x => exact congrArg SV2.one (vA h)
 | agg l => exact congrArg SV2.agg (nB h)
 | fn f l => exact congrArg (SV2.fn f) (nB h)
theorem ry {k : Nat} {vs : List (Option Nat)} : ∀ {l : List SV2}, l.all (rK k) = true → l.map (pa k vs) = l
 | [], _ => rfl
 | x :: r, h => by
   simp only [List.all_cons, Bool.and_eq_true] at h
   rw [List.map_cons, v8 h.1, ry h.2]
theorem BP {k : Nat} {vs : List (Option Nat)} {x : SV} (h : iX k x = true) : rv k vs x = x := by
 cases x with
 | val x => exact congrArg SV.val (v8 h)
 | tup l => exact congrArg SV.tup (ry h)
theorem v7 {k : Nat} {vs : List (Option Nat)} : ∀ {l : List SV} {n : Nat}, l.all (iX k) = true → nx k vs (cQ n l) = cQ n l
 | [], _, _ => rfl
 | x :: r, n, h => by
   simp only [List.all_cons, Bool.and_eq_true] at h
   simp only [cQ, nx]
   rw [BP h.1, v7 h.2]
theorem u6 {k m : Nat} (hkm : k ≤ m) {x : SV1} (h : oS k x = true) : oS m x = true := by
 have lt : ∀ {i : Nat}, aq i k = true → aq i m = true := fun h => geN (Nat.lt_of_lt_of_le (leN h) hkm)
 cases x <;> first | exact lt h | rfl | (exact List.all_eq_true.2 fun i hi => lt (List.all_eq_true.1 h i hi))
theorem yO {k m : Nat} (hkm : k ≤ m) {x : SV2} (h : rK k x = true) : rK m x = true := by
 cases x with
 | one x => exact u6 hkm h
 | agg l => exact List.all_eq_true.2 fun y hy => u6 hkm (List.all_eq_true.1 h y hy)
 | fn f l => exact List.all_eq_true.2 fun y hy => u6 hkm (List.all_eq_true.1 h y hy)
theorem belV_le {k m : Nat} (hkm : k ≤ m) {x : SV} (h : iX k x = true) : iX m x = true := by
 cases x with
 | val x => exact yO hkm h
 | tup l => exact List.all_eq_true.2 fun y hy => yO hkm (List.all_eq_true.1 h y hy)
theorem aL.splitL {α β : Type} {R : α → β → Prop} {l1 l2 : List α} {m : List β} (h : aL R (l1 ++ l2) m) : ∃ m1 m2, m = m1 ++ m2 ∧ aL R l1 m1 ∧ aL R l2 m2 := by
 induction l1 generalizing m with
 | nil => exact ⟨[], m, rfl, .nil, h⟩
 | cons x l ih =>
   cases h with
   | cons h1 h2 =>
     obtain ⟨m1, m2, rfl, h3, h4⟩ := ih h2
     exact ⟨_ :: m1, m2, rfl, .cons h1 h3, h4⟩
theorem bp.sound [fo A] {S : Type} {E : Env A} (hE : aU P AI E) (hm : P.follows .mixedOrders = true) {f : FuncId} {fn : Func} {c : Code} (hen : Enters P f) (hf : P.funcs[f]? = some fn) (hb : fn.body = some c) (hok : codeOk fn.ntmps c = true) {q : bp A S}
 (hps : q.ps.all (fun i => aq i q.L.k) = true) (h : ∀ W x, q.pre W x → ∃ args : List SV, args.length + q.ps.length ≤ fn.ntmps ∧ args.all (iX q.L.k) = true ∧ (∀ (ρ : Ev) us, aL (Den ρ) (dM q.ds (fun _ => x)) us → aL (Den ρ) args us) ∧
   (svc E q.L.k c ⟨cQ 0 (args ++ cg q.ps), q.L.opn (fun _ => W)⟩ (ek E.ti q.L.k fn.results.toList (ag (svs q.rs (fun _ => q.f W x))) (q.L.opn (fun _ => q.next W x))) ∨
     svc E q.L.k c ⟨cQ 0 (args ++ cg q.ps), q.L.opn (fun _ => W)⟩ (nQ E.ti q.L.k fn.results.toList (ag (svs q.rs (fun _ => q.f W x))) (q.L.opn (fun _ => q.next W x))))) : aE P AI f q.con := by
 refine ⟨hen, fun args fresh p hp hw H d C v cs he => ?_, fun G s ρ tmps w args us fresh p d C v cs hh hargs hp hfr he hC => ?_⟩
 · unfold bp.con at hp
   split at hp <;> (try cases hp)
   split at hp <;> (try cases hp)
   split at hp <;> cases hp
   cases hw
 · unfold bp.con at hp
   split at hp <;> (try cases hp)
   rename_i r hr
   have hr := o8 hr
   subst hr
   split at hp <;> (try cases hp)
   rename_i x hx
   split at hp <;> cases hp
   dsimp only at he hfr ⊢
   split at he
   · rename_i hbel
     simp only [Bool.and_eq_true] at hbel
     obtain ⟨⟨hb2, hb3⟩, hb4⟩ := hbel
     have hkm : q.L.k ≤ q.L.m := leN hb4
     split at he
     · rename_i W hW
       split at he
       · rename_i hlen
         simp only [Bool.and_eq_true] at hlen
         obtain ⟨hl1, hl2⟩ := hlen
         have hl1 := beq_eq hl1
         simp at he
         obtain ⟨rfl, rfl, rfl⟩ := he
         obtain ⟨args', hl, hb1, hden, hs⟩ := h _ _ hC
         have hlc : (aD s.H (bY 0 q.L.m)).length = q.L.m := bw
         have hgc : ∀ j, j < q.L.m → aC (aD s.H (bY 0 q.L.m)) j = aC s.H j := fun j hj => by rw [fS hj, Nat.zero_add]
         have hbey : ∀ j, q.L.m ≤ j → aC (aD s.H (bY 0 q.L.m)) j = .emp := fun j hj => bf (by rw [hlc]; exact hj)
         refine (zz hh (k := q.L.k) (m := q.L.m) (H0 := aD s.H (bY 0 q.L.m)) (H1 := q.L.opn (fun _ => q.next (W ()) (x ()))) (v := ag (svs q.rs (fun _ => q.f (W ()) (x ())))) hkm (lL (gu _ _)) (fun j => ?_) (fun j hj => ?_)
          (fun j hj => by have := qA hb3 j hj; rw [hgc j (by omega)] at this; exact this) (fun j h1 h2 => by have := gf hb3 j h1 (by rw [hlc]; exact h2); rw [hgc j h2] at this; exact this)
          (fun j hj => qA hl2 j hj) (fun j h1 h2 => gf hl2 j h1 (by omega)) (fun j hj => bf (by rw [hl1]; exact hj)) (vs := xb (aD s.H (bY 0 q.L.m))) (fun j h1 h2 => ?_)
          (H' := aO s.H (bY 0 q.L.m) (ng q.L.k q.L.m (xb (aD s.H (bY 0 q.L.m))) 0 (q.L.opn (fun _ => q.next (W ()) (x ()))))) (fun j hj => ?_) (fun j hj => ?_) fun Gc hn0 hsz h0 => ?_).mono ?_
         · split
           · rename_i hj; exact hgc j hj
           · rename_i hj; exact hbey j (by omega)
         · have h1 : (aD s.H (bY 0 q.L.m))[j]? = some (aC s.H j) := by
            have h2 := hgc j hj
            unfold aC at h2
            rw [eY] at h2
            have h3 : j < (aD s.H (bY 0 q.L.m)).length := by rw [hlc]; exact hj
            rw [List.getElem?_eq_getElem h3] at h2 ⊢
            exact congrArg some h2
           exact List.all_eq_true.1 hb2 _ (List.mem_of_getElem? h1)
         · have h3 := hh.ch j
           rw [← hgc j h2] at h3
           unfold xb
           rcases gf hb3 j h1 (by rw [hlc]; exact h2) with ⟨t, e, u, L, hg⟩ | ⟨t, tb, z, u, L, hg⟩
           · rw [hg] at h3 ⊢
             exact h3.1
           · rw [hg] at h3 ⊢
             exact h3.1
         · rw [cX j (by rw [gr, hl1]), if_pos (by omega), Nat.sub_zero, rQ, Nat.zero_add]
         · rw [cX j (by rw [gr, hl1]), if_neg (by omega)]
         · have hptr : (cg q.ps).all (iX q.L.k) = true := by
            unfold cg
            rw [List.all_map]
            exact List.all_eq_true.2 fun i hi => List.all_eq_true.1 hps i hi
           have hb1' : (args' ++ cg q.ps).all (iX q.L.k) = true := by
            rw [List.all_append, hb1, hptr]; rfl
           have hd : aL (Den (ρ.trim q.L.m)) (args' ++ cg q.ps) us := by
            obtain ⟨u1, u2, rfl, q1, q2⟩ := hargs.splitL
            exact nV ((hden _ _ (mT (tD hx q1) rfl)).append q2) (List.all_eq_true.2 fun y hy => belV_le hkm (List.all_eq_true.1 hb1' y hy))
           refine calls_of_wp hf hb ?_
           have hl2 := hd.length
           have h1 := h0.enter hd (n := fn.ntmps) (by simp [cg] at hl2; omega)
           have h2 := iE (AI := AI) (G := { Gc with size := fn.ntmps }) (n0 := q.L.k) (s := ⟨cQ 0 (args' ++ cg q.ps), aD s.H (bY 0 q.L.m)⟩) (a := ⟨us.toArray ++ Array.replicate (fn.ntmps - us.toArray.size) undef, []⟩) hn0 ⟨rfl, _, h1⟩
           have e2 : norm q.L.k ⟨cQ 0 (args' ++ cg q.ps), aD s.H (bY 0 q.L.m)⟩ = ⟨cQ 0 (args' ++ cg q.ps), q.L.opn (fun _ => W ())⟩ := by
            simp only [norm]
            rw [v7 hb1', q.L.eq _ _ hW]
           rw [e2] at h2
           rcases hs with hs | hs
           · refine jV (AI := AI) (G := { Gc with size := fn.ntmps }) hE hm hn0 c hok _ _ _ _ w hs h2 fun e s' hq => ?_
             refine oB (AI := AI) (G := { Gc with size := fn.ntmps }) hE.ti hn0 hq (R := fun e w' => ∃ y ρr, e = .returned y ∧ Holds AI Gc ⟨[], q.L.opn (fun _ => q.next (W ()) (x ()))⟩ ρr #[] w' ∧ Den ρr (ag (svs q.rs (fun _ => q.f (W ()) (x ())))) y) fun y ρ' w' h2 h3 => ⟨y, ρ', rfl, ?_, h3⟩
             have e1 : ({ { Gc with size := fn.ntmps } with size := 0 } : Fr) = Gc := by cases Gc; simp at hsz; subst hsz; rfl
             rw [e1] at h2
             exact h2
           · refine jV (AI := AI) (G := { Gc with size := fn.ntmps }) hE hm hn0 c hok _ _ _ _ w hs h2 fun e s' hq => ?_
             refine yJ (AI := AI) (G := { Gc with size := fn.ntmps }) hE.ti hn0 hq (R := fun e w' => ∃ y ρr, e = .returned y ∧ Holds AI Gc ⟨[], q.L.opn (fun _ => q.next (W ()) (x ()))⟩ ρr #[] w' ∧ Den ρr (ag (svs q.rs (fun _ => q.f (W ()) (x ())))) y) fun y ρ' w' h2 h3 => ⟨y, ρ', rfl, ?_, h3⟩
             have e1 : ({ { Gc with size := fn.ntmps } with size := 0 } : Fr) = Gc := by cases Gc; simp at hsz; subst hsz; rfl
             rw [e1] at h2
             exact h2
         · rintro e w' ⟨y, ρ', rfl, h1, h2, h3⟩
           exact ⟨y, ρ', rfl, h1, h2, h3⟩
       · cases he
     · cases he
   · cases he
def bp.Bw {S : Type} (q : bp A S) : Con A := fun args fresh => match gh q.ps q.ds.length args with
 | some r => (match ofs q.ds r with
   | some x => (match jI q.L.m fresh with
     | true => some ⟨bY 0 q.L.m, 0, false, fun cs _ => (match cs.all (u5 q.L.m) && j8 q.L.k cs && jI q.L.k q.L.m with
       | true => (match q.L.un cs with
         | some W => .done (fun _ => q.pre (W ()) (x ())) (ag (svs q.rs (fun _ => q.f (W ()) (x ())))) cs
         | none => .fail)
       | false => .fail)⟩
     | false => none)
   | none => none)
 | none => none
structure bp.Ro {S : Type} (q : bp A S) : Prop where
 next : ∀ W x, q.next W x = W
 norm : ∀ W : U S, iF q.L.k (ir (q.L.opn W)) 0 (q.L.opn W) = q.L.opn W
 up : ∀ (W : U S) vs, ng q.L.k q.L.m vs 0 (q.L.opn W) = q.L.opn W
 un : ∀ W : U S, q.L.un (q.L.opn W) = some W
 len : ∀ W : U S, (aG (q.L.opn W).length q.L.m && j8 q.L.k (q.L.opn W)) = true
theorem bp.soundR {S : Type} {f : FuncId} {q : bp A S} (hq : q.Ro) (h : aE P AI f q.con) : aE P AI f q.Bw := by
 refine ⟨h.1, fun args fresh p hp hw H d C v cs he => ?_, fun G s ρ tmps w args us fresh p d C v cs hh hargs hp hfr he hC => ?_⟩
 · unfold bp.Bw at hp
   split at hp <;> (try (cases hp; done))
   split at hp <;> (try (cases hp; done))
   split at hp <;> cases hp
   dsimp only at he
   split at he <;> (try (cases he; done))
   split at he <;> cases he
   rfl
 · unfold bp.Bw at hp
   split at hp <;> (try (cases hp; done))
   rename_i r hr
   split at hp <;> (try (cases hp; done))
   rename_i x hx
   split at hp <;> cases hp
   rename_i hm
   dsimp only at he ⊢
   split at he <;> (try (cases he; done))
   rename_i hb
   split at he <;> cases he
   rename_i W hW
   have hcs := q.L.eq _ _ hW
   refine h.2.2 G s ρ tmps w args us fresh ⟨bY 0 q.L.m, 0, true, _⟩ d (fun _ => q.pre (W ()) (x ())) _ _ hh hargs (by unfold bp.con; rw [hr]; dsimp only; rw [hx]; dsimp only; rw [hm]) hfr ?_ hC
   dsimp only
   rw [hb]
   dsimp only
   rw [hcs, hq.norm, hq.un]
   dsimp only
   rw [hq.next]
   rw [hq.len]
   dsimp only
   rw [hq.up]
end Go.Sx
namespace Go.Sx
set_option linter.all false
open Go.RowKit
variable {A : Type} {AI : Abs A} {G : Fr} {s : SS A} {ρ : Ev} {a : Act} {w : World} {P : Program} {l m : List Nat}
def apR : List Nat → Nat → Nat → Nat
 | [], _, d => d
 | x :: _, 0, _ => x
 | _ :: r, i + 1, d => apR r i d
def ap (l : List Nat) (i : Nat) : Nat := apR l i i
theorem yQ : ∀ (l : List Nat) (i d : Nat), l.length ≤ i → apR l i d = d
 | [], _, _, _ => rfl
 | _ :: r, 0, _, h => by simp at h
 | _ :: r, i + 1, d, h => yQ r i d (by simpa using h)
theorem qi {l : List Nat} {i : Nat} (h : l.length ≤ i) : ap l i = i := yQ l i i h
def invB (l m : List Nat) : Bool := aG l.length m.length && (bY 0 l.length).all fun i => aq (ap l i) l.length && aG (ap m (ap l i)) i && aq (ap m i) l.length && aG (ap l (ap m i)) i
structure Inv2 (l m : List Nat) : Prop where
 lm : ∀ i, ap m (ap l i) = i
 ml : ∀ i, ap l (ap m i) = i
 lt : ∀ i, i < l.length → ap l i < l.length
theorem s9 (h : invB l m = true) : Inv2 l m := by
 obtain ⟨h1, h2⟩ := Bool.and_eq_true_iff.1 h
 have h1 := beq_eq h1
 have key : ∀ i, i < l.length → ap l i < l.length ∧ ap m (ap l i) = i ∧ ap l (ap m i) = i := fun i hi => by
  have h3 := List.all_eq_true.1 h2 i (px.2 ⟨Nat.zero_le _, by omega⟩)
  simp only [Bool.and_eq_true] at h3
  exact ⟨leN h3.1.1.1, beq_eq h3.1.1.2, beq_eq h3.2⟩
 refine ⟨fun i => ?_, fun i => ?_, fun i hi => (key i hi).1⟩
 · by_cases hi : i < l.length
   · exact (key i hi).2.1
   · rw [qi (l := l) (by omega), qi (by omega)]
 · by_cases hi : i < l.length
   · exact (key i hi).2.2
   · rw [qi (l := m) (by omega), qi (by omega)]
theorem Inv2.inj (h : Inv2 l m) {i j : Nat} (e : ap l i = ap l j) : i = j := by rw [← h.lm i, e, h.lm j]
theorem Inv2.inj' (h : Inv2 l m) {i j : Nat} (e : ap m i = ap m j) : i = j := by rw [← h.ml i, e, h.ml j]
def rnF (g : List Nat) : SV1 → SV1
 | .ptr i o => .ptr (ap g i) o
 | .mp i => .mp (ap g i)
 | .hd i v => .hd (ap g i) v
 | .vw i v e l n => .vw (ap g i) v e l n
 | .ep i v e k o => .ep (ap g i) v e k o
 | .fnc f ids => .fnc f (ids.map (ap g))
 | x => x
def rnK {A : Type} (g : List Nat) : Chunk A → Chunk A
 | .cells t cs => .cells t (cs.map (rnF g))
 | .rmap ks e L R c j => .rmap ks e L R c (ap g j)
 | .itp i => .itp (ap g i)
 | .nest t tb z v L (some (k, j)) => .nest t tb z v L (some (k, ap g j))
 | .mnest tb L (some (k, j)) => .mnest tb L (some (k, ap g j))
 | c => c
def Ev.via (ρ : Ev) (l : List Nat) : Ev := { root := fun j => ρ.root (ap l j), ver := fun j => ρ.ver (ap l j), M := ρ.M, foot := fun j => ρ.foot (ap l j) }
theorem lJ (hi : ∀ i, ap l (ap m i) = i) {x : SV1} {v : Value} (h : aK ρ x v) : aK (ρ.via l) (rnF m x) v := by
 cases x <;> simp only [rnF] <;> (try exact h)
 case fnc f ids =>
  obtain ⟨vs, h1, h2⟩ := h
  refine ⟨vs, h1, h2.nI fun i u hu => ?_⟩
  obtain ⟨b, h3, h4⟩ := hu
  exact ⟨b, by simp only [Ev.via, hi]; exact h3, h4⟩
 all_goals
  simp only [aK, Ev.via, hi] at h ⊢
  exact h
theorem ky.via (hi : ∀ i, ap l (ap m i) = i) {tb : TypeId} {h : Option (Nat × Nat)} {n : Nat} {x : List Int} {c : Option Value} {F : List Nat} (hs : ky tb ρ w h n x c F) : ky tb (ρ.via l) w (h.map fun q => (q.1, ap m q.2)) n x c F := by
 cases h with
 | none => exact hs
 | some q =>
   obtain ⟨q, j⟩ := q
   refine ⟨fun e => ?_, hs.2⟩
   obtain ⟨⟨v, c1, c2⟩, c3⟩ := hs.1 e
   exact ⟨⟨v, c1, lJ (x := .hd j 0) hi c2⟩, c3⟩
theorem bR.via (hi : ∀ i, ap l (ap m i) = i) {tb : TypeId} {L : List (List Int)} {h : Option (Nat × Nat)} {b : Nat} {F : List Nat} {hdr : Nat → Option Value} (hs : bR tb ρ w L h b F hdr) : bR tb (ρ.via l) w L (h.map fun q => (q.1, ap m q.2)) b F hdr := by
 obtain ⟨blk, h1, h2, h3, h4⟩ := hs
 exact ⟨blk, h1, h2, h3, fun n x hn => (h4 n x hn).via hi⟩
theorem rh (hi : ∀ i, ap l (ap m i) = i) {j : Nat} {c : Chunk A} (h : aQ AI ρ w (ap l j) c) : aQ AI (ρ.via l) w j (rnK m c) := by
 cases c with
 | emp => exact h
 | gone => trivial
 | cells t cs =>
   obtain ⟨b, vs, h1, h2, h3, h4⟩ := h
   exact ⟨b, vs, h1, h2, h3, h4.nI fun _ _ => lJ hi⟩
 | row t e v L => exact h
 | map ks e L => exact h
 | rmap ks e L R c j' =>
   obtain ⟨b, r, h1, h2, h3, h4⟩ := h
   exact ⟨b, r, h1, by simp only [Ev.via, hi]; exact h2, h3, h4⟩
 | itp q => exact h
 | nest t tb z v L q =>
   obtain ⟨h0, b, off, n, cap, h1, h2, h3, h4, h5, h6, h7⟩ := h
   cases q with
   | none => exact ⟨h0, b, off, n, cap, h1, h2, h3, h4, h5.via hi, h6, fun _ _ e => by cases e⟩
   | some q =>
     obtain ⟨k, j'⟩ := q
     exact ⟨h0, b, off, n, cap, h1, h2, h3, h4, h5.via hi, h6, fun _ _ e => by cases e; exact h7 _ _ rfl⟩
 | mnest tb L q =>
   obtain ⟨b, es, clock, h1, h2, h3, h4, h5, h6⟩ := h
   cases q with
   | none => exact ⟨b, es, clock, h1, h2, h3, h4, h5, h6.via hi⟩
   | some q =>
     obtain ⟨k, j'⟩ := q
     refine ⟨b, es, clock, h1, h2, h3, h4, h5, ?_⟩
     rcases h6 with ⟨q, x, c1, c2, c3, c4⟩ | ⟨c1, c2, c3⟩
     · exact .inl ⟨q, x, c1, c2, c3, c4.via hi⟩
     · exact .inr ⟨c1, c2, c3.via hi⟩
 | abs x => exact h
theorem xt (hi : ∀ i, ap l (ap m i) = i) (c : Chunk A) : rnK l (rnK m c) = c := by
 have h1 : ∀ x : SV1, rnF l (rnF m x) = x := fun x => by
  cases x <;> simp only [rnF, hi]
  rename_i f ids
  rw [List.map_map]
  congr 1
  conv => rhs; rw [← List.map_id ids]
  exact List.map_congr_left fun i _ => hi i
 cases c
 case nest t tb z v L q =>
  rcases q with _ | ⟨k, j⟩
  · rfl
  · simp only [rnK, hi]
 case mnest tb L q =>
  rcases q with _ | ⟨k, j⟩
  · rfl
  · simp only [rnK, hi]
 all_goals simp only [rnK, hi]
 rename_i t cs
 rw [List.map_map]
 congr 1
 conv => rhs; rw [← List.map_id cs]
 exact List.map_congr_left fun x _ => h1 x
def rnH (l m : List Nat) (H : List (Chunk A)) : List (Chunk A) := (bY 0 (l.length + H.length)).map fun j => rnK m (aC H (ap l j))
theorem sB {f : Nat → Chunk A} : ∀ {n i j : Nat}, aC ((bY i n).map f) j = if j < n then f (i + j) else .emp
 | 0, i, j => by simp [bY, aC, nth]
 | n + 1, i, 0 => by simp [bY, aC, nth]
 | n + 1, i, j + 1 => by
   have := sB (f := f) (n := n) (i := i + 1) (j := j)
   simp only [bY, List.map_cons, aC, nth] at this ⊢
   rw [this, show i + 1 + j = i + (j + 1) by omega]
   by_cases h : j < n
   · rw [if_pos h, if_pos (by omega)]
   · rw [if_neg h, if_neg (by omega)]
theorem qJ (H : List (Chunk A)) (j : Nat) : aC (rnH l m H) j = rnK m (aC H (ap l j)) := by
 unfold rnH
 rw [sB, Nat.zero_add]
 split
 · rfl
 · rw [qi (by omega), bf (by omega)]; rfl
theorem Holds.via {tmps : Array Value} (hi : Inv2 l m) (h : Holds AI G s ρ tmps w) : Holds AI { G with n0 := 0 } ⟨vK (rnF m) s.tm, rnH l m s.H⟩ (ρ.via l) tmps w := by
 refine ⟨h.sz, h.gt, fun t v ht => ?_, fun j => ?_, fun i j b hij hb hc => h.dis _ _ b (fun e => hij (hi.inj e)) hb hc, fun i b hb => h.lt _ b hb, fun b o v hm => ⟨(h.im b o v hm).1, fun i => (h.im b o v hm).2 _⟩, h.os, h.tape, h.output, h.grow, h.kept, fun i b hb => h.fro _ b hb, fun i b hi => absurd hi (Nat.not_lt_zero i), fun i hi => absurd hi (Nat.not_lt_zero i), h.mono, h.mfr⟩
 · obtain ⟨u, h1, rfl⟩ := ji ht
   obtain ⟨x, h2, h3⟩ := h.tm t u h1
   exact ⟨x, h2, gY (fun _ _ => lJ hi.ml) h3⟩
 · show aQ AI (ρ.via l) w j (aC (rnH l m s.H) j)
   rw [qJ]
   exact rh hi.ml (h.ch _)
theorem uv (hi : Inv2 l m) : ∀ (ids : List Nat) (cs H H2 : List (Chunk A)), (∀ j, aC H (ap l j) = rnK l (aC H2 j)) → ∀ j, aC (aO H (ids.map (ap l)) (cs.map (rnK l))) (ap l j) = rnK l (aC (aO H2 ids cs) j)
 | [], cs, H, H2, h, j => by cases cs <;> exact h j
 | i :: r, [], H, H2, h, j => h j
 | i :: r, c :: cs, H, H2, h, j => by
   refine uv hi r cs (bX H (ap l i) (rnK l c)) (bX H2 i c) (fun k => ?_) j
   rw [aP, aP]
   by_cases e : k = i
   · rw [if_pos e, if_pos (by rw [e])]
   · rw [if_neg e, if_neg (fun q => e (hi.inj q))]
     exact h k
theorem lq {H : List (Chunk A)} : ∀ ids : List Nat, (aD H (ids.map (ap l))).map (rnK m) = aD (rnH l m H) ids
 | [] => rfl
 | i :: r => by
   show rnK m (aC H (ap l i)) :: (aD H (r.map (ap l))).map (rnK m) = aC (rnH l m H) i :: aD (rnH l m H) r
   rw [qJ, lq r]
def iB (l m : List Nat) (k : Con A) : Con A := fun args _ => match invB l m with
 | true => (match k (args.map (lX (rnF m))) l.length with
   | some p0 => (match p0.ids.all (fun i => aq i l.length) with
     | true => some ⟨p0.ids.map (ap l), 0, p0.w, fun cs d => (match p0.eff (cs.map (rnK m)) d with
       | .done C v cs' => .done C (lX (rnF l) v) (cs'.map (rnK l))
       | .need b => .need b
       | .fail => .fail)⟩
     | false => none)
   | none => none)
 | false => none
theorem aL.lX {ρ' : Ev} {f : SV1 → SV1} (hf : ∀ x v, aK ρ x v → aK ρ' (f x) v) : ∀ {args : List SV} {us : List Value}, aL (Den ρ) args us → aL (Den ρ') (args.map (Go.Sx.lX f)) us
 | _, _, .nil => .nil
 | _, _, .cons h r => .cons (gY hf h) (aL.lX hf r)
theorem eK {fn : FuncId} {k : Con A} (l m : List Nat) (hk : aE P AI fn k) : aE P AI fn (iB l m k) := by
 refine ⟨hk.1, fun args fresh p hp hw H d C v cs he => ?_, fun G s ρ tmps w args us fresh p d C v cs h hargs hp hfr he hC => ?_⟩
 · unfold iB at hp
   split at hp <;> (try cases hp)
   rename_i hinv
   split at hp <;> (try cases hp)
   rename_i p0 hp0
   split at hp <;> cases hp
   have hi := s9 hinv
   have hn := hk.2.1 _ _ _ hp0 hw
   dsimp only at he ⊢
   rw [lq] at he
   split at he <;> cases he
   rename_i v' cs' he'
   have e := hn _ _ _ _ _ he'
   rw [e, ← lq, List.map_map]
   conv => rhs; rw [← List.map_id (aD H (p0.ids.map (ap l)))]
   exact List.map_congr_left fun c _ => xt hi.ml c
 · unfold iB at hp
   split at hp <;> (try cases hp)
   rename_i hinv
   split at hp <;> (try cases hp)
   rename_i p0 hp0
   split at hp <;> cases hp
   rename_i hids
   have hi := s9 hinv
   dsimp only at he ⊢
   rw [lq] at he
   split at he <;> cases he
   rename_i v' cs' he'
   have h2 := h.via hi
   have h3 := hk.2.2 { G with n0 := 0 } _ _ tmps w _ us l.length p0 d C v' cs' h2 (aL.lX (fun _ _ => lJ hi.ml) hargs) hp0 (fun i hmem hle => by
    have := leN (List.all_eq_true.1 hids i hmem)
    omega) he' hC
   refine h3.mono ?_
   rintro e w' ⟨y, ρ1, rfl, h4, h5, h6⟩
   have hle : ρ.Le (ρ1.via m) := by
    refine ⟨fun b o v hm => h6.M b o v hm, fun i b hb => ?_, fun i => ?_, fun i hv hs => ?_⟩
    · exact h6.ptr (ap m i) b (by show ρ.root (ap l (ap m i)) = _; rw [hi.ml]; exact hb)
    · have := h6.ver (ap m i)
      show ρ.ver i ≤ ρ1.ver (ap m i)
      have e : (ρ.via l).ver (ap m i) = ρ.ver i := by show ρ.ver (ap l (ap m i)) = _; rw [hi.ml]
      omega
    · have e1 : (ρ.via l).ver (ap m i) = ρ.ver i := by show ρ.ver (ap l (ap m i)) = _; rw [hi.ml]
      have e2 : (ρ.via l).root (ap m i) = ρ.root i := by show ρ.root (ap l (ap m i)) = _; rw [hi.ml]
      have := h6.same (ap m i) (by rw [e1]; exact hv) (by rw [e2]; exact hs)
      show ρ1.root (ap m i) = ρ.root i
      rw [this, e2]
   refine ⟨y, ρ1.via m, rfl, ⟨h4.sz, h4.gt, fun t x ht => ?_, fun i => ?_, fun i j b hij hb hc => h4.dis _ _ b (fun e => hij (hi.inj' e)) hb hc, fun i b hb => h4.lt _ b hb, fun b o v hm => ⟨(h4.im b o v hm).1, fun i => (h4.im b o v hm).2 _⟩, h4.os, h4.tape, h4.output, h4.grow, h4.kept, fun i b hb => h4.fro _ b hb, fun i b hi' hb => ?_, fun i hi' => ?_, h4.mono, h4.mfr⟩, gY (fun _ _ => lJ hi.lm) h5, hle⟩
   · obtain ⟨u, h7, h8⟩ := h.tm t x ht
     exact ⟨u, h7, h8.mono hle⟩
   · have e := uv hi p0.ids cs' s.H (rnH l m s.H) (fun j => by rw [qJ, xt hi.ml]) (ap m i)
     rw [hi.ml] at e
     show aQ AI (ρ1.via m) w' i (aC (aO s.H (p0.ids.map (ap l)) (cs'.map (rnK l))) i)
     rw [e]
     exact rh hi.lm (h4.ch _)
   · exact hle.ptr i b (h.rt i b hi' hb)
   · obtain ⟨g1, g2⟩ := h.rts i hi'
     have := hle.ver i
     refine ⟨Nat.le_trans g1 this, fun ao l' c hs hv => ?_⟩
     have hv0 : ρ.ver i = G.ver0 i := by omega
     have := g2 ao l' c hs hv0
     rw [hle.same i (by omega) ⟨_, _, _, this⟩]
     exact this
end Go.Sx
namespace Go.Sx
set_option linter.all false
open Go.RowKit
variable {A : Type} {AI : Abs A} {P : Program}
structure eQ where
 ds : List DT
 ks : KT
 e : Ty
 pre : Tup ds → Prop
 f : Tup ds → List (ks.T × e.T)
def eQ.con (k : eQ) : Con A := fun args fresh => match (gI k.ds args).any (aG fresh) with
 | true => none
 | false => some ⟨gI k.ds args ++ [fresh], 1, true, fun cs _ => match takeN cs (gI k.ds args).length with
   | some c1 => (match cs.drop (gI k.ds args).length with
     | [.emp] => (match ofA k.ds args c1 with
       | some x => .done (fun _ => k.pre (x ())) (one (.mp fresh)) (c1 ++ [.map k.ks k.e (fun _ => k.f (x ()))])
       | none => .fail)
     | _ => .fail)
   | none => .fail⟩
def eQ.Ok (P : Program) (AI : Abs A) (fn : FuncId) (k : eQ) : Prop :=
 ∀ x, k.pre x → bQ P AI fn (dM k.ds (fun _ => x)) [] (one (.mp 0)) [.map k.ks k.e (fun _ => k.f x)]
theorem gm.flat {M M' : Mem} {ks : KT} {e : Ty} (he : e.flat = true) {L : List (ks.T × e.T)} {es : List MapEntry} {clock : Nat} (h : gm M ks e L es clock) : gm M' ks e L es clock :=
 ⟨h.1.mono fun p m ⟨h1, h2, vs, h3, h4, h5⟩ => ⟨h1, h2, vs, h3, h4.flat he, h5⟩, h.2.1, h.2.2⟩
theorem eQ.sound {fn : FuncId} {k : eQ} (hen : Enters P fn) (hk : k.Ok P AI fn) (hflat : k.e.flat = true) : aE P AI fn k.con := by
 refine ⟨hen, fun args fresh p hp hw => ?_, fun G s ρ tmps w args us fresh p d C v cs h hargs hp hfr he hC => ?_⟩
 · unfold eQ.con at hp
   split at hp <;> cases hp
   simp at hw
 · unfold eQ.con at hp
   split at hp <;> cases hp
   rename_i hany
   have hemp : aC s.H fresh = .emp := hfr fresh (by simp) (Nat.le_refl _)
   dsimp only at he ⊢
   rw [du] at he
   have e1 := jU (aD s.H (gI k.ds args)) (aD s.H [fresh])
   rw [bx] at e1
   rw [e1] at he
   have e2 : (aD s.H (gI k.ds args) ++ aD s.H [fresh]).drop (gI k.ds args).length = [.emp] := by
    rw [← bx s.H (gI k.ds args)]; simp [aD, hemp]
   rw [e2] at he
   dsimp only at he
   split at he <;> (try (simp at he; done))
   rename_i x hx
   simp at he
   obtain ⟨rfl, rfl, rfl⟩ := he
   have hd := tE h (S := fun i => i ∈ gI k.ds args) (more := []) rfl (fun _ hi => hi) (by rw [List.append_nil]; exact hx) hargs
   refine (zm (hk (x ()) hC) h (fun i => i ∈ gI k.ds args) (us := us) fun ρc hM => mT hd hM).mono ?_
   rintro e w' ⟨y, ρr, rfl, h1, h2⟩
   obtain ⟨b, es, clock, h3, h4, h5, h6⟩ := h1.ch 0
   obtain ⟨b', h7, rfl⟩ := h2
   rw [h3] at h7
   cases h7
   have hc := h.ch fresh
   rw [hemp] at hc
   obtain ⟨hc1, hc2, hc3⟩ := hc
   have hb0 : b ∈ ρr.foot 0 := by rw [h4]; simp
   obtain ⟨h8, h9⟩ := h.dx fresh (.pointer (some ⟨b, 0, none⟩)) 0 [b] (.map k.ks k.e (fun _ => k.f (x ()))) w' (by rw [hc2]; simp) (by omega) (by rw [hc2]; simp) (fun b' hb => by
    obtain rfl : b' = b := by simpa using hb
    exact ⟨.inr ((h1.fro 0 b' hb0).resolve_left fun h => h), h1.lt 0 b' hb0⟩) (fun b hb _ => h1.kept b hb fun h => h) h1.os h1.tape h1.output h1.grow
    ⟨b, es, clock, by simp [Ev.upd], by simp [Ev.upd], h5, h6.flat hflat⟩
   refine ⟨.map (some b), _, rfl, h8.bt fun j => ?_, ⟨b, by simp [Ev.upd], rfl⟩, h9⟩
   rw [iA _ _ _ _ _ (bx _ _)]
   simp only [aO, aP]
   rw [cw _ _ s.H fun _ => rfl]
end Go.Sx
namespace Go.Sx
set_option linter.all false
open Go.RowKit
variable {A : Type} {AI : Abs A} {G : Fr} {s : SS A} {ρ : Ev} {a : Act} {w : World} {P : Program} {lay : A → List (Chunk A)} {tq : mX}
theorem wG [fo A] {E : Env A} (hE : aU P AI E) (hm : P.follows .mixedOrders = true) {f : FuncId} {fn : Func} {c : Code} (hf : P.funcs[f]? = some fn) (hb : fn.body = some c) (hok : codeOk fn.ntmps c = true) {args : List SV} (hargs : args.length ≤ fn.ntmps) {H0 : List (Chunk A)}
 {v : SV} {H1 : List (Chunk A)} (h : svc E H0.length c ⟨cQ 0 args, H0⟩ (nQ E.ti H0.length fn.results.toList v H1)) : bQ P AI f args H0 v H1 := by
 intro G ρ w us hG hsz hh hd
 refine calls_of_wp hf hb ?_
 have hlen := hd.length
 have h2 := hh.enter hd (n := fn.ntmps) (by omega)
 refine jV (AI := AI) (G := { G with size := fn.ntmps }) hE hm (by simpa using hG) c hok _ _ _ _ w h ⟨rfl, ρ, h2⟩ fun e s' hq => ?_
 refine yJ (AI := AI) (G := { G with size := fn.ntmps }) hE.ti (by simpa using hG) hq (R := fun e w' => ∃ y ρ', e = .returned y ∧ Holds AI G ⟨[], H1⟩ ρ' #[] w' ∧ Den ρ' v y) fun y ρ' w' h3 h4 => ?_
 have e1 : ({ { G with size := fn.ntmps } with size := 0 } : Fr) = G := by cases G; simp at hsz; subst hsz; rfl
 rw [e1] at h3
 exact ⟨y, ρ', rfl, h3, h4⟩
end Go.Sx
namespace Go.Sx
set_option linter.all false
open Go.RowKit
variable {A : Type} {AI : Abs A} {P : Program}
structure jM where
 et : TypeId
 pre : List Int → Prop
 f : List Int → List Int
def jM.Bx (q : jM) : Con A := fun args _ => match args with
 | [.val (.one (.hd i v))] => some ⟨[i], 0, true, fun cs _ => match cs with
     | [.row t (.int .i64) v' L] => (match aG t q.et && aG v' v with
       | true => .done (fun _ => q.pre (L ())) (ag []) [.row t (.int .i64) v' (fun _ => q.f (L ()))]
       | false => .fail)
     | _ => .fail⟩
 | _ => none
theorem jM.soundK {f : FuncId} (hen : Enters P f) {q : jM} (hk : ∀ L, q.pre L → bQ P AI f [one (.hd 0 0)] [.row q.et (.int .i64) 0 (fun _ => L)] (ag []) [.row q.et (.int .i64) 0 (fun _ => q.f L)]) : aE P AI f q.Bx := by
 refine ⟨hen, fun args fresh p hp hw H d C v cs he => ?_, fun G s ρ tmps w args us fresh p d C v cs hh hargs hp hfr he hC => ?_⟩
 · unfold jM.Bx at hp
   split at hp <;> cases hp
   cases hw
 · unfold jM.Bx at hp
   split at hp <;> cases hp
   rename_i i v0
   dsimp only at he hfr ⊢
   split at he <;> (try cases he)
   rename_i t v' L hcs
   split at he <;> cases he
   rename_i hbq
   obtain ⟨hb1, hb2⟩ := Bool.and_eq_true_iff.1 hbq
   have hb1 := beq_eq hb1
   have hb2 := beq_eq hb2
   subst hb1 hb2
   have hg0 : aC s.H i = .row q.et (.int .i64) v' L := by
    have : aD s.H [i] = [aC s.H i] := rfl
    rw [this] at hcs
    exact (List.cons.inj hcs).1
   have hv' : v' = ρ.ver i := by have h3 := hh.ch i; rw [hg0] at h3; exact h3.1
   cases hargs with
   | @cons _ u _ us hu hargs =>
   cases hargs
   obtain ⟨hu1, _, hu3⟩ := hu
   have hu3 := hu3 hv'
   refine (qL (hk (L ()) hC) (s := s) (H' := bX s.H i (.row q.et (.int .i64) v' (fun _ => q.f (L ())))) (ids := [i]) (news := []) hh (by simp) rfl (by simp) (fun j i' hj => ?_) (by simp) (fun i' hi' => by
    rw [aP, if_neg (by simpa using hi')]) (us := [u]) (fun ρc hM hr => ?_)
    (v := ag []) (fun ρc ρ' hM _ _ y hy => jF hM rfl hy)).mono ?_
   · cases j with
     | zero =>
       simp at hj
       subst hj
       exact .inr ⟨q.et, .int .i64, L, fun _ => q.f (L ()), by rw [← hv']; exact hg0, by rw [aP, if_pos rfl, ← hv'], rfl, rfl⟩
     | succ j => simp at hj
   · obtain ⟨h1, h2⟩ := hr 0 i rfl
     exact .cons ⟨hu1, Nat.zero_le _, fun _ => by rw [h1]; exact hu3⟩ .nil
   · rintro e w' ⟨y, ρ', rfl, h1, h2, h3⟩
     exact ⟨y, ρ', rfl, h1, h2, h3⟩
end Go.Sx
namespace Go.Sx
set_option linter.all false
open Go.RowKit
variable {A : Type} {AI : Abs A} {G : Fr} {s : SS A} {ρ : Ev} {a : Act} {w : World} {P : Program}
def A2 (e : Ty) : SV1 → SV1
 | .hd _ _ => .ro e (fun _ => [])
 | x => x
def lz (e : Ty) (k : Con A) : Con A := fun args fresh => match args.flatMap rowsIn with
 | [] => k args fresh
 | i :: r => match kY (i :: r) && CE fresh (i :: r) with
   | true => (match k (args.map (lX (A2 e))) fresh with
     | some p0 => (match BW (i :: r) p0.ids with
       | false => some ⟨(i :: r) ++ p0.ids, p0.nf, true, fun cs d => (match takeN cs (i :: r).length with
         | some c1 => (match k (args.map (lX (tY (i :: r) c1))) fresh with
           | some p => (match x6 p.ids p0.ids with
             | true => (match p.eff (cs.drop (i :: r).length) d with
               | .done C v cs' => .done C v ((i :: r).map (fun _ => .gone) ++ cs')
               | .need b => .need b
               | .fail => .fail)
             | false => .fail)
           | none => .fail)
         | none => .fail)⟩
       | true => none)
     | none => none)
   | false => none
theorem kE {e0 : Ty} {fn : FuncId} {k : Con A} (hk : aE P AI fn k) : aE P AI fn (lz e0 k) := by
 refine ⟨hk.1, fun args fresh p hp hw H d C v cs he => ?_, fun G s ρ tmps w args us fresh p d C v cs h hargs hp hfr he hC => ?_⟩
 · unfold lz at hp
   split at hp
   · exact hk.2.1 args fresh p hp hw H d C v cs he
   · split at hp <;> (try cases hp)
     split at hp <;> (try cases hp)
     split at hp <;> cases hp
     cases hw
 · unfold lz at hp
   split at hp
   · exact hk.2.2 G s ρ tmps w args us fresh p d C v cs h hargs hp hfr he hC
   · rename_i i r _
     generalize hids : i :: r = ids at hp
     split at hp <;> (try cases hp)
     rename_i hok
     obtain ⟨hnd, hlt⟩ := Bool.and_eq_true_iff.1 hok
     split at hp <;> (try cases hp)
     rename_i p0 hp0
     split at hp <;> cases hp
     rename_i hmeet
     dsimp only at he hfr ⊢
     rw [uQ] at he
     dsimp only at he
     split at he <;> (try (simp at he; done))
     rename_i p1 hp1
     split at he <;> (try (simp at he; done))
     rename_i heq
     have heq := tc heq
     rw [xC] at he
     split at he <;> cases he
     rename_i cs' he'
     have hlt := vz hlt
     have hno := BV hmeet
     let S : Nat → Prop := fun i => i ∈ ids ∧ isRow (aC s.H i) = true
     obtain ⟨h1, le⟩ := h.frozen ids
     have hval : ∀ x u, aK ρ x u → aK (ρ.froze S w) (tY ids (aD s.H ids) x) u := by
      intro x u hv
      cases x <;> simp only [tY]
      case hd i ver =>
       split
       · rename_i j hj
         have hj := jf hj
         rw [pW hj]
         have hc := h.ch i
         generalize hg : aC s.H i = c at hc
         cases c <;> (try trivial)
         rename_i t e u L
         dsimp only
         split
         · rename_i hbu
           have hbu := beq_eq hbu
           subst hbu
           obtain ⟨h1, h2⟩ := hc
           obtain ⟨_, _, h3⟩ := hv
           rw [h3 h1]
           exact db h (S := S) ⟨List.mem_of_getElem? hj, by rw [hg]; rfl⟩ h2 le.1
         · trivial
       · exact aK.mono le hv
      all_goals exact aK.mono le hv
     have hargs1 : aL (Den (ρ.froze S w)) (args.map (lX (tY ids (aD s.H ids)))) us := hargs.nI fun x u hx => gY hval hx
     have hget : ∀ j ∈ p1.ids, aC (aO s.H ids (ids.map fun _ => .gone)) j = aC s.H j := fun j hj => by
      rw [iR, if_neg (hno j (heq ▸ hj))]
     have e1 : aD (aO s.H ids (ids.map fun _ => .gone)) p1.ids = aD s.H p0.ids := by
      rw [fy hget, heq]
     refine (hk.2.2 G _ _ tmps w _ us fresh p1 d C v cs' h1 hargs1 hp1 (fun j hj hf => ?_) (by rw [e1]; exact he') hC).mono ?_
     · rw [hget j hj]
       exact hfr j (List.mem_append.2 (.inr (heq ▸ hj))) hf
     · rintro e w' ⟨y, ρ', rfl, g1, g2, g3⟩
       refine ⟨y, ρ', rfl, ?_, g2, le.trans g3⟩
       rw [iA _ _ _ _ _ (by rw [List.length_map]), ← heq]
       exact g1
end Go.Sx
