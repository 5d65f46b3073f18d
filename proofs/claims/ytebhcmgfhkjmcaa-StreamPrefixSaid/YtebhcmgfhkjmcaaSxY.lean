/-
  Symbolic execution: the body of a function without loops run at its call ('in line').
-/
import Derived.Test.YtebhcmgfhkjmcaaSxX
namespace Go.Sx
set_option linter.all false
set_option linter.unusedVariables false
set_option linter.unusedSimpArgs false
set_option linter.unusedSectionVars false
open Go.RowKit

variable {A : Type} {AI : Abs A} {G : Fr} {s : SS A} {ρ : Ev} {a : Act} {w : World} {P : Program}

inductive XO (A : Type) where
  | fail (why : Nat)
  | need (b : U Bool)
  | done (Cs : List (U Prop)) (e : XE) (s : SS A) (ds : List Bool)

def xreg (E : Env A) (ops : List Oper) (draw : Bool) (s : SS A) : Nat → Dec → List Bool → XO A
  | 0, _, _ => .fail 1000
  | n + 1, d, ds => match preSl d.sl d.sl s.tm with
    | (tm, C0) => (match srun E ops d ops 0 ⟨tm, s.H⟩ C0 [] with
      | .fail j => .fail j
      | .needS t b => (match ds with | [] => .need b | v :: ds => xreg E ops draw s n ⟨(t, v) :: d.sl, d.op⟩ ds)
      | .needC j b => (match ds with | [] => .need b | v :: ds => xreg E ops draw s n ⟨d.sl, d.op ++ [(j, v)]⟩ ds)
      | .done Cs s' effs => (match draw with
        | false => .done Cs .normal s' ds
        | true => .done ((fun _ => drawOk ops (effs.map fun e => (e.ids, e.looks)) = true) :: Cs) .normal s' ds))

def inBlk (id : Nat) : XE → XE
  | .exit id' => (match beqN id id' with | true => .normal | false => .exit id')
  | e => e

def xcode (E : Env A) : Code → SS A → List Bool → XO A
  | .skip, s, ds => .done [] .normal s ds
  | .region _ ops draw, s, ds => xreg E ops.toList draw s 24 ⟨[], []⟩ ds
  | .seq x y, s, ds => (match xcode E x s ds with
    | .done Cs .normal s ds => (match xcode E y s ds with
      | .done Cs' e s ds => .done (Cs ++ Cs') e s ds
      | r => r)
    | r => r)
  | .cond c x y, s, ds => (match evalOp s.tm c with
    | some (.val (.one (.lb true))) => xcode E x s ds
    | some (.val (.one (.lb false))) => xcode E y s ds
    | some (.val (.one (.sb g))) => (match c with
      | .tmp t => (match ds with
        | [] => .need g
        | true :: ds => (match xcode E x ⟨(t, one (.lb true)) :: s.tm, s.H⟩ ds with | .done Cs e s ds => .done ((fun _ => g () = true) :: Cs) e s ds | r => r)
        | false :: ds => (match xcode E y ⟨(t, one (.lb false)) :: s.tm, s.H⟩ ds with | .done Cs e s ds => .done ((fun _ => g () = false) :: Cs) e s ds | r => r))
      | _ => .fail 3000)
    | _ => .fail 3001)
  | .block id c, s, ds => (match xcode E c s ds with
    | .done Cs e s ds => .done Cs (inBlk id e) s ds
    | r => r)
  | .exit id, s, ds => .done [] (.exit id) s ds
  | .ret, s, ds => .done [] .ret s ds
  | .scope c, s, ds => xcode E c s ds
  | _, _, _ => .fail 4000

theorem conds_of : ∀ {Cs : List (U Prop)} {R : Prop}, (∀ C ∈ Cs, C ()) → R → conds R Cs
  | [], _, _, h => h
  | C :: r, R, hC, h => conds_of (Cs := r) (fun D hD => hC D (by simp [hD])) ⟨hC C (by simp), h⟩

theorem region_done {E : Env A} (hE : EnvOk P AI E) (hm : P.follows .mixedOrders = true) {id : Nat} {opsA : Array Oper} {draw : Bool} (hdst : ∀ o ∈ opsA.toList, ∀ t, o.dst = some t → t < G.size) {Qx : Exit → Act → World → Prop} {d : Dec} {tm : List (Nat × SV)} {C0 Cs : List (U Prop)} {s' : SS A} {effs : List (Eff A)}
    (hp : preSl d.sl d.sl s.tm = (tm, C0)) (hr : srun E opsA.toList d opsA.toList 0 ⟨tm, s.H⟩ C0 [] = .done Cs s' effs) (hok : draw = true → drawOk opsA.toList (effs.map fun e => (e.ids, e.looks)) = true) (hC : ∀ C ∈ Cs, C ()) (hs : Sat AI G s a w) (hQ : Then AI G s' (Qx .normal)) :
    (Code.region id opsA draw).wp P Qx a w := by
  refine sreg_sound hE hm hdst (Q := fun x => x = s') (Qx := Qx) (by rintro _ rfl; exact hQ) 1 d ?_ hs
  simp only [sreg, hp, hr]
  cases draw with
  | false => exact conds_of hC (by trivial)
  | true => exact ⟨hok rfl, conds_of hC (by trivial)⟩

theorem xreg_sound {E : Env A} (hE : EnvOk P AI E) (hm : P.follows .mixedOrders = true) {id : Nat} {opsA : Array Oper} {draw : Bool} (hdst : ∀ o ∈ opsA.toList, ∀ t, o.dst = some t → t < G.size) {Qx : Exit → Act → World → Prop} {Cs : List (U Prop)} {e : XE} {s' : SS A} {ds' : List Bool}
    (hC : ∀ C ∈ Cs, C ()) (hs : Sat AI G s a w) (hQ : Then AI G s' (Qx e.out)) : ∀ (n : Nat) (d : Dec) (ds : List Bool), xreg E opsA.toList draw s n d ds = .done Cs e s' ds' → (Code.region id opsA draw).wp P Qx a w
  | 0, d, ds, h => by cases h
  | n + 1, d, ds, h => by
    simp only [xreg] at h
    cases hp : preSl d.sl d.sl s.tm with
    | mk tm C0 =>
      rw [hp] at h
      dsimp only at h
      split at h
      · cases h
      · split at h
        · cases h
        · exact xreg_sound hE hm hdst hC hs hQ n _ _ h
      · split at h
        · cases h
        · exact xreg_sound hE hm hdst hC hs hQ n _ _ h
      · rename_i Cs2 s2 effs hr
        split at h
        · cases h
          exact region_done hE hm hdst hp hr (fun e => by cases e) hC hs hQ
        · cases h
          exact region_done hE hm hdst hp hr (fun _ => hC _ (List.mem_cons_self ..)) (fun C hC' => hC C (List.mem_cons_of_mem _ hC')) hs hQ

theorem xcode_sound {E : Env A} (hE : EnvOk P AI E) (hm : P.follows .mixedOrders = true) : ∀ (c : Code), codeOk G.size c = true → ∀ (s : SS A) (ds : List Bool) {Cs : List (U Prop)} {e : XE} {s' : SS A} {ds' : List Bool} {Qx : Exit → Act → World → Prop} {a : Act} {w : World},
    xcode E c s ds = .done Cs e s' ds' → (∀ C ∈ Cs, C ()) → Sat AI G s a w → Then AI G s' (Qx e.out) → c.wp P Qx a w := by
  intro c
  induction c with
  | skip => intro _ s ds Cs e s' ds' Qx a w h hC hs hQ; cases h; exact wp_skip (hQ _ _ hs.1 hs.2)
  | region id ops draw =>
    intro hok s ds Cs e s' ds' Qx a w h hC hs hQ
    refine xreg_sound hE hm (fun o ho t ht => ?_) hC hs hQ 24 ⟨[], []⟩ ds h
    have h1 := Array.all_eq_true'.1 hok o (by simpa using ho)
    rw [ht] at h1
    exact leN h1
  | seq x y ihx ihy =>
    intro hok s ds Cs e s' ds' Qx a w h hC hs hQ
    obtain ⟨o1, o2⟩ := Bool.and_eq_true_iff.1 hok
    simp only [xcode] at h
    split at h
    · rename_i C1 s1 d1 hx
      split at h
      · rename_i C2 e2 s2 d2 hy
        cases h
        refine wp_seq (ihx o1 s ds hx (fun C hC' => hC C (List.mem_append.2 (.inl hC'))) hs ?_)
        exact fun a' w' hd hh => ihy o2 s1 d1 hy (fun C hC' => hC C (List.mem_append.2 (.inr hC'))) ⟨hd, hh⟩ hQ
      · rename_i hne; exact absurd h (hne _ _ _ _)
    · rename_i hne
      refine wp_seq (ihx o1 s ds h hC hs ?_)
      cases e with
      | normal => exact absurd h (hne _ _ _)
      | ret => exact hQ
      | exit id => exact hQ
  | cond c x y ihx ihy =>
    intro hok s ds Cs e s' ds' Qx a w h hC hs hQ
    obtain ⟨o1, o2⟩ := Bool.and_eq_true_iff.1 hok
    obtain ⟨hd, ρ, hh⟩ := id hs
    simp only [xcode] at h
    split at h
    · rename_i hc; exact wp_cond_true (hh.eval hc) (ihx o1 s ds h hC hs hQ)
    · rename_i hc; exact wp_cond_false (hh.eval hc) (ihy o2 s ds h hC hs hQ)
    · rename_i g hc
      have hg := hh.eval hc
      split at h
      · rename_i t
        split at h
        · cases h
        · split at h
          · rename_i C2 e2 s2 d2 hx
            cases h
            have hb : g () = true := hC _ (List.mem_cons_self ..)
            exact wp_cond_true (by rw [show a.eval (.tmp t) = .bool (g ()) from hg, hb]) (ihx o1 _ _ hx (fun C hC' => hC C (List.mem_cons_of_mem _ hC')) (hs.lb hc hb) hQ)
          · rename_i hne; exact absurd h (hne _ _ _ _)
        · split at h
          · rename_i C2 e2 s2 d2 hx
            cases h
            have hb : g () = false := hC _ (List.mem_cons_self ..)
            exact wp_cond_false (by rw [show a.eval (.tmp t) = .bool (g ()) from hg, hb]) (ihy o2 _ _ hx (fun C hC' => hC C (List.mem_cons_of_mem _ hC')) (hs.lb hc hb) hQ)
          · rename_i hne; exact absurd h (hne _ _ _ _)
      · cases h
    · cases h
  | block id c ih =>
    intro hok s ds Cs e s' ds' Qx a w h hC hs hQ
    simp only [xcode] at h
    split at h
    · rename_i C2 e2 s2 d2 hx
      cases h
      refine wp_block (ih hok s ds hx hC hs ?_)
      cases e2 with
      | normal => exact hQ
      | ret => exact hQ
      | exit id' =>
        simp only [inBlk] at hQ
        intro a' w' hd hh
        split at hQ
        · rename_i hb
          have hb := beq_eq hb
          subst hb
          simp only [XE.out, Exit.inBlock, if_pos]
          exact hQ a' w' hd hh
        · rename_i hb
          have hne : ¬ id' = id := by rintro rfl; simp at hb
          simp only [XE.out, Exit.inBlock, if_neg hne]
          exact hQ a' w' hd hh
    · rename_i hne; exact absurd h (hne _ _ _ _)
  | exit id => intro _ s ds Cs e s' ds' Qx a w h hC hs hQ; cases h; exact wp_exit (hQ _ _ hs.1 hs.2)
  | ret => intro _ s ds Cs e s' ds' Qx a w h hC hs hQ; cases h; exact wp_ret (hQ _ _ hs.1 hs.2)
  | scope c ih =>
    intro hok s ds Cs e s' ds' Qx a w h hC hs hQ
    refine wp_scope_straight (ih hok s ds h hC hs ?_)
    cases e <;> exact hQ
  | loop c ih => intro _ s ds Cs e s' ds' Qx a w h; cases h
  | label l => intro _ s ds Cs e s' ds' Qx a w h; cases h
  | goto l => intro _ s ds Cs e s' ds' Qx a w h; cases h
  | refuse y => intro _ s ds Cs e s' ds' Qx a w h; cases h
  | rangeFunc f p x y _ _ => intro _ s ds Cs e s' ds' Qx a w h; cases h

/-! ### the contract -/
def bel1 (n : Nat) : SV1 → Bool
  | .ptr i _ => bltN i n
  | .mp i => bltN i n
  | .hd i _ => bltN i n
  | .vw i _ _ _ _ => bltN i n
  | .ep i _ _ _ _ => bltN i n
  | _ => true
def bel2 (n : Nat) : SV2 → Bool
  | .one x => bel1 n x
  | .agg l => l.all (bel1 n)
  | .fn _ l => l.all (bel1 n)
def belV (n : Nat) : SV → Bool
  | .val x => bel2 n x
  | .tup l => l.all (bel2 n)

theorem bel1_den {n : Nat} {x : SV1} (hx : bel1 n x = true) {v : Value} (hv : Den1 ρ x v) : Den1 (ρ.trim n) x v := by
  have lt : ∀ {i : Nat}, bltN i n = true → i < n := fun h => leN h
  cases x <;> try exact hv
  case ptr i o => have := lt hx; simpa only [Den1, Ev.trim, if_pos this] using hv
  case mp i => have := lt hx; simpa only [Den1, Ev.trim, if_pos this] using hv
  case hd i u => have := lt hx; simpa only [Den1, Ev.trim, if_pos this] using hv
  case vw i u e l k => have := lt hx; simpa only [Den1, Ev.trim, if_pos this] using hv
  case ep i u e k o => have := lt hx; simpa only [Den1, Ev.trim, if_pos this] using hv
theorem bel1s_den {n : Nat} {l : List SV1} {vs : List Value} (h : All2 (Den1 ρ) l vs) (hl : l.all (bel1 n) = true) : All2 (Den1 (ρ.trim n)) l vs := by
  induction h with
  | nil => exact .nil
  | cons h1 _ ih => simp only [List.all_cons, Bool.and_eq_true] at hl; exact .cons (bel1_den hl.1 h1) (ih hl.2)
theorem bel2_den {n : Nat} {x : SV2} (hx : bel2 n x = true) {v : Value} (hv : Den2 ρ x v) : Den2 (ρ.trim n) x v := by
  cases x with
  | one x => exact bel1_den hx hv
  | agg l => obtain ⟨vs, h1, h2⟩ := hv; exact ⟨vs, h1, bel1s_den h2 hx⟩
  | fn f l => obtain ⟨vs, h1, h2⟩ := hv; exact ⟨vs, h1, bel1s_den h2 hx⟩
theorem belV_den {n : Nat} {x : SV} (hx : belV n x = true) {v : Value} (hv : Den ρ x v) : Den (ρ.trim n) x v := by
  cases x with
  | val x => exact bel2_den hx hv
  | tup l =>
    obtain ⟨vs, h1, h2⟩ := hv
    refine ⟨vs, h1, ?_⟩
    clear h1
    change l.all (bel2 n) = true at hx
    induction h2 with
    | nil => exact .nil
    | cons h1 _ ih => simp only [List.all_cons, Bool.and_eq_true] at hx; exact .cons (bel2_den hx.1 h1) (ih hx.2)
theorem belVs_den {n : Nat} {l : List SV} {vs : List Value} (h : All2 (Den ρ) l vs) (hl : l.all (belV n) = true) : All2 (Den (ρ.trim n)) l vs := by
  induction h with
  | nil => exact .nil
  | cons h1 _ ih => simp only [List.all_cons, Bool.and_eq_true] at hl; exact .cons (belV_den hl.1 h1) (ih hl.2)

def allC : List (U Prop) → Prop
  | [] => True
  | C :: r => C () ∧ allC r
theorem allC_mem : ∀ {Cs : List (U Prop)}, allC Cs → ∀ C ∈ Cs, C ()
  | [], _, C, h => by cases h
  | D :: r, h, C, hC => by
    rcases List.mem_cons.1 hC with e | e
    · rw [e]; exact h.1
    · exact allC_mem h.2 C e

theorem tt_intro : tt () := True.intro
theorem Ck.all_nil {R : Prop} (h : R) : Ck (fun _ => allC []) R := ⟨trivial, h⟩
theorem Ck.all_cons {C : U Prop} {Cs : List (U Prop)} {R : Prop} (h : Ck C (Ck (fun _ => allC Cs) R)) : Ck (fun _ => allC (C :: Cs)) R := by
  cases h with
  | mk h1 h2 => cases h2 with | mk h3 h4 => exact ⟨⟨h1, h3⟩, h4⟩

def firstN : Nat → List (Chunk A) → List (Chunk A)
  | 0, _ => []
  | n + 1, c :: r => c :: firstN n r
  | n + 1, [] => .emp :: firstN n []

theorem mem_upTo : ∀ {n i j : Nat}, j ∈ upTo i n ↔ i ≤ j ∧ j < i + n
  | 0, i, j => by simp only [upTo, List.not_mem_nil, false_iff]; omega
  | n + 1, i, j => by simp only [upTo, List.mem_cons, mem_upTo (n := n)]; omega
theorem getC_firstN : ∀ {n : Nat} {H : List (Chunk A)} {j : Nat}, getC (firstN n H) j = if j < n then getC H j else .emp
  | 0, H, j => by simp [firstN, getC, nth]
  | n + 1, c :: r, 0 => by simp [firstN, getC, nth]
  | n + 1, [], 0 => by simp [firstN, getC, nth]
  | n + 1, c :: r, j + 1 => by
    have := getC_firstN (n := n) (H := r) (j := j)
    simp only [Nat.add_lt_add_iff_right]
    rw [show getC (c :: r) (j + 1) = getC r j from rfl, ← this]; rfl
  | n + 1, [], j + 1 => by
    have := getC_firstN (n := n) (H := ([] : List (Chunk A))) (j := j)
    simp only [Nat.add_lt_add_iff_right]
    rw [show getC ([] : List (Chunk A)) (j + 1) = getC ([] : List (Chunk A)) j from by simp [getC, nth], ← this]; rfl
theorem length_firstN : ∀ {n : Nat} {H : List (Chunk A)}, (firstN n H).length = n
  | 0, H => rfl
  | n + 1, c :: r => by simp [firstN, length_firstN]
  | n + 1, [] => by simp [firstN, length_firstN]
theorem getC_putCs_upTo : ∀ {n i : Nat} {H cs : List (Chunk A)} (j : Nat), cs.length = n → getC (putCs H (upTo i n) cs) j = if i ≤ j ∧ j < i + n then getC cs (j - i) else getC H j
  | 0, i, H, cs, j, h => by simp only [upTo, putCs]; rw [if_neg (by omega)]
  | n + 1, i, H, [], j, h => by simp at h
  | n + 1, i, H, c :: cs, j, h => by
    simp only [upTo, putCs]
    rw [getC_putCs_upTo (n := n) (i := i + 1) j (by simpa using h)]
    by_cases h1 : i + 1 ≤ j ∧ j < i + 1 + n
    · rw [if_pos h1, if_pos (by omega)]
      rw [show j - i = j - (i + 1) + 1 by omega]; rfl
    · rw [if_neg h1, getC_putC]
      by_cases h2 : j = i
      · subst h2; rw [if_pos rfl, if_pos (by omega)]; simp [getC, nth]
      · rw [if_neg h2, if_neg (by omega)]

def belC (n : Nat) : Chunk A → Bool
  | .cells _ l => l.all (bel1 n)
  | .rmap _ _ _ _ _ j => bltN j n
  | _ => true
theorem belC_holds {n i : Nat} (hi : i < n) {c : Chunk A} (hb : belC n c = true) (h : HoldsC AI ρ w i c) : HoldsC AI (ρ.trim n) w i c := by
  cases c with
  | emp => simpa only [HoldsC, Ev.trim, if_pos hi] using h
  | gone => trivial
  | cells t l =>
    obtain ⟨b, vs, h1, h2, h3, h4⟩ := h
    exact ⟨b, vs, by simpa only [Ev.trim, if_pos hi] using h1, by simpa only [Ev.trim, if_pos hi] using h2, h3, bel1s_den h4 hb⟩
  | row t e v L => simpa only [HoldsC, Ev.trim, if_pos hi] using h
  | map ks e L => simpa only [HoldsC, Ev.trim, if_pos hi] using h
  | rmap ks e L R c j =>
    have hj : j < n := leN hb
    obtain ⟨b, r, h1, h2, h3, h4⟩ := h
    exact ⟨b, r, by simpa only [Ev.trim, if_pos hi] using h1, by simpa only [Ev.trim, if_pos hj] using h2, by simpa only [Ev.trim, if_pos hi] using h3, h4⟩
  | itp q => simpa only [HoldsC, Ev.trim, if_pos hi] using h
  | abs x => simpa only [HoldsC, Ev.trim, if_pos hi] using h

/-- The contract of a function that is run in line (k: how many chunks it makes at most). -/
def inlCon (E : Env A) (nt : Nat) (rs : List ResultVar) (body : Code) (k : Nat) : Con A := fun args fresh =>
  match bleN args.length nt && args.all (belV fresh) with
  | true => some ⟨upTo 0 (fresh + k), k, true, fun cs ds => (match cs.all (belC fresh) with
    | true => (match xcode E body ⟨argT 0 args, firstN fresh cs⟩ ds with
      | .done Cs e s _ => (match e with
        | .exit _ => .fail
        | _ => (match resV E.ti s rs with
          | some l => (match bleN s.H.length (fresh + k) with
            | true => .done (fun _ => allC Cs) (resOf l) (firstN (fresh + k) s.H)
            | false => .fail)
          | none => .fail))
      | .need b => .need b
      | .fail _ => .fail)
    | false => .fail)⟩
  | false => none

/-- A call that may change everything. -/
theorem frame_all {f : FuncId} {tmps : Array Value} (h : Holds AI G s ρ tmps w) {m : Nat} {us : List Value} {H0 H1 : List (Chunk A)} {v : SV} {fresh : Nat} (hf : fresh ≤ m) (hH0 : ∀ j, getC H0 j = if j < fresh then getC s.H j else .emp) (hbel : ∀ j, j < fresh → belC fresh (getC s.H j) = true) (hemp : ∀ j, fresh ≤ j → j < m → getC s.H j = .emp) (hH1 : ∀ j, m ≤ j → getC H1 j = .emp) {H' : List (Chunk A)} (hin : ∀ j, j < m → getC H' j = getC H1 j) (hout : ∀ j, m ≤ j → getC H' j = getC s.H j)
    (hT : ∀ (Gc : Fr), Gc.n0 = fresh → Gc.size = 0 → Holds AI Gc ⟨[], H0⟩ (ρ.trim fresh) #[] w → Calls P f us.toArray w fun e w' => ∃ y ρr, e = .returned y ∧ Holds AI Gc ⟨[], H1⟩ ρr #[] w' ∧ Den ρr v y) :
    Calls P f us.toArray w fun e w' => ∃ y ρ', e = .returned y ∧ Holds AI G ⟨s.tm, H'⟩ ρ' tmps w' ∧ Den ρ' v y ∧ ρ.Le ρ' := by
  let ρc : Ev := ρ.trim fresh
  let Gc : Fr := { w0 := w, own := fun b => ∃ j, j < fresh ∧ b ∈ ρ.foot j, n0 := fresh, root0 := ρ.root, M0 := ρ.M, size := 0, ver0 := ρ.ver }
  have hfc : ∀ j b, b ∈ ρc.foot j → j < fresh ∧ b ∈ ρ.foot j := by
    intro j b hb
    simp only [ρc, Ev.trim] at hb
    split at hb
    · rename_i hj; exact ⟨hj, hb⟩
    · cases hb
  have hempv : ∀ j, fresh ≤ j → j < m → ρ.foot j = [] ∧ ρ.root j = .bool false ∧ ρ.ver j = 0 := fun j h1 h2 => by
    have := h.ch j; rw [hemp j h1 h2] at this; exact this
  have hc : Holds AI Gc ⟨[], H0⟩ ρc #[] w := by
    refine ⟨rfl, (fun t x ht => by cases ht), fun j => ?_, fun i j b hij hi hj => h.dis i j b hij (hfc i b hi).2 (hfc j b hj).2, fun i b hb => h.lt i b (hfc i b hb).2, fun b o x hm => ⟨(h.im b o x hm).1, fun i hb => (h.im b o x hm).2 i (hfc i b hb).2⟩, rfl, rfl, rfl, Nat.le_refl _, fun _ _ _ => rfl,
      fun i b hb => .inl ⟨i, hfc i b hb⟩, fun i b hi hb => by show (ρ.trim fresh).root i = _; simp only [Ev.trim, if_pos (show i < fresh from hi)]; exact hb, fun i hi => ⟨by show _ ≤ (ρ.trim fresh).ver i; simp only [Ev.trim, if_pos (show i < fresh from hi)]; exact Nat.le_refl _, fun ao l c hb hv => by show (ρ.trim fresh).root i = _; simp only [Ev.trim, if_pos (show i < fresh from hi)]; exact hb⟩, fun _ _ _ hm => hm, fun b o x hm => .inl hm⟩
    show HoldsC AI ρc w j (getC H0 j)
    rw [hH0]
    split
    · rename_i hj; exact belC_holds hj (hbel j hj) (h.ch j)
    · exact ⟨by simp [ρc, Ev.trim, *], by simp [ρc, Ev.trim, *], by simp [ρc, Ev.trim, *]⟩
  refine (hT Gc rfl rfl hc).mono ?_
  rintro e w' ⟨y, ρr, rfl, hr, hy⟩
  have hbey : ∀ j, m ≤ j → ρr.foot j = [] ∧ ρr.root j = .bool false ∧ ρr.ver j = 0 := fun j hj => by
    have := hr.ch j; dsimp only at this; rw [hH1 j hj] at this; exact this
  let ρ' : Ev := { root := fun i => if i < m then ρr.root i else ρ.root i, ver := fun i => if i < m then ρr.ver i else ρ.ver i, M := ρr.M, foot := fun i => if i < m then ρr.foot i else ρ.foot i }
  have ltr : ∀ i, ρr.root i ≠ .bool false → i < m := fun i hi => Nat.lt_of_not_le fun hle => hi (hbey i hle).2.1
  have lrr : ρr.Le ρ' := by
    refine ⟨fun _ _ _ h => h, fun i b hb => ?_, fun i => ?_, fun i hv hs => ?_⟩
    · have := ltr i (by rw [hb]; simp)
      simp only [ρ', if_pos this]; exact hb
    · simp only [ρ']; split
      · exact Nat.le_refl _
      · rename_i hi; rw [(hbey i (by omega)).2.2]; exact Nat.zero_le _
    · obtain ⟨ao, l, c, hs⟩ := hs
      have := ltr i (by rw [hs]; simp)
      simp only [ρ', if_pos this]
  have le : ρ.Le ρ' := by
    refine ⟨hr.mono, fun i b hb => ?_, fun i => ?_, fun i hv hs => ?_⟩
    · by_cases hi : i < m
      · simp only [ρ', if_pos hi]
        by_cases hi2 : i < fresh
        · exact hr.rt i b hi2 hb
        · rw [(hempv i (by omega) hi).2.1] at hb; cases hb
      · simp only [ρ', if_neg hi]; exact hb
    · by_cases hi : i < m
      · simp only [ρ', if_pos hi]
        by_cases hi2 : i < fresh
        · exact (hr.rts i hi2).1
        · rw [(hempv i (by omega) hi).2.2]; exact Nat.zero_le _
      · simp only [ρ', if_neg hi]; exact Nat.le_refl _
    · obtain ⟨ao, l, c, hs⟩ := hs
      by_cases hi : i < m
      · simp only [ρ', if_pos hi] at hv ⊢
        by_cases hi2 : i < fresh
        · rw [(hr.rts i hi2).2 ao l c hs hv.symm, hs]
        · rw [(hempv i (by omega) hi).2.1] at hs; cases hs
      · simp only [ρ', if_neg hi]
  have hrfoot : ∀ j b, b ∈ ρr.foot j → (∃ k, k < fresh ∧ b ∈ ρ.foot k) ∨ w.heap.size ≤ b := fun j b hb => hr.fro j b hb
  have hblk : ∀ b, b < w.heap.size → (∀ j, j < fresh → b ∉ ρ.foot j) → w'.heap[b]? = w.heap[b]? := fun b hb hnb => hr.kept b hb (by rintro ⟨j, hj, hb'⟩; exact hnb j hj hb')
  have hnot : ∀ {i b}, ¬ i < m → b ∈ ρ.foot i → ∀ j, j < fresh → b ∉ ρ.foot j := fun {i b} hi hb j hj hb' => h.dis i j b (by omega) hb hb'
  refine ⟨y, ρ', rfl, ⟨h.sz, fun t x ht => ?_, fun i => ?_, fun i k b hik hi hk => ?_, fun i b hb => ?_, fun b o x hm => ⟨(hr.im b o x hm).1, fun i hb => ?_⟩, hr.os.trans h.os, hr.tape.trans h.tape, hr.output.trans h.output, Nat.le_trans h.grow hr.grow,
    fun b hb hn' => ?_, fun i b hb => ?_, fun i b hi hb => le.ptr i b (h.rt i b hi hb), fun i hi => ?_, fun b o x hm => hr.mono b o x (h.mono b o x hm), fun b o x hm => ?_⟩, hy.mono lrr, le⟩
  · obtain ⟨u, h1, h2⟩ := h.tm t x ht; exact ⟨u, h1, h2.mono le⟩
  · show HoldsC AI ρ' w' i (getC H' i)
    by_cases hi : i < m
    · rw [hin i hi]
      have h3 := hr.ch i
      dsimp only at h3
      exact h3.stays lrr (by simp only [ρ', if_pos hi]) (by simp only [ρ', if_pos hi]) (by simp only [ρ', if_pos hi]) fun _ _ => rfl
    · rw [hout i (by omega)]
      exact (h.ch i).stays le (by simp only [ρ', if_neg hi]) (by simp only [ρ', if_neg hi]) (by simp only [ρ', if_neg hi]) fun b hb => hblk b (h.lt i b hb) (hnot hi hb)
  · simp only [ρ'] at hi hk
    split at hi <;> split at hk
    · exact hr.dis i k b hik hi hk
    · rename_i _ hk'
      rcases hrfoot i b hi with ⟨q, hq, hb⟩ | hge
      · exact hnot hk' hk q hq hb
      · have := h.lt k b hk; omega
    · rename_i hi' _
      rcases hrfoot k b hk with ⟨q, hq, hb⟩ | hge
      · exact hnot hi' hi q hq hb
      · have := h.lt i b hi; omega
    · exact h.dis i k b hik hi hk
  · simp only [ρ'] at hb
    split at hb
    · exact hr.lt i b hb
    · exact Nat.lt_of_lt_of_le (h.lt i b hb) hr.grow
  · simp only [ρ'] at hb
    split at hb
    · exact (hr.im b o x hm).2 i hb
    · rename_i hi
      rcases hr.mfr b o x hm with h1 | ⟨q, h1, h2⟩ | h1
      · exact (h.im b o x h1).2 i hb
      · exact hnot hi hb q h1 h2
      · have h1 : w.heap.size ≤ b := h1
        have := h.lt i b hb; omega
  · refine (hblk b (Nat.lt_of_lt_of_le hb h.grow) fun j hj hb' => ?_).trans (h.kept b hb hn')
    rcases h.fro _ b hb' with h1 | h1
    · exact hn' h1
    · omega
  · simp only [ρ'] at hb
    split at hb
    · rcases hrfoot i b hb with ⟨q, hq, hb'⟩ | hge
      · exact h.fro _ b hb'
      · exact .inr (Nat.le_trans h.grow hge)
    · exact h.fro i b hb
  · obtain ⟨hv0, hs⟩ := h.rts i hi
    refine ⟨Nat.le_trans hv0 (le.ver i), fun ao l c hb hv => ?_⟩
    have e0 : ρ.ver i = G.ver0 i := Nat.le_antisymm (hv ▸ le.ver i) hv0
    have h1 := hs ao l c hb e0
    rw [le.same i (by rw [e0, hv]) ⟨_, _, _, h1⟩]; exact h1
  · rcases hr.mfr b o x hm with h1 | ⟨q, h1, h2⟩ | h1
    · exact h.mfr b o x h1
    · exact .inr (h.fro _ b h2)
    · exact .inr (.inr (Nat.le_trans h.grow h1))

theorem inl_sound {E : Env A} (hE : EnvOk P AI E) (hm : P.follows .mixedOrders = true) {f : FuncId} {fn : Func} {c : Code} (hen : Enters P f) (hf : P.funcs[f]? = some fn) (hb : fn.body = some c) (hok : codeOk fn.ntmps c = true) (k : Nat) :
    ConSound P AI f (inlCon E fn.ntmps fn.results.toList c k) := by
  refine ⟨hen, fun args fresh p hp hw => ?_, fun G s ρ tmps w args us fresh p d C v cs h hargs hp hfr he hC => ?_⟩
  · unfold inlCon at hp
    split at hp <;> cases hp
    cases hw
  · unfold inlCon at hp
    split at hp <;> cases hp
    rename_i hcond
    simp only [Bool.and_eq_true] at hcond
    obtain ⟨hlen, hbel⟩ := hcond
    have hlen := leN hlen
    dsimp only at he hfr ⊢
    split at he
    · rename_i hall
      split at he
      · rename_i Cs e s1 ds1 hx
        have key : (e = .normal ∨ e = .ret) ∧ ∃ l, resV E.ti s1 fn.results.toList = some l ∧ s1.H.length ≤ fresh + k ∧ (C = fun _ => allC Cs) ∧ v = resOf l ∧ cs = firstN (fresh + k) s1.H := by
          cases e with
          | exit id => cases he
          | normal =>
            refine ⟨.inl rfl, ?_⟩
            dsimp only at he
            split at he
            · rename_i l hl
              split at he
              · rename_i hle
                simp at he
                exact ⟨l, hl, leN hle, he.1.symm, he.2.1.symm, he.2.2.symm⟩
              · cases he
            · cases he
          | ret =>
            refine ⟨.inr rfl, ?_⟩
            dsimp only at he
            split at he
            · rename_i l hl
              split at he
              · rename_i hle
                simp at he
                exact ⟨l, hl, leN hle, he.1.symm, he.2.1.symm, he.2.2.symm⟩
              · cases he
            · cases he
        obtain ⟨hend, l, hl, hle, rfl, rfl, rfl⟩ := key
        have hgc : ∀ j, j < fresh + k → getC (getCs s.H (upTo 0 (fresh + k))) j = getC s.H j := fun j hj => by rw [getC_getCs hj, Nat.zero_add]
        refine frame_all h (m := fresh + k) (H0 := firstN fresh (getCs s.H (upTo 0 (fresh + k)))) (H1 := s1.H) (fresh := fresh) (by omega) (fun j => ?_) (fun j hj => ?_) (fun j h1 h2 => hfr j (mem_upTo.2 (by omega)) h1) (fun j hj => getC_beyond (by omega)) (fun j hj => ?_) (fun j hj => ?_) fun Gc hn0 hsz hh => ?_
        · rw [getC_firstN]
          split
          · rw [hgc j (by omega)]
          · rfl
        · have hlen2 : ∀ {n i : Nat}, (getCs s.H (upTo i n)).length = n := by
            intro n
            induction n with
            | zero => intro i; rfl
            | succ n ih => intro i; simp only [upTo, getCs, List.length_cons, ih]
          have h1 : (getCs s.H (upTo 0 (fresh + k)))[j]? = some (getC s.H j) := by
            have h2 := hgc j (by omega)
            unfold getC at h2
            rw [nth_eq] at h2
            have h3 : j < (getCs s.H (upTo 0 (fresh + k))).length := by rw [hlen2]; omega
            rw [List.getElem?_eq_getElem h3] at h2 ⊢
            exact congrArg some h2
          exact List.all_eq_true.1 hall _ (List.mem_of_getElem? h1)
        · rw [getC_putCs_upTo j length_firstN, if_pos (by omega), Nat.sub_zero, getC_firstN, if_pos hj]
        · rw [getC_putCs_upTo j length_firstN, if_neg (by omega)]
        · refine calls_of_wp hf hb ?_
          have hd := belVs_den hargs hbel
          have hl1 := hd.length
          have h1 := hh.enter hd (n := fn.ntmps) (by omega)
          refine xcode_sound (AI := AI) (G := { Gc with size := fn.ntmps }) hE hm c hok _ _ hx (allC_mem hC) ⟨rfl, _, h1⟩ ?_
          intro a' w' hdf ⟨ρ', hh'⟩
          obtain ⟨y, h3, h4⟩ := results_sound (AI := AI) (G := { Gc with size := fn.ntmps }) hE.ti hh' hl
          have h5 : Holds AI Gc ⟨[], s1.H⟩ ρ' #[] w' := ⟨hsz.symm, (fun t x ht => by cases ht), hh'.ch, hh'.dis, hh'.lt, hh'.im, hh'.os, hh'.tape, hh'.output, hh'.grow, hh'.kept, hh'.fro, hh'.rt, hh'.rts, hh'.mono, hh'.mfr⟩
          rcases hend with rfl | rfl
          · exact ⟨hdf, y, h3, y, ρ', rfl, h5, h4⟩
          · exact ⟨hdf, y, h3, y, ρ', rfl, h5, h4⟩
      · cases he
      · cases he
    · cases he

end Go.Sx
