/-
  Symbolic execution: operations that leave the world alone are what their plans say.
-/
import Derived.Test.YtebhcmgfhkjmcaaSxC
namespace Go.Sx
set_option linter.all false
set_option linter.unusedVariables false
set_option linter.unusedSimpArgs false
set_option linter.unusedSectionVars false
open Go.RowKit

variable {A : Type} {AI : Abs A} {G : Fr} {s : SS A} {ρ : Ev} {a : Act} {w : World} {P : Program}

theorem beq_eq {a b : Nat} (h : beqN a b = true) : a = b := beqN_iff.1 h

theorem Den1.ofLit1 (x : Value) : Den1 ρ (ofLit1 x) x := by
  cases x <;> simp only [Sx.ofLit1] <;> try rfl
  case string s =>
    simp only [Den1, Value.string.injEq]
    cases s with
    | mk d =>
      congr 1
      apply Array.ext'
      have e : ((fun x : Int => UInt8.ofNat x.toNat) ∘ fun x : UInt8 => (x.toNat : Int)) = id := by funext x; simp
      simp [e]
  case pointer p => cases p <;> rfl
  case slice p l c =>
    split
    all_goals first | (rename_i h; cases h; done) | (simp [Den1]; done) | simp_all [Den1]

theorem All2.map {α β : Type} {R : α → β → Prop} (f : β → α) (h : ∀ b, R (f b) b) : ∀ l : List β, All2 R (l.map f) l
  | [] => .nil
  | x :: r => .cons (h x) (All2.map f h r)

theorem Den.ofLit (x : Value) : Den ρ (ofLit x) x := by
  unfold Sx.ofLit
  split
  · rename_i cs
    exact ⟨cs.toList, by simp, All2.map _ Den1.ofLit1 _⟩
  · exact Den1.ofLit1 _

theorem Holds.eval (h : Holds AI G s ρ a.tmps w) {x : Operand} {v : SV} (hx : evalOp s.tm x = some v) : Den ρ v (a.eval x) := by
  cases x with
  | tmp t =>
    obtain ⟨u, h1, h2⟩ := h.tm t v hx
    have : a.eval (.tmp t) = u := by simp [Act.eval, h1]
    rw [this]; exact h2
  | const c => cases hx; exact Den.ofLit c
  | global g => cases hx
  | func f => cases hx; exact ⟨[], rfl, .nil⟩

theorem Holds.evals (h : Holds AI G s ρ a.tmps w) : ∀ {xs : List Operand} {vs : List SV}, evalOps s.tm xs = some vs → All2 (Den ρ) vs (xs.map a.eval)
  | [], vs, hx => by cases hx; exact .nil
  | x :: r, vs, hx => by
    simp only [evalOps] at hx
    split at hx
    · rename_i v hv
      split at hx
      · rename_i us hu
        cases hx
        exact .cons (h.eval hv) (h.evals hu)
      · cases hx
    · cases hx

theorem wrap_i64 {n : Int} (h : inI64 n) : IntKind.i64.wrap n = n := IntWalk.i64_in n h

theorem ival_den {x : SV1} {k : IntKind} {n : U Int} (h : ival x = some (k, n)) {u : Value} (hu : Den1 ρ x u) : u = .int k (n ()) := by
  cases x <;> simp [ival] at h <;> obtain ⟨rfl, rfl⟩ := h <;> exact hu
theorem ivalS_den {x : SV} {k : IntKind} {n : U Int} (h : ivalS x = some (k, n)) {u : Value} (hu : Den ρ x u) : u = .int k (n ()) := by
  cases x with
  | tup l => cases h
  | val x =>
    cases x with
    | one x => exact ival_den h hu
    | agg l => cases h
    | fn f l => cases h
theorem bval_den {x : SV1} {b : U Bool} (h : bval x = some b) {u : Value} (hu : Den1 ρ x u) : u = .bool (b ()) := by
  cases x <;> simp [bval] at h <;> subst h <;> exact hu

theorem fit_den {k : IntKind} {n : U Int} {C : U Prop} {v : SV1} (h : fit k n = (C, v)) (hC : C ()) : Den1 ρ v (.int k (k.wrap (n ()))) := by
  unfold fit at h
  split at h <;> cases h
  · rw [wrap_i64 hC]; rfl
  · rfl

theorem arith_sound {op : BinOp} {k : IntKind} {x y : U Int} {C : U Prop} {v : SV1} (h : arith op k x y = some (C, v)) (hC : C ()) (t : TypeId) :
    ∃ u, (binOp op t (.int k (x ())) (.int k (y ()))).run P w = .ok u w ∧ Den1 ρ v u := by
  cases op <;> simp only [arith, reduceCtorEq, Option.some.injEq] at h
  case add => exact ⟨_, by simp [binOp, Op.intArith], fit_den h hC⟩
  case sub => exact ⟨_, by simp [binOp, Op.intArith], fit_den h hC⟩
  case mul => exact ⟨_, by simp [binOp, Op.intArith], fit_den h hC⟩
  case quo =>
    split at h
    · simp at h
      obtain ⟨rfl, rfl⟩ := h
      obtain ⟨h0, h1, h2, h3⟩ := hC
      have hy : y () ≠ 0 := by omega
      have e1 : (x ()).tdiv (y ()) = x () / y () := Int.tdiv_eq_ediv_of_nonneg h0
      have e2 : 0 ≤ x () / y () := Int.ediv_nonneg h0 (by omega)
      have e3 : x () / y () ≤ x () := Int.ediv_le_self _ h0
      refine ⟨_, by simp [binOp, Op.intDiv, hy]; rfl, ?_⟩
      rw [e1, wrap_i64 ⟨by omega, by omega⟩]; rfl
    · simp at h
      obtain ⟨rfl, rfl⟩ := h
      obtain ⟨h0, h1, h2⟩ := hC
      have hy : y () ≠ 0 := by omega
      have e1 : (x ()).tdiv (y ()) = x () / y () := Int.tdiv_eq_ediv_of_nonneg h0
      have e2 : 0 ≤ x () / y () := Int.ediv_nonneg h0 (by omega)
      have e3 : x () / y () ≤ x () := Int.ediv_le_self _ h0
      refine ⟨_, by simp [binOp, Op.intDiv, hy]; rfl, ?_⟩
      rw [e1, IntWalk.u8_in _ ⟨by omega, by omega⟩]; rfl
    · simp at h
      obtain ⟨rfl, rfl⟩ := h
      obtain ⟨h0, h1, h2⟩ := hC
      have hy : y () ≠ 0 := by omega
      have e1 : (x ()).tdiv (y ()) = x () / y () := Int.tdiv_eq_ediv_of_nonneg h0
      have e2 : 0 ≤ x () / y () := Int.ediv_nonneg h0 (by omega)
      have e3 : x () / y () ≤ x () := Int.ediv_le_self _ h0
      refine ⟨_, by simp [binOp, Op.intDiv, hy]; rfl, ?_⟩
      rw [e1, IntWalk.u16_in _ ⟨by omega, by omega⟩]; rfl
    · cases h
  case rem =>
    have key : 0 ≤ x () → 0 < y () → ∃ u, (binOp .rem t (.int k (x ())) (.int k (y ()))).run P w = .ok u w ∧ Den1 ρ (.int k (fun _ => x () % y ())) u := by
      intro h0 h1
      have hy : y () ≠ 0 := by omega
      exact ⟨_, by simp [binOp, Op.intDiv, hy]; rfl, by rw [Int.tmod_eq_emod_of_nonneg h0]; rfl⟩
    split at h <;> simp at h <;> obtain ⟨rfl, rfl⟩ := h <;> exact key hC.1 hC.2.1
  case lss => obtain ⟨rfl, rfl⟩ := (by simpa using h : _ ∧ _); exact ⟨_, by simp [binOp, Op.intCmp]; rfl, by simp [Den1]⟩
  case leq => obtain ⟨rfl, rfl⟩ := (by simpa using h : _ ∧ _); exact ⟨_, by simp [binOp, Op.intCmp]; rfl, by simp [Den1]⟩
  case gtr => obtain ⟨rfl, rfl⟩ := (by simpa using h : _ ∧ _); exact ⟨_, by simp [binOp, Op.intCmp]; rfl, by simp [Den1]⟩
  case geq => obtain ⟨rfl, rfl⟩ := (by simpa using h : _ ∧ _); exact ⟨_, by simp [binOp, Op.intCmp]; rfl, by simp [Den1]⟩
  case eql => obtain ⟨rfl, rfl⟩ := (by simpa using h : _ ∧ _); exact ⟨_, by simp [binOp, Op.intCmp]; rfl, by simp [Den1]; rfl⟩
  case neq => obtain ⟨rfl, rfl⟩ := (by simpa using h : _ ∧ _); exact ⟨_, by simp [binOp, Op.intCmp]; rfl, by simp [Den1]; rfl⟩


theorem str_eq {l m : List Int} (hl : inBytes l) (hm : inBytes m) : ((l.map fun x => UInt8.ofNat x.toNat) == (m.map fun x => UInt8.ofNat x.toNat)) = decide (l = m) := by
  rw [Bool.eq_iff_iff]
  simp only [beq_iff_eq, decide_eq_true_eq]
  constructor
  · intro h
    induction l generalizing m with
    | nil => cases m <;> simp_all
    | cons x r ih =>
      cases m with
      | nil => simp at h
      | cons y q =>
        simp only [List.map_cons, List.cons.injEq] at h
        have hx := hl x (by simp)
        have hy := hm y (by simp)
        have e1 := congrArg UInt8.toNat h.1
        simp only [UInt8.toNat_ofNat'] at e1
        have e2 : x = y := by omega
        rw [e2, ih (fun z hz => hl z (by simp [hz])) (fun z hz => hm z (by simp [hz])) h.2]
  · rintro rfl; rfl

theorem eql_bool {t : TypeId} (hu : P.underlying t = some .bool) (d : Nat) (b c : Bool) : (Op.equalIn (d + 1) t (.bool b) (.bool c)).run P w = .ok (b == c) w := by
  simp [Op.equalIn, run_underlying hu]
theorem eql_ptr1 {t e : TypeId} (hu : P.underlying t = some (.pointer e)) (d : Nat) (c : Option Addr) : (Op.equalIn (d + 1) t (.pointer none) (.pointer c)).run P w = .ok c.isNone w := by
  simp [Op.equalIn, run_underlying hu]
theorem eql_ptr2 {t e : TypeId} (hu : P.underlying t = some (.pointer e)) (d : Nat) (c : Addr) : (Op.equalIn (d + 1) t (.pointer (some c)) (.pointer none)).run P w = .ok false w := by
  simp [Op.equalIn, run_underlying hu]
theorem binop1_sound {op : BinOp} {x y : SV1} {C : U Prop} {v : SV1} (h : binop1 op x y = some (C, v)) (hC : C ()) (t : TypeId) {p q : Value} (hp : Den1 ρ x p) (hq : Den1 ρ y q)
    (hB : ∀ b c, p = .bool b → q = .bool c → P.underlying t = some .bool) (hPt : ∀ b c, p = .pointer b → q = .pointer c → ∃ e, P.underlying t = some (.pointer e)) :
    ∃ u, (binOp op t p q).run P w = .ok u w ∧ Den1 ρ v u := by
  unfold binop1 at h
  split at h
  · rename_i k m hm
    have e1 := ival_den hm hp
    split at h
    · rename_i k' n hn
      have e2 := ival_den hn hq
      subst e1; subst e2
      split at h
      · have key : 0 ≤ m () → 0 ≤ n () → n () ≤ 8 → 8 ≤ k.bits → ∃ u, (binOp .shr t (.int k (m ())) (.int k' (n ()))).run P w = .ok u w ∧ Den1 ρ (.int k (fun _ => m () / 2 ^ (n ()).toNat)) u := by
          intro h0 h1 h2 h3
          refine ⟨.int k (m () / 2 ^ (n ()).toNat), ?_, rfl⟩
          have e3 : ¬ n () < 0 := by omega
          have e4 : min (n ()).toNat k.bits = (n ()).toNat := by omega
          have e5 : (m ()).fdiv (2 ^ (n ()).toNat) = m () / 2 ^ (n ()).toNat := Int.fdiv_eq_ediv_of_nonneg _ (Int.pow_nonneg (by omega))
          simp [binOp, Op.shift, e3, e4, e5]
        split at h <;> simp at h <;> obtain ⟨rfl, rfl⟩ := h <;> exact key hC.1 hC.2.1 hC.2.2 (by decide)
      · split at h
        · rename_i hk
          simp at hk
          subst hk
          exact arith_sound h hC t
        · cases h
    · cases h
  · split at h
    · rename_i b hb
      have e1 := bval_den hb hp
      split at h
      · rename_i c hc
        have e2 := bval_den hc hq
        subst e1; subst e2
        have hu := hB _ _ rfl rfl
        cases op <;> simp at h <;> obtain ⟨rfl, rfl⟩ := h
        · exact ⟨_, by simp only [binOp, Op.equal, Op.maxDepth, Sem.run_bind, eql_bool hu 9999, Result.andThen]; rfl, rfl⟩
        · exact ⟨_, by simp only [binOp, Op.equal, Op.maxDepth, Sem.run_bind, eql_bool hu 9999, Result.andThen]; rfl, rfl⟩
      · cases h
    · split at h
      · rename_i l m
        simp only [Den1] at hp hq
        subst hp; subst hq
        cases op <;> simp at h <;> obtain ⟨rfl, rfl⟩ := h <;> (refine ⟨_, by simp [binOp, Op.stringOp]; rfl, ?_⟩; simp only [Den1, Value.bool.injEq]; rw [str_eq hC.1 hC.2])
      · obtain ⟨b, h1, rfl⟩ := hp
        simp only [Den1] at hq
        subst hq
        obtain ⟨e, hu⟩ := hPt _ _ rfl rfl
        cases op <;> simp at h <;> obtain ⟨rfl, rfl⟩ := h <;> exact ⟨_, by simp only [binOp, Op.equal, Op.maxDepth, Sem.run_bind, eql_ptr2 hu 9999, Result.andThen]; rfl, rfl⟩
      · obtain ⟨b, h1, rfl⟩ := hq
        simp only [Den1] at hp
        subst hp
        obtain ⟨e, hu⟩ := hPt _ _ rfl rfl
        cases op <;> simp at h <;> obtain ⟨rfl, rfl⟩ := h <;> exact ⟨_, by simp only [binOp, Op.equal, Op.maxDepth, Sem.run_bind, eql_ptr1 hu 9999, Result.andThen]; rfl, rfl⟩
      · simp only [Den1] at hp hq
        subst hp; subst hq
        obtain ⟨e, hu⟩ := hPt _ _ rfl rfl
        cases op <;> simp at h <;> obtain ⟨rfl, rfl⟩ := h <;> exact ⟨_, by simp only [binOp, Op.equal, Op.maxDepth, Sem.run_bind, eql_ptr1 hu 9999, Result.andThen]; rfl, rfl⟩
      · cases h

theorem unop_sound {op : UnOp} {x : SV} {p : Plan A} (h : unopP op x = some p) {u : Value} (hu : Den ρ x u) :
    ∃ C v, p = ⟨[], 0, false, fun _ _ => .done C v []⟩ ∧ (C () → ∃ y, (Op.unary op u).run P w = .ok y w ∧ Den ρ v y) := by
  unfold unopP at h
  split at h
  · cases h; simp only [Den, Den2, Den1] at hu; subst hu; exact ⟨_, _, rfl, fun _ => ⟨_, by simp [Op.unary], rfl⟩⟩
  · cases h; simp only [Den, Den2, Den1] at hu; subst hu; exact ⟨_, _, rfl, fun _ => ⟨_, by simp [Op.unary], rfl⟩⟩
  · cases h; simp only [Den, Den2, Den1] at hu; subst hu
    rename_i n
    exact ⟨_, _, rfl, fun hC => ⟨.int .i64 (-n ()), by simp [Op.unary, Op.intArith]; exact wrap_i64 hC, rfl⟩⟩
  · cases h

end Go.Sx
