/-
  Symbolic execution: one operation does what its plan says.
-/
import Derived.Test.YtebhcmgfhkjmcaaSxKa
namespace Go.Sx
set_option linter.all false
set_option linter.unusedVariables false
set_option linter.unusedSimpArgs false
set_option linter.unusedSectionVars false
open Go.RowKit

variable {A : Type} {AI : Abs A} {G : Fr} {s : SS A} {ρ : Ev} {a : Act} {w : World} {P : Program}

/-- Function f does what the contract k says. -/
def ConSound (P : Program) (AI : Abs A) (f : FuncId) (k : Con A) : Prop :=
  (∀ args w, (callFunc f args).run P w = .ok (.enter f args) w) ∧
  (∀ args fresh p, k args fresh = some p → p.w = false → ∀ (H : List (Chunk A)) d C v cs, p.eff (getCs H p.ids) d = .done C v cs → cs = getCs H p.ids) ∧
  ∀ (G : Fr) (s : SS A) (ρ : Ev) (tmps : Array Value) (w : World) (args : List SV) (us : List Value) (fresh : Nat) (p : Plan A) (d : List Bool) (C : U Prop) (v : SV) (cs : List (Chunk A)),
    Holds AI G s ρ tmps w → All2 (Den ρ) args us → k args fresh = some p → (∀ i ∈ p.ids, fresh ≤ i → getC s.H i = .emp) → p.eff (getCs s.H p.ids) d = .done C v cs → C () →
    Calls P f us.toArray w fun e w' => ∃ y ρ', e = .returned y ∧ Holds AI G ⟨s.tm, putCs s.H p.ids cs⟩ ρ' tmps w' ∧ Den ρ' v y ∧ ρ.Le ρ'

structure EnvOk (P : Program) (AI : Abs A) (E : Env A) : Prop where
  ti : TIok P E.ti
  con : ∀ f k, look E.con f = some k → ConSound P AI f k

/-- What is wanted behind an operation. -/
def Then (AI : Abs A) (G : Fr) (s' : SS A) (K : Act → World → Prop) : Prop := ∀ a' w', a'.defers = [] → (∃ ρ', Holds AI G s' ρ' a'.tmps w') → K a' w'

theorem wp_of_run {o : Oper} (x : Go.Sem Value) (hx : execOp a.eval o = (do pure (.value (← x)))) (hdf : a.defers = []) {H' : List (Chunk A)} {v : SV} (hd : Done AI G P s a w ρ x H' v) (hdst : ∀ t, o.dst = some t → t < G.size)
    {K : Act → World → Prop} {Q : Exit → Act → World → Prop} (hK : Then AI G ⟨putT s.tm o.dst v, H'⟩ K) : o.wp P a w K Q := by
  obtain ⟨y, ρ', w', h1, h2, h3, h4⟩ := hd
  unfold Oper.wp
  rw [hx, Sem.run_bind, h1]
  simp only [Result.andThen, Sem.run_pure, Oper.upon_value]
  exact hK _ _ (by rw [Act.put_defers', hdf]) ⟨ρ', (h2.put hdst h3)⟩

theorem Done.pure_ (h : Holds AI G s ρ a.tmps w) {x : Go.Sem Value} {C : U Prop} {v : SV} {p : Plan A} (hp : p = ⟨[], 0, false, fun _ _ => .done C v []⟩) {d : List Bool} {C' : U Prop} {v' : SV} {cs : List (Chunk A)} (he : p.eff (getCs s.H p.ids) d = .done C' v' cs) (hC : C' ())
    (hx : C () → ∃ y, x.run P w = .ok y w ∧ Den ρ v y) : Done AI G P s a w ρ x (putCs s.H p.ids cs) v' := by
  subst hp
  simp at he
  obtain ⟨rfl, rfl, rfl⟩ := he
  obtain ⟨y, h1, h2⟩ := hx hC
  exact ⟨y, ρ, w, h1, h, h2, .refl _⟩

theorem optDen (h : Holds AI G s ρ a.tmps w) {x : Option Operand} {v : Option SV} (hx : evalOpt s.tm x = some v) : OptDen ρ v (x.map a.eval) := by
  cases x with
  | none => cases hx; trivial
  | some x =>
    simp only [evalOpt] at hx
    split at hx
    · rename_i u hu; cases hx; exact h.eval hu
    · cases hx

theorem partsDen (h : Holds AI G s ρ a.tmps w) : ∀ {l : List (Nat × Operand)} {ps : List (Nat × SV)}, argParts s.tm l = some ps → PartsDen ρ ps (l.map fun p => (p.1, a.eval p.2))
  | [], _, hp => by simp [argParts] at hp; subst hp; exact .nil
  | (i, x) :: r, _, hp => by
    simp only [argParts] at hp
    split at hp
    · rename_i v hv
      split at hp
      · rename_i l hl
        cases hp
        exact .cons ⟨rfl, h.eval hv⟩ (partsDen h hl)
      · cases hp
    · cases hp

theorem binOk_den {i : TI} {t : TypeId} (hT : TIfact P t i) {x : SV} (h : binOk i x = true) {u : Value} (hu : Den ρ x u) :
    (∀ b, u = .bool b → P.underlying t = some .bool) ∧ (∀ b, u = .pointer b → ∃ e, P.underlying t = some (.pointer e)) ∧ u ≠ .nilIface ∧ ∀ c, u ≠ .agg c := by
  have hk := hT.kind
  unfold binOk at h
  split at h
  · cases hu; simp
  · cases hu; simp
  · cases hu; simp
  · split at h
    · rename_i hi; rw [hi] at hk; cases hu; exact ⟨fun _ _ => hk, by simp, by simp, by simp⟩
    · cases h
  · split at h
    · rename_i hi; rw [hi] at hk; cases hu; exact ⟨fun _ _ => hk, by simp, by simp, by simp⟩
    · cases h
  · split at h
    · rename_i hi; rw [hi] at hk; obtain ⟨b, _, rfl⟩ := hu; exact ⟨by simp, fun _ _ => ⟨_, hk⟩, by simp, by simp⟩
    · cases h
  · split at h
    · rename_i hi; rw [hi] at hk; cases hu; exact ⟨by simp, fun _ _ => ⟨_, hk⟩, by simp, by simp⟩
    · cases h
  · cases h

theorem PO.of_plan {q : Option (Plan A)} {p : Plan A} (h : PO.of q = .plan p) : q = some p := by
  cases q with
  | none => cases h
  | some p' => cases h; rfl

theorem szOf_run {E : Env A} (hE : EnvOk P AI E) {k : TK} {z : Nat} (hz : szOf E.ti k = some z) : ∀ e, elemOfK k = some e → (Go.sizeOf e).run P w = .ok z w := by
  intro e he
  cases k <;> simp [elemOfK] at he <;> subst he <;> simp only [szOf] at hz <;> split at hz <;> simp at hz <;> subst hz <;> rename_i i hi <;> exact (hE.ti _ i hi).sizeOf w

end Go.Sx
