/-
  Symbolic execution: a function that looks at an open object (all chunks are of a known shape, and stay as they are).
-/
import Derived.Test.YtebhcmgfhkjmcaaSxTac
namespace Go.Sx
set_option linter.all false
set_option linter.unusedVariables false
set_option linter.unusedSimpArgs false
set_option linter.unusedSectionVars false
open Go.RowKit

variable {A : Type} {AI : Abs A} {G : Fr} {s : SS A} {ρ : Ev} {a : Act} {w : World} {P : Program}

structure ShapeSpec (A : Type) where
  n : Nat
  X : Type
  un : List SV → List (Chunk A) → Option (U X)
  pre : X → Prop
  res : U X → SV

def ShapeSpec.con (k : ShapeSpec A) : Con A := fun args fresh => match beqN fresh k.n with
  | true => some ⟨upTo 0 k.n, 0, false, fun cs _ => (match args.all (belV k.n) && cs.all (belC k.n) with
    | true => (match k.un args cs with
      | some x => .done (fun _ => k.pre (x ())) (k.res x) cs
      | none => .fail)
    | false => .fail)⟩
  | false => none

theorem length_getCs_upTo {H : List (Chunk A)} : ∀ {n i : Nat}, (getCs H (upTo i n)).length = n
  | 0, i => rfl
  | n + 1, i => by simp only [upTo, getCs, List.length_cons, length_getCs_upTo]

theorem ShapeSpec.sound [SubA A] {E : Env A} (hE : EnvOk P AI E) (hm : P.follows .mixedOrders = true) {f : FuncId} {fn : Func} {c : Code} (hen : Enters P f) (hf : P.funcs[f]? = some fn) (hb : fn.body = some c) (hok : codeOk fn.ntmps c = true) {k : ShapeSpec A}
    (h : ∀ args cs x, k.un args cs = some x → k.pre (x ()) → cs.length = k.n → args.length ≤ fn.ntmps ∧ svc E k.n c ⟨argT 0 args, cs⟩ (finP E.ti k.n fn.results.toList (k.res x) cs)) : ConSound P AI f k.con := by
  refine ⟨hen, fun args fresh p hp _ H d C v cs he => ?_, fun G s ρ tmps w args us fresh p d C v cs hh hargs hp hfr he hC => ?_⟩
  · unfold ShapeSpec.con at hp
    split at hp <;> cases hp
    dsimp only at he
    split at he
    · split at he
      · simp at he; exact he.2.2.symm
      · cases he
    · cases he
  · unfold ShapeSpec.con at hp
    split at hp <;> cases hp
    dsimp only at he hfr ⊢
    split at he
    · rename_i hbel
      obtain ⟨hb1, hb2⟩ := Bool.and_eq_true_iff.1 hbel
      split at he
      · rename_i x hx
        simp at he
        obtain ⟨rfl, rfl, rfl⟩ := he
        obtain ⟨hl, hs⟩ := h _ _ x hx hC length_getCs_upTo
        have hgc : ∀ j, j < k.n → getC (getCs s.H (upTo 0 k.n)) j = getC s.H j := fun j hj => by rw [getC_getCs hj, Nat.zero_add]
        have hbey : ∀ j, k.n ≤ j → getC (getCs s.H (upTo 0 k.n)) j = .emp := fun j hj => getC_beyond (by rw [length_getCs_upTo]; exact hj)
        refine (frame_all hh (m := k.n) (H0 := getCs s.H (upTo 0 k.n)) (H1 := getCs s.H (upTo 0 k.n)) (fresh := k.n) (v := k.res x) (Nat.le_refl _) (fun j => ?_) (fun j hj => ?_) (fun j h1 h2 => by omega) (fun j hj => hbey j hj)
          (H' := putCs s.H (upTo 0 k.n) (getCs s.H (upTo 0 k.n))) (fun j hj => ?_) (fun j hj => ?_) fun Gc hn0 hsz h0 => ?_)
        · split
          · rename_i hj; exact hgc j hj
          · rename_i hj; exact hbey j (by omega)
        · have h1 : (getCs s.H (upTo 0 k.n))[j]? = some (getC s.H j) := by
            have h2 := hgc j hj
            unfold getC at h2
            rw [nth_eq] at h2
            have h3 : j < (getCs s.H (upTo 0 k.n)).length := by rw [length_getCs_upTo]; exact hj
            rw [List.getElem?_eq_getElem h3] at h2 ⊢
            exact congrArg some h2
          exact List.all_eq_true.1 hb2 _ (List.mem_of_getElem? h1)
        · rw [putCs_self _ _ _ (fun _ => rfl) j, hgc j hj]
        · exact putCs_self _ _ _ (fun _ => rfl) j
        · exact body_ok hE hm hf hb hok hl hs hn0 hsz h0 (belVs_den hargs hb1)
      · cases he
    · cases he

end Go.Sx
