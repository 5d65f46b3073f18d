/-
  Part Eng5 of the proof.
-/
import Derived.Test.YtcaoldilmnpjoaaGreatEng3
import Derived.Sort.Grow
import Derived.Sort.EncStr
namespace Go.Sx
set_option linter.all false
open Go.RowKit Go.Proofs Go.Sort
variable {A : Type} {AI : Abs A} {P : Program}
abbrev u8s (l : List Int) : List UInt8 := l.map fun x => x.toNat.toUInt8
def ey (F : List Int → Bool) : Con A := fun args _ => match args with
 | [.val (.one (.str l))] => some ⟨[], 0, false, fun _ _ => .done tt (one (.sb (fun _ => F (l ())))) []⟩
 | _ => none
theorem qv {F : List Int → Bool} {f : FuncId} (enf : Enters P f) (hF : ∀ (l : List Int) (w : World), Calls P f #[.string ⟨(u8s l).toArray⟩] w fun e w' => e = .returned (.bool (F l)) ∧ w = w') : aE P AI f (ey F) := by
 refine ⟨enf, fun args fresh p hp hw H d C v cs he => ?_, fun G s ρ tmps w args us fresh p d C v cs h hargs hp hfr he hC => ?_⟩
 · unfold ey at hp
   split at hp
   · cases hp
     simp at he
     simp [aD, he]
   · cases hp
 · unfold ey at hp
   split at hp <;> (try (cases hp; done))
   cases hp
   simp at he
   obtain ⟨rfl, rfl, rfl⟩ := he
   cases hargs with
   | cons ha hnil =>
   cases hnil
   have ha : _ = Value.string _ := ha
   subst ha
   refine (hF _ w).mono ?_
   rintro e w' ⟨rfl, rfl⟩
   exact ⟨_, ρ, rfl, h, rfl, Ev.Le.refl _⟩
end Go.Sx
