/-
  Layer 47: what each call of SessionCalls answers (plain).
-/
import Derived.Test.YtldabjgegpmmiaaSrl
import Derived.Test.YtldabjgegpmmiaaRgw
import Derived.Test.YtldabjgegpmmiaaRnw
import Derived.Test.YtldabjgegpmmiaaSmc
namespace Go.Proofs.Ytldabjgegpmmiaa
set_option linter.all false
set_option linter.unusedVariables false
set_option linter.unusedSimpArgs false
set_option linter.unusedSectionVars false
open Go.RowKit Go.Sx

theorem vrf_eq (R : RE) (m : Msg) (n : Int) : gRef R m n = vrf R.mine m.1 m.2.1 n R := by
  unfold gRef rrfsF
  split <;> rfl
theorem vls_eq (R : RE) (m : Msg) (n : Int) : gRef (rlosF R m).2 m n = vls R m.1 m.2.1 n := by
  rw [vrf_eq]
  unfold rlosF vls
  by_cases h : R.st = 4
  · rw [if_pos h, if_pos h]
  · rw [if_neg h, if_neg h]
theorem gtk_eq (R : RE) (s p k : Int) (g : Seg) (o r : Int) (d : Bool) : gtk R s p k g o r d = vtk R s p k g o r d := by
  rfl
theorem gF2_eq (R : RE) (h : R.st = 2) (l : List Msg) (n : Int) : gF2 R l n = gFin R l n := by
  unfold gFin; rw [if_pos h]
theorem gtl_eq (R : RE) (p k : Int) (g : Seg) (o r : Int) (d : Bool) : gtl R p k g o r d = vtk R 2 p k g o r d := by
  rw [← gtk_eq]
  unfold gtl gtk
  rw [gF2_eq _ rfl]
theorem g1_eq (R : RE) (m : Msg) : g1 R m = v1 R m := by
  unfold g1 v1 g2 v2
  rw [vrf_eq, vrf_eq, gtl_eq, gtk_eq]
  have e : ∀ n : Int, (([], 0, ()), (rlosF R m).2) = (if R.st = 4 then vno { R with peer := m.2.1 } 0 else vno { R with peer := m.2.1, st := 3 } 0 : TRI) := by
    intro _; unfold rlosF; split <;> rfl
  rw [e 0]
theorem inB_f {n a b : Int} : inB n a b = false ↔ n < a ∨ b < n := by
  unfold inB
  rw [Bool.and_eq_false_iff, decide_eq_false_iff_not, decide_eq_false_iff_not]
  omega
theorem or_ite {α : Type} {p q c : Prop} [Decidable p] [Decidable q] [Decidable c] (h : c ↔ p ∨ q) (x y : α) : (if c then x else y) = if p then x else if q then x else y := by
  by_cases hp : p
  · rw [if_pos hp, if_pos (h.2 (.inl hp))]
  · rw [if_neg hp]
    by_cases hq : q
    · rw [if_pos hq, if_pos (h.2 (.inr hq))]
    · rw [if_neg hq, if_neg (fun hc => (h.1 hc).elim hp hq)]
theorem rrcG_eq (R : RE) (m : Msg) : rrcG R m = rrcF R m := by
  unfold rrcG rrcF
  rw [or_ite inB_f, or_ite inB_f, or_ite inB_f, g1_eq, vls_eq]
theorem Rel.rcG {E : Edd} {R : RE} (h : Rel E R) {m : Msg} (hg : inBytes m.2.2.2.1.2.1) (hl : m.2.2.2.1.2.1.length ≤ 1048576) : Agr (ercF E m) (rrcG R m) := by
  rw [rrcG_eq]; exact h.rc hg hl
/-! ### the messages are short lists of bytes -/
abbrev GL (l : List Msg) : Prop := l.length ≤ 1000 ∧ ∀ a ∈ l, inBytes a.2.2.2.1.2.1
theorem gL0 : GL [] := ⟨Nat.zero_le _, fun x hx => by cases hx⟩
theorem gL1 {a : Msg} (h : inBytes a.2.2.2.1.2.1) : GL [a] := ⟨by show (1 : Nat) ≤ 1000; decide, List.forall_mem_cons.2 ⟨h, fun x hx => by cases hx⟩⟩
theorem gL2 {a b : Msg} (h : inBytes a.2.2.2.1.2.1) (k : inBytes b.2.2.2.1.2.1) : GL [a, b] := ⟨by show (2 : Nat) ≤ 1000; decide, List.forall_mem_cons.2 ⟨h, List.forall_mem_cons.2 ⟨k, fun x hx => by cases hx⟩⟩⟩
theorem nob : inBytes [] := fun x hx => by cases hx
theorem Rel.tkb {E : Edd} {R : RE} (h : Rel E R) (m : Int) : GL (rtkF R m).1.1 := by
  have hb : inBytes (rdM R (refTick R.w m).2.1).2.2.2.1.2.1 := fun x hx => h.by_ x (tick_seg m x hx)
  unfold rtkF
  repeat' split
  all_goals first | exact gL0 | exact gL1 nob | exact gL1 hb | exact gL2 hb nob
theorem ite_Q {α : Type} {P : α → Prop} {c : Prop} [Decidable c] {x y : α} (h1 : P x) (h2 : P y) : P (if c then x else y) := by
  split
  · exact h1
  · exact h2
theorem rcb (R : RE) (m : Msg) : GL (rrcG R m).1.1 := by
  rw [rrcG_eq]
  show (fun z : TRI => GL z.1.1) (rrcF R m)
  unfold rrcF v1 vls vrf v2 vtk vfi vno
  repeat' (refine ite_Q (P := fun z : TRI => GL z.1.1) ?_ ?_)
  all_goals first | exact gL0 | exact gL1 nob
/-! ### one call -/
abbrev actE : Ty := .pair (.int .i64) (.pair (.int .i64) (.pair .bytes msgE))
abbrev TAct := Int × Int × List Int × Msg
abbrev actZ : TAct := (0, 0, [], msgZ)
abbrev elA (L : List TAct) (i : Int) : TAct := L.getD i.toNat actZ
theorem elA_mem {L : List TAct} {i : Int} (h0 : 0 ≤ i) (hi : i < L.length) : elA L i ∈ L := by
  unfold elA
  rw [List.getD_eq_getElem?_getD, List.getElem?_eq_getElem (by omega)]
  exact List.getElem_mem _
structure OkA (a : TAct) : Prop where
  d : inBytes a.2.2.1
  dl : a.2.2.1.length ≤ 100
  s : inBytes a.2.2.2.2.2.2.1.2.1
  sl : a.2.2.2.2.2.2.1.2.1.length ≤ 60
structure Ans (E : Edd) (R : RE) (E' : Edd) (R' : RE) : Prop where
  rel : Rel E' R'
  rp : erpF E' = (rrpF R').1
  st : E'.st = R'.st
theorem Ans.of {E : Edd} {R : RE} {E' : Edd} {R' : RE} (h : Rel E' R') : Ans E R E' R' := ⟨h, h.rp, h.st⟩
theorem read_byt {S : Sto} (h : StO S) (m : Int) : inBytes (readF S m).1.1 := by
  unfold readF
  split
  · intro x hx; cases hx
  · intro x hx
    have hx : x ∈ rdB S.kept S.off (rdN S m).toNat := hx
    obtain ⟨i, hi, e⟩ := List.getElem_of_mem hx
    have hg := rdB_get (rdN S m).toNat S.kept S.off i (by rw [rdB_len] at hi; exact hi)
    rw [List.getD_eq_getElem?_getD, List.getElem?_eq_getElem hi] at hg
    have hg : (rdB S.kept S.off (rdN S m).toNat)[i] = (getI S.kept (S.off + i)).getD 0 := hg
    rw [← e, hg]
    cases hv : getI S.kept (S.off + i) with
    | none => show 0 ≤ (0 : Int) ∧ (0 : Int) < 256; omega
    | some v => exact h.byt _ (getI_mem hv)
theorem Rel.rdb {E : Edd} {R : RE} (h : Rel E R) (m : Int) : inBytes (rqdF R m).1.1 := by
  have e : ((rreadF R.s m).2.1 : List Int) = (readF E.r.sto m).1.1 := by rw [h.s, read_cmp h.so m]
  have hb : inBytes (rreadF R.s m).2.1 := by rw [e]; exact read_byt h.so m
  show (fun z : TLB × RE => inBytes z.1.1) (rqdF R m)
  unfold rqdF rqE rqN rqF rqS
  repeat' (refine ite_Q (P := fun z : TLB × RE => inBytes z.1.1) ?_ ?_)
  all_goals exact hb
structure All (E : Edd) (R : RE) (a : TAct) : Prop where
  a0 : (connF E).1 = (rconF R).1
  r0 : Rel (connF E).2 (rconF R).2
  a1 : (ewrF E a.2.2.1).1 = (rwrF R a.2.2.1).1
  r1 : Rel (ewrF E a.2.2.1).2 (rwrF R a.2.2.1).2
  a2 : (eclF E).1 = (rcloF R).1
  r2 : Rel (eclF E).2 (rcloF R).2
  a3 : (erdF E a.2.1).1 = (rqdF R a.2.1).1
  b3 : inBytes (rqdF R a.2.1).1.1
  r3 : Rel (erdF E a.2.1).2 (rqdF R a.2.1).2
  a4 : (etkF E a.2.1).1 = (rtkF R a.2.1).1
  b4 : GL (rtkF R a.2.1).1.1
  r4 : Rel (etkF E a.2.1).2 (rtkF R a.2.1).2
  a5 : (ercF E a.2.2.2).1 = (rrcG R a.2.2.2).1
  b5 : GL (rrcG R a.2.2.2).1.1
  r5 : Rel (ercF E a.2.2.2).2 (rrcG R a.2.2.2).2
theorem Rel.all {E : Edd} {R : RE} (h : Rel E R) {a : TAct} (ha : OkA a) : All E R a := by
  have h0 := h.conn
  have h1 := h.wr ha.d
  have h2 := h.cl
  have h3 := h.rd a.2.1
  have h4 := h.tk a.2.1
  have h5 := h.rcG ha.s (Nat.le_trans ha.sl (by decide))
  exact ⟨h0.1, h0.2, h1.1, h1.2, h2.1, h2.2, h3.1, h.rdb _, h3.2, h4.1, h.tkb _, h4.2, h5.1, rcb _ _, h5.2⟩
end Go.Proofs.Ytldabjgegpmmiaa
