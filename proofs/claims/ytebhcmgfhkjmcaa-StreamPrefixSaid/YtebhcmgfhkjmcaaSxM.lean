/-
  Symbolic execution: all operations.
-/
import Derived.Test.YtebhcmgfhkjmcaaSxL
namespace Go.Sx
set_option linter.all false
set_option linter.unusedVariables false
set_option linter.unusedSimpArgs false
set_option linter.unusedSectionVars false
open Go.RowKit

variable {A : Type} {AI : Abs A} {G : Fr} {s : SS A} {ρ : Ev} {a : Act} {w : World} {P : Program}

theorem exec_call_builtin {o : Oper} {b : Builtin} {xs : Array Operand} {ats : Array TypeId} (ho : o.op = .call { callee := .builtin b, args := xs, argTypes := ats }) :
    execOp a.eval o = builtin b ats o.type (xs.map fun | .const _ => true | _ => false) (xs.map a.eval) := by
  obtain ⟨dst, op, ty, pos, after, guard⟩ := o
  dsimp only at ho
  subst ho
  rfl

theorem map_eval_toArray (xs : Array Operand) : xs.map a.eval = (xs.toList.map a.eval).toArray := by apply Array.ext'; simp
theorem map_parts_toArray (xs : Array (Nat × Operand)) : xs.map (fun (i, x) => (i, a.eval x)) = (xs.toList.map fun p => (p.1, a.eval p.2)).toArray := by apply Array.ext'; simp

theorem All2.one {α β : Type} {R : α → β → Prop} {x : α} {us : List β} (h : All2 R [x] us) : ∃ a, us = [a] ∧ R x a := by
  cases h with | cons h1 h => cases h; exact ⟨_, rfl, h1⟩

theorem sop_sound {E : Env A} (hE : EnvOk P AI E) (h : Holds AI G s ρ a.tmps w) (hdf : a.defers = []) {o : Oper} {fresh : Nat} {p : Plan A} (hp : sop E s.tm fresh o.op = .plan p) (hfr : ∀ i ∈ p.ids, fresh ≤ i → getC s.H i = .emp) {d : List Bool} {C : U Prop} {v : SV} {cs : List (Chunk A)}
    (he : p.eff (getCs s.H p.ids) d = .done C v cs) (hC : C ()) (hdst : ∀ t, o.dst = some t → t < G.size) {K : Act → World → Prop} {Q : Exit → Act → World → Prop}
    (hK : Then AI G ⟨putT s.tm o.dst v, putCs s.H p.ids cs⟩ K) : o.wp P a w K Q := by
  have unit : ∀ (x : Go.Sem Unit) (hx : execOp a.eval o = (do x; pure .skip)) (ρ2 : Ev) (w' : World) (hr : x.run P w = .ok () w') (h2 : Holds AI G ⟨s.tm, putCs s.H p.ids cs⟩ ρ2 a.tmps w') (hv : v = one .any), o.wp P a w K Q := by
    intro x hx ρ2 w' hr h2 hv
    unfold Oper.wp
    rw [hx, Sem.run_bind, hr]
    simp only [Result.andThen, Sem.run_pure, Oper.upon_skip]
    subst hv
    exact hK _ _ (by rw [Act.put_defers', hdf]) ⟨ρ2, h2.put hdst (by trivial)⟩
  cases hop : o.op <;> rw [hop] at hp <;> simp only [sop, reduceCtorEq] at hp
  case move x =>
    split at hp <;> (try cases hp)
    rename_i u hu
    refine wp_of_run (pure (a.eval x)) ?_ hdf (Done.pure_ h rfl he hC fun _ => ⟨_, rfl, h.eval hu⟩) hdst hK
    unfold execOp; rw [hop]; rfl
  case assign x =>
    split at hp <;> (try cases hp)
    rename_i u hu
    refine wp_of_run (pure (a.eval x)) ?_ hdf (Done.pure_ h rfl he hC fun _ => ⟨_, rfl, h.eval hu⟩) hdst hK
    unfold execOp; rw [hop]; rfl
  case pick c x y =>
    split at hp
    · rename_i hc
      split at hp <;> (try cases hp)
      rename_i u hu
      have e1 : a.eval c = .bool true := h.eval hc
      refine wp_of_run (do pure (if ← asBool (a.eval c) then a.eval x else a.eval y)) ?_ hdf (Done.pure_ h rfl he hC fun _ => ⟨a.eval x, by simp [e1, asBool], h.eval hu⟩) hdst hK
      unfold execOp; rw [hop]; simp
    · rename_i hc
      split at hp <;> (try cases hp)
      rename_i u hu
      have e1 : a.eval c = .bool false := h.eval hc
      refine wp_of_run (do pure (if ← asBool (a.eval c) then a.eval x else a.eval y)) ?_ hdf (Done.pure_ h rfl he hC fun _ => ⟨a.eval y, by simp [e1, asBool], h.eval hu⟩) hdst hK
      unfold execOp; rw [hop]; simp
    · split at hp <;> cases hp
    · cases hp
  case load t x =>
    split at hp <;> (try cases hp)
    rename_i i hi
    split at hp <;> (try cases hp)
    rename_i u hu
    obtain ⟨h1, h2⟩ := load_sound (hE.ti t i hi) h (h.eval hu) (PO.of_plan hp) he hC
    refine wp_of_run (Instr.loadAt t (a.eval x)) ?_ hdf (Done.looks h h1 h2) hdst hK
    unfold execOp; rw [hop]
  case store t x y =>
    split at hp <;> (try cases hp)
    rename_i i hi
    split at hp <;> (try cases hp)
    rename_i u hu
    split at hp <;> (try cases hp)
    rename_i u' hu'
    obtain ⟨ρ2, w', h1, h2, h3⟩ := store_sound (hE.ti t i hi) h (h.eval hu) (h.eval hu') (PO.of_plan hp) he hC
    refine unit (Instr.storeAt t (a.eval x) (a.eval y)) ?_ ρ2 w' h1 h2 h3
    unfold execOp; rw [hop]
  case nilCheck x =>
    have key : ∀ q, a.eval x = .pointer (some q) → execOp a.eval o = (do pure (.value (← (pure (.pointer (some q)) : Go.Sem Value)))) := by
      intro q hq
      unfold execOp; rw [hop]; simp only [hq]; rfl
    split at hp
    · rename_i i off hx
      have hd := h.eval hx
      obtain ⟨b, h1, h2⟩ := id hd
      exact wp_of_run _ (key _ h2) hdf (Done.pure_ h (PO.of_plan hp |> Option.some.inj |>.symm) he hC fun _ => ⟨_, rfl, h2 ▸ hd⟩) hdst hK
    · rename_i hx
      have hd := h.eval hx
      obtain ⟨b, o', h2, _⟩ := id hd
      exact wp_of_run _ (key _ h2) hdf (Done.pure_ h (PO.of_plan hp |> Option.some.inj |>.symm) he hC fun _ => ⟨_, rfl, h2 ▸ hd⟩) hdst hK
    · rename_i hx
      have hd := h.eval hx
      obtain ⟨q, h2, _⟩ := id hd
      exact wp_of_run _ (key _ h2) hdf (Done.pure_ h (PO.of_plan hp |> Option.some.inj |>.symm) he hC fun _ => ⟨_, rfl, h2 ▸ hd⟩) hdst hK
    · cases hp
  case binOp op t x y yt =>
    split at hp <;> (try cases hp)
    rename_i i hi
    split at hp <;> (try cases hp)
    rename_i u hu
    split at hp <;> (try cases hp)
    rename_i u' hu'
    split at hp
    · rename_i yy hny
      refine wp_of_run (do eqGuard op t x y (a.eval x) (a.eval y); binOp op t (a.eval x) (a.eval y)) ?_ hdf (Done.pure_ h (PO.of_plan hp |> Option.some.inj |>.symm) he hC fun _ => ?_) hdst hK
      · unfold execOp; rw [hop]
      · exact nilCmp_sound (hE.ti t i hi) hny x y yt (h.eval hu) (h.eval hu')
    split at hp <;> (try cases hp)
    rename_i hb
    obtain ⟨hb1, hb2⟩ := Bool.and_eq_true_iff.1 hb
    obtain ⟨k1, k2, k3, k4⟩ := binOk_den (hE.ti t i hi) hb1 (h.eval hu)
    have hp := PO.of_plan hp
    unfold binopP at hp
    split at hp <;> (try cases hp)
    rename_i sx sy
    split at hp <;> (try cases hp)
    rename_i C' v' hbo
    refine wp_of_run (do eqGuard op t x y (a.eval x) (a.eval y); binOp op t (a.eval x) (a.eval y)) ?_ hdf (Done.pure_ h rfl he hC fun hC' => ?_) hdst hK
    · unfold execOp; rw [hop]
    · obtain ⟨r, hr1, hr2⟩ := binop1_sound (w := w) (P := P) hbo hC' t (h.eval hu) (h.eval hu') (fun b _ hb _ => k1 b hb) (fun b _ hb _ => k2 b hb)
      exact ⟨r, by rw [Sem.run_bind, run_eqGuard _ _ _ _ k3 k4]; exact hr1, hr2⟩
  case unOp op t x =>
    split at hp <;> (try cases hp)
    rename_i u hu
    obtain ⟨C', v', h1, h2⟩ := unop_sound (w := w) (P := P) (PO.of_plan hp) (h.eval hu)
    refine wp_of_run (Op.unary op (a.eval x)) ?_ hdf (Done.pure_ h h1 he hC h2) hdst hK
    unfold execOp; rw [hop]
  case convert src dst x =>
    split at hp <;> (try cases hp)
    rename_i i hi
    split at hp <;> (try cases hp)
    rename_i j hj
    split at hp <;> (try cases hp)
    rename_i u hu
    split at hp <;> (try cases hp)
    rename_i hs
    have hd := h.eval hu
    have hS := hE.ti src i hi
    have hk := hS.kind
    split at hp
    · rename_i p' hcn
      cases PO.of_plan hp
      split at hcn <;> (try cases hcn)
      rename_i hsd
      have hsd := beq_eq hsd
      subst hsd
      refine wp_of_run (convert src src (a.eval x)) ?_ hdf (convRow_sound (hE.ti src j hj) h hd hcn he hC) hdst hK
      unfold execOp; rw [hop]
    rename_i hcr0
    clear hcr0
    split at hp
    · rename_i p' hcn
      cases PO.of_plan hp
      have hstr : P.underlying src = some .string := by
        rw [srcOk_str hcn hs] at hk; exact hk
      refine wp_of_run (convert src dst (a.eval x)) ?_ hdf (convNew_sound hstr (hE.ti dst j hj) h hd hcn he hC) hdst hK
      unfold execOp; rw [hop]
    rename_i hcn0
    clear hcn0
    obtain ⟨h1, h2⟩ := convert_sound hS (hE.ti dst j hj) h hd (PO.of_plan hp) he hC
      (by
        rintro ⟨ao, l, c, e⟩
        unfold srcOk at hs
        split at hs
        · rw [show a.eval x = _ from hd] at e; cases e
        · rw [show a.eval x = _ from hd] at e; cases e
        · rw [show a.eval x = _ from hd] at e; cases e
        · rename_i hik; rw [hik] at hk; obtain ⟨hu1, g, hg, hg2⟩ := hk; obtain ⟨_, _, _, h8, _⟩ := hg2 _ rfl; exact ⟨_, hu1, h8 _ rfl⟩
        · rename_i hik; rw [hik] at hk; obtain ⟨hu1, g, hg, hg2⟩ := hk; obtain ⟨_, _, _, h8, _⟩ := hg2 _ rfl; exact ⟨_, hu1, h8 _ rfl⟩
        · rename_i hik; rw [hik] at hk; obtain ⟨hu1, g, hg, hg2⟩ := hk; obtain ⟨_, _, _, h8, _⟩ := hg2 _ rfl; exact ⟨_, hu1, h8 _ rfl⟩
        · rename_i hik; rw [hik] at hk; obtain ⟨hu1, g, hg, hg2⟩ := hk; obtain ⟨_, _, _, h8, _⟩ := hg2 _ rfl; exact ⟨_, hu1, h8 _ rfl⟩
        · cases hs)
      (by
        rintro ⟨k, n, e⟩
        unfold srcOk at hs
        split at hs
        · rename_i hik; rw [hik] at hk; exact ⟨_, hk⟩
        · rename_i hik; rw [hik] at hk; exact ⟨_, hk⟩
        · rw [show a.eval x = _ from hd] at e; cases e
        · obtain ⟨ao, cap, e2, _⟩ := hd; rw [e2] at e; cases e
        · rw [show a.eval x = _ from hd] at e; cases e
        · obtain ⟨⟨_, _, _, e2⟩, _⟩ := hd; rw [e2] at e; cases e
        · obtain ⟨⟨_, _, _, e2⟩, _⟩ := hd; rw [e2] at e; cases e
        · cases hs)
      (by
        rintro ⟨l, e⟩
        unfold srcOk at hs
        split at hs
        · rw [show a.eval x = _ from hd] at e; cases e
        · rw [show a.eval x = _ from hd] at e; cases e
        · rename_i hik; rw [hik] at hk; exact hk
        · obtain ⟨ao, cap, e2, _⟩ := hd; rw [e2] at e; cases e
        · rw [show a.eval x = _ from hd] at e; cases e
        · obtain ⟨⟨_, _, _, e2⟩, _⟩ := hd; rw [e2] at e; cases e
        · obtain ⟨⟨_, _, _, e2⟩, _⟩ := hd; rw [e2] at e; cases e
        · cases hs)
    refine wp_of_run (convert src dst (a.eval x)) ?_ hdf (Done.looks h h1 h2) hdst hK
    unfold execOp; rw [hop]
  case slice t x lo hi mx =>
    split at hp <;> (try cases hp)
    rename_i i hi'
    split at hp <;> (try cases hp)
    rename_i u hu
    split at hp <;> (try cases hp)
    rename_i l hl
    split at hp <;> (try cases hp)
    rename_i l2 hl2
    split at hp <;> (try cases hp)
    rename_i m hm
    split at hp
    rotate_left
    · refine wp_of_run (Instr.sliceAt t (a.eval x) (lo.map a.eval) (hi.map a.eval) (mx.map a.eval)) ?_ hdf (sliceZ_sound (hE.ti t i hi') h (h.eval hu) (optDen h hl) (optDen h hl2) (optDen h hm) (PO.of_plan hp) he) hdst hK
      unfold execOp; rw [hop]
    split at hp <;> (try cases hp)
    rename_i z hzz
    have hz := szOf_run (w := w) hE hzz
    obtain ⟨h1, h2⟩ := slice_sound (hE.ti t i hi') h hz (h.eval hu) (optDen h hl) (optDen h hl2) (optDen h hm) (PO.of_plan hp) he hC
    refine wp_of_run (Instr.sliceAt t (a.eval x) (lo.map a.eval) (hi.map a.eval) (mx.map a.eval)) ?_ hdf (Done.looks h h1 h2) hdst hK
    unfold execOp; rw [hop]
  case fieldAddr t x f =>
    split at hp <;> (try cases hp)
    rename_i i hi
    split at hp <;> (try cases hp)
    rename_i u hu
    obtain ⟨C', v', h1, h2⟩ := field_sound (w := w) (hE.ti t i hi) (h.eval hu) (PO.of_plan hp)
    refine wp_of_run (Instr.fieldAt t (a.eval x) f) ?_ hdf (Done.pure_ h h1 he hC h2) hdst hK
    unfold execOp; rw [hop]
  case indexAddr t x ix =>
    split at hp <;> (try cases hp)
    rename_i i hi
    split at hp <;> (try cases hp)
    rename_i u hu
    split at hp <;> (try cases hp)
    rename_i u' hu'
    split at hp <;> (try cases hp)
    rename_i z hzz
    have hz := szOf_run (w := w) hE hzz
    obtain ⟨h1, h2⟩ := index_sound (hE.ti t i hi) h hz (h.eval hu) (h.eval hu') (PO.of_plan hp) he hC
    refine wp_of_run (Instr.indexAt t (a.eval x) (a.eval ix)) ?_ hdf (Done.looks h h1 h2) hdst hK
    unfold execOp; rw [hop]
  case extract x n =>
    split at hp <;> (try cases hp)
    rename_i l hl
    split at hp <;> (try cases hp)
    rename_i u hu
    obtain ⟨vs, e1, h1⟩ := h.eval hl
    obtain ⟨y, h2, h3⟩ := h1.nth hu
    refine wp_of_run (Instr.extract (a.eval x) n) ?_ hdf (Done.pure_ h rfl he hC fun _ => ⟨y, ?_, (show Den ρ (.val u) y from h3)⟩) hdst hK
    · unfold execOp; rw [hop]
    · rw [e1]; simp [Instr.extract, h2]
  case alloc t =>
    split at hp <;> (try cases hp)
    rename_i i hi
    obtain ⟨f, f1, f2, z, f4, f5⟩ := (hE.ti t i hi).info
    have hd := allocP_sound (P := P) h (t := t) (cs := i.zero) (vs := z.cells.toList) (by rw [f5]; exact zero_den) rfl he
    refine wp_of_run (ρ := ρ) (Instr.alloc t true (.tuple #[])) ?_ hdf ?_ hdst hK
    · unfold execOp; rw [hop]
    · obtain ⟨y, ρ', w', h1, h2⟩ := hd
      refine ⟨y, ρ', w', ?_, h2⟩
      rw [← h1]
      simp [Instr.alloc, Go.zeroValue, typeInfo, f1, f4, newVar]
  case box t x =>
    split at hp <;> (try cases hp)
    rename_i u hu
    split at hp <;> (try cases hp)
    rename_i l hl
    split at hp <;> (try cases hp)
    rename_i hst
    have hd := allocP_sound (P := P) h (t := t) (cellsOf_den hl (h.eval hu) hst) rfl he
    refine wp_of_run (ρ := ρ) (Instr.box t (a.eval x)) ?_ hdf ?_ hdst hK
    · unfold execOp; rw [hop]
    · simpa [Instr.box, newVar] using hd
  case build t parts =>
    split at hp <;> (try cases hp)
    rename_i i hi
    split at hp <;> (try cases hp)
    rename_i ps hps
    obtain ⟨f, f1, f2, z, f4, f5⟩ := (hE.ti t i hi).info
    obtain ⟨C', v', h1, h2⟩ := build_sound (w := w) (hE.ti t i hi) ⟨z, by simp [Go.zeroValue, typeInfo, f1, f4], f5⟩ (partsDen h hps) (fun z hz => szOf_run (w := w) hE hz) (PO.of_plan hp)
    refine wp_of_run (Instr.build t (parts.map fun (i, x) => (i, a.eval x))) ?_ hdf (Done.pure_ h h1 he hC ?_) hdst hK
    · unfold execOp; rw [hop]
    · intro hC'; obtain ⟨y, h3, h4⟩ := h2 hC'; exact ⟨y, by rw [map_parts_toArray]; exact h3, h4⟩
  case buildSlice t n parts =>
    split at hp <;> (try cases hp)
    rename_i i hi
    split at hp <;> (try cases hp)
    rename_i ps hps
    have hd := buildSlice_sound (hE.ti t i hi) h (partsDen h hps) (PO.of_plan hp) he hC
    refine wp_of_run (Instr.buildSlice t n (parts.map fun (i, x) => (i, a.eval x))) ?_ hdf (by rw [map_parts_toArray]; exact hd) hdst hK
    unfold execOp; rw [hop]
  case makeSlice t x y =>
    split at hp <;> (try cases hp)
    rename_i i hi
    split at hp <;> (try cases hp)
    rename_i u hu
    split at hp <;> (try cases hp)
    rename_i u' hu'
    have hd := makeSlice_sound (hE.ti t i hi) h (h.eval hu) (h.eval hu') (PO.of_plan hp) he hC
    refine wp_of_run (Instr.makeSlice t (a.eval x) (a.eval y)) ?_ hdf hd hdst hK
    unfold execOp; rw [hop]
  case makeMap t r =>
    cases r <;> simp only [sop, reduceCtorEq] at hp
    split at hp <;> (try cases hp)
    rename_i i hi
    refine wp_of_run (Instr.makeMap t none) ?_ hdf (makeMap_sound (t := t) h (PO.of_plan hp) he) hdst hK
    unfold execOp; rw [hop]; rfl
  case lookup t x ix ok =>
    split at hp <;> (try cases hp)
    rename_i i hi
    split at hp <;> (try cases hp)
    rename_i u hu
    split at hp <;> (try cases hp)
    rename_i u' hu'
    obtain ⟨h1, h2⟩ := lookup_sound (hE.ti t i hi) h (h.eval hu) (h.eval hu') (PO.of_plan hp) he hC
    refine wp_of_run (Instr.lookup t (a.eval x) (a.eval ix) ok) ?_ hdf (Done.looks h h1 h2) hdst hK
    unfold execOp; rw [hop]
  case mapUpdate t x ix y =>
    split at hp <;> (try cases hp)
    rename_i i hi
    split at hp <;> (try cases hp)
    rename_i u hu
    split at hp <;> (try cases hp)
    rename_i u' hu'
    split at hp <;> (try cases hp)
    rename_i u2 hu2
    obtain ⟨ρ2, w', h1, h2, h3⟩ := mapUpdate_sound (hE.ti t i hi) h (h.eval hu) (h.eval hu') (h.eval hu2) (PO.of_plan hp) he hC
    refine unit (Instr.mapUpdate t (a.eval x) (a.eval ix) (a.eval y)) ?_ ρ2 w' h1 h2 h3
    unfold execOp; rw [hop]
  case makeFunc f first caps =>
    cases f <;> simp only [sop, reduceCtorEq] at hp
    rename_i f
    split at hp <;> (try cases hp)
    rename_i vs hf hvs
    split at hp <;> (try cases hp)
    rename_i l hl
    have hcaps : ∀ {vs : List SV} {us : List Value} {l : List SV1}, All2 (Den ρ) vs us → capsOf vs = some l → All2 (Den1 ρ) l us := by
      intro vs
      induction vs with
      | nil => intro us l h1 h2; cases h1; simp [capsOf] at h2; subst h2; exact .nil
      | cons x r ih =>
        intro us l h1 h2
        cases h1 with
        | cons hx hr =>
          simp only [capsOf] at h2
          split at h2
          · rename_i y hy
            split at h2
            · rename_i l' hl'
              simp at h2
              subst h2
              refine .cons ?_ (ih hr hl')
              unfold cellOf at hy
              split at hy
              · cases hy; exact hx
              · cases hy
            · cases h2
          · cases h2
    have h1 := hcaps (h.evals hvs) hl
    refine wp_of_run (Instr.makeFunc (.func f) (first.map a.eval) (caps.map a.eval)) ?_ hdf (Done.pure_ h rfl he hC fun _ => ⟨_, rfl, caps.toList.map a.eval, ?_, h1⟩) hdst hK
    · unfold execOp; rw [hop]
    · have e1 : first = #[] := by apply Array.ext'; simpa using hf
      rw [e1, map_eval_toArray caps]; simp
  case range t x =>
    split at hp <;> (try cases hp)
    rename_i i hi
    split at hp <;> (try cases hp)
    rename_i u hu
    refine wp_of_run (Instr.range t (a.eval x)) ?_ hdf (range_sound (hE.ti t i hi) h (h.eval hu) (PO.of_plan hp) he) hdst hK
    unfold execOp; rw [hop]
  case entry x =>
    split at hp <;> (try cases hp)
    rename_i u hu
    obtain ⟨h1, h2⟩ := entry_sound (P := P) (w := w) h (h.eval hu) (PO.of_plan hp) he
    refine wp_of_run (Instr.entry (a.eval x)) ?_ hdf (Done.looks h h1 h2) hdst hK
    unfold execOp; rw [hop]
  case call c =>
    have hp := PO.of_plan hp
    unfold callP at hp
    split at hp <;> (try cases hp)
    rename_i args hargs
    have hds := h.evals hargs
    obtain ⟨callee, xs, ats⟩ := c
    dsimp only at hp hargs hds
    cases callee with
    | invoke r m => cases hp
    | builtin b =>
      dsimp only at hp
      have hex := exec_call_builtin (a := a) hop
      rw [map_eval_toArray] at hex
      generalize xs.toList.map a.eval = us at hex hds
      split at hp
      · rename_i x t hats _
        split at hp <;> (try cases hp)
        rename_i i hi
        split at hp <;> (try cases hp)
        rename_i hl
        have hkk := (hE.ti t i hi).kind
        obtain ⟨u, rfl, hd⟩ := hds.one
        obtain ⟨h1, h2⟩ := len_sound (P := P) (t := t) (ty := o.type) h hd hp he hC
          (by
            rintro ⟨l, e⟩
            unfold lenOk at hl
            split at hl
            · rename_i hik; rw [hik] at hkk; exact hkk
            · obtain ⟨_, _, e2, _⟩ := hd; rw [e2] at e; cases e
            · rw [show u = _ from hd] at e; cases e
            · obtain ⟨⟨_, _, _, e2⟩, _⟩ := hd; rw [e2] at e; cases e
            · obtain ⟨⟨_, _, _, e2⟩, _⟩ := hd; rw [e2] at e; cases e
            · obtain ⟨_, _, e2⟩ := hd; rw [e2] at e; cases e
            · cases hl)
          (by
            rintro ⟨ao, l, c, e⟩
            unfold lenOk at hl
            split at hl
            · rw [show u = _ from hd] at e; cases e
            · rename_i hik; rw [hik] at hkk; exact ⟨_, hkk.1⟩
            · rename_i hik; rw [hik] at hkk; exact ⟨_, hkk.1⟩
            · rename_i hik; rw [hik] at hkk; exact ⟨_, hkk.1⟩
            · rename_i hik; rw [hik] at hkk; exact ⟨_, hkk.1⟩
            · obtain ⟨_, _, e2⟩ := hd; rw [e2] at e; cases e
            · cases hl)
          (by
            rintro ⟨b, e⟩
            unfold lenOk at hl
            split at hl
            · rw [show u = _ from hd] at e; cases e
            · obtain ⟨_, _, e2, _⟩ := hd; rw [e2] at e; cases e
            · rw [show u = _ from hd] at e; cases e
            · obtain ⟨⟨_, _, _, e2⟩, _⟩ := hd; rw [e2] at e; cases e
            · obtain ⟨⟨_, _, _, e2⟩, _⟩ := hd; rw [e2] at e; cases e
            · rename_i hik; rw [hik] at hkk; exact ⟨_, _, hkk.1⟩
            · cases hl)
        refine wp_of_run (Builtin.len_ #[t] o.type #[u]) ?_ hdf (Done.looks h h1 h2) hdst hK
        rw [hex]
        have : ats = #[t] := by apply Array.ext'; simpa using hats
        rw [this]; rfl
      · rename_i x y t t2 hats _
        split at hp <;> (try cases hp)
        rename_i i hi
        obtain ⟨u1, u2, rfl, hd1, hd2⟩ := hds.two
        refine wp_of_run (Builtin.delete_ #[t, t2] o.type #[u1, u2]) ?_ hdf (delete_sound (hE.ti t i hi) h hd1 hd2 hp he hC) hdst hK
        rw [hex]
        have : ats = #[t, t2] := by apply Array.ext'; simpa using hats
        rw [this]; rfl
      · obtain ⟨C', v', h1, h2⟩ := minmax_sound (w := w) (P := P) hds hp ats o.type
        refine wp_of_run (Builtin.max_ ats o.type us.toArray) ?_ hdf (Done.pure_ h h1 he hC h2) hdst hK
        rw [hex]; rfl
      · obtain ⟨C', v', h1, h2⟩ := minmax_sound (w := w) (P := P) hds hp ats o.type
        refine wp_of_run (Builtin.min_ ats o.type us.toArray) ?_ hdf (Done.pure_ h h1 he hC h2) hdst hK
        rw [hex]; rfl
      · rename_i x y t t2 hats _
        split at hp <;> (try cases hp)
        rename_i i hi
        split at hp <;> (try cases hp)
        rename_i j hj
        split at hp <;> (try cases hp)
        rename_i e' ty' hjk
        have hkk := (hE.ti t2 j hj).kind
        rw [hjk] at hkk
        obtain ⟨u1, u2, rfl, hd1, hd2⟩ := hds.two
        have hd := append_sound (hE.ti t i hi) hkk.1 h hd1 hd2 hp he hC o.type
        refine wp_of_run (Builtin.append_ #[t, t2] o.type #[u1, u2]) ?_ hdf hd hdst hK
        rw [hex]
        have : ats = #[t, t2] := by apply Array.ext'; simpa using hats
        rw [this]; rfl
      · cases hp
    | value f =>
      dsimp only at hp
      split at hp <;> (try cases hp)
      rename_i g caps hg
      split at hp <;> (try cases hp)
      rename_i k hk
      obtain ⟨h1, _, h2⟩ := hE.con g k hk
      obtain ⟨vs, e1, h3⟩ := h.eval hg
      have hall : All2 (Den ρ) (args ++ caps.map fun x => one x) (xs.toList.map a.eval ++ vs) := by
        refine hds.append ?_
        clear hk hp e1 hg
        induction h3 with
        | nil => exact .nil
        | cons hx _ ih => exact .cons hx ih
      have hcall := h2 G s ρ a.tmps w _ _ fresh p d C v cs h hall hp hfr he hC
      have hrun : (execOp a.eval o).run P w = .ok (.enter g (xs.toList.map a.eval ++ vs).toArray) w := by
        have e2 : (xs.toList.map a.eval ++ vs).toArray = xs.map a.eval ++ vs.toArray := by apply Array.ext'; simp
        unfold execOp
        rw [hop]
        simp [resolve, Deferred.ofValue, e1, Go.invoke]
        rw [h1]
        simp
      unfold Oper.wp
      rw [hrun, Oper.upon_enter]
      refine hcall.mono ?_
      rintro e w' ⟨y, ρ', rfl, h4, h5, h6⟩
      exact hK _ _ (by rw [Act.put_defers', hdf]) ⟨ρ', h4.put hdst h5⟩

end Go.Sx
