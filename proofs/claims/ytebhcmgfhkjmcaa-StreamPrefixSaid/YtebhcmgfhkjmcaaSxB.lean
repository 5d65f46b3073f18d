/-
  Symbolic execution: types; reading and spelling elements; the operations that leave the world alone.
-/
import Derived.Test.YtebhcmgfhkjmcaaSxA
import Derived.WalkLawsBesides
namespace Go.Sx
set_option linter.all false
set_option linter.unusedVariables false
set_option linter.unusedSimpArgs false
set_option linter.unusedSectionVars false
open Go.RowKit

theorem dec_length : ∀ (e : Ty) (x : U e.T), (dec e x).length = e.size
  | .int _, _ => rfl
  | .bool, _ => rfl
  | .bytes, _ => rfl
  | .str, _ => rfl
  | .unit, _ => rfl
  | .pair a b, x => by simp [dec, Ty.size, dec_length a, dec_length b]
  | .lst _, _ => rfl

theorem CellsM.dec {ρ : Ev} : ∀ (e : Ty) (x : U e.T) (c : Nat → Option Value), CellsM ρ.M e (x ()) c → ∃ vs, All2 (Den1 ρ) (dec e x) vs ∧ ∀ (j : Nat) v, vs[j]? = some v → c j = some v
  | .int k, x, c, h => ⟨[.int k (x ())], .cons rfl .nil, fun j v hj => by cases j <;> simp at hj; subst hj; exact h⟩
  | .bool, x, c, h => ⟨[.bool (x ())], .cons rfl .nil, fun j v hj => by cases j <;> simp at hj; subst hj; exact h⟩
  | .bytes, x, c, h => by
    obtain ⟨v, h1, h2⟩ := h
    exact ⟨[v], .cons (showsB_iff.1 h2) .nil, fun j u hj => by cases j <;> simp at hj; subst hj; exact h1⟩
  | .str, x, c, h => ⟨[.string ⟨((x ()).map fun (y : Int) => y.toNat.toUInt8).toArray⟩], .cons (a := SV1.str x) (show Den1 ρ (SV1.str x) _ by simp [Den1]) .nil, fun j v hj => by cases j <;> simp at hj; subst hj; exact h⟩
  | .unit, x, c, h => ⟨[], .nil, by simp⟩
  | .lst e, x, c, h => by
    obtain ⟨v, h1, h2⟩ := cellsM_lst.1 h
    exact ⟨[v], .cons (a := SV1.ro e x) h2 .nil, fun j u hj => by cases j <;> simp at hj; subst hj; exact h1⟩
  | .pair a b, x, c, h => by
    obtain ⟨vs, h1, h2⟩ := CellsM.dec a (fun _ => (x ()).1) c h.1
    obtain ⟨us, h3, h4⟩ := CellsM.dec b (fun _ => (x ()).2) _ h.2
    refine ⟨vs ++ us, h1.append h3, fun j v hj => ?_⟩
    have hl : vs.length = a.size := by rw [← h1.length, dec_length]
    by_cases hjl : j < vs.length
    · rw [List.getElem?_append_left hjl] at hj; exact h2 j v hj
    · rw [List.getElem?_append_right (by omega)] at hj
      have := h4 _ _ hj
      simpa [show a.size + (j - vs.length) = j by omega] using this

theorem CellsM.congr {M : Mem} : ∀ (e : Ty) {x : e.T} {c c' : Nat → Option Value}, CellsM M e x c → (∀ j v, j < e.size → c j = some v → c' j = some v) → CellsM M e x c'
  | .int k, _, _, _, h, hc => hc 0 _ (by simp [Ty.size]) h
  | .bool, _, _, _, h, hc => hc 0 _ (by simp [Ty.size]) h
  | .bytes, _, _, _, h, hc => by obtain ⟨v, h1, h2⟩ := h; exact ⟨v, hc 0 _ (by simp [Ty.size]) h1, h2⟩
  | .str, _, _, _, h, hc => hc 0 _ (by simp [Ty.size]) h
  | .unit, _, _, _, _, _ => trivial
  | .lst e, _, _, _, h, hc => by obtain ⟨v, h1, h2⟩ := cellsM_lst.1 h; exact cellsM_lst.2 ⟨v, hc 0 _ (by simp [Ty.size]) h1, h2⟩
  | .pair a b, _, _, _, h, hc => ⟨CellsM.congr a h.1 fun j v hj => hc j v (by simp [Ty.size]; omega), CellsM.congr b h.2 fun j v hj => hc (a.size + j) v (by simp [Ty.size]; omega)⟩

theorem ShowsM.mono {M M' : Mem} {e : Ty} {L : List e.T} {v : Value} (h : ShowsM M e L v) (hc : ∀ x c, CellsM M e x c → CellsM M' e x c) (hm : ∀ b o v, M b o = some v → M' b o = some v) : ShowsM M' e L v := by
  obtain ⟨ao, cap, h1, h2, h3⟩ := h
  refine ⟨ao, cap, h1, h2, fun hp => ?_⟩
  obtain ⟨b, off, h4, h5⟩ := h3 hp
  exact ⟨b, off, h4, fun j x hj => CellsM.congr e (hc _ _ (h5 j x hj)) fun _ _ _ h => hm _ _ _ h⟩
theorem CellsM.mono {M M' : Mem} (hm : ∀ b o v, M b o = some v → M' b o = some v) : ∀ (e : Ty) {x : e.T} {c : Nat → Option Value}, CellsM M e x c → CellsM M' e x c
  | .int _, _, _, h => h
  | .bool, _, _, h => h
  | .bytes, _, _, h => by obtain ⟨v, h1, h2⟩ := h; exact ⟨v, h1, showsB_iff.2 ((showsB_iff.1 h2).mono (fun _ _ h => h) hm)⟩
  | .str, _, _, h => h
  | .unit, _, _, _ => trivial
  | .lst e, _, _, h => by obtain ⟨v, h1, h2⟩ := cellsM_lst.1 h; exact cellsM_lst.2 ⟨v, h1, h2.mono (fun _ _ h => CellsM.mono hm e h) hm⟩
  | .pair a b, _, _, h => ⟨CellsM.mono hm a h.1, CellsM.mono hm b h.2⟩
theorem ShowsM.monoM {M M' : Mem} (hm : ∀ b o v, M b o = some v → M' b o = some v) {e : Ty} {L : List e.T} {v : Value} (h : ShowsM M e L v) : ShowsM M' e L v := h.mono (fun _ _ h => CellsM.mono hm e h) hm

theorem castT_id : ∀ {e e' : Ty} {f : e.T → e'.T}, castL.castT e e' = some f → ∃ h : e = e', ∀ x, f x = h ▸ x
  | .int k, e', f, h => by
    cases e' <;> (try (simp [castL.castT] at h; done))
    rename_i k'
    simp only [castL.castT] at h
    split at h <;> simp at h
    rename_i hk
    simp at hk
    subst hk; subst h
    exact ⟨rfl, fun _ => rfl⟩
  | .bool, e', f, h => by cases e' <;> (try (simp [castL.castT] at h; done)); simp [castL.castT] at h; subst h; exact ⟨rfl, fun _ => rfl⟩
  | .bytes, e', f, h => by cases e' <;> (try (simp [castL.castT] at h; done)); simp [castL.castT] at h; subst h; exact ⟨rfl, fun _ => rfl⟩
  | .str, e', f, h => by cases e' <;> (try (simp [castL.castT] at h; done)); simp [castL.castT] at h; subst h; exact ⟨rfl, fun _ => rfl⟩
  | .unit, e', f, h => by cases e' <;> (try (simp [castL.castT] at h; done)); exact ⟨rfl, fun _ => rfl⟩
  | .lst a, e', f, h => by
    cases e' <;> (try (simp [castL.castT] at h; done))
    simp only [castL.castT] at h
    split at h <;> simp at h
    rename_i f1 h1
    obtain ⟨rfl, h3⟩ := castT_id h1
    subst h
    refine ⟨rfl, fun x => ?_⟩
    show List.map f1 x = x
    rw [show f1 = id from funext h3, List.map_id]
  | .pair a b, e', f, h => by
    cases e' <;> (try (simp [castL.castT] at h; done))
    simp only [castL.castT] at h
    split at h
    · rename_i f1 h1
      split at h
      · rename_i g1 h2
        obtain ⟨rfl, h3⟩ := castT_id h1
        obtain ⟨rfl, h4⟩ := castT_id h2
        simp at h
        subst h
        exact ⟨rfl, fun x => by simp [h3, h4]⟩
      · cases h
    · cases h
theorem castL_id {e e' : Ty} {f : List e.T → List e'.T} (h : castL e e' = some f) : ∃ h : e = e', ∀ x, f x = h ▸ x := by
  cases e
  case pair a b =>
    cases e' <;> (try (simp [castL] at h; done))
    simp only [castL] at h
    split at h
    · rename_i f1 h1
      split at h
      · rename_i g1 h2
        obtain ⟨rfl, h3⟩ := castT_id h1
        obtain ⟨rfl, h4⟩ := castT_id h2
        simp at h
        subst h
        exact ⟨rfl, fun x => by simp [h3, h4]⟩
      · cases h
    · cases h
  case int k =>
    cases e' <;> (try (simp [castL] at h; done))
    simp only [castL] at h
    split at h <;> simp at h
    rename_i hk
    simp at hk
    subst hk; subst h
    exact ⟨rfl, fun _ => rfl⟩
  case lst a =>
    cases e' <;> (try (simp [castL] at h; done))
    simp only [castL] at h
    split at h
    · rename_i f1 h1
      obtain ⟨rfl, h3⟩ := castT_id h1
      simp at h
      subst h
      refine ⟨rfl, fun x => ?_⟩
      show List.map (fun y => List.map f1 y) x = x
      have e : (fun y => List.map f1 y) = id := by
        funext y
        rw [show f1 = id from funext h3, List.map_id]; rfl
      rw [e, List.map_id]
    · cases h
  all_goals (cases e' <;> (try (simp [castL] at h; done)); simp [castL] at h; subst h; exact ⟨rfl, fun _ => rfl⟩)

theorem CellsM.enc {ρ : Ev} : ∀ (e : Ty) {l : List SV1} {y : U e.T} {r : List SV1} {vs : List Value}, enc e l = some (y, r) → All2 (Den1 ρ) l vs →
    ∃ v1 v2, vs = v1 ++ v2 ∧ v1.length = e.size ∧ CellsM ρ.M e (y ()) (fun j => v1[j]?) ∧ All2 (Den1 ρ) r v2
  | .int k, l, y, r, vs, h, hv => by
    cases hv with
    | nil => simp [Sx.enc] at h
    | @cons a u l vs ha hl =>
      cases a <;> simp only [Sx.enc, reduceCtorEq] at h <;> (split at h <;> simp at h; obtain ⟨rfl, rfl⟩ := h; rename_i hk; simp at hk; subst hk; exact ⟨[u], vs, rfl, rfl, by simpa [CellsM, Den1] using ha, hl⟩)
  | .bool, l, y, r, vs, h, hv => by
    cases hv with
    | nil => simp [Sx.enc] at h
    | @cons a u l vs ha hl =>
      cases a <;> simp only [Sx.enc, reduceCtorEq] at h <;> (simp at h; obtain ⟨rfl, rfl⟩ := h; exact ⟨[u], vs, rfl, rfl, by simpa [CellsM, Den1] using ha, hl⟩)
  | .bytes, l, y, r, vs, h, hv => by
    cases hv with
    | nil => simp [Sx.enc] at h
    | @cons a u l vs ha hl =>
      cases a
      case nilS => simp [Sx.enc] at h; obtain ⟨rfl, rfl⟩ := h; exact ⟨[u], vs, rfl, rfl, ⟨u, rfl, none, 0, by simpa [Den1] using ha, by simp, by simp⟩, hl⟩
      case ro e L =>
        cases e
        case int k =>
          cases k <;> simp [Sx.enc] at h
          obtain ⟨rfl, rfl⟩ := h
          exact ⟨[u], vs, rfl, rfl, ⟨u, rfl, showsB_iff.2 ha⟩, hl⟩
        all_goals simp [Sx.enc] at h
      all_goals simp [Sx.enc] at h
  | .str, l, y, r, vs, h, hv => by
    cases hv with
    | nil => simp [Sx.enc] at h
    | @cons a u l vs ha hl =>
      cases a <;> simp only [Sx.enc, reduceCtorEq] at h <;> (simp at h; obtain ⟨rfl, rfl⟩ := h; exact ⟨[u], vs, rfl, rfl, by simpa [CellsM, Den1] using ha, hl⟩)
  | .lst e, l, y, r, vs, h, hv => by
    cases hv with
    | nil => simp [Sx.enc] at h
    | @cons a u l vs ha hl =>
      simp only [Sx.enc] at h
      split at h <;> simp at h
      rename_i q hq
      obtain ⟨rfl, rfl⟩ := h
      refine ⟨[u], vs, rfl, rfl, cellsM_lst.2 ⟨u, rfl, ?_⟩, hl⟩
      unfold lstOf at hq
      split at hq
      · split at hq <;> cases hq
        rename_i f hf
        obtain ⟨rfl, h1⟩ := castL_id hf
        dsimp only
        rw [h1]; exact ha
      · cases hq
        exact ⟨none, 0, by simpa [Den1] using ha, by simp, by simp⟩
      · cases hq
  | .unit, l, y, r, vs, h, hv => by simp [Sx.enc] at h; obtain ⟨rfl, rfl⟩ := h; exact ⟨[], vs, rfl, rfl, trivial, hv⟩
  | .pair a b, l, y, r, vs, h, hv => by
    simp only [Sx.enc] at h
    split at h
    · rename_i x r1 hx
      split at h
      · rename_i y1 r2 hy
        simp at h
        obtain ⟨rfl, rfl⟩ := h
        obtain ⟨v1, v2, rfl, l1, c1, d1⟩ := CellsM.enc a hx hv
        obtain ⟨v3, v4, rfl, l2, c2, d2⟩ := CellsM.enc b hy d1
        refine ⟨v1 ++ v3, v4, by simp, by simp [Ty.size, l1, l2], ⟨CellsM.congr a c1 fun j v hj h => ?_, CellsM.congr b c2 fun j v hj h => ?_⟩, d2⟩
        · simp only [List.getElem?_append_left (show j < v1.length by omega)]; exact h
        · simp only [List.getElem?_append_right (show v1.length ≤ a.size + j by omega), show a.size + j - v1.length = j by omega]; exact h
      · cases h
    · cases h

/-! ### types -/
def ZeroOk (T : Ty) (z : Value) : Prop := z.cells.size = T.size ∧ ∀ M, CellsM M T T.dflt (fun j => z.cells.toList[j]?)

def KeyOk (P : Program) (k : TypeId) : KT → Prop
  | .int kk => P.underlying k = some (.int kk)
  | .str => P.underlying k = some .string

def KindOk (P : Program) (t : TypeId) : TK → Prop
  | .int k => P.underlying t = some (.int k)
  | .bool => P.underlying t = some .bool
  | .str => P.underlying t = some .string
  | .struct offs => ∃ fs : Array Field, P.underlying t = some (.struct fs) ∧ All2 (fun (p : Nat × Nat) (f : Field) => f.offset = p.1 ∧ ∃ g, P.info? f.type = some g ∧ g.size = p.2) offs fs.toList
  | .slice e ty => P.underlying t = some (.slice e) ∧ ∃ g, P.info? e = some g ∧ ∀ T, ty = some T → g.size = T.size ∧ 0 < g.size ∧ g.bytes ≤ 128 ∧ (∀ k, T = .int k → P.underlying e = some (.int k)) ∧ ∃ z, g.zero = some z ∧ ZeroOk T z
  | .array n e => P.underlying t = some (.array n e) ∧ ∃ g, P.info? e = some g
  | .ptr e => P.underlying t = some (.pointer e)
  | .map k e ty => P.underlying t = some (.map k e) ∧ ∀ ks T, ty = some (ks, T) → KeyOk P k ks ∧ ∃ g z, P.info? e = some g ∧ g.zero = some z ∧ ∀ M, ValIs M T T.dflt z
  | .other => ∃ d, P.underlying t = some d ∧ ∀ x, d ≠ .struct x ∧ ∀ n e, d ≠ .array n e

structure TIfact (P : Program) (t : TypeId) (i : TI) : Prop where
  info : ∃ f, P.info? t = some f ∧ f.size = i.size ∧ ∃ z, f.zero = some z ∧ i.zero = z.cells.toList.map ofLit1
  kind : KindOk P t i.kind

def TIok (P : Program) (ti : List (Nat × TI)) : Prop := ∀ t i, look ti t = some i → TIfact P t i

theorem TIfact.isAgg {P : Program} {t : TypeId} {i : TI} (h : TIfact P t i) (w : World) : (Go.isAgg t).run P w = .ok i.isAgg w := by
  have hk := h.kind
  unfold Go.isAgg TI.isAgg
  cases hi : i.kind <;> rw [hi] at hk <;> simp only [KindOk] at hk
  case struct => obtain ⟨fs, h1, _⟩ := hk; simp [run_underlying h1]
  case slice => simp [run_underlying hk.1]
  case map => simp [run_underlying hk.1]
  case array => simp [run_underlying hk.1]
  case other => obtain ⟨d, h1, h2⟩ := hk; have := h2 #[]; cases d <;> simp_all [run_underlying h1]
  all_goals simp [run_underlying hk]

theorem TIfact.sizeOf {P : Program} {t : TypeId} {i : TI} (h : TIfact P t i) (w : World) : (Go.sizeOf t).run P w = .ok i.size w := by
  obtain ⟨f, h1, h2, _⟩ := h.info
  simp [Go.sizeOf, typeInfo, h1, h2]

end Go.Sx
