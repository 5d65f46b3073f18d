/-
  Symbolic execution: the arguments of a law, seen as data; from a template to the call of a law.
-/
import Derived.Test.YtebhcmgfhkjmcaaSxZ
import Derived.Deep.Slices
import Derived.ChangeOld
import Derived.OpenShut
import Derived.ShutString
import Derived.Below
namespace Go.Sx
set_option linter.all false
set_option linter.unusedVariables false
set_option linter.unusedSimpArgs false
set_option linter.unusedSectionVars false
open Go.RowKit Go.Deep Go.ChangeShapes Go.WideShapes

variable {P : Program}

/-- Numbers in their ranges, bytes as bytes. -/
def Ty.ok : (e : Ty) → e.T → Prop
  | .int k, n => k.min ≤ n ∧ n ≤ k.max
  | .bool, _ => True
  | .bytes, l => l.length ≤ maxLen ∧ inBytes l
  | .lst e, l => @List.length e.T l ≤ maxLen ∧ ∀ x ∈ (show List e.T from l), e.ok x
  | .str, l => l.length ≤ maxLen ∧ inBytes l
  | .unit, _ => True
  | .pair a b, x => a.ok x.1 ∧ b.ok x.2

def memOf (w : World) : Mem := fun b o => w.cell? ⟨b, o, none⟩

/-- Is a type of this form? (n: fuel) -/
def fieldsB (tyB : TypeId → Ty → Bool) (P : Program) : Nat → List TypeId → Ty → Bool
  | _, [t], e => P.cellsOf t == e.size && tyB t e
  | n, t :: ts, .pair a b => P.cellsOf t == a.size && tyB t a && fieldsB tyB P (n + a.size) ts b
  | _, _, _ => false
def offsIn : Nat → Program → List Field → Bool
  | _, _, [] => true
  | n, P, f :: fs => f.offset == n && offsIn (n + P.cellsOf f.type) P fs
def tyB (P : Program) : Nat → TypeId → Ty → Bool
  | 0, _, _ => false
  | n + 1, t, e => match P.underlying t with
    | some (.int k) => (match e with | .int k' => k == k' | _ => false)
    | some .bool => (match e with | .bool => true | _ => false)
    | some .string => (match e with | .str => true | _ => false)
    | some (.slice u) => (match e with | .bytes => (match P.underlying u with | some (.int .u8) => P.cellsOf u == 1 | _ => false) | .lst e => P.cellsOf u == e.size && bltN 0 e.size && tyB P n u e | _ => false)
    | some (.struct fs) => P.cellsOf t == e.size && offsIn 0 P fs.toList && fieldsB (tyB P n) P 0 (fs.toList.map (·.type)) e
    | some (.array m u) => P.cellsOf t == e.size && fieldsB (tyB P n) P 0 (List.replicate m u) e
    | _ => false

section
variable {H : Type} {enc : TypeId × Value → H} {W : World} {sp : Nat → Bool} {held : Bool}

theorem add_flat (b off n : Nat) : (⟨b, off, none⟩ : Addr).add n = ⟨b, off + n, none⟩ := by
  unfold Addr.add
  split
  · rename_i h; have : n = 0 := by simpa using h
    subst this; rfl
  · rfl

theorem list_of {α : Type} (n : Nat) (p : Nat → α → Prop) (h : ∀ i, i < n → ∃ x, p i x) : ∃ l : List α, l.length = n ∧ ∀ i x, l[i]? = some x → p i x := by
  induction n with
  | zero => exact ⟨[], rfl, fun i x hi => by cases hi⟩
  | succ n ih =>
    obtain ⟨l, hl, hp⟩ := ih (fun i hi => h i (by omega))
    obtain ⟨x, hx⟩ := h n (by omega)
    refine ⟨l ++ [x], by simp [hl], fun i y hi => ?_⟩
    by_cases e : i < l.length
    · rw [List.getElem?_append_left e] at hi; exact hp i y hi
    · have hlt := (List.getElem?_eq_some_iff.1 hi).1
      have : i = l.length := by simp at hlt; omega
      subst this
      simp at hi
      subst hi
      rw [hl]; exact hx

/-- A slice shows the elements that each of its places shows. -/
theorem shows_of {t u : TypeId} (ht : P.underlying t = some (.slice u)) {e : Ty} (hc : P.cellsOf u = e.size) (hpos : 0 < e.size) {fuel : Nat} {cs : List Value} {x : DataW H × List MemPlace} (h : DataW.trod enc P W 0 sp held fuel t cs = some x)
    (he : ∀ n cs' x', DataW.trod enc P W 0 sp held n u cs' = some x' → ∃ y : e.T, cs'.length = e.size ∧ CellsM (memOf W) e y (fun i => cs'[i]?) ∧ e.ok y) :
    ∃ L : List e.T, L.length ≤ maxLen ∧ (∀ y ∈ L, e.ok y) ∧ ∃ v, cs = [v] ∧ ShowsM (memOf W) e L v := by
  rcases open_slice ht h with ⟨rfl, _⟩ | ⟨a, len, cap, m, n, D, Pl, rfl, _, hl, hm, hmm, _, hx⟩
  · exact ⟨[], Nat.zero_le _, by simp, _, rfl, none, 0, rfl, Nat.le_refl _, by simp⟩
  · have hlm : len ≤ m := by rw [hmm]; split <;> omega
    have each : ∀ i, i < len → ∃ y : e.T, e.ok y ∧ CellsM (memOf W) e y (fun j => if j < e.size then W.cell? (a.add (i * e.size + j)) else none) := by
      intro i hi
      obtain ⟨cs', h1, h2⟩ := hx i (by omega)
      obtain ⟨y, hy1, hy2, hy3⟩ := he _ _ _ h2
      rw [hc] at h1
      obtain ⟨_, hlen, hcell⟩ := World.cells?_some h1
      refine ⟨y, hy3, CellsM.congr e hy2 fun j v hj hv => ?_⟩
      have := hcell j hj
      rw [add_add] at this
      rw [if_pos hj, this]
      exact hv
    obtain ⟨L, hL, hp⟩ := list_of len _ each
    refine ⟨L, by omega, fun y hy => ?_, _, rfl, some a, cap, by rw [hL], by omega, fun h0 => ?_⟩
    · obtain ⟨i, hi⟩ := List.mem_iff_getElem?.1 hy
      exact (hp i y hi).1
    · obtain ⟨y0, hy0⟩ : ∃ y, L[0]? = some y := ⟨L[0]'h0, by simp⟩
      have hc0 := (hp 0 y0 hy0).2
      obtain ⟨b, off, spot⟩ := a
      have hspot : spot = none := by
        obtain ⟨cs', h1, _⟩ := hx 0 (by omega)
        obtain ⟨_, hlen, hcell⟩ := World.cells?_some h1
        have h3 := hcell 0 (by rw [hc]; exact hpos)
        have : 0 < cs'.length := by rw [hlen, hc]; exact hpos
        rw [List.getElem?_eq_getElem this] at h3
        rw [add_add] at h3
        simpa [Addr.add] using World.cell?_spot h3
      subst hspot
      refine ⟨b, off, rfl, fun j y hj => CellsM.congr e (hp j y hj).2 fun k v hk hv => ?_⟩
      rw [if_pos hk, add_flat, ← Nat.add_assoc] at hv
      exact hv

theorem ofs_cells {n : Nat} (tyB' : TypeId → Ty → Bool) (hrec : ∀ t e, tyB' t e = true → ∀ fuel cs x, DataW.trod enc P W 0 sp held fuel t cs = some x → ∃ y : e.T, cs.length = e.size ∧ CellsM (memOf W) e y (fun i => cs[i]?) ∧ e.ok y) :
    ∀ (ts : List TypeId) (e : Ty) (off : Nat) (cs : List Value), fieldsB tyB' P off ts e = true →
      (∀ (i : Nat) (t : TypeId), ts[i]? = some t → ∃ x, DataW.trod enc P W 0 sp held n t ((cs.drop ((ts.take i).map P.cellsOf).sum).take (P.cellsOf t)) = some x) →
      ∃ y : e.T, CellsM (memOf W) e y (fun i => cs[i]?) ∧ e.ok y
  | [], e, off, cs, h, _ => by simp [fieldsB] at h
  | [t], e, off, cs, h, hx => by
    simp only [fieldsB, Bool.and_eq_true, beq_iff_eq] at h
    obtain ⟨x, hx⟩ := hx 0 t rfl
    simp only [List.take_zero, List.map_nil, List.sum_nil, List.drop_zero] at hx
    obtain ⟨y, h1, h2, h3⟩ := hrec t e h.2 _ _ _ hx
    refine ⟨y, CellsM.congr e h2 fun j v hj hv => ?_, h3⟩
    rw [List.getElem?_take] at hv
    split at hv
    · exact hv
    · cases hv
  | t :: t2 :: ts, e, off, cs, h, hx => by
    cases e with
    | pair a b =>
      simp only [fieldsB, Bool.and_eq_true, beq_iff_eq] at h
      obtain ⟨⟨h1, h2⟩, h3⟩ := h
      obtain ⟨x, hx0⟩ := hx 0 t rfl
      simp only [List.take_zero, List.map_nil, List.sum_nil, List.drop_zero] at hx0
      obtain ⟨y, g1, g2, g3⟩ := hrec t a h2 _ _ _ hx0
      obtain ⟨z, k1, k2⟩ := ofs_cells tyB' hrec (t2 :: ts) b (off + a.size) (cs.drop a.size) h3 (fun i u hu => by
        obtain ⟨x', hx'⟩ := hx (i + 1) u hu
        refine ⟨x', ?_⟩
        simp only [List.take_succ_cons, List.map_cons, List.sum_cons, h1] at hx'
        rw [List.drop_drop]; exact hx')
      refine ⟨(y, z), ⟨CellsM.congr a g2 fun j v hj hv => ?_, CellsM.congr b k1 fun j v hj hv => ?_⟩, g3, k2⟩
      · rw [List.getElem?_take] at hv
        split at hv
        · exact hv
        · cases hv
      · rw [List.getElem?_drop] at hv; exact hv
    | _ => simp [fieldsB] at h

theorem offsIn_spec {P : Program} : ∀ {fs : List Field} {n : Nat}, offsIn n P fs = true → ∀ i f, fs[i]? = some f → f.offset = n + (((fs.map (·.type)).take i).map P.cellsOf).sum
  | [], _, _, i, f, h => by cases h
  | g :: fs, n, h, i, f, hf => by
    simp only [offsIn, Bool.and_eq_true, beq_iff_eq] at h
    cases i with
    | zero => cases hf; simpa using h.1
    | succ i =>
      have := offsIn_spec h.2 i f hf
      simp only [List.map_cons, List.take_succ_cons, List.sum_cons]
      omega

theorem open_ty : ∀ (n : Nat) {t : TypeId} {e : Ty}, tyB P n t e = true → ∀ {fuel : Nat} {cs : List Value} {x : DataW H × List MemPlace}, DataW.trod enc P W 0 sp held fuel t cs = some x →
    ∃ y : e.T, cs.length = e.size ∧ CellsM (memOf W) e y (fun i => cs[i]?) ∧ e.ok y
  | 0, t, e, h, _, _, _, _ => by simp [tyB] at h
  | n + 1, t, e, h, fuel, cs, x, hx => by
    unfold tyB at h
    split at h
    · rename_i k hu
      split at h <;> (try cases h)
      have h := eq_of_beq h
      subst h
      obtain ⟨m, rfl, _, hw⟩ := DataW.trod_int hu hx
      simp only [Lit.wf, Bool.and_eq_true, decide_eq_true_eq] at hw
      exact ⟨m, rfl, rfl, hw⟩
    · rename_i hu
      split at h <;> cases h
      obtain ⟨b, rfl, _⟩ := DataW.trod_bool hu hx
      exact ⟨b, rfl, rfl, trivial⟩
    · rename_i hu
      split at h <;> cases h
      obtain ⟨s, rfl, _, hs⟩ := DataW.trod_string hu hx
      refine ⟨s.data.toList.map fun x => (x.toNat : Int), rfl, ?_, by simpa using hs, ?_⟩
      · show some _ = some _
        congr 2
        cases s with | mk d =>
        congr 1
        simp [Function.comp_def]
      · intro y hy
        obtain ⟨z, _, rfl⟩ := List.mem_map.1 hy
        have := z.toNat_lt
        omega
    · rename_i u hu
      split at h <;> (try cases h)
      · split at h <;> (try cases h)
        rename_i hu8
        have hc := eq_of_beq h
        obtain ⟨L, h1, h2, v, rfl, h3⟩ := shows_of (e := .int .u8) hu hc (by decide) hx fun m cs' x' hx' => by
          obtain ⟨z, rfl, _, hw⟩ := DataW.trod_int hu8 hx'
          simp only [Lit.wf, Bool.and_eq_true, decide_eq_true_eq] at hw
          exact ⟨z, rfl, rfl, hw⟩
        refine ⟨L, rfl, ⟨v, rfl, showsB_iff.2 h3⟩, h1, fun y hy => ?_⟩
        obtain ⟨a, b⟩ := h2 y hy
        have e1 : IntKind.u8.min = 0 := by decide
        have e2 : IntKind.u8.max = 255 := by decide
        exact ⟨e1 ▸ a, Int.lt_of_le_of_lt (e2 ▸ b : (y : Int) ≤ 255) (by decide)⟩
      · rename_i e
        simp only [Bool.and_eq_true, beq_iff_eq] at h
        obtain ⟨⟨h1, h2⟩, h3⟩ := h
        have h2 : 0 < e.size := leN h2
        obtain ⟨L, g1, g2, v, rfl, g3⟩ := shows_of hu h1 h2 hx (fun m cs' x' hx' => open_ty n h3 hx')
        exact ⟨L, rfl, cellsM_lst.2 ⟨v, rfl, g3⟩, g1, g2⟩
    · rename_i fs hu
      simp only [Bool.and_eq_true, beq_iff_eq] at h
      obtain ⟨⟨h1, h2⟩, h3⟩ := h
      obtain ⟨xs, m, rfl, _, hl, hlen, hf⟩ := DataW.trod_struct hu hx
      obtain ⟨y, k1, k2⟩ := ofs_cells (n := m) (tyB P n) (fun t e ht fuel cs x hx => open_ty n ht hx) _ e 0 cs h3 (fun i u hi => by
        rw [List.getElem?_map] at hi
        obtain ⟨f, hf1, rfl⟩ := Option.map_eq_some_iff.1 hi
        have g := hf i f (by simpa using hf1)
        have ho := offsIn_spec h2 i f hf1
        rw [Nat.zero_add] at ho
        rw [← ho, g]
        have hi' : i < xs.length := by
          rw [hlen]; have := (List.getElem?_eq_some_iff.1 hf1).1; simpa using this
        exact ⟨xs[i], by simp⟩)
      exact ⟨y, hl.trans h1, k1, k2⟩
    · rename_i m u hu
      simp only [Bool.and_eq_true, beq_iff_eq] at h
      obtain ⟨h1, h3⟩ := h
      obtain ⟨xs, q, rfl, _, hl, hlen, hf⟩ := DataW.trod_array hu hx
      obtain ⟨y, k1, k2⟩ := ofs_cells (n := q) (tyB P n) (fun t e ht fuel cs x hx => open_ty n ht hx) _ e 0 cs h3 (fun i t' hi => by
        obtain ⟨hi1, hi2⟩ := List.getElem?_eq_some_iff.1 hi
        simp at hi1 hi2
        subst hi2
        have g := hf i hi1
        have hs : ((List.take i (List.replicate m u)).map P.cellsOf).sum = i * P.cellsOf u := by
          rw [List.take_replicate, Nat.min_eq_left (by omega)]; simp
        rw [hs, g]
        exact ⟨xs[i]'(by omega), by simp⟩)
      exact ⟨y, hl.trans h1, k1, k2⟩
    · cases h

/-- Is a parameter's type of this form? -/
def dtB (P : Program) (t : TypeId) : DT → Bool
  | .cell e => tyB P 8 t e && bltN 0 e.size && (match P.underlying t with | some (.struct _) => e.agg | some (.array _ _) => e.agg | _ => !e.agg)
  | .lst e => (match P.underlying t with | some (.slice u) => P.cellsOf u == e.size && bltN 0 e.size && tyB P 8 u e | _ => false)
def DT.ok : (d : DT) → d.T → Prop
  | .cell e, x => e.ok x
  | .lst e, L => L.length ≤ maxLen ∧ ∀ x ∈ L, e.ok x

theorem elV_some : ∀ {e : Ty} (x : U e.T), 0 < e.size → ∃ y, elV e x = some y
  | .int _, x, _ => ⟨_, rfl⟩
  | .bool, x, _ => ⟨_, rfl⟩
  | .bytes, x, _ => ⟨_, rfl⟩
  | .lst _, x, _ => ⟨_, rfl⟩
  | .str, x, _ => ⟨_, rfl⟩
  | .unit, x, h => by simp [Ty.size] at h
  | .pair a b, x, _ => ⟨_, rfl⟩

theorem open_dt {d : DT} {t : TypeId} (hd : dtB P t d = true) {v : Value} {r : Reach} {b0 : Nat} (hval : Value.okWide P W r b0 t v) {dd : DataW H} {ps : List MemPlace} (h : DataW.Trod enc P W 0 sp held t v dd ps) :
    ∃ x : d.T, d.ok x ∧ ∀ ρ : Ev, ρ.M = memOf W → Den2 ρ (d.sv (fun _ => x)) v := by
  obtain ⟨fuel, hf⟩ := h
  cases d with
  | cell e =>
    simp only [dtB, Bool.and_eq_true] at hd
    obtain ⟨⟨h1, h2⟩, h3⟩ := hd
    have h2 : 0 < e.size := leN h2
    obtain ⟨y, k1, k2, k3⟩ := open_ty 8 h1 hf
    refine ⟨y, k3, fun ρ hM => ?_⟩
    obtain ⟨z, hz⟩ := elV_some (e := e) (fun _ => y) h2
    simp only [DT.sv, hz]
    refine elV_den hz ?_
    rw [hM]
    refine ⟨v.cells.toList, k1, k2, ?_⟩
    have hag : ∀ cs, v = .agg cs → e.agg = true → (match e.agg with | true => v = .agg v.cells.toList.toArray | false => v.cells.toList = [v]) := by
      rintro cs rfl he
      rw [he]; simp [Value.cells]
    have hone : (∀ cs, v ≠ .agg cs) → e.agg = false → (match e.agg with | true => v = .agg v.cells.toList.toArray | false => v.cells.toList = [v]) := by
      intro hn he
      rw [he]
      cases v <;> first | rfl | exact absurd rfl (hn _)
    unfold tyB at h1
    split at h1
    · rename_i k hu
      obtain ⟨m, rfl⟩ := okWide_int hu hval
      rw [hu] at h3
      exact hone (fun _ h => by cases h) (by simpa using h3)
    · rename_i hu
      obtain ⟨m, rfl⟩ := okWide_bool hu hval
      rw [hu] at h3
      exact hone (fun _ h => by cases h) (by simpa using h3)
    · rename_i hu
      obtain ⟨m, rfl⟩ := okWide_string hu hval
      rw [hu] at h3
      exact hone (fun _ h => by cases h) (by simpa using h3)
    · rename_i u hu
      obtain ⟨a, l, c, rfl⟩ := okWide_slice hu hval
      rw [hu] at h3
      exact hone (fun _ h => by cases h) (by simpa using h3)
    · rename_i fs hu
      obtain ⟨cs, rfl, _⟩ := okWide_struct hu hval
      rw [hu] at h3
      exact hag _ rfl h3
    · rename_i m u hu
      have hval' := hval
      simp only [Value.okWide, hu] at hval'
      obtain ⟨cs, rfl, _⟩ := hval'
      rw [hu] at h3
      exact hag _ rfl h3
    · cases h1
  | lst e =>
    simp only [dtB] at hd
    split at hd
    · rename_i u hu
      simp only [Bool.and_eq_true, beq_iff_eq] at hd
      obtain ⟨⟨h1, h2⟩, h3⟩ := hd
      have h2 : 0 < e.size := leN h2
      obtain ⟨a, l, c, rfl⟩ := okWide_slice hu hval
      obtain ⟨L, g1, g2, v', g3, g4⟩ := shows_of hu h1 h2 hf (fun n cs' x' hx' => open_ty 8 h3 hx')
      have hv' : v' = .slice a l c := by simpa [Value.cells] using g3.symm
      subst hv'
      exact ⟨L, ⟨g1, g2⟩, fun ρ hM => by show ShowsM ρ.M e L _; rw [hM]; exact g4⟩
    · cases hd
end

/-- A call from outside, by a template over nothing. -/
theorem TmplOk.start {A : Type} {AI : Abs A} {f : FuncId} {args : List SV} {v : SV} (hT : TmplOk P AI f args [] v []) {W : World} {us : List Value} (hargs : ∀ ρ : Ev, ρ.M = memOf W → All2 (Den ρ) args us) :
    Calls P f us.toArray W fun e w' => (∃ y ρ, e = .returned y ∧ Den ρ v y) ∧ Below W.heap.size W w' := by
  let ρc : Ev := { root := fun _ => .bool false, ver := fun _ => 0, M := memOf W, foot := fun _ => [] }
  refine (hT ⟨W, fun _ => False, 0, fun _ => .bool false, memOf W, 0, fun _ => 0⟩ ρc W us rfl rfl ?_ (hargs ρc rfl)).mono ?_
  · exact ⟨rfl, (fun t x ht => by cases ht), fun j => ⟨rfl, rfl, rfl⟩, (fun _ _ _ _ h => by cases h), (fun _ _ h => by cases h), fun b o x hm => ⟨hm, fun i hi => by cases hi⟩, rfl, rfl, rfl, Nat.le_refl _, fun _ _ _ => rfl, (fun _ _ h => by cases h), (fun i b hi hb => by cases hb), (fun i hi => absurd hi (Nat.not_lt_zero i)), fun _ _ _ hm => hm, fun b o x hm => .inl hm⟩
  · rintro e w' ⟨y, ρ', rfl, hh, hy⟩
    exact ⟨⟨y, ρ', rfl, hy⟩, hh.os, hh.tape, hh.output, hh.grow, fun k hk => hh.kept k hk (fun h => h)⟩

/-- A law returns true. -/
theorem PureSpec.law {A : Type} {AI : Abs A} {f : FuncId} {k : PureSpec} (hrs : k.rs = [.cell .bool]) (hk : k.Ok P AI f) {x : Tup k.ds} (hx : k.pre x) (hf : ∀ v : SV, resOf (svs k.rs (fun _ => k.f x)) = v → ∀ ρ y, Den ρ v y → y = .bool true) {W : World} {us : List Value}
    (hargs : ∀ ρ : Ev, ρ.M = memOf W → All2 (Den2 ρ) (svs k.ds (fun _ => x)) us) :
    Calls P f us.toArray W fun e w' => e = .returned (.bool true) ∧ Below W.heap.size W w' := by
  refine ((hk x hx).start fun ρ hM => argS_den (hargs ρ hM) rfl).mono ?_
  rintro e w' ⟨⟨y, ρ, rfl, hy⟩, hb⟩
  rw [hf _ rfl ρ y hy]
  exact ⟨rfl, hb⟩

theorem inRange_i64 {n : Int} (h : (Ty.int .i64).ok n) : inI64 n := by
  obtain ⟨a, b⟩ := h
  have e1 : IntKind.i64.min = -9223372036854775808 := by decide
  have e2 : IntKind.i64.max = 9223372036854775807 := by decide
  exact ⟨e1 ▸ a, e2 ▸ b⟩
theorem inRange_u8 {n : Int} (h : (Ty.int .u8).ok n) : 0 ≤ n ∧ n ≤ 255 := by
  obtain ⟨a, b⟩ := h
  have e1 : IntKind.u8.min = 0 := by decide
  have e2 : IntKind.u8.max = 255 := by decide
  exact ⟨e1 ▸ a, e2 ▸ b⟩
theorem inRange_u16 {n : Int} (h : (Ty.int .u16).ok n) : 0 ≤ n ∧ n ≤ 65535 := by
  obtain ⟨a, b⟩ := h
  have e1 : IntKind.u16.min = 0 := by decide
  have e2 : IntKind.u16.max = 65535 := by decide
  exact ⟨e1 ▸ a, e2 ▸ b⟩
end Go.Sx
