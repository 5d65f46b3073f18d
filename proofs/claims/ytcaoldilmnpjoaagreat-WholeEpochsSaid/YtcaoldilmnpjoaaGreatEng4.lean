/-
  Symbolic execution (part 4).
-/
import Derived.Test.YtcaoldilmnpjoaaGreatEng3
/-
  Symbolic execution: a contract at chunks that are numbered otherwise.
-/
namespace Go.Sx
set_option linter.all false
open Go.RowKit

variable {A : Type} {AI : Abs A} {G : Fr} {s : SS A} {ρ : Ev} {a : Act} {w : World} {P : Program} {l m : List Nat}

def apR : List Nat → Nat → Nat → Nat
  | [], _, d => d
  | x :: _, 0, _ => x
  | _ :: r, i + 1, d => apR r i d
def ap (l : List Nat) (i : Nat) : Nat := apR l i i
theorem apR_out : ∀ (l : List Nat) (i d : Nat), l.length ≤ i → apR l i d = d
  | [], _, _, _ => rfl
  | _ :: r, 0, _, h => by simp at h
  | _ :: r, i + 1, d, h => apR_out r i d (by simpa using h)
theorem ap_out {l : List Nat} {i : Nat} (h : l.length ≤ i) : ap l i = i := apR_out l i i h
/-- Two lists of numbers are inverse to each other. -/
def invB (l m : List Nat) : Bool := beqN l.length m.length && (upTo 0 l.length).all fun i => bltN (ap l i) l.length && beqN (ap m (ap l i)) i && bltN (ap m i) l.length && beqN (ap l (ap m i)) i
structure Inv2 (l m : List Nat) : Prop where
  lm : ∀ i, ap m (ap l i) = i
  ml : ∀ i, ap l (ap m i) = i
  lt : ∀ i, i < l.length → ap l i < l.length
theorem invB_spec (h : invB l m = true) : Inv2 l m := by
  obtain ⟨h1, h2⟩ := Bool.and_eq_true_iff.1 h
  have h1 := beq_eq h1
  have key : ∀ i, i < l.length → ap l i < l.length ∧ ap m (ap l i) = i ∧ ap l (ap m i) = i := fun i hi => by
    have h3 := List.all_eq_true.1 h2 i (mem_upTo.2 ⟨Nat.zero_le _, by omega⟩)
    simp only [Bool.and_eq_true] at h3
    exact ⟨leN h3.1.1.1, beq_eq h3.1.1.2, beq_eq h3.2⟩
  refine ⟨fun i => ?_, fun i => ?_, fun i hi => (key i hi).1⟩
  · by_cases hi : i < l.length
    · exact (key i hi).2.1
    · rw [ap_out (l := l) (by omega), ap_out (by omega)]
  · by_cases hi : i < l.length
    · exact (key i hi).2.2
    · rw [ap_out (l := m) (by omega), ap_out (by omega)]
theorem Inv2.inj (h : Inv2 l m) {i j : Nat} (e : ap l i = ap l j) : i = j := by rw [← h.lm i, e, h.lm j]
theorem Inv2.inj' (h : Inv2 l m) {i j : Nat} (e : ap m i = ap m j) : i = j := by rw [← h.ml i, e, h.ml j]

def rnF (g : List Nat) : SV1 → SV1
  | .ptr i o => .ptr (ap g i) o
  | .mp i => .mp (ap g i)
  | .hd i v => .hd (ap g i) v
  | .vw i v e l n => .vw (ap g i) v e l n
  | .ep i v e k o => .ep (ap g i) v e k o
  | .fnc f ids => .fnc f (ids.map (ap g))
  | x => x
def rnK {A : Type} (g : List Nat) : Chunk A → Chunk A
  | .cells t cs => .cells t (cs.map (rnF g))
  | .rmap ks e L R c j => .rmap ks e L R c (ap g j)
  | .itp i => .itp (ap g i)
  | .nest t tb z v L (some (k, j)) => .nest t tb z v L (some (k, ap g j))
  | .mnest tb L (some (k, j)) => .mnest tb L (some (k, ap g j))
  | c => c
def Ev.via (ρ : Ev) (l : List Nat) : Ev := { root := fun j => ρ.root (ap l j), ver := fun j => ρ.ver (ap l j), M := ρ.M, foot := fun j => ρ.foot (ap l j) }
theorem rnF_den (hi : ∀ i, ap l (ap m i) = i) {x : SV1} {v : Value} (h : Den1 ρ x v) : Den1 (ρ.via l) (rnF m x) v := by
  cases x <;> simp only [rnF] <;> (try exact h)
  case fnc f ids =>
    obtain ⟨vs, h1, h2⟩ := h
    refine ⟨vs, h1, h2.mapL fun i u hu => ?_⟩
    obtain ⟨b, h3, h4⟩ := hu
    exact ⟨b, by simp only [Ev.via, hi]; exact h3, h4⟩
  all_goals
    simp only [Den1, Ev.via, hi] at h ⊢
    exact h
theorem SlotAt.via (hi : ∀ i, ap l (ap m i) = i) {tb : TypeId} {h : Option (Nat × Nat)} {n : Nat} {x : List Int} {c : Option Value} {F : List Nat} (hs : SlotAt tb ρ w h n x c F) : SlotAt tb (ρ.via l) w (h.map fun q => (q.1, ap m q.2)) n x c F := by
  cases h with
  | none => exact hs
  | some q =>
    obtain ⟨q, j⟩ := q
    refine ⟨fun e => ?_, hs.2⟩
    obtain ⟨⟨v, c1, c2⟩, c3⟩ := hs.1 e
    exact ⟨⟨v, c1, rnF_den (x := .hd j 0) hi c2⟩, c3⟩
theorem RowsAt.via (hi : ∀ i, ap l (ap m i) = i) {tb : TypeId} {L : List (List Int)} {h : Option (Nat × Nat)} {b : Nat} {F : List Nat} {hdr : Nat → Option Value} (hs : RowsAt tb ρ w L h b F hdr) : RowsAt tb (ρ.via l) w L (h.map fun q => (q.1, ap m q.2)) b F hdr := by
  obtain ⟨blk, h1, h2, h3, h4⟩ := hs
  exact ⟨blk, h1, h2, h3, fun n x hn => (h4 n x hn).via hi⟩
theorem rnK_holds (hi : ∀ i, ap l (ap m i) = i) {j : Nat} {c : Chunk A} (h : HoldsC AI ρ w (ap l j) c) : HoldsC AI (ρ.via l) w j (rnK m c) := by
  cases c with
  | emp => exact h
  | gone => trivial
  | cells t cs =>
    obtain ⟨b, vs, h1, h2, h3, h4⟩ := h
    exact ⟨b, vs, h1, h2, h3, h4.mapL fun _ _ => rnF_den hi⟩
  | row t e v L => exact h
  | map ks e L => exact h
  | rmap ks e L R c j' =>
    obtain ⟨b, r, h1, h2, h3, h4⟩ := h
    exact ⟨b, r, h1, by simp only [Ev.via, hi]; exact h2, h3, h4⟩
  | itp q => exact h
  | nest t tb z v L q =>
    obtain ⟨h0, b, off, n, cap, h1, h2, h3, h4, h5, h6, h7⟩ := h
    cases q with
    | none => exact ⟨h0, b, off, n, cap, h1, h2, h3, h4, h5.via hi, h6, fun _ _ e => by cases e⟩
    | some q =>
      obtain ⟨k, j'⟩ := q
      exact ⟨h0, b, off, n, cap, h1, h2, h3, h4, h5.via hi, h6, fun _ _ e => by cases e; exact h7 _ _ rfl⟩
  | mnest tb L q =>
    obtain ⟨b, es, clock, h1, h2, h3, h4, h5, h6⟩ := h
    cases q with
    | none => exact ⟨b, es, clock, h1, h2, h3, h4, h5, h6.via hi⟩
    | some q =>
      obtain ⟨k, j'⟩ := q
      refine ⟨b, es, clock, h1, h2, h3, h4, h5, ?_⟩
      rcases h6 with ⟨q, x, c1, c2, c3, c4⟩ | ⟨c1, c2, c3⟩
      · exact .inl ⟨q, x, c1, c2, c3, c4.via hi⟩
      · exact .inr ⟨c1, c2, c3.via hi⟩
  | abs x => exact h
theorem rnK_inv (hi : ∀ i, ap l (ap m i) = i) (c : Chunk A) : rnK l (rnK m c) = c := by
  have h1 : ∀ x : SV1, rnF l (rnF m x) = x := fun x => by
    cases x <;> simp only [rnF, hi]
    rename_i f ids
    rw [List.map_map]
    congr 1
    conv => rhs; rw [← List.map_id ids]
    exact List.map_congr_left fun i _ => hi i
  cases c
  case nest t tb z v L q =>
    rcases q with _ | ⟨k, j⟩
    · rfl
    · simp only [rnK, hi]
  case mnest tb L q =>
    rcases q with _ | ⟨k, j⟩
    · rfl
    · simp only [rnK, hi]
  all_goals simp only [rnK, hi]
  rename_i t cs
  rw [List.map_map]
  congr 1
  conv => rhs; rw [← List.map_id cs]
  exact List.map_congr_left fun x _ => h1 x
/-- The chunks in their other order. -/
def rnH (l m : List Nat) (H : List (Chunk A)) : List (Chunk A) := (upTo 0 (l.length + H.length)).map fun j => rnK m (getC H (ap l j))
theorem getC_mapU {f : Nat → Chunk A} : ∀ {n i j : Nat}, getC ((upTo i n).map f) j = if j < n then f (i + j) else .emp
  | 0, i, j => by simp [upTo, getC, nth]
  | n + 1, i, 0 => by simp [upTo, getC, nth]
  | n + 1, i, j + 1 => by
    have := getC_mapU (f := f) (n := n) (i := i + 1) (j := j)
    simp only [upTo, List.map_cons, getC, nth] at this ⊢
    rw [this, show i + 1 + j = i + (j + 1) by omega]
    by_cases h : j < n
    · rw [if_pos h, if_pos (by omega)]
    · rw [if_neg h, if_neg (by omega)]
theorem getC_rnH (H : List (Chunk A)) (j : Nat) : getC (rnH l m H) j = rnK m (getC H (ap l j)) := by
  unfold rnH
  rw [getC_mapU, Nat.zero_add]
  split
  · rfl
  · rw [ap_out (by omega), getC_beyond (by omega)]; rfl
theorem Holds.via {tmps : Array Value} (hi : Inv2 l m) (h : Holds AI G s ρ tmps w) : Holds AI { G with n0 := 0 } ⟨mapT (rnF m) s.tm, rnH l m s.H⟩ (ρ.via l) tmps w := by
  refine ⟨h.sz, h.gt, fun t v ht => ?_, fun j => ?_, fun i j b hij hb hc => h.dis _ _ b (fun e => hij (hi.inj e)) hb hc, fun i b hb => h.lt _ b hb, fun b o v hm => ⟨(h.im b o v hm).1, fun i => (h.im b o v hm).2 _⟩, h.os, h.tape, h.output, h.grow, h.kept, fun i b hb => h.fro _ b hb, fun i b hi => absurd hi (Nat.not_lt_zero i), fun i hi => absurd hi (Nat.not_lt_zero i), h.mono, h.mfr⟩
  · obtain ⟨u, h1, rfl⟩ := mapT_look ht
    obtain ⟨x, h2, h3⟩ := h.tm t u h1
    exact ⟨x, h2, mapV_den (fun _ _ => rnF_den hi.ml) h3⟩
  · show HoldsC AI (ρ.via l) w j (getC (rnH l m s.H) j)
    rw [getC_rnH]
    exact rnK_holds hi.ml (h.ch _)
theorem putCs_rn (hi : Inv2 l m) : ∀ (ids : List Nat) (cs H H2 : List (Chunk A)), (∀ j, getC H (ap l j) = rnK l (getC H2 j)) → ∀ j, getC (putCs H (ids.map (ap l)) (cs.map (rnK l))) (ap l j) = rnK l (getC (putCs H2 ids cs) j)
  | [], cs, H, H2, h, j => by cases cs <;> exact h j
  | i :: r, [], H, H2, h, j => h j
  | i :: r, c :: cs, H, H2, h, j => by
    refine putCs_rn hi r cs (putC H (ap l i) (rnK l c)) (putC H2 i c) (fun k => ?_) j
    rw [getC_putC, getC_putC]
    by_cases e : k = i
    · rw [if_pos e, if_pos (by rw [e])]
    · rw [if_neg e, if_neg (fun q => e (hi.inj q))]
      exact h k
theorem getCs_rn {H : List (Chunk A)} : ∀ ids : List Nat, (getCs H (ids.map (ap l))).map (rnK m) = getCs (rnH l m H) ids
  | [] => rfl
  | i :: r => by
    show rnK m (getC H (ap l i)) :: (getCs H (r.map (ap l))).map (rnK m) = getC (rnH l m H) i :: getCs (rnH l m H) r
    rw [getC_rnH, getCs_rn r]

/-- A contract at the chunks l: l's first is its chunk 0, and so on; m is inverse to l. -/
def permCon (l m : List Nat) (k : Con A) : Con A := fun args _ => match invB l m with
  | true => (match k (args.map (mapV (rnF m))) l.length with
    | some p0 => (match p0.ids.all (fun i => bltN i l.length) with
      | true => some ⟨p0.ids.map (ap l), 0, p0.w, fun cs d => (match p0.eff (cs.map (rnK m)) d with
        | .done C v cs' => .done C (mapV (rnF l) v) (cs'.map (rnK l))
        | .need b => .need b
        | .fail => .fail)⟩
      | false => none)
    | none => none)
  | false => none
theorem All2.mapV {ρ' : Ev} {f : SV1 → SV1} (hf : ∀ x v, Den1 ρ x v → Den1 ρ' (f x) v) : ∀ {args : List SV} {us : List Value}, All2 (Den ρ) args us → All2 (Den ρ') (args.map (Go.Sx.mapV f)) us
  | _, _, .nil => .nil
  | _, _, .cons h r => .cons (mapV_den hf h) (All2.mapV hf r)
theorem permCon_sound {fn : FuncId} {k : Con A} (l m : List Nat) (hk : ConSound P AI fn k) : ConSound P AI fn (permCon l m k) := by
  refine ⟨hk.1, fun args fresh p hp hw H d C v cs he => ?_, fun G s ρ tmps w args us fresh p d C v cs h hargs hp hfr he hC => ?_⟩
  · unfold permCon at hp
    split at hp <;> (try cases hp)
    rename_i hinv
    split at hp <;> (try cases hp)
    rename_i p0 hp0
    split at hp <;> cases hp
    have hi := invB_spec hinv
    have hn := hk.2.1 _ _ _ hp0 hw
    dsimp only at he ⊢
    rw [getCs_rn] at he
    split at he <;> cases he
    rename_i v' cs' he'
    have e := hn _ _ _ _ _ he'
    rw [e, ← getCs_rn, List.map_map]
    conv => rhs; rw [← List.map_id (getCs H (p0.ids.map (ap l)))]
    exact List.map_congr_left fun c _ => rnK_inv hi.ml c
  · unfold permCon at hp
    split at hp <;> (try cases hp)
    rename_i hinv
    split at hp <;> (try cases hp)
    rename_i p0 hp0
    split at hp <;> cases hp
    rename_i hids
    have hi := invB_spec hinv
    dsimp only at he ⊢
    rw [getCs_rn] at he
    split at he <;> cases he
    rename_i v' cs' he'
    have h2 := h.via hi
    have h3 := hk.2.2 { G with n0 := 0 } _ _ tmps w _ us l.length p0 d C v' cs' h2 (All2.mapV (fun _ _ => rnF_den hi.ml) hargs) hp0 (fun i hmem hle => by
      have := leN (List.all_eq_true.1 hids i hmem)
      omega) he' hC
    refine h3.mono ?_
    rintro e w' ⟨y, ρ1, rfl, h4, h5, h6⟩
    have hle : ρ.Le (ρ1.via m) := by
      refine ⟨fun b o v hm => h6.M b o v hm, fun i b hb => ?_, fun i => ?_, fun i hv hs => ?_⟩
      · exact h6.ptr (ap m i) b (by show ρ.root (ap l (ap m i)) = _; rw [hi.ml]; exact hb)
      · have := h6.ver (ap m i)
        show ρ.ver i ≤ ρ1.ver (ap m i)
        have e : (ρ.via l).ver (ap m i) = ρ.ver i := by show ρ.ver (ap l (ap m i)) = _; rw [hi.ml]
        omega
      · have e1 : (ρ.via l).ver (ap m i) = ρ.ver i := by show ρ.ver (ap l (ap m i)) = _; rw [hi.ml]
        have e2 : (ρ.via l).root (ap m i) = ρ.root i := by show ρ.root (ap l (ap m i)) = _; rw [hi.ml]
        have := h6.same (ap m i) (by rw [e1]; exact hv) (by rw [e2]; exact hs)
        show ρ1.root (ap m i) = ρ.root i
        rw [this, e2]
    refine ⟨y, ρ1.via m, rfl, ⟨h4.sz, h4.gt, fun t x ht => ?_, fun i => ?_, fun i j b hij hb hc => h4.dis _ _ b (fun e => hij (hi.inj' e)) hb hc, fun i b hb => h4.lt _ b hb, fun b o v hm => ⟨(h4.im b o v hm).1, fun i => (h4.im b o v hm).2 _⟩, h4.os, h4.tape, h4.output, h4.grow, h4.kept, fun i b hb => h4.fro _ b hb, fun i b hi' hb => ?_, fun i hi' => ?_, h4.mono, h4.mfr⟩, mapV_den (fun _ _ => rnF_den hi.lm) h5, hle⟩
    · obtain ⟨u, h7, h8⟩ := h.tm t x ht
      exact ⟨u, h7, h8.mono hle⟩
    · have e := putCs_rn hi p0.ids cs' s.H (rnH l m s.H) (fun j => by rw [getC_rnH, rnK_inv hi.ml]) (ap m i)
      rw [hi.ml] at e
      show HoldsC AI (ρ1.via m) w' i (getC (putCs s.H (p0.ids.map (ap l)) (cs'.map (rnK l))) i)
      rw [e]
      exact rnK_holds hi.lm (h4.ch _)
    · exact hle.ptr i b (h.rt i b hi' hb)
    · obtain ⟨g1, g2⟩ := h.rts i hi'
      have := hle.ver i
      refine ⟨Nat.le_trans g1 this, fun ao l' c hs hv => ?_⟩
      have hv0 : ρ.ver i = G.ver0 i := by omega
      have := g2 ao l' c hs hv0
      rw [hle.same i (by omega) ⟨_, _, _, this⟩]
      exact this
end Go.Sx
