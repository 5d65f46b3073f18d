/-
  Plain: shortest lengths of legal paths, by passes that improve.
-/
import Derived.Test.YtcaoldilmnpjoaaGreatOrv
namespace Go.Proofs.YtcaoldilmnpjoaaGreat
set_option linter.all false
open Go.RowKit Go.Sx
abbrev SK := Int × Bool
abbrev StM := List (SK × Int)
abbrev SKE : Ty := .pair Ii .bool
def stpS (L : List Int) (s : SK) (to : Int) : Tup [DT.cell SKE, DT.cell .bool] :=
  if (aboveF (L, ()) to s.1).1 = true then ((to, false), !s.2, ()) else ((to, true), true, ())
abbrev nxS (L : List Int) (s : SK) (to : Int) : SK := (stpS L s to).1
abbrev gS (M : StM) (s : SK) : Option Int := getA M s
def impF (L : List Int) (M : StM) (s : SK) (to : Int) : Bool × StM :=
  if (stpS L s to).2.1 = true then
    (if (gS M (nxS L s to)).isSome = true then
      (if (gS M s).isSome = true then
        (if (gS M s).getD 0 ≤ (gS M (nxS L s to)).getD 0 + 1 then (false, M) else (true, putA M s ((gS M (nxS L s to)).getD 0 + 1)))
      else (true, putA M s ((gS M (nxS L s to)).getD 0 + 1)))
    else (false, M))
  else (false, M)
structure Md (n : Nat) (M : StM) : Prop where
  nd : (M.map Prod.fst).Nodup
  rng : ∀ e ∈ M, 0 ≤ e.1.1 ∧ e.1.1 < (n : Int)
  val : ∀ e ∈ M, 0 ≤ e.2 ∧ e.2 + 1 ≤ (M.length : Int)
theorem nodup_len {α : Type} [DecidableEq α] : ∀ {l m : List α}, l.Nodup → (∀ x ∈ l, x ∈ m) → l.length ≤ m.length
  | [], m, _, _ => Nat.zero_le _
  | a :: l, m, hn, hs => by
    have ha := hs a (List.mem_cons_self ..)
    rw [List.nodup_cons] at hn
    have ih := nodup_len (l := l) (m := m.erase a) hn.2 (fun x hx => (List.mem_erase_of_ne (a := x) (b := a) (fun e => hn.1 (by rw [← e]; exact hx))).2 (hs x (List.mem_cons_of_mem _ hx)))
    have hl := List.length_erase_of_mem ha
    have hp : 0 < m.length := List.length_pos_of_mem ha
    simp only [List.length_cons]
    omega
def stL (n : Nat) : List SK := (List.range n).flatMap fun (k : Nat) => [(Int.ofNat k, false), (Int.ofNat k, true)]
theorem stL_len (n : Nat) : (stL n).length = 2 * n := by
  unfold stL
  induction n with
  | zero => rfl
  | succ n ih => rw [List.range_succ, List.flatMap_append, List.length_append, ih]; simp; omega
theorem Md.len {n : Nat} {M : StM} (h : Md n M) : M.length ≤ 2 * n := by
  have := nodup_len (l := M.map Prod.fst) (m := stL n) h.nd (fun x hx => by
    obtain ⟨e, he, rfl⟩ := List.mem_map.1 hx
    obtain ⟨h1, h2⟩ := h.rng e he
    unfold stL
    rw [List.mem_flatMap]
    refine ⟨e.1.1.toNat, List.mem_range.2 (by omega), ?_⟩
    have h3 : e.1 = (e.1.1, e.1.2) := rfl
    have h4 : Int.ofNat e.1.1.toNat = e.1.1 := Int.toNat_of_nonneg h1
    rw [h3, h4]
    cases e.1.2 <;> simp)
  rw [stL_len, List.length_map] at this
  exact this
def sumV : StM → Int
  | [] => 0
  | e :: M => e.2 + sumV M
theorem sumV_app (M : StM) (e : SK × Int) : sumV (M ++ [e]) = sumV M + e.2 := by
  induction M with
  | nil => simp [sumV]
  | cons a M ih => simp only [List.cons_append, sumV, ih]; omega
theorem gS_mem {M : StM} {s : SK} {v : Int} (h : gS M s = some v) : (s, v) ∈ M := by
  induction M with
  | nil => cases h
  | cons q D ih =>
    obtain ⟨k, u⟩ := q
    have h : (if k = s then some u else getA D s) = some v := h
    split at h
    · rename_i e; cases h; rw [e]; exact List.mem_cons_self ..
    · exact List.mem_cons_of_mem _ (ih h)
theorem gS_none {M : StM} {s : SK} (h : gS M s = none) : s ∉ M.map Prod.fst := by
  induction M with
  | nil => simp
  | cons q D ih =>
    obtain ⟨k, u⟩ := q
    have h : (if k = s then some u else getA D s) = none := h
    split at h
    · cases h
    · rename_i e
      simp only [List.map_cons, List.mem_cons, not_or]
      exact ⟨fun e2 => e e2.symm, ih h⟩
theorem put_new {M : StM} {s : SK} {v : Int} (h : gS M s = none) : putA M s v = M ++ [(s, v)] := by
  induction M with
  | nil => rfl
  | cons q D ih =>
    obtain ⟨k, u⟩ := q
    have h : (if k = s then some u else getA D s) = none := h
    split at h
    · cases h
    · rename_i e
      show (if k = s then (s, v) :: D else (k, u) :: putA D s v) = _
      rw [if_neg e, ih h]; rfl
theorem put_old {M : StM} {s : SK} {v o : Int} (h : gS M s = some o) : (putA M s v).map Prod.fst = M.map Prod.fst ∧ (putA M s v).length = M.length ∧ sumV (putA M s v) = sumV M + v - o ∧ ∀ e ∈ putA M s v, e ∈ M ∨ e = (s, v) := by
  induction M with
  | nil => cases h
  | cons q D ih =>
    obtain ⟨k, u⟩ := q
    have h : (if k = s then some u else getA D s) = some o := h
    show ((if k = s then (s, v) :: D else (k, u) :: putA D s v).map Prod.fst = _) ∧ (if k = s then (s, v) :: D else (k, u) :: putA D s v).length = _ ∧ sumV (if k = s then (s, v) :: D else (k, u) :: putA D s v) = _ ∧ ∀ e ∈ (if k = s then (s, v) :: D else (k, u) :: putA D s v), _
    split at h
    · rename_i e
      cases h
      rw [if_pos e]
      refine ⟨by simp [e], rfl, by simp only [sumV]; omega, fun x hx => ?_⟩
      rcases List.mem_cons.1 hx with rfl | hx
      · exact .inr rfl
      · exact .inl (List.mem_cons_of_mem _ hx)
    · rename_i e
      rw [if_neg e]
      obtain ⟨h1, h2, h3, h4⟩ := ih h
      refine ⟨by simp only [List.map_cons, h1], by simp only [List.length_cons, h2], by simp only [sumV, h3]; omega, fun x hx => ?_⟩
      rcases List.mem_cons.1 hx with rfl | hx
      · exact .inl (List.mem_cons_self ..)
      · rcases h4 x hx with h5 | h5
        · exact .inl (List.mem_cons_of_mem _ h5)
        · exact .inr h5
def phM (n : Nat) (M : StM) : Nat := (sumV M).toNat + (2 * n - M.length) * (2 * n)
theorem sumV_nn {n : Nat} {M : StM} (h : ∀ e ∈ M, 0 ≤ e.2 ∧ e.2 + 1 ≤ (n : Int)) : 0 ≤ sumV M := by
  induction M with
  | nil => exact Int.le_refl _
  | cons a M ih =>
    have h1 := (h a (List.mem_cons_self ..)).1
    have h2 := ih (fun e he => h e (List.mem_cons_of_mem _ he))
    simp only [sumV]; omega
theorem Md.putNew {n : Nat} {M : StM} (h : Md n M) {s : SK} {d : Int} {t : SK} (hs : 0 ≤ s.1 ∧ s.1 < (n : Int)) (hn : gS M s = none) (ht : gS M t = some d) : Md n (putA M s (d + 1)) ∧ phM n (putA M s (d + 1)) < phM n M := by
  have hd := h.val _ (gS_mem ht)
  dsimp only at hd
  have hM : Md n (M ++ [(s, d + 1)]) := by
    refine ⟨?_, fun e he => ?_, fun e he => ?_⟩
    · rw [List.map_append, List.nodup_append]
      refine ⟨h.nd, by simp, fun a ha b hb e => ?_⟩
      have hb : b = s := by simpa using hb
      subst e; subst hb
      exact gS_none hn ha
    · rcases List.mem_append.1 he with he | he
      · exact h.rng e he
      · obtain rfl : e = (s, d + 1) := by simpa using he
        exact hs
    · rw [List.length_append]
      rcases List.mem_append.1 he with he | he
      · have := h.val e he; simp only [List.length_cons, List.length_nil]; omega
      · obtain rfl : e = (s, d + 1) := by simpa using he
        simp only [List.length_cons, List.length_nil]; omega
  rw [put_new hn]
  refine ⟨hM, ?_⟩
  have h1 := hM.len
  rw [List.length_append] at h1
  have h2 := sumV_nn h.val
  unfold phM
  rw [sumV_app, List.length_append]
  simp only [List.length_cons, List.length_nil] at h1 ⊢
  have e1 : (2 * n - M.length) * (2 * n) = (2 * n - (M.length + (0 + 1))) * (2 * n) + 2 * n := by
    rw [show 2 * n - M.length = (2 * n - (M.length + (0 + 1))) + 1 from by omega, Nat.add_mul]; omega
  rw [e1]
  generalize (2 * n - (M.length + (0 + 1))) * (2 * n) = q
  omega
theorem Md.putOld {n : Nat} {M : StM} (h : Md n M) {s : SK} {d o : Int} {t : SK} (hn : gS M s = some o) (ht : gS M t = some d) (hlt : d + 1 < o) : Md n (putA M s (d + 1)) ∧ phM n (putA M s (d + 1)) < phM n M := by
  have hd := h.val _ (gS_mem ht)
  have ho := h.val _ (gS_mem hn)
  have hs := h.rng _ (gS_mem hn)
  dsimp only at hd ho hs
  obtain ⟨h1, h2, h3, h4⟩ := put_old (v := d + 1) hn
  have hM : Md n (putA M s (d + 1)) := by
    refine ⟨by rw [h1]; exact h.nd, fun e he => ?_, fun e he => ?_⟩
    · rcases h4 e he with h5 | h5
      · exact h.rng e h5
      · rw [h5]; exact hs
    · rw [h2]
      rcases h4 e he with h5 | h5
      · exact h.val e h5
      · rw [h5]; dsimp only; omega
  refine ⟨hM, ?_⟩
  have h5 := sumV_nn hM.val
  unfold phM
  rw [h3, h2] at *
  generalize (2 * n - M.length) * (2 * n) = q
  omega
theorem isS {α : Type} {x : Option α} (h : x.isSome = true) (d : α) : x = some (x.getD d) := by cases x; cases h; rfl
theorem Md.imp {n : Nat} {M : StM} (h : Md n M) {L : List Int} {s : SK} {to : Int} (hs : 0 ≤ s.1 ∧ s.1 < (n : Int)) : Md n (impF L M s to).2 ∧ ((impF L M s to).1 = true → phM n (impF L M s to).2 < phM n M) ∧ ((impF L M s to).1 = false → (impF L M s to).2 = M) := by
  have nop : Md n (false, M).2 ∧ ((false, M).1 = true → phM n (false, M).2 < phM n M) ∧ ((false, M).1 = false → (false, M).2 = M) := ⟨h, fun e => (by cases e), fun _ => rfl⟩
  unfold impF
  split
  · split
    · rename_i h2
      have h2 := isS h2 0
      split
      · rename_i h3
        have h3 := isS h3 0
        split
        · exact nop
        · rename_i h4
          obtain ⟨h5, h6⟩ := h.putOld h3 h2 (by omega)
          exact ⟨h5, fun _ => h6, fun e => by cases e⟩
      · rename_i h3
        have h3 : gS M s = none := by cases hx : gS M s with | none => rfl | some v => rw [hx] at h3; exact absurd rfl h3
        obtain ⟨h5, h6⟩ := h.putNew hs h3 h2
        exact ⟨h5, fun _ => h6, fun e => by cases e⟩
    · exact nop
  · exact nop
/-- Both ways over a cable. -/
def twoF (L : List Int) (c : CabT) (f : Bool) (S : Bool × StM) : Bool × StM :=
  ((impF L (impF L S.2 (c.1, f) c.2.2.1).2 (c.2.2.1, f) c.1).1 || ((impF L S.2 (c.1, f) c.2.2.1).1 || S.1), (impF L (impF L S.2 (c.1, f) c.2.2.1).2 (c.2.2.1, f) c.1).2)
def cabF (L : List Int) (c : CabT) (b : Bool) (S : Bool × StM) : Bool × StM :=
  if b = true then (if lat L c.1 < 0 then S else (if lat L c.2.2.1 < 0 then S else twoF L c true (twoF L c false S))) else S
def pasF (L : List Int) (C : List CabT) (up : List Bool) : Nat → StM → Bool × StM
  | 0, M => (false, M)
  | k + 1, M => cabF L (C.getD k z6) (up.getD k false) (pasF L C up k M)
/-- What has been done since M0. -/
structure Pg (n : Nat) (M0 : StM) (S : Bool × StM) : Prop where
  md : Md n S.2
  le : phM n S.2 ≤ phM n M0
  ch : S.1 = true → phM n S.2 < phM n M0
theorem Pg.imp {n : Nat} {M0 : StM} {S : Bool × StM} (h : Pg n M0 S) {L : List Int} {s : SK} {to : Int} (hs : 0 ≤ s.1 ∧ s.1 < (n : Int)) : Pg n M0 ((impF L S.2 s to).1 || S.1, (impF L S.2 s to).2) := by
  obtain ⟨h1, h2, h3⟩ := h.md.imp hs (L := L) (to := to)
  have h4 := h.le
  cases e : (impF L S.2 s to).1 with
  | true => exact ⟨h1, by have := h2 e; show phM n (impF L S.2 s to).2 ≤ _; omega, fun _ => by have := h2 e; show phM n (impF L S.2 s to).2 < _; omega⟩
  | false =>
    have h5 := h3 e
    exact ⟨h1, by show phM n (impF L S.2 s to).2 ≤ _; rw [h5]; exact h4, fun e2 => by show phM n (impF L S.2 s to).2 < _; rw [h5]; exact h.ch e2⟩
theorem Pg.two {n : Nat} {M0 : StM} {S : Bool × StM} (h : Pg n M0 S) {L : List Int} {c : CabT} {f : Bool} (ha : 0 ≤ c.1 ∧ c.1 < (n : Int)) (hb : 0 ≤ c.2.2.1 ∧ c.2.2.1 < (n : Int)) : Pg n M0 (twoF L c f S) :=
  (h.imp (s := (c.1, f)) (to := c.2.2.1) (L := L) ha).imp (s := (c.2.2.1, f)) (to := c.1) (L := L) hb
theorem Pg.cab {n : Nat} {M0 : StM} {S : Bool × StM} (h : Pg n M0 S) {L : List Int} {c : CabT} {b : Bool} (ha : 0 ≤ c.1 ∧ c.1 < (n : Int)) (hb : 0 ≤ c.2.2.1 ∧ c.2.2.1 < (n : Int)) : Pg n M0 (cabF L c b S) := by
  unfold cabF
  split
  · split
    · exact h
    · split
      · exact h
      · exact (h.two ha hb).two ha hb
  · exact h
theorem Pg.zero {n : Nat} {M : StM} (h : Md n M) : Pg n M (false, M) := ⟨h, Nat.le_refl _, fun e => by cases e⟩
theorem Pg.pas {n : Nat} {M : StM} {L : List Int} {C : List CabT} {up : List Bool} (h : Md n M) (hC : EndsOk C n) : ∀ k : Nat, k ≤ C.length → Pg n M (pasF L C up k M)
  | 0, _ => Pg.zero h
  | k + 1, hk => by
    obtain ⟨h1, h2, _⟩ := hC _ (getD_mem (show k < C.length by omega))
    exact (Pg.pas h hC k (by omega)).cab h1 h2
def srN (L : List Int) (C : List CabT) (up : List Bool) : Nat → StM → StM
  | 0, M => M
  | k + 1, M => if (pasF L C up C.length M).1 = true then srN L C up k (pasF L C up C.length M).2 else (pasF L C up C.length M).2
def mS0 (to : Int) : StM := [((to, false), 0), ((to, true), 0)]
theorem md0 {n : Nat} {to : Int} (h : 0 ≤ to ∧ to < (n : Int)) : Md n (mS0 to) := by
  refine ⟨by simp [mS0], fun e he => ?_, fun e he => ?_⟩
  · rcases List.mem_cons.1 he with rfl | he
    · exact h
    · obtain rfl := List.mem_singleton.1 he; exact h
  · rcases List.mem_cons.1 he with rfl | he
    · exact ⟨Int.le_refl _, by show (0 : Int) + 1 ≤ 2; decide⟩
    · obtain rfl := List.mem_singleton.1 he; exact ⟨Int.le_refl _, by show (0 : Int) + 1 ≤ 2; decide⟩
theorem ph0 (n : Nat) (to : Int) : phM n (mS0 to) = (2 * n - 2) * (2 * n) := by show ((0 : Int) + ((0 : Int) + 0)).toNat + _ = _; simp [mS0]
/-- The passes under way. -/
structure Sp (L : List Int) (C : List CabT) (up : List Bool) (n : Nat) (to : Int) where
  k : Nat
  M : StM
  md : Md n M
  ph : phM n M < k
  eq : srN L C up k M = srN L C up ((2 * n - 2) * (2 * n) + 1) (mS0 to)
theorem Sp.zero {L : List Int} {C : List CabT} {up : List Bool} {n : Nat} {to : Int} (h : 0 ≤ to ∧ to < (n : Int)) : ∃ x : Sp L C up n to, x.M = mS0 to :=
  ⟨⟨(2 * n - 2) * (2 * n) + 1, mS0 to, md0 h, by rw [ph0]; exact Nat.lt_succ_self _, rfl⟩, rfl⟩
theorem Sp.next {L : List Int} {C : List CabT} {up : List Bool} {n : Nat} {to : Int} (hC : EndsOk C n) (x : Sp L C up n to) (h : (pasF L C up C.length x.M).1 = true) : ∃ y : Sp L C up n to, y.k < x.k ∧ y.M = (pasF L C up C.length x.M).2 := by
  have hp := Pg.pas (L := L) (up := up) x.md hC C.length (Nat.le_refl _)
  have h1 := x.ph
  have h2 := hp.ch h
  obtain ⟨k, hk⟩ : ∃ k, x.k = k + 1 := ⟨x.k - 1, by omega⟩
  refine ⟨⟨k, _, hp.md, by omega, ?_⟩, by show k < x.k; omega, rfl⟩
  rw [← x.eq, hk]
  show _ = if _ then _ else _
  rw [if_pos h]
theorem Sp.done {L : List Int} {C : List CabT} {up : List Bool} {n : Nat} {to : Int} (x : Sp L C up n to) (h : (pasF L C up C.length x.M).1 = false) : (pasF L C up C.length x.M).2 = srN L C up ((2 * n - 2) * (2 * n) + 1) (mS0 to) := by
  have h1 := x.ph
  obtain ⟨k, hk⟩ : ∃ k, x.k = k + 1 := ⟨x.k - 1, by omega⟩
  rw [← x.eq, hk]
  show _ = if _ then _ else _
  rw [if_neg (by rw [h]; decide)]
def srchL (L : List Int) (C : List CabT) (up : List Bool) (n : Nat) (to : Int) : StM := if lat L to < 0 then [] else srN L C up ((2 * n - 2) * (2 * n) + 1) (mS0 to)
theorem srN_md {L : List Int} {C : List CabT} {up : List Bool} {n : Nat} (hC : EndsOk C n) : ∀ (k : Nat) (M : StM), Md n M → Md n (srN L C up k M)
  | 0, M, h => h
  | k + 1, M, h => by
    have hp := Pg.pas (L := L) (up := up) h hC C.length (Nat.le_refl _)
    show Md n (if _ then _ else _)
    split
    · exact srN_md hC k _ hp.md
    · exact hp.md
theorem srch_md {L : List Int} {C : List CabT} {up : List Bool} {n : Nat} {to : Int} (hC : EndsOk C n) (h : 0 ≤ to ∧ to < (n : Int)) : Md n (srchL L C up n to) := by
  unfold srchL
  split
  · exact ⟨List.nodup_nil, fun e he => (by cases he), fun e he => (by cases he)⟩
  · exact srN_md hC _ _ (md0 h)
end Go.Proofs.YtcaoldilmnpjoaaGreat
