/-
  Part Own13 of the proof.
-/
import Derived.Test.YtcaoldilmnpjoaaGreatOwn10
import Derived.Test.YtcaoldilmnpjoaaGreatEng3
namespace Go.Proofs.YtcaoldilmnpjoaaGreat
set_option linter.all false
open Go.RowKit Go.Sx
abbrev SK := Int × Bool
abbrev StM := List (SK × Int)
abbrev SKE : Ty := .pair Ii .bool
def p7 (L : List Int) (s : SK) (to : Int) : Tup [DT.cell SKE, DT.cell .bool] :=
 if (ae (L, ()) to s.1).1 = true then ((to, false), !s.2, ()) else ((to, true), true, ())
abbrev nxS (L : List Int) (s : SK) (to : Int) : SK := (p7 L s to).1
abbrev gS (M : StM) (s : SK) : Option Int := bB M s
def dG (L : List Int) (M : StM) (s : SK) (to : Int) : Bool × StM :=
 if (p7 L s to).2.1 = true then
  (if (gS M (nxS L s to)).isSome = true then
    (if (gS M s).isSome = true then
      (if (gS M s).getD 0 ≤ (gS M (nxS L s to)).getD 0 + 1 then (false, M) else (true, ak M s ((gS M (nxS L s to)).getD 0 + 1)))
    else (true, ak M s ((gS M (nxS L s to)).getD 0 + 1)))
  else (false, M))
 else (false, M)
structure Md (n : Nat) (M : StM) : Prop where
 nd : (M.map Prod.fst).Nodup
 rng : ∀ e ∈ M, 0 ≤ e.1.1 ∧ e.1.1 < (n : Int)
 val : ∀ e ∈ M, 0 ≤ e.2 ∧ e.2 + 1 ≤ (M.length : Int)
theorem nC {α : Type} [DecidableEq α] : ∀ {l m : List α}, l.Nodup → (∀ x ∈ l, x ∈ m) → l.length ≤ m.length
 | [], m, _, _ => Nat.zero_le _
 | a :: l, m, hn, hs => by
   have ha := hs a (List.mem_cons_self ..)
   rw [List.nodup_cons] at hn
   have ih := nC (l := l) (m := m.erase a) hn.2 (fun x hx => (List.mem_erase_of_ne (a := x) (b := a) (fun e => hn.1 (by rw [← e]; exact hx))).2 (hs x (List.mem_cons_of_mem _ hx)))
   have hl := List.length_erase_of_mem ha
   have hp : 0 < m.length := List.length_pos_of_mem ha
   simp only [List.length_cons]
   omega
def stL (n : Nat) : List SK := (List.range n).flatMap fun (k : Nat) => [(Int.ofNat k, false), (Int.ofNat k, true)]
theorem stL_len (n : Nat) : (stL n).length = 2 * n := by
 unfold stL
 induction n with
 | zero => rfl
 | succ n ih => rw [List.range_succ, List.flatMap_append, List.length_append, ih]; simp; omega
theorem Md.len {n : Nat} {M : StM} (h : Md n M) : M.length ≤ 2 * n := by
 have := nC (l := M.map Prod.fst) (m := stL n) h.nd (fun x hx => by
  obtain ⟨e, he, rfl⟩ := List.mem_map.1 hx
  obtain ⟨h1, h2⟩ := h.rng e he
  unfold stL
  rw [List.mem_flatMap]
  refine ⟨e.1.1.toNat, List.mem_range.2 (by omega), ?_⟩
  have h3 : e.1 = (e.1.1, e.1.2) := rfl
  have h4 : Int.ofNat e.1.1.toNat = e.1.1 := Int.toNat_of_nonneg h1
  rw [h3, h4]
  cases e.1.2 <;> simp)
 rw [stL_len, List.length_map] at this
 exact this
def mc : StM → Int
 | [] => 0
 | e :: M => e.2 + mc M
theorem Ah (M : StM) (e : SK × Int) : mc (M ++ [e]) = mc M + e.2 := by
 induction M with
 | nil => simp [mc]
 | cons a M ih => simp only [List.cons_append, mc, ih]; omega
theorem kf {M : StM} {s : SK} {v : Int} (h : gS M s = some v) : (s, v) ∈ M := by
 induction M with
 | nil => cases h
 | cons q D ih =>
   obtain ⟨k, u⟩ := q
   have h : (if k = s then some u else bB D s) = some v := h
   split at h
   · rename_i e; cases h; rw [e]; exact List.mem_cons_self ..
   · exact List.mem_cons_of_mem _ (ih h)
theorem gS_none {M : StM} {s : SK} (h : gS M s = none) : s ∉ M.map Prod.fst := by
 induction M with
 | nil => simp
 | cons q D ih =>
   obtain ⟨k, u⟩ := q
   have h : (if k = s then some u else bB D s) = none := h
   split at h
   · cases h
   · rename_i e
     simp only [List.map_cons, List.mem_cons, not_or]
     exact ⟨fun e2 => e e2.symm, ih h⟩
theorem put_new {M : StM} {s : SK} {v : Int} (h : gS M s = none) : ak M s v = M ++ [(s, v)] := by
 induction M with
 | nil => rfl
 | cons q D ih =>
   obtain ⟨k, u⟩ := q
   have h : (if k = s then some u else bB D s) = none := h
   split at h
   · cases h
   · rename_i e
     show (if k = s then (s, v) :: D else (k, u) :: ak D s v) = _
     rw [if_neg e, ih h]; rfl
theorem put_old {M : StM} {s : SK} {v o : Int} (h : gS M s = some o) : (ak M s v).map Prod.fst = M.map Prod.fst ∧ (ak M s v).length = M.length ∧ mc (ak M s v) = mc M + v - o ∧ ∀ e ∈ ak M s v, e ∈ M ∨ e = (s, v) := by
 induction M with
 | nil => cases h
 | cons q D ih =>
   obtain ⟨k, u⟩ := q
   have h : (if k = s then some u else bB D s) = some o := h
   show ((if k = s then (s, v) :: D else (k, u) :: ak D s v).map Prod.fst = _) ∧ (if k = s then (s, v) :: D else (k, u) :: ak D s v).length = _ ∧ mc (if k = s then (s, v) :: D else (k, u) :: ak D s v) = _ ∧ ∀ e ∈ (if k = s then (s, v) :: D else (k, u) :: ak D s v), _
   split at h
   · rename_i e
     cases h
     rw [if_pos e]
     refine ⟨by simp [e], rfl, by simp only [mc]; omega, fun x hx => ?_⟩
     rcases List.mem_cons.1 hx with rfl | hx
     · exact .inr rfl
     · exact .inl (List.mem_cons_of_mem _ hx)
   · rename_i e
     rw [if_neg e]
     obtain ⟨h1, h2, h3, h4⟩ := ih h
     refine ⟨by simp only [List.map_cons, h1], by simp only [List.length_cons, h2], by simp only [mc, h3]; omega, fun x hx => ?_⟩
     rcases List.mem_cons.1 hx with rfl | hx
     · exact .inl (List.mem_cons_self ..)
     · rcases h4 x hx with h5 | h5
       · exact .inl (List.mem_cons_of_mem _ h5)
       · exact .inr h5
def phM (n : Nat) (M : StM) : Nat := (mc M).toNat + (2 * n - M.length) * (2 * n)
theorem xi {n : Nat} {M : StM} (h : ∀ e ∈ M, 0 ≤ e.2 ∧ e.2 + 1 ≤ (n : Int)) : 0 ≤ mc M := by
 induction M with
 | nil => exact Int.le_refl _
 | cons a M ih =>
   have h1 := (h a (List.mem_cons_self ..)).1
   have h2 := ih (fun e he => h e (List.mem_cons_of_mem _ he))
   simp only [mc]; omega
theorem Md.putNew {n : Nat} {M : StM} (h : Md n M) {s : SK} {d : Int} {t : SK} (hs : 0 ≤ s.1 ∧ s.1 < (n : Int)) (hn : gS M s = none) (ht : gS M t = some d) : Md n (ak M s (d + 1)) ∧ phM n (ak M s (d + 1)) < phM n M := by
 have hd := h.val _ (kf ht)
 dsimp only at hd
 have hM : Md n (M ++ [(s, d + 1)]) := by
  refine ⟨?_, fun e he => ?_, fun e he => ?_⟩
  · rw [List.map_append, List.nodup_append]
    refine ⟨h.nd, by simp, fun a ha b hb e => ?_⟩
    have hb : b = s := by simpa using hb
    subst e; subst hb
    exact gS_none hn ha
  · rcases List.mem_append.1 he with he | he
    · exact h.rng e he
    · obtain rfl : e = (s, d + 1) := by simpa using he
      exact hs
  · rw [List.length_append]
    rcases List.mem_append.1 he with he | he
    · have := h.val e he; simp only [List.length_cons, List.length_nil]; omega
    · obtain rfl : e = (s, d + 1) := by simpa using he
      simp only [List.length_cons, List.length_nil]; omega
 rw [put_new hn]
 refine ⟨hM, ?_⟩
 have h1 := hM.len
 rw [List.length_append] at h1
 have h2 := xi h.val
 unfold phM
 rw [Ah, List.length_append]
 simp only [List.length_cons, List.length_nil] at h1 ⊢
 have e1 : (2 * n - M.length) * (2 * n) = (2 * n - (M.length + (0 + 1))) * (2 * n) + 2 * n := by
  rw [show 2 * n - M.length = (2 * n - (M.length + (0 + 1))) + 1 from by omega, Nat.add_mul]; omega
 rw [e1]
 generalize (2 * n - (M.length + (0 + 1))) * (2 * n) = q
 omega
theorem Md.putOld {n : Nat} {M : StM} (h : Md n M) {s : SK} {d o : Int} {t : SK} (hn : gS M s = some o) (ht : gS M t = some d) (hlt : d + 1 < o) : Md n (ak M s (d + 1)) ∧ phM n (ak M s (d + 1)) < phM n M := by
 have hd := h.val _ (kf ht)
 have ho := h.val _ (kf hn)
 have hs := h.rng _ (kf hn)
 dsimp only at hd ho hs
 obtain ⟨h1, h2, h3, h4⟩ := put_old (v := d + 1) hn
 have hM : Md n (ak M s (d + 1)) := by
  refine ⟨by rw [h1]; exact h.nd, fun e he => ?_, fun e he => ?_⟩
  · rcases h4 e he with h5 | h5
    · exact h.rng e h5
    · rw [h5]; exact hs
  · rw [h2]
    rcases h4 e he with h5 | h5
    · exact h.val e h5
    · rw [h5]; dsimp only; omega
 refine ⟨hM, ?_⟩
 have h5 := xi hM.val
 unfold phM
 rw [h3, h2] at *
 generalize (2 * n - M.length) * (2 * n) = q
 omega
theorem isS {α : Type} {x : Option α} (h : x.isSome = true) (d : α) : x = some (x.getD d) := by cases x; cases h; rfl
theorem Md.imp {n : Nat} {M : StM} (h : Md n M) {L : List Int} {s : SK} {to : Int} (hs : 0 ≤ s.1 ∧ s.1 < (n : Int)) : Md n (dG L M s to).2 ∧ ((dG L M s to).1 = true → phM n (dG L M s to).2 < phM n M) ∧ ((dG L M s to).1 = false → (dG L M s to).2 = M) := by
 have nop : Md n (false, M).2 ∧ ((false, M).1 = true → phM n (false, M).2 < phM n M) ∧ ((false, M).1 = false → (false, M).2 = M) := ⟨h, fun e => (by cases e), fun _ => rfl⟩
 unfold dG
 split
 · split
   · rename_i h2
     have h2 := isS h2 0
     split
     · rename_i h3
       have h3 := isS h3 0
       split
       · exact nop
       · rename_i h4
         obtain ⟨h5, h6⟩ := h.putOld h3 h2 (by omega)
         exact ⟨h5, fun _ => h6, fun e => by cases e⟩
     · rename_i h3
       have h3 : gS M s = none := by cases hx : gS M s with | none => rfl | some v => rw [hx] at h3; exact absurd rfl h3
       obtain ⟨h5, h6⟩ := h.putNew hs h3 h2
       exact ⟨h5, fun _ => h6, fun e => by cases e⟩
   · exact nop
 · exact nop
def kJ (L : List Int) (c : aY) (f : Bool) (S : Bool × StM) : Bool × StM :=
 ((dG L (dG L S.2 (c.1, f) c.2.2.1).2 (c.2.2.1, f) c.1).1 || ((dG L S.2 (c.1, f) c.2.2.1).1 || S.1), (dG L (dG L S.2 (c.1, f) c.2.2.1).2 (c.2.2.1, f) c.1).2)
def mR (L : List Int) (c : aY) (b : Bool) (S : Bool × StM) : Bool × StM :=
 if b = true then (if lat L c.1 < 0 then S else (if lat L c.2.2.1 < 0 then S else kJ L c true (kJ L c false S))) else S
def ei (L : List Int) (C : List aY) (up : List Bool) : Nat → StM → Bool × StM
 | 0, M => (false, M)
 | k + 1, M => mR L (C.getD k z6) (up.getD k false) (ei L C up k M)
structure Pg (n : Nat) (M0 : StM) (S : Bool × StM) : Prop where
 md : Md n S.2
 le : phM n S.2 ≤ phM n M0
 ch : S.1 = true → phM n S.2 < phM n M0
theorem Pg.imp {n : Nat} {M0 : StM} {S : Bool × StM} (h : Pg n M0 S) {L : List Int} {s : SK} {to : Int} (hs : 0 ≤ s.1 ∧ s.1 < (n : Int)) : Pg n M0 ((dG L S.2 s to).1 || S.1, (dG L S.2 s to).2) := by
 obtain ⟨h1, h2, h3⟩ := h.md.imp hs (L := L) (to := to)
 have h4 := h.le
 cases e : (dG L S.2 s to).1 with
 | true => exact ⟨h1, by have := h2 e; show phM n (dG L S.2 s to).2 ≤ _; omega, fun _ => by have := h2 e; show phM n (dG L S.2 s to).2 < _; omega⟩
 | false =>
   have h5 := h3 e
   exact ⟨h1, by show phM n (dG L S.2 s to).2 ≤ _; rw [h5]; exact h4, fun e2 => by show phM n (dG L S.2 s to).2 < _; rw [h5]; exact h.ch e2⟩
theorem Pg.two {n : Nat} {M0 : StM} {S : Bool × StM} (h : Pg n M0 S) {L : List Int} {c : aY} {f : Bool} (ha : 0 ≤ c.1 ∧ c.1 < (n : Int)) (hb : 0 ≤ c.2.2.1 ∧ c.2.2.1 < (n : Int)) : Pg n M0 (kJ L c f S) :=
 (h.imp (s := (c.1, f)) (to := c.2.2.1) (L := L) ha).imp (s := (c.2.2.1, f)) (to := c.1) (L := L) hb
theorem Pg.cab {n : Nat} {M0 : StM} {S : Bool × StM} (h : Pg n M0 S) {L : List Int} {c : aY} {b : Bool} (ha : 0 ≤ c.1 ∧ c.1 < (n : Int)) (hb : 0 ≤ c.2.2.1 ∧ c.2.2.1 < (n : Int)) : Pg n M0 (mR L c b S) := by
 unfold mR
 split
 · split
   · exact h
   · split
     · exact h
     · exact (h.two ha hb).two ha hb
 · exact h
theorem Pg.zero {n : Nat} {M : StM} (h : Md n M) : Pg n M (false, M) := ⟨h, Nat.le_refl _, fun e => by cases e⟩
theorem Pg.pas {n : Nat} {M : StM} {L : List Int} {C : List aY} {up : List Bool} (h : Md n M) (hC : bd C n) : ∀ k : Nat, k ≤ C.length → Pg n M (ei L C up k M)
 | 0, _ => Pg.zero h
 | k + 1, hk => by
   obtain ⟨h1, h2, _⟩ := hC _ (eU (show k < C.length by omega))
   exact (Pg.pas h hC k (by omega)).cab h1 h2
def srN (L : List Int) (C : List aY) (up : List Bool) : Nat → StM → StM
 | 0, M => M
 | k + 1, M => if (ei L C up C.length M).1 = true then srN L C up k (ei L C up C.length M).2 else (ei L C up C.length M).2
def mS0 (to : Int) : StM := [((to, false), 0), ((to, true), 0)]
theorem md0 {n : Nat} {to : Int} (h : 0 ≤ to ∧ to < (n : Int)) : Md n (mS0 to) := by
 refine ⟨by simp [mS0], fun e he => ?_, fun e he => ?_⟩
 · rcases List.mem_cons.1 he with rfl | he
   · exact h
   · obtain rfl := List.mem_singleton.1 he; exact h
 · rcases List.mem_cons.1 he with rfl | he
   · exact ⟨Int.le_refl _, by show (0 : Int) + 1 ≤ 2; decide⟩
   · obtain rfl := List.mem_singleton.1 he; exact ⟨Int.le_refl _, by show (0 : Int) + 1 ≤ 2; decide⟩
theorem ph0 (n : Nat) (to : Int) : phM n (mS0 to) = (2 * n - 2) * (2 * n) := by show ((0 : Int) + ((0 : Int) + 0)).toNat + _ = _; simp [mS0]
structure Sp (L : List Int) (C : List aY) (up : List Bool) (n : Nat) (to : Int) where
 k : Nat
 M : StM
 md : Md n M
 ph : phM n M < k
 eq : srN L C up k M = srN L C up ((2 * n - 2) * (2 * n) + 1) (mS0 to)
theorem Sp.zero {L : List Int} {C : List aY} {up : List Bool} {n : Nat} {to : Int} (h : 0 ≤ to ∧ to < (n : Int)) : ∃ x : Sp L C up n to, x.M = mS0 to :=
 ⟨⟨(2 * n - 2) * (2 * n) + 1, mS0 to, md0 h, by rw [ph0]; exact Nat.lt_succ_self _, rfl⟩, rfl⟩
theorem Sp.next {L : List Int} {C : List aY} {up : List Bool} {n : Nat} {to : Int} (hC : bd C n) (x : Sp L C up n to) (h : (ei L C up C.length x.M).1 = true) : ∃ y : Sp L C up n to, y.k < x.k ∧ y.M = (ei L C up C.length x.M).2 := by
 have hp := Pg.pas (L := L) (up := up) x.md hC C.length (Nat.le_refl _)
 have h1 := x.ph
 have h2 := hp.ch h
 obtain ⟨k, hk⟩ : ∃ k, x.k = k + 1 := ⟨x.k - 1, by omega⟩
 refine ⟨⟨k, _, hp.md, by omega, ?_⟩, by show k < x.k; omega, rfl⟩
 rw [← x.eq, hk]
 show _ = if _ then _ else _
 rw [if_pos h]
theorem Sp.done {L : List Int} {C : List aY} {up : List Bool} {n : Nat} {to : Int} (x : Sp L C up n to) (h : (ei L C up C.length x.M).1 = false) : (ei L C up C.length x.M).2 = srN L C up ((2 * n - 2) * (2 * n) + 1) (mS0 to) := by
 have h1 := x.ph
 obtain ⟨k, hk⟩ : ∃ k, x.k = k + 1 := ⟨x.k - 1, by omega⟩
 rw [← x.eq, hk]
 show _ = if _ then _ else _
 rw [if_neg (by rw [h]; decide)]
def dh (L : List Int) (C : List aY) (up : List Bool) (n : Nat) (to : Int) : StM := if lat L to < 0 then [] else srN L C up ((2 * n - 2) * (2 * n) + 1) (mS0 to)
theorem Ar {L : List Int} {C : List aY} {up : List Bool} {n : Nat} (hC : bd C n) : ∀ (k : Nat) (M : StM), Md n M → Md n (srN L C up k M)
 | 0, M, h => h
 | k + 1, M, h => by
   have hp := Pg.pas (L := L) (up := up) h hC C.length (Nat.le_refl _)
   show Md n (if _ then _ else _)
   split
   · exact Ar hC k _ hp.md
   · exact hp.md
theorem xk {L : List Int} {C : List aY} {up : List Bool} {n : Nat} {to : Int} (hC : bd C n) (h : 0 ≤ to ∧ to < (n : Int)) : Md n (dh L C up n to) := by
 unfold dh
 split
 · exact ⟨List.nodup_nil, fun e he => (by cases he), fun e he => (by cases he)⟩
 · exact Ar hC _ _ (md0 h)
set_option maxRecDepth 100000
set_option maxHeartbeats 16000000
def bK (o : ab) (s : SK) (to : Int) : Tup [DT.cell SKE, DT.cell .bool] := p7 o.1 s to
noncomputable abbrev Eu1 : Env Ab := ⟨tis, [(39, df.con)] ++ E0.con⟩
theorem eu1Ok : aU Tryz.prog AI Eu1 := (ai.add gC)
def gN : aB := ⟨[.cell iq, .cell SKE, .cell Ii], fun (x : ab × SK × Int × Unit) => True, [.cell SKE, .cell .bool], fun (x : ab × SK × Int × Unit) => bK x.1 x.2.1 x.2.2.1⟩
theorem step_ok (o : ab) (s : SK) (to : Int) (h : gN.pre (o, s, to, ())) : PTk Tryz.prog AI 99 gN (o, s, to, ()) := by
 dsimp only [PTk, gN] at h ⊢
 generalize hr : bK o s to = r
 obtain ⟨L, ou⟩ := o; obtain ⟨s1, s2⟩ := s
 dsimp only [bK, p7] at hr
 refine Tb eu1Ok mixed (fn := Tryz.f99) ?_
 refine Pq ?_
 with_reducible repeat' (first | exact True.intro | refine Ca ?_ | refine Cb ?_ | refine Cd ?_ | (refine Ce ?_; (try ((repeat (first | rw [ifP] at hr | rw [ifM] at hr | rw [if_pos rfl] at hr)); subst hr))) | refine Cm ?_ ?_ | (first | refine Bo (fun hk h => ?_) fun hk h => ?_ | refine Al (fun hk h => ?_) fun hk h => ?_) <;> (try (have hb : (_ : Bool) = _ := h; clear h; subst hb)) <;> (try replace hr := hri hr) <;> first | exact Dd | refine Nx ?_)
 all_goals first | with_reducible refine Ez ?_ | exact Cl1 | exact Cl2 | skip
theorem p8 : aE Tryz.prog AI 99 gN.con := aB.sound Tryz.call99 (fun x h => step_ok x.1 x.2.1 x.2.2.1 h)
structure SrS where
 p1 : List cL
 p2 : List aY
 L : List Int
 up : List Bool
 M : StM
def srC (x : U SrS) : List (Chunk Ab) := [.cells 25 [.ro ah (fun _ => (x ()).p1), .ro az (fun _ => (x ()).p2)], .cells 32 [.ro Ii (fun _ => (x ()).L)], .cells 26 [.ro .bool (fun _ => (x ()).up)],
 .map (.agg SKE) Ii (fun _ => (x ()).M), .cells 165 [.mp 3], .cells 186 [.fnc 132 [1, 4]]]
def unSr : List (Chunk Ab) → Option (U SrS)
 | [.cells t0 [.ro (.pair .str (.pair .bool (.int .i64))) p1, .ro (.pair (.int .i64) (.pair (.int .i64) (.pair (.int .i64) (.pair (.int .i64) (.pair (.int .i64) (.int .i64)))))) p2], .cells t1 [.ro (.int .i64) L], .cells t2 [.ro .bool up],
     .map (.agg (.pair (.int .i64) .bool)) (.int .i64) M, .cells t3 [.mp i], .cells t4 [.fnc f [a, b]]] => (match aG t0 25 && aG t1 32 && aG t2 26 && aG t3 165 && aG t4 186 && aG i 3 && aG f 132 && aG a 1 && aG b 4 with
     | true => some (fun _ => ⟨p1 (), p2 (), L (), up (), M ()⟩)
     | false => none)
 | _ => none
theorem unSr_eq (cs : List (Chunk Ab)) (W : U SrS) (h : unSr cs = some W) : cs = srC (fun _ => W ()) := by
 unfold unSr at h
 split at h <;> (try (cases h; done))
 split at h <;> cases h
 rename_i hb
 simp only [Bool.and_eq_true, ad] at hb
 obtain ⟨⟨⟨⟨⟨⟨⟨⟨rfl, rfl⟩, rfl⟩, rfl⟩, rfl⟩, rfl⟩, rfl⟩, rfl⟩, rfl⟩ := hb
 rfl
def srP : AS Ab SrS := ⟨6, 6, unSr, srC, by decide, unSr_eq⟩
theorem nx_fst (L : List Int) (s : SK) (to : Int) : (p7 L s to).1.1 = to := by unfold p7; split <;> rfl
structure SrOk (S : SrS) : Prop where
 n : S.p1.length ≤ 16
 md : Md S.p1.length S.M
theorem qB {n : Nat} (hn : n ≤ 16) {s : SK} (h : 0 ≤ s.1 ∧ s.1 < (n : Int)) : SKE.bW s := ⟨show (-9223372036854775808 : Int) ≤ s.1 ∧ s.1 ≤ 9223372036854775807 from ⟨by omega, by omega⟩, trivial⟩
theorem Md.i64 {n : Nat} {M : StM} (h : Md n M) (hn : n ≤ 16) (s : SK) : b5 ((gS M s).getD 0 + 1) := by
 have hl := h.len
 cases e : gS M s with
 | none => unfold b5; simp
 | some v =>
   have := h.val _ (kf e)
   dsimp only at this
   unfold b5
   simp only [Option.getD_some]
   omega
def lj : bp Ab SrS := ⟨srP, [.cell SKE, .cell Ii], [1, 4], fun S (x : SK × Int × Unit) => SrOk S ∧ (0 ≤ x.1.1 ∧ x.1.1 < (S.p1.length : Int)) ∧ (0 ≤ x.2.1 ∧ x.2.1 < (S.p1.length : Int)), [.cell .bool], fun S (x : SK × Int × Unit) => ((dG S.L S.M x.1 x.2.1).1, ()), fun S (x : SK × Int × Unit) => ⟨S.p1, S.p2, S.L, S.up, (dG S.L S.M x.1 x.2.1).2⟩⟩
noncomputable abbrev Eu2 : Env Ab := ⟨tis, [(99, gN.con)] ++ E0.con⟩
theorem eu2Ok : aU Tryz.prog AI Eu2 := (ai.add p8)
theorem imp_ok (S : SrS) (s : SK) (to : Int) (h : lj.pre S (s, to, ())) : ∃ args : List SV, args.length + [1, 4].length ≤ Tryz.f132.ntmps ∧ args.all (iX 6) = true ∧ (∀ (ρ : Ev) us, aL (Den ρ) (dM [.cell SKE, .cell Ii] (fun _ => (s, to, ()))) us → aL (Den ρ) args us) ∧
 (svc Eu2 6 (aS Tryz.f132) ⟨cQ 0 (args ++ cg [1, 4]), srC (fun _ => S)⟩ (ek Eu2.ti 6 Tryz.f132.results.toList (ag (svs [.cell .bool] (fun _ => ((dG S.L S.M s to).1, ())))) (srC (fun _ => ⟨S.p1, S.p2, S.L, S.up, (dG S.L S.M s to).2⟩))) ∨
  svc Eu2 6 (aS Tryz.f132) ⟨cQ 0 (args ++ cg [1, 4]), srC (fun _ => S)⟩ (nQ Eu2.ti 6 Tryz.f132.results.toList (ag (svs [.cell .bool] (fun _ => ((dG S.L S.M s to).1, ())))) (srC (fun _ => ⟨S.p1, S.p2, S.L, S.up, (dG S.L S.M s to).2⟩)))) := by
 dsimp only [lj] at h ⊢
 obtain ⟨hS, hs, hto⟩ := h
 obtain ⟨s1, s2⟩ := s
 refine ⟨dM [.cell SKE, .cell Ii] (fun _ => ((s1, s2), to, ())), Nat.le_of_ble_eq_true (by kernel_rfl), rfl, (fun ρ us hd => hd), .inl ?_⟩
 generalize hr : dG S.L S.M (s1, s2) to = r
 dsimp only [dG] at hr
 have hk1 := qB hS.n hs
 have hk2 : SKE.bW (nxS S.L (s1, s2) to) := qB hS.n (by unfold nxS; rw [nx_fst]; exact hto)
 have hi := fun k => hS.md.i64 hS.n k
 refine Pr ?_
 (try (conv in (SS.mk _ _) => dsimp only [bK]))
 refine Nx ?_
 with_reducible repeat' (first | exact True.intro | refine Ca ?_ | refine Cb ?_ | refine Cd ?_ | (refine Ce ?_; (try ((repeat (first | rw [ifP] at hr | rw [ifM] at hr | rw [if_pos rfl] at hr)); subst hr))) | refine Cm ?_ ?_ | (first | refine Bo (fun hk h => ?_) fun hk h => ?_ | refine Al (fun hk h => ?_) fun hk h => ?_) <;> (try dsimp only [bK] at h) <;> (try simp only [natCast_eq] at h) <;> (try (have hb : (_ : Bool) = _ := h; clear h; subst hb)) <;> (try replace hr := hri hr) <;> first | exact Dd | refine Nx ?_)
 all_goals first | with_reducible refine Ez ?_ | exact Cl1 | (dsimp only [bK]; exact Cl1) | exact hk1 | exact hk2 | exact hi _ | exact Cl2 | (dsimp only [bK]; exact Cl2) | (dsimp only [bK] at *; exact Cl2) | skip
theorem zt : aE Tryz.prog AI 132 lj.con := bp.sound eu2Ok mixed (fn := Tryz.f132) (c := aS Tryz.f132) Tryz.call132 (by kernel_rfl) (by kernel_rfl) (by kernel_rfl) (q := lj) (by decide) fun S x h => imp_ok S x.1 x.2.1 h
end Go.Proofs.YtcaoldilmnpjoaaGreat
