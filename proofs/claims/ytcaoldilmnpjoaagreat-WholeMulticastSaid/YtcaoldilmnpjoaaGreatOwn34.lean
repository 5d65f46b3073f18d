/-
  Part Own34 of the proof.
-/
import Derived.Test.YtcaoldilmnpjoaaGreatOwn27
import Derived.Test.YtcaoldilmnpjoaaGreatOwn23
namespace Go.Proofs.YtcaoldilmnpjoaaGreat
set_option linter.all false
open Go.RowKit Go.Sx
set_option maxRecDepth 100000
set_option maxHeartbeats 16000000
def CG (L : NxT) (d : aT) : NxT := ak (K := Int) L d.1 ((bB (K := Int) L d.1).getD [] ++ [d.2.1])
def nxL (V : List aT) : NxT := V.foldl CG []
theorem lR (V : List aT) (d : aT) : nxL (V ++ [d]) = CG (nxL V) d := by unfold nxL; rw [List.foldl_append]; rfl
theorem Aw {P : List aT → Prop} (h0 : P []) (h1 : ∀ V d, P V → P (V ++ [d])) (V : List aT) : P V := by
 have key : ∀ n (V : List aT), V.length = n → P V := by
  intro n
  induction n with
  | zero => intro V h; rw [List.eq_nil_of_length_eq_zero h]; exact h0
  | succ n ih =>
    intro V h
    have h2 : V = V.take n ++ [V.getD n (0, 0, 0)] := by
     rw [List.getD_eq_getElem?_getD, List.getElem?_eq_getElem (by omega)]
     have := List.take_succ_eq_append_getElem (l := V) (i := n) (by omega)
     rw [List.take_of_length_le (by omega)] at this
     exact this
    rw [h2]
    exact h1 _ _ (ih _ (by rw [List.length_take]; omega))
 exact key _ V rfl
theorem nx_mem (V : List aT) : ∀ a to, to ∈ nxs (nxL V) a → ∃ d ∈ V, d.1 = a ∧ d.2.1 = to := by
 refine Aw (P := fun V => ∀ a to, to ∈ nxs (nxL V) a → ∃ d ∈ V, d.1 = a ∧ d.2.1 = to) (fun a to h => by cases h) (fun V d ih a to h => ?_) V
 rw [lR] at h
 unfold nxs CG at h
 rw [jB] at h
 split at h
 · rename_i e
   rcases List.mem_append.1 h with h | h
   · obtain ⟨d', h1, h2, h3⟩ := ih d.1 to h
     exact ⟨d', List.mem_append_left _ h1, h2.trans e.symm, h3⟩
   · exact ⟨d, List.mem_append_right _ (List.mem_singleton.2 rfl), e.symm, (List.mem_singleton.1 h).symm⟩
 · obtain ⟨d', h1, h2, h3⟩ := ih a to h
   exact ⟨d', List.mem_append_left _ h1, h2, h3⟩
theorem BO (V : List aT) : ∀ a, (nxs (nxL V) a).length ≤ V.length := by
 refine Aw (P := fun V => ∀ a, (nxs (nxL V) a).length ≤ V.length) (fun a => Nat.le_refl _) (fun V d ih a => ?_) V
 rw [lR]
 unfold nxs CG
 rw [jB, List.length_append]
 split
 · have := ih d.1
   unfold nxs at this
   simp only [Option.getD_some, List.length_append, List.length_cons, List.length_nil]; omega
 · have := ih a
   unfold nxs at this
   omega
theorem mr {V : Type} : ∀ (L : List (Int × V)) (k : Int) (v : V), (k ∈ aa L ∧ aa (ak (K := Int) L k v) = aa L) ∨ (k ∉ aa L ∧ aa (ak (K := Int) L k v) = aa L ++ [k])
 | [], k, v => .inr ⟨by simp [aa], rfl⟩
 | (a, x) :: r, k, v => by
   unfold ak
   split
   · rename_i e; subst e; exact .inl ⟨by simp [aa], by simp [aa]⟩
   · rename_i e
     rcases mr r k v with ⟨h1, h2⟩ | ⟨h1, h2⟩
     · exact .inl ⟨List.mem_cons_of_mem _ h1, congrArg (a :: ·) h2⟩
     · exact .inr ⟨fun h => by rcases List.mem_cons.1 h with h | h; exact e h.symm; exact h1 h, congrArg (a :: ·) h2⟩
theorem nx_keys (V : List aT) : (aa (nxL V)).Nodup ∧ (∀ x ∈ aa (nxL V), ∃ d ∈ V, d.1 = x) ∧ (nxL V).length ≤ V.length := by
 refine Aw (P := fun V => (aa (nxL V)).Nodup ∧ (∀ x ∈ aa (nxL V), ∃ d ∈ V, d.1 = x) ∧ (nxL V).length ≤ V.length) ⟨List.nodup_nil, (fun x h => by cases h), Nat.le_refl _⟩ (fun V d ⟨h1, h2, h3⟩ => ?_) V
 have hl : ∀ L : NxT, L.length = (aa L).length := fun L => by simp [aa]
 have hk : ∀ x ∈ aa (nxL V), ∃ d' ∈ V ++ [d], d'.1 = x := fun x hx => by
  obtain ⟨d', h4, h5⟩ := h2 x hx
  exact ⟨d', List.mem_append_left _ h4, h5⟩
 rw [lR]
 unfold CG
 rw [hl] at h3 ⊢
 rcases mr (nxL V) d.1 ((bB (K := Int) (nxL V) d.1).getD [] ++ [d.2.1]) with ⟨h4, h5⟩ | ⟨h4, h5⟩
 · rw [h5]
   exact ⟨h1, hk, by rw [List.length_append]; omega⟩
 · rw [h5]
   refine ⟨List.nodup_append.2 ⟨h1, by simp, fun a ha b hb => by simp at hb; subst hb; exact fun e => h4 (e ▸ ha)⟩, fun x hx => ?_, by simp only [List.length_append, List.length_cons, List.length_nil]; omega⟩
   rcases List.mem_append.1 hx with hx | hx
   · exact hk x hx
   · exact ⟨d, List.mem_append_right _ (List.mem_singleton.2 rfl), (List.mem_singleton.1 hx).symm⟩
theorem wH (U : List aT) {k : Nat} (h : k < U.length) : U.take (k + 1) = U.take k ++ [U.getD (k : Int).toNat (0, 0, 0)] := by
 rw [List.take_succ_eq_append_getElem h, List.getD_eq_getElem?_getD, Int.toNat_natCast, List.getElem?_eq_getElem h]; rfl
def RisesB (U : List aT) : Prop := ∃ r : Int → Nat, (∀ x, r x ≤ 50000) ∧ ∀ d ∈ U, r d.1 < r d.2.1
structure CyP (l : List aT) : Prop where
 key : OkD l
 up : RisesB l
def cB (l : List aT) : Tup [DT.lst Ii] := ([], ())
def visN : Nat := 60000
attribute [irreducible] visN
theorem uS (et : TypeId) (i : Nat) : aE Tryz.prog AI 34 (fA 82 et i) :=
 mf ksI xl ⟨fun blk off cap ss W hH hblk hsz => Go.callsIn_wide.2 (AnyM.slices_Sort_int xn blk off cap ss W hH hblk hsz), fun p cap W => Go.callsIn_wide.2 (AnyM.slices_Sort_int_none xn p cap W)⟩ rfl rfl Tryz.call34 Tryz.call82 Tryz.call81 et i
theorem mkc_inl : aE Tryz.prog AI 35 (inl E0 Tryz.f35 7) := cI ai mixed (fn := Tryz.f35) (c := aS Tryz.f35) Tryz.call35 (by kernel_rfl) (by kernel_rfl) (by kernel_rfl) 7
noncomputable abbrev Ecy1 : Env Ab := ⟨tis, [(31, iB [0, 1, 2, 3, 4, 5, 6, 8, 7] [0, 1, 2, 3, 4, 5, 6, 8, 7] (gp visN).con), (34, fA 82 3 0), (35, inl E0 Tryz.f35 7), (9, jS.con)] ++ E0.con⟩
theorem ecy1Ok : aU Tryz.prog AI Ecy1 := ((((ai.add rT).add mkc_inl).add (uS 3 0)).add (eK _ _ (rO visN)))
noncomputable abbrev Ecy2 : Env Ab := ⟨(85, ⟨.map 3 30 (some (.int .i64, .lst (.int .i64))), 1, 3, [.v (.map none)]⟩) :: (3, ⟨.int .i64, 1, 0, [.li .i64 0]⟩) :: Ecy1.ti, Ecy1.con⟩
theorem ecy2Ok : aU Tryz.prog AI Ecy2 := fV ecy1Ok (t := 85) (i := ⟨.map 3 30 (some (.int .i64, .lst (.int .i64))), 1, 0, [.v (.map none)]⟩) (tb := 3) (j := ⟨.int .i64, 1, 0, [.li .i64 0]⟩) rfl rfl
def mI : aB := ⟨[.lst br], fun (x : (List aT) × Unit) => CyP x.1, [.lst Ii], fun (x : (List aT) × Unit) => cB x.1⟩
theorem cyc_ok (l : List aT) (h : mI.pre (l, ())) : PTk Tryz.prog AI 12 mI (l, ()) := by
 dsimp only [PTk, mI] at h ⊢
 generalize hr : cB l = r
 obtain ⟨hky, hup⟩ := h; have hnil : OkD [] := ⟨by decide, fun d hd => by cases hd⟩
 dsimp only [cB] at hr
 refine Tb ecy2Ok mixed (fn := Tryz.f12) ?_
 refine Pr ?_
 (try (conv in (SS.mk _ _) => dsimp only [aR]))
 refine Nx ?_
 with_reducible repeat' (first | exact True.intro | refine Ca ?_ | refine Cb ?_ | refine Cd ?_ | (refine Ce ?_; (try ((repeat (first | rw [ifP] at hr | rw [ifM] at hr | rw [if_pos rfl] at hr)); subst hr))) | refine Cm ?_ ?_ | (first | refine Bo (fun hk h => ?_) fun hk h => ?_ | refine Al (fun hk h => ?_) fun hk h => ?_) <;> (try dsimp only [aR] at h) <;> (try simp only [natCast_eq] at h) <;> (try exact absurd h Bool.false_ne_true) <;> (try (have hb : (_ : Bool) = _ := h; clear h; subst hb)) <;> (try replace hr := hri hr) <;> first | exact Dd | refine Nx ?_)
 all_goals first | with_reducible refine Ez ?_ | exact Cl1 | (dsimp only [aR]; exact Cl1) | (dsimp only; simp only [aH, aJ]; exact ⟨hky, hnil⟩) | exact Cl2 | (dsimp only [aR]; exact Cl2) | (dsimp only [aR] at *; exact Cl2) | skip
 obtain ⟨U, hUU⟩ : ∃ U, kI l [] = U := ⟨_, rfl⟩
 have hUf : (aR l []).1 = U := hUU
 have hUm : ∀ d ∈ U, d ∈ l := fun d hd => by
  rw [← hUU] at hd
  rcases (rR l [] d).1 hd with h2 | h2
  · exact h2
  · cases h2
 have hUl : U.length ≤ 1000000 := by
  have h1 := rS l []
  have h2 := hky.1
  rw [hUU] at h1
  simp only [List.length_nil] at h1
  omega
 have hUk : OkD U := ⟨hUl, fun d hd => hky.2 d (hUm d hd)⟩
 obtain ⟨ra, hra, hrb⟩ := hup
 refine ⟨⟨{k : Nat // k ≤ U.length}, fun k => ⟨[(3, Sx.one (.ptr 1 0)), (14, Sx.one (.ro br (fun _ => U))), (15, Sx.one (.int .i64 (fun _ => U.length))), (16, Sx.one (.int .i64 (fun _ => k.1)))],
  [.mnest 3 (fun _ => nxL (U.take k.1)) none, .cells 85 [.mp 0]]⟩, fun k => U.length - k.1, ⟨0, Nat.zero_le _⟩⟩, ?_, fun (k : {k : Nat // k ≤ U.length}) => ?_⟩
 · refine Pr ?_
   (try (conv in (SS.mk _ _) => dsimp only [aR]))
   refine Nx ?_
   with_reducible repeat' first | exact True.intro | refine Ca ?_ | refine Cb ?_ | refine Cd ?_ | refine Ce ?_ | refine Cm ?_ ?_
   all_goals first | with_reducible refine Ez ?_ | exact Cl1 | (dsimp only [aR]; exact Cl1) | rfl | (simp only [aH, aJ]; rw [hUf]) | (dsimp only; simp only [aH, aJ]; exact hUU) | (dsimp only; simp only [aH, aJ]; exact congrArg (fun l : List aT => (l.length : Int)) hUU) | exact Cl2 | (dsimp only [aR]; exact Cl2) | (dsimp only [aR] at *; exact Cl2) | skip
 obtain ⟨k, hk⟩ := k
 dsimp only
 have e1 := fun (h : ((k : Nat) : Int) < (U.length : Int)) => (congrArg nxL (wH U (k := k) (by omega))).trans (lR _ _)
 have hkx := fun (h : ((k : Nat) : Int) < (U.length : Int)) => (⟨by omega, h⟩ : (0 : Int) ≤ (k : Int) ∧ (k : Int) < (U.length : Int))
 have rA : ∀ (x o : Int), ((bB (K := Int) (nxL (U.take k)) x).getD []).length + [o].length ≤ bP := fun x o => by
  have h1 := BO (U.take k) x
  unfold nxs at h1
  rw [List.length_take] at h1
  show _ + 1 ≤ 1099511627776; omega
 have hk9 : ¬ ((k : Nat) : Int) < (U.length : Int) → U.take k = U := fun h => List.take_of_length_le (by omega)
 have hS := nx_keys U
 have hSx : ¬ ((k : Nat) : Int) < (U.length : Int) → (aa (nxL (U.take k))).Nodup ∧ (∀ x ∈ aa (nxL (U.take k)), b5 x) ∧ (nxL (U.take k)).length ≤ 4194304 := fun h => by
  rw [hk9 h]
  refine ⟨hS.1, fun x hx => ?_, by omega⟩
  obtain ⟨d, hd, rfl⟩ := hS.2.1 x hx
  exact (hUk.2 d hd).1
 refine Pr ?_
 (try (conv in (SS.mk _ _) => dsimp only [aR]))
 refine Nx ?_
 with_reducible repeat' (first | exact True.intro | refine Ca ?_ | refine Cb ?_ | refine Cd ?_ | refine Ce ?_ | refine Cm ?_ ?_ | (first | refine Bo (fun hk h => ?_) fun hk h => ?_ | refine Al (fun hk h => ?_) fun hk h => ?_) <;> (try dsimp only [aR] at h) <;> (try simp only [natCast_eq] at h) <;> (try exact absurd h Bool.false_ne_true) <;> (try (have hb : (_ : Bool) = _ := h; clear h; subst hb)) <;> (try replace hr := hri hr) <;> first | exact Dd | refine Nx ?_)
 all_goals first | with_reducible refine Ez ?_ | exact Cl1 | (dsimp only [aR]; exact Cl1) | exact hkx (by assumption) | exact rA _ _ | exact hSx (by assumption) | exact Cl2 | (dsimp only [aR]; exact Cl2) | (dsimp only [aR] at *; exact Cl2) | skip
 · refine ⟨⟨k + 1, by omega⟩, (by dsimp only; omega), ?_⟩
   refine Pr ?_
   (try (conv in (SS.mk _ _) => dsimp only [aR]))
   refine Nx ?_
   with_reducible repeat' first | exact True.intro | refine Ca ?_ | refine Cb ?_ | refine Cd ?_ | refine Ce ?_ | refine Cm ?_ ?_
   all_goals first | with_reducible refine Ez ?_ | exact Cl1 | (dsimp only [aR]; exact Cl1) | exact (e1 (by assumption)).symm | exact Cl2 | (dsimp only [aR]; exact Cl2) | (dsimp only [aR] at *; exact Cl2) | skip
 have hk10 := hk9 (by assumption)
 rw [hk10]
 clear e1 hkx rA hSx
 have hKl : (cW (aa (nxL U))).length ≤ 1000000 := by
  rw [(cr _).length_eq]
  have := hS.2.2
  show ((nxL U).map _).length ≤ _
  rw [List.length_map]; omega
 generalize hKK : cW (aa (nxL U)) = K at *
 refine ⟨⟨{x : Nat × StT // x.1 ≤ K.length ∧ ∀ y, ¬ sts x.2 y = 1}, fun x => ⟨[(8, Sx.one (.ptr 5 0)), (9, Sx.one (.ptr 6 0)), (36, Sx.one (.ro Ii (fun _ => K))), (37, Sx.one (.int .i64 (fun _ => K.length))), (38, Sx.one (.int .i64 (fun _ => x.1.1)))],
  [.map (.int .i64) (.lst Ii) (fun _ => nxL U), .cells 85 [.mp 0], .map (.int .i64) Ii (fun _ => x.1.2), .cells 86 [.mp 2], .cells 30 [.hd 8 0], .cells 30 [.nilS], .cells 82 [.fnc 31 [3, 4, 5, 1, 6]], .gone, .row 3 Ii 0 (fun _ => [])]⟩, fun x => K.length - x.1.1, ⟨(0, []), Nat.zero_le _, fun y h => by cases h⟩⟩, ?_, fun (x : {x : Nat × StT // x.1 ≤ K.length ∧ ∀ y, ¬ sts x.2 y = 1}) => ?_⟩
 · refine Pr ?_
   (try (conv in (SS.mk _ _) => dsimp only [aR]))
   refine Nx ?_
   with_reducible repeat' first | exact True.intro | refine Ca ?_ | refine Cb ?_ | refine Cd ?_ | refine Ce ?_ | refine Cm ?_ ?_
   all_goals first | with_reducible refine Ez ?_ | exact Cl1 | (dsimp only [aR]; exact Cl1) | rfl | exact List.map_id _ | (dsimp only; first | exact hKK | exact congrArg (fun l : List Int => (l.length : Int)) hKK) | exact Cl2 | (dsimp only [aR]; exact Cl2) | (dsimp only [aR] at *; exact Cl2) | skip
 obtain ⟨⟨i, st⟩, hi, hst⟩ := x
 dsimp only at hi hst ⊢
 have hkx := fun (h : ((i : Nat) : Int) < (K.length : Int)) => (⟨by omega, h⟩ : (0 : Int) ≤ (i : Int) ∧ (i : Int) < (K.length : Int))
 have hV : ∀ c, VsP ra 50000 60000 (nxL U) st c := fun c => ⟨hra, by omega, fun a to h => by
  obtain ⟨d, hd, h2, h3⟩ := nx_mem U a to h
  rw [← h2, ← h3]
  exact hrb d (hUm d hd), fun y h => absurd h (hst y)⟩
 have hpre : ∀ c, (∃ r B, VsP r B 60000 (nxL U) st c) ∧ ([] : List Int).length + 60000 ≤ 100000 ∧ ∀ a, (nxs (nxL U) a).length ≤ 2000000 := fun c => ⟨⟨ra, 50000, hV c⟩, by decide, fun a => by have := BO U a; omega⟩
 have hop : ∀ c y, ¬ sts (l5 (nxL U) 60000 st c) y = 1 := fun c y h => hst y (mb 60000 st c (hV c) y h)
 refine Pr ?_
 (try (conv in (SS.mk _ _) => dsimp only [aR]))
 refine Nx ?_
 with_reducible repeat' (first | exact True.intro | refine Ca ?_ | refine Cb ?_ | refine Cd ?_ | refine Ce ?_ | refine Cm ?_ ?_ | (first | refine Bo (fun hk h => ?_) fun hk h => ?_ | refine Al (fun hk h => ?_) fun hk h => ?_) <;> (try dsimp only [aR] at h) <;> (try simp only [natCast_eq] at h) <;> (try exact absurd h Bool.false_ne_true) <;> (try (have hb : (_ : Bool) = _ := h; clear h; subst hb)) <;> (try replace hr := hri hr) <;> first | exact Dd | refine Nx ?_)
 all_goals first | with_reducible refine Ez ?_ | exact Cl1 | (dsimp only [aR]; exact Cl1) | exact hkx (by assumption) | exact hpre _ | (subst hr; rfl) | exact Cl2 | (dsimp only [aR]; exact Cl2) | (dsimp only [aR] at *; exact Cl2) | skip
 refine ⟨⟨(i + 1, l5 (nxL U) 60000 st (K.getD (i : Int).toNat 0)), by show i + 1 ≤ _; omega, hop _⟩, (by dsimp only; omega), ?_⟩
 refine Pr ?_
 (try (conv in (SS.mk _ _) => dsimp only [aR]))
 refine Nx ?_
 with_reducible repeat' first | exact True.intro | refine Ca ?_ | refine Cb ?_ | refine Cd ?_ | refine Ce ?_ | refine Cm ?_ ?_
 all_goals first | with_reducible refine Ez ?_ | exact Cl1 | (dsimp only [aR]; exact Cl1) | rfl | exact List.map_id _ | exact Cl2 | (dsimp only [aR]; exact Cl2) | (dsimp only [aR] at *; exact Cl2) | skip
theorem A8 : aE Tryz.prog AI 12 mI.con := aB.sound Tryz.call12 (fun x h => cyc_ok x.1 h)
end Go.Proofs.YtcaoldilmnpjoaaGreat
