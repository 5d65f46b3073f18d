/-
  Part Own42 of the proof.
-/
import Derived.Test.YtcaoldilmnpjoaaGreatOwn39
import Derived.Test.YtcaoldilmnpjoaaGreatOwn38
import Derived.RangeFuncRecord
namespace Go.Proofs.YtcaoldilmnpjoaaGreat
set_option linter.all false
open Go.RowKit Go.Sx
set_option maxRecDepth 100000
set_option maxHeartbeats 16000000
abbrev xV : Ty := .pair (.int .i64) (.pair (.lst (.lst (.int .i64))) (.lst (.int .i64)))
abbrev fb := Int × List (List Int) × List Int
def fe (p : a8) (L : List Int) (s : Int) (ms : List Int) : List (List Int) := ec (List.replicate p.1.length []) (apL p (ay p L) (bA ms) 40 s (-1))
def l9 (ms : List Int) : List Int := cW (aa (bA ms))
def pr (p : a8) (o : ab) (s : Int) (ms : List Int) : Tup [DT.cell xV, DT.cell Ii] :=
 if (gM p o s ms).1 = 0 then ((s, fe p o.1 s ms, l9 ms), 0, ()) else ((0, [], []), (gM p o s ms).1, ())
theorem CkP.trl {p : a8} {o : ab} {s : Int} {ms : List Int} (h : CkP p o s ms) : TrL p o.1 := ⟨⟨h.lv.pl.n, h.lv.pl.c, bD h.lv.ok⟩, h.lv.lv⟩
theorem LvP.pap {p : a8} {o : ab} (h : LvP p o) : PaP p o.1 := by
 refine ⟨⟨h.pl.n, h.pl.c, bD h.ok⟩, h.lv.len, h.pl.n, fun k => ?_⟩
 have hn := h.pl.n
 by_cases hk : k < p.1.length
 · have h1 := h.lv.lo k hk
   have h2 := h.lv.hi k hk
   omega
 · rw [List.getD_eq_getElem?_getD, List.getElem?_eq_none (by rw [h.lv.len]; omega)]
   exact ⟨by decide, by decide⟩
theorem C3 {p : a8} {o : ab} {s : Int} {ms : List Int} (h : (gM p o s ms).1 = 0) : 0 ≤ lat o.1 s ∧ ∀ m ∈ ms, 0 ≤ lat o.1 m := by
 unfold gM at h
 split at h
 · rename_i h1
   split at h
   · cases h
   · refine ⟨by omega, fun m hm => ?_⟩
     exact of_decide_eq_true (List.all_eq_true.1 h1 m hm)
 · cases h
theorem jY (l : List Int) : (aa (bA l)).Nodup ∧ (∀ x, x ∈ aa (bA l) ↔ x ∈ l) ∧ (bA l).length ≤ l.length := by
 have key : ∀ n (l : List Int), l.length = n → (aa (bA l)).Nodup ∧ (∀ x, x ∈ aa (bA l) ↔ x ∈ l) ∧ (bA l).length ≤ l.length := by
  intro n
  induction n with
  | zero => intro l h; rw [List.eq_nil_of_length_eq_zero h]; exact ⟨List.nodup_nil, fun x => Iff.rfl, Nat.le_refl _⟩
  | succ n ih =>
    intro l h
    have h2 : l = l.take n ++ [l.getD (n : Int).toNat 0] := by
     rw [← dS l (by omega), List.take_of_length_le (by omega)]
    obtain ⟨h3, h4, h5⟩ := ih (l.take n) (by rw [List.length_take]; omega)
    rw [h2]
    generalize l.getD (n : Int).toNat 0 = a
    generalize l.take n = l0 at *
    rw [gR]
    have hl : ∀ L : List (Int × Bool), L.length = (aa L).length := fun L => by simp [aa]
    rw [hl] at h5 ⊢
    rcases mr (bA l0) a true with ⟨q1, q2⟩ | ⟨q1, q2⟩
    · rw [q2]
      refine ⟨h3, fun x => ?_, by rw [List.length_append]; omega⟩
      rw [h4, List.mem_append, List.mem_singleton]
      exact ⟨.inl, fun q => q.elim id fun e => e ▸ (h4 a).1 q1⟩
    · rw [q2]
      refine ⟨List.nodup_append.2 ⟨h3, by simp, fun y hy z hz => by rw [List.mem_singleton.1 hz]; exact fun e => q1 (e ▸ hy)⟩, fun x => ?_, by simp only [List.length_append, List.length_cons, List.length_nil]; omega⟩
      rw [List.mem_append, List.mem_append, h4]
 exact key _ l rfl
theorem CkP.keys {p : a8} {o : ab} {s : Int} {ms : List Int} (h : CkP p o s ms) : (aa (bA ms)).Nodup ∧ (∀ x ∈ aa (bA ms), b5 x) ∧ (bA ms).length ≤ 4194304 := by
 obtain ⟨h1, h2, h3⟩ := jY ms
 have hn := h.lv.pl.n
 refine ⟨h1, fun x hx => ?_, Nat.le_trans h3 (Nat.le_trans h.len (by decide))⟩
 have := h.rng x ((h2 x).1 hx)
 unfold b5; omega
theorem CkP.okv {p : a8} {o : ab} {s : Int} {ms : List Int} (h : CkP p o s ms) (h0 : (gM p o s ms).1 = 0) : Okv p o.1 s (-1) := ⟨⟨h.s0, (C3 h0).1⟩, .inl (by decide)⟩
theorem CkP.tm {p1 : List cL} {p2 : List aY} {L : List Int} {ou : Unit} {s : Int} {ms : List Int} (h : CkP (p1, p2) (L, ou) s ms) (h0 : (gM (p1, p2) (L, ou) s ms).1 = 0) :
 TmOk 40 ⟨bA ms, p1, p2, ay (p1, p2) L, s, List.replicate p1.length [], l9 ms⟩ s (-1) := by
 have hT := h.trl
 refine ⟨hT.tr, BH _ _, List.length_replicate, h.s0, ⟨msR (p1, p2) L, po hT h.s0, fun u o c h1 h2 he => tK hT ⟨h1, h2⟩ ((xB hT.tr ⟨h1, h2⟩).1 he)⟩, fun k => ?_⟩
 have h1 := CC (wd := bA ms) hT (k := 40) (h.okv h0)
 have h2 : ((List.replicate p1.length ([] : List Int)).getD k []).length = 0 := by
  rw [List.getD_eq_getElem?_getD, List.getElem?_replicate]
  split <;> rfl
 show _ + (apL (p1, p2) (ay (p1, p2) L) (bA ms) 40 s (-1)).length ≤ _
 dsimp only at h1 ⊢
 omega
theorem uU (et : TypeId) (i : Nat) : aE Tryz.prog AI 34 (gP 89 et i) :=
 oF ksB xl ⟨fun blk off cap ss W hH hblk hsz => Go.callsIn_wide.2 (AnyM.slices_Sort_int xn blk off cap ss W hH hblk hsz), fun p cap W => Go.callsIn_wide.2 (AnyM.slices_Sort_int_none xn p cap W)⟩ rfl rfl Tryz.call34 Tryz.call89 Tryz.call81 et i
theorem kb_in (b : Nat) (W : World) : Calls Tryz.prog 42 #[.map (some b)] W fun e w' => e = .returned (.func (.func 89) #[] #[.pointer (some ⟨W.heap.size, 0, none⟩)]) ∧ w' = W.alloc (Obj.cells #[.map (some b)] 49) := by
 go_enter Tryz.func42, Tryz.ntmps42
 go_wp2
 go_ret
 exact ⟨rfl, rfl⟩
def yD : Con Ab := fun args fresh => match args with
 | [.val (.one (.mp i))] => (match aq i fresh with
   | true => some ⟨[fresh], 1, true, fun cs _ => match cs with
     | [.emp] => .done (fun _ => True) (.val (.fn 89 [.ptr fresh 0])) [.cells 49 [.mp i]]
     | _ => .fail⟩
   | false => none)
 | _ => none
theorem vR : aE Tryz.prog AI 42 yD := by
 refine ⟨Tryz.call42, fun args fresh p hp hw => ?_, fun G s ρ tmps w args us fresh p d C v cs h hargs hp hfr he hC => ?_⟩
 · unfold yD at hp
   split at hp
   · split at hp <;> cases hp
     cases hw
   · cases hp
 · unfold yD at hp
   split at hp <;> (try (cases hp; done))
   rename_i i
   split at hp <;> cases hp
   rename_i hif
   have hif : i < fresh := leN hif
   have hemp : aC s.H fresh = .emp := hfr fresh (by simp) (Nat.le_refl _)
   simp only [aD] at he
   rw [hemp] at he
   simp only [Out.done.injEq] at he
   obtain ⟨_, rfl, rfl⟩ := he
   cases hargs with
   | cons ha hnil =>
   cases hnil
   obtain ⟨b, hb, rfl⟩ := ha
   have hc := h.ch fresh
   rw [hemp] at hc
   obtain ⟨hc1, hc2, hc3⟩ := hc
   refine Calls.mono (kb_in b w) ?_
   rintro e1 w' ⟨rfl, rfl⟩
   obtain ⟨h8, h9⟩ := h.dx fresh (.pointer (some ⟨w.heap.size, 0, none⟩)) 0 [w.heap.size] (.cells 49 [.mp i]) (w.alloc (Obj.cells #[.map (some b)] 49)) (by rw [hc2]; simp) (by omega) (by rw [hc2]; simp) (fun x hx => by rw [List.mem_singleton.1 hx]; exact ⟨.inr (Nat.le_refl _), by rw [World.size_alloc]; omega⟩) (fun x hx _ => Below.heap_alloc _ _ _ hx) rfl rfl rfl (by rw [World.size_alloc]; omega)
    ⟨w.heap.size, [.map (some b)], by simp [Ev.upd], by simp [Ev.upd], World.alloc_heap_new _ _, .cons ⟨b, by simp only [Ev.upd]; rw [if_neg (by omega)]; exact hb, rfl⟩ .nil⟩
   exact ⟨_, _, rfl, h8, ⟨[.pointer (some ⟨w.heap.size, 0, none⟩)], rfl, .cons ⟨w.heap.size, by simp [Ev.upd], rfl⟩ .nil⟩, h9⟩
def tmN : Nat := 40
noncomputable abbrev Emk1 : Env Ab := ⟨tis, [(43, iB [3, 4, 0, 5, 10, 9, 6, 8, 1, 2, 7] [2, 8, 9, 0, 1, 3, 6, 10, 7, 5, 4] (dg tmN).con), (34, gP 89 3 3), (42, yD), (41, fM.con), (40, mO.con)] ++ E0.con⟩
theorem emk1Ok : aU Tryz.prog AI Emk1 := (((((ai.add AG).add wW).add vR).add (uU 3 3)).add (eK _ _ (uO tmN)))
noncomputable abbrev Emk2 : Env Ab := ⟨(50, ⟨.slice 30 (some (.lst (.int .i64))), 1, 3, [.nilS]⟩) :: (3, ⟨.int .i64, 1, 0, [.li .i64 0]⟩) :: Emk1.ti, Emk1.con⟩
theorem emk2Ok : aU Tryz.prog AI Emk2 := fV emk1Ok (t := 50) (i := ⟨.slice 30 (some (.lst (.int .i64))), 1, 0, [.nilS]⟩) (tb := 3) (j := ⟨.int .i64, 1, 0, [.li .i64 0]⟩) rfl rfl
def lU : aB := ⟨[.cell bT, .cell iq, .cell Ii, .lst Ii], fun (x : a8 × ab × Int × (List Int) × Unit) => CkP x.1 x.2.1 x.2.2.1 x.2.2.2.1, [.cell xV, .cell Ii], fun (x : a8 × ab × Int × (List Int) × Unit) => pr x.1 x.2.1 x.2.2.1 x.2.2.2.1⟩
theorem mkt_ok (p : a8) (o : ab) (s : Int) (ms : List Int) (h : lU.pre (p, o, s, ms, ())) : PTk Tryz.prog AI 14 lU (p, o, s, ms, ()) := by
 dsimp only [PTk, lU] at h ⊢
 generalize hr : pr p o s ms = r
 have hC := h; obtain ⟨p1, p2⟩ := p; obtain ⟨L, ou⟩ := o; have hlen := h.len; have hpa := h.lv.pap; have hkey := h.keys; have hn := hC.lv.pl.n; dsimp only at hpa hn
 dsimp only [pr] at hr
 refine Tb emk2Ok mixed (fn := Tryz.f14) ?_
 refine Pr ?_
 (try (conv in (SS.mk _ _) => dsimp only [cm]))
 refine Nx ?_
 with_reducible repeat' (first | exact True.intro | refine Ca ?_ | refine Cb ?_ | refine Cd ?_ | (refine Ce ?_; (try ((repeat (first | rw [ifP] at hr | rw [ifM] at hr | rw [if_pos rfl] at hr)); subst hr))) | refine Cm ?_ ?_ | (first | refine Bo (fun hk h => ?_) fun hk h => ?_ | refine Al (fun hk h => ?_) fun hk h => ?_) <;> (try dsimp only [cm] at h) <;> (try simp only [natCast_eq] at h) <;> (try (have hb : (_ : Bool) = _ := h; clear h; subst hb)) <;> (try replace hr := hri hr) <;> first | exact Dd | refine Nx ?_)
 all_goals first | with_reducible refine Ez ?_ | exact Cl1 | (dsimp only [cm]; exact Cl1) | (dsimp only; simp only [aH, aJ]; exact hC) | (subst hr; rfl) | exact Cl2 | (dsimp only [cm]; exact Cl2) | (dsimp only [cm] at *; exact Cl2) | skip
 refine ⟨⟨{i : Nat // i ≤ ms.length}, fun i => ⟨[(2, Sx.one (.int .i64 (fun _ => s))), (4, Sx.one (.ptr 0 0)), (5, Sx.one (.ptr 1 0)), (8, Sx.one (.ptr 2 0)), (11, Sx.one (.ptr 4 0)), (27, Sx.one (.ro Ii (fun _ => ms))), (28, Sx.one (.int .i64 (fun _ => ms.length))), (29, Sx.one (.int .i64 (fun _ => i.1)))],
  [.cells 25 [.ro ah (fun _ => p1), .ro az (fun _ => p2)], .cells 32 [.ro Ii (fun _ => L)], .cells 52 [.li .i64 0, .nilS, .nilS], .map (.int .i64) .bool (fun _ => bA (ms.take i.1)), .cells 49 [.mp 3]]⟩, fun i => ms.length - i.1, ⟨0, Nat.zero_le _⟩⟩, ?_, fun (i : {i : Nat // i ≤ ms.length}) => ?_⟩
 · refine Pr ?_
   (try (conv in (SS.mk _ _) => dsimp only [cm]))
   refine Nx ?_
   with_reducible repeat' first | exact True.intro | refine Ca ?_ | refine Cb ?_ | refine Cd ?_ | refine Ce ?_ | refine Cm ?_ ?_
   all_goals first | with_reducible refine Ez ?_ | exact Cl1 | (dsimp only [cm]; exact Cl1) | rfl | exact Cl2 | (dsimp only [cm]; exact Cl2) | (dsimp only [cm] at *; exact Cl2) | skip
 obtain ⟨i, hi⟩ := i
 dsimp only
 have hx := fun (h : (i : Int) < (ms.length : Int)) => (⟨by omega, h⟩ : (0 : Int) ≤ (i : Int) ∧ (i : Int) < (ms.length : Int))
 have hsn : ∀ (h : (i : Int) < (ms.length : Int)), bA (ms.take (i + 1)) = ak (K := Int) (bA (ms.take i)) (ms.getD (i : Int).toNat 0) true := fun h => by
  rw [dS ms (by omega), gR]
 have hk9 : ¬ (i : Int) < (ms.length : Int) → bA (ms.take i) = bA ms := fun h => by rw [List.take_of_length_le (by omega)]
 have hsl : (p1.length : Int).toNat * slotsOf (Ty.int .i64).lst = p1.length := Nat.mul_one _
 have hkx : ¬ (i : Int) < (ms.length : Int) → (aa (bA (ms.take i))).Nodup ∧ (∀ x ∈ aa (bA (ms.take i)), b5 x) ∧ (bA (ms.take i)).length ≤ 4194304 := fun h => by rw [hk9 h]; exact hkey
 have htm : (gM (p1, p2) (L, ou) s ms).1 = 0 → ¬ (i : Int) < (ms.length : Int) → TmOk 40 ⟨bA (ms.take i), p1, p2, (List.range p1.length).map fun k : Nat => bU (p1, p2) L (k : Int), s, List.replicate ((p1.length : Int).toNat * slotsOf (Ty.int .i64).lst) [], cW (aa (bA (ms.take i)))⟩ s (-1) := fun h0 h => by rw [hk9 h, hsl]; exact hC.tm h0
 have hout : List.map (List.map fun l => l) (ec (List.replicate ((p1.length : Int).toNat * slotsOf (Ty.int .i64).lst) []) (apL (p1, p2) ((List.range p1.length).map fun k : Nat => bU (p1, p2) L (k : Int)) (bA ms) 40 s (-1))) = fe (p1, p2) L s ms := by
  rw [hsl]
  exact (congrArg (List.map · _) (funext fun l => List.map_id l)).trans (List.map_id _)
 refine Pr ?_
 (try (conv in (SS.mk _ _) => dsimp only [cm]))
 refine Nx ?_
 with_reducible repeat' (first | exact True.intro | refine Ca ?_ | refine Cb ?_ | refine Cd ?_ | refine Ce ?_ | refine Cm ?_ ?_ | (first | refine Bo (fun hk h => ?_) fun hk h => ?_ | refine Al (fun hk h => ?_) fun hk h => ?_) <;> (try dsimp only [cm] at h) <;> (try simp only [natCast_eq] at h) <;> (try (have hb : (_ : Bool) = _ := h; clear h; subst hb)) <;> (try replace hr := hri hr) <;> first | exact Dd | refine Nx ?_)
 all_goals first | with_reducible refine Ez ?_ | exact Cl1 | (dsimp only [cm]; exact Cl1) | exact hx (by assumption) | exact hpa | exact hkx (by assumption) | (dsimp only [dg, fM, cm]; (try simp only [aH, aJ]); exact htm (by assumption) (by assumption)) | (subst hr; (try dsimp only [dg, fM, cm]); (try simp only [aH, aJ, hk9 (by assumption)]); first | done | rfl | exact hout) | exact Cl2 | (dsimp only [cm]; exact Cl2) | (dsimp only [cm] at *; exact Cl2) | skip
 refine ⟨⟨i + 1, by omega⟩, (by dsimp only; omega), ?_⟩
 refine Pr ?_
 (try (conv in (SS.mk _ _) => dsimp only [cm]))
 refine Nx ?_
 with_reducible repeat' first | exact True.intro | refine Ca ?_ | refine Cb ?_ | refine Cd ?_ | refine Ce ?_ | refine Cm ?_ ?_
 all_goals first | with_reducible refine Ez ?_ | exact Cl1 | (dsimp only [cm]; exact Cl1) | exact (hsn (by assumption)).symm | exact Cl2 | (dsimp only [cm]; exact Cl2) | (dsimp only [cm] at *; exact Cl2) | skip
theorem zj : aE Tryz.prog AI 14 lU.con := aB.sound Tryz.call14 (fun x h => mkt_ok x.1 x.2.1 x.2.2.1 x.2.2.2.1 h)
theorem xO {l : List Int} (h : l.Pairwise (· < ·)) : vt l = true := asc_t fun k hk => by
 rw [List.getD_eq_getElem?_getD, List.getD_eq_getElem?_getD, List.getElem?_eq_getElem (by omega), List.getElem?_eq_getElem (by omega)]
 exact List.pairwise_iff_getElem.1 h k (k + 1) (by omega) (by omega) (by omega)
section
variable {p : a8} {L : List Int} {wd : List (Int × Bool)}
theorem rl_ok (h : TrL p L) (O : fp) : ∀ (k : Nat) (u o : Int), Okv p L u o → msR p L u o < k → (∀ x, Sd p L u o x → O.getD x.toNat [] = apx x (apL p (ay p L) wd k u o)) → CN p O k u o
 | 0, _, _, _, hm, _ => absurd hm (Nat.not_lt_zero _)
 | k + 1, u, o, hu, hm, hO => ⟨hu.1.1, fun c hc => by
   rw [hO u (Sd.self hu), qh h hu] at hc
   unfold kdL at hc
   obtain ⟨j, hj, hc⟩ := List.mem_flatMap.1 hc
   split at hc <;> (try (cases hc; done))
   rename_i hk
   rw [List.mem_singleton.1 hc]
   have hed := eb h hu (fQ hk).1
   exact ⟨hed.e, rl_ok h O k _ _ (hu.next h hed) (by have := tK h hu.1.1 hed; omega) fun x hx => by rw [hO x (hx.sub hu hed), om h hu hed hx]⟩⟩
theorem kd_mem {k : Nat} {u o c : Int} (h : TrL p L) (hu : Okv p L u o) (hc : c ∈ kdL p (ay p L) wd k u o) : Ed p L u o c := by
 unfold kdL at hc
 obtain ⟨j, hj, hc⟩ := List.mem_flatMap.1 hc
 split at hc <;> (try (cases hc; done))
 rename_i hk
 rw [List.mem_singleton.1 hc]
 exact eb h hu (fQ hk).1
theorem kd_asc (k : Nat) (u o : Int) : (kdL p (ay p L) wd k u o).Pairwise (· < ·) := by
 unfold kdL
 refine List.pairwise_flatMap.2 ⟨fun c _ => by split <;> simp, ?_⟩
 refine List.pairwise_lt_range.imp fun {a b} hab x hx y hy => ?_
 split at hx <;> (try (cases hx; done))
 split at hy <;> (try (cases hy; done))
 rw [List.mem_singleton.1 hx, List.mem_singleton.1 hy]
 omega
theorem kd_nil {k : Nat} {u o : Int} (hn : ndB p (ay p L) wd (k + 1) u o = true) (he : kdL p (ay p L) wd k u o = []) : (bB (K := Int) wd u).getD false = true := by
 unfold ndB at hn
 rcases (Bool.or_eq_true _ _).mp hn with h1 | h1
 · exact h1
 · obtain ⟨c, hc, h2⟩ := List.any_eq_true.1 h1
   unfold kdL at he
   have h3 := List.flatMap_eq_nil_iff.1 he c hc
   rw [if_pos (show kB p (ay p L) wd k u o (c : Int) = true from h2)] at h3
   cases h3
theorem xf : ∀ (k : Nat) (u o : Int), ∀ e ∈ trT p (ay p L) wd k u o, e = (u, o) ∨ 0 ≤ e.2
 | 0, _, _, e, he => by cases he
 | k + 1, u, o, e, he => by
   unfold trT at he
   rcases List.mem_cons.1 he with rfl | he
   · exact .inl rfl
   · obtain ⟨c, hc, he⟩ := List.mem_flatMap.1 he
     split at he <;> (try (cases he; done))
     rcases xf k _ _ e he with h1 | h1
     · refine .inr ?_
       rw [h1]; show (0 : Int) ≤ (c : Int); omega
     · exact .inr h1
end
structure MkO (p : a8) (L : List Int) (s : Int) (O : fp) (T : List (Int × Int)) : Prop where
 rl : rlT p O 40 s (-1) = T
 ok : ∀ e ∈ T, Okv p L e.1 e.2
 nd : (T.map Prod.fst).Nodup
 ov : ∀ e ∈ T, e = (s, -1) ∨ 0 ≤ e.2
 row : ∀ e ∈ T, ∀ c ∈ O.getD e.1.toNat [], Ed p L e.1 e.2 c
 no : ∀ x : Int, 0 ≤ x → x < (p.1.length : Int) → (∀ ox, (x, ox) ∉ T) → O.getD x.toNat [] = []
 wy : ∀ e ∈ T, ∃ w, TPm p L T s e.1 e.2 w
section
variable {p : a8} {o : ab} {s : Int} {ms : List Int}
theorem CkP.at (h : CkP p o s ms) (h0 : (gM p o s ms).1 = 0) {x : Int} (hx : 0 ≤ x ∧ x < (p.1.length : Int)) : (fe p o.1 s ms).getD x.toNat [] = apx x (apL p (ay p o.1) (bA ms) 40 s (-1)) := by
 have hT := h.trl
 unfold fe
 rw [w7 _ _ x (fun e he => (iZ hT 40 s (-1) (h.okv h0) e he).1.1.1.1) hx.1 (by rw [List.length_replicate]; omega)]
 rw [List.getD_eq_getElem?_getD, List.getElem?_replicate, if_pos (by omega)]; rfl
theorem CkP.sd (h : CkP p o s ms) (h0 : (gM p o s ms).1 = 0) {x : Int} (hx : lvd p o.1 x) : Sd p o.1 s (-1) x := ⟨hx, fun h => absurd h (by decide)⟩
theorem CkP.mo (h : CkP p o s ms) (h0 : (gM p o s ms).1 = 0) : MkO p o.1 s (fe p o.1 s ms) (trT p (ay p o.1) (bA ms) 40 s (-1)) := by
 have hT := h.trl
 have hok := h.okv h0
 refine ⟨rl_tr hT _ 40 s (-1) hok fun x hx => h.at h0 hx.1.1, fun e he => (kK hT 40 s (-1) hok e he).2, uL hT 40 s (-1) hok, fun e he => xf 40 s (-1) e he, fun e he c hc => ?_, fun x h1 h2 hx => ?_, fun e he => ?_⟩
 · have hv := (kK hT 40 s (-1) hok e he).2
   obtain ⟨k, h1, _⟩ := oV hT 40 s (-1) hok e he
   rw [h.at h0 hv.1.1, h1] at hc
   exact kd_mem hT hv hc
 · rw [h.at h0 ⟨h1, h2⟩]
   exact xg hT 40 s (-1) x hok hx
 · refine tp_ex hT 40 s (-1) [] hok (fun e he => he) (.root ?_) e he
   unfold trT; exact List.mem_cons_self ..
theorem CkP.ov (h : CkP p o s ms) (h0 : (gM p o s ms).1 = 0) {x ox : Int} (hx : (x, ox) ∈ trT p (ay p o.1) (bA ms) 40 s (-1)) : (ovL p s (fe p o.1 s ms)).getD x.toNat 0 = ox := by
 have hM := h.mo h0
 unfold ovL
 rw [hM.rl]
 exact uc _ _ x ox hx hM.nd fun e he => ⟨(hM.ok e he).1.1.1, by rw [List.length_replicate]; have := (hM.ok e he).1.1; omega⟩
theorem CkP.ovn (h : CkP p o s ms) (h0 : (gM p o s ms).1 = 0) {x : Int} (h1 : 0 ≤ x) (h2 : x < (p.1.length : Int)) (hx : ∀ ox, (x, ox) ∉ trT p (ay p o.1) (bA ms) 40 s (-1)) : (ovL p s (fe p o.1 s ms)).getD x.toNat 0 = -2 := by
 have hM := h.mo h0
 unfold ovL
 rw [hM.rl, jX _ _ x h1 fun e he => ⟨(hM.ok e he).1.1.1, fun e2 => hx e.2 (by rw [← e2]; exact he)⟩]
 rw [List.getD_eq_getElem?_getD, List.getElem?_replicate, if_pos (by omega)]; rfl
theorem uK (ms : List Int) (x : Int) : x ∈ l9 ms ↔ x ∈ ms := by
 unfold l9
 rw [(cr _).mem_iff]
 exact (jY ms).2.1 x
theorem Af (ms : List Int) : vt (l9 ms) = true := by
 refine xO ?_
 unfold l9
 have h1 := gQ (aa (bA ms))
 have h2 : (cW (aa (bA ms))).Nodup := (cr _).nodup_iff.2 (jY ms).1
 exact (h1.and h2).imp fun {a b} h => by have := h.1; have := h.2; omega
theorem CkP.wy (h : CkP p o s ms) (h0 : (gM p o s ms).1 = 0) : WyP p s (fe p o.1 s ms) (l9 ms) := by
 have hT := h.trl
 have hok := h.okv h0
 have hM := h.mo h0
 have hcase : ∀ x : Int, (∃ ox, (x, ox) ∈ trT p (ay p o.1) (bA ms) 40 s (-1)) ∨ ∀ ox, (x, ox) ∉ trT p (ay p o.1) (bA ms) 40 s (-1) := fun x => by
  by_cases q : ∃ ox, (x, ox) ∈ trT p (ay p o.1) (bA ms) 40 s (-1)
  · exact .inl q
  · exact .inr fun ox h => q ⟨ox, h⟩
 have hln : ∀ k, ((fe p o.1 s ms).getD k []).length ≤ 1000 := fun k => by
  have h1 := nX (List.replicate p.1.length []) (apL p (ay p o.1) (bA ms) 40 s (-1)) k
  have h2 := CC (wd := bA ms) hT (k := 40) hok
  have h3 : ((List.replicate p.1.length ([] : List Int)).getD k []).length = 0 := by
   rw [List.getD_eq_getElem?_getD, List.getElem?_replicate]
   split <;> rfl
  unfold fe
  omega
 have hwant : ∀ x ∈ ms, ∃ ox, (x, ox) ∈ trT p (ay p o.1) (bA ms) 40 s (-1) := fun x hx => by
  have h1 : (bB (K := Int) (bA ms) x).getD false = true := by rw [gT]; exact decide_eq_true hx
  exact (xe hT h1 40 s (-1) hok (po hT h.s0) (h.sd h0 ⟨h.rng x hx, (C3 h0).2 x hx⟩)).2
 refine ⟨h.lv.pl, h.lv.ok, h.s0, ?_, fun k hk => ?_, ?_, ?_, Af ms, ?_, hln, fun x hx => ?_, fun k hk => ?_⟩
 · unfold fe; rw [nY, List.length_replicate]
 · have hk2 : (0 : Int) ≤ (k : Int) ∧ (k : Int) < (p.1.length : Int) := by omega
   rcases hcase (k : Int) with ⟨ox, hx⟩ | hx
   · obtain ⟨k', h1, _⟩ := oV hT 40 s (-1) hok _ hx
     have h2 := h.at h0 hk2
     rw [Int.toNat_natCast] at h2
     refine ⟨?_, fun c hc => ?_⟩
     · rw [h2, h1]; exact xO (kd_asc k' _ _)
     · exact (hM.row _ hx c (by rw [Int.toNat_natCast]; exact hc)).e
   · have h2 := hM.no _ hk2.1 hk2.2 hx
     rw [Int.toNat_natCast] at h2
     rw [h2]
     exact ⟨xO List.Pairwise.nil, fun c hc => by cases hc⟩
 · exact rl_ok hT _ 40 s (-1) hok (po hT h.s0) fun x hx => h.at h0 hx.1.1
 · rw [hM.rl]; exact hM.nd
 · unfold l9
   rw [(cr _).length_eq]
   have h3 := (jY ms).2.2
   have h4 := h.len
   have h5 : (aa (bA ms)).length = (bA ms).length := by simp [aa]
   omega
 · have hx := (uK ms x).1 hx
   refine ⟨h.rng x hx, fun e => ?_⟩
   obtain ⟨ox, h1⟩ := hwant x hx
   have h2 := h.ov h0 h1
   unfold ovL at h2
   rw [e] at h2
   rcases hM.ov _ h1 with h3 | h3
   · have := congrArg Prod.snd h3
     dsimp only at this
     omega
   · dsimp only at h3; omega
 · have hk2 : (0 : Int) ≤ (k : Int) ∧ (k : Int) < (p.1.length : Int) := by omega
   rcases hcase (k : Int) with ⟨ox, hx⟩ | hx
   · have h2 := h.ov h0 hx
     rw [Int.toNat_natCast] at h2
     unfold ovL at h2
     refine ⟨fun e => ?_, fun e1 e2 => ?_⟩
     · exfalso
       rw [h2] at e
       rcases hM.ov _ hx with h3 | h3
       · have := congrArg Prod.snd h3
         dsimp only at this
         omega
       · dsimp only at h3; omega
     · rw [h2] at e1
       obtain ⟨k', h3, h4⟩ := oV hT 40 s (-1) hok _ hx
       have h5 := h.at h0 hk2
       rw [Int.toNat_natCast] at h5
       rcases h4 with ⟨h4, _⟩ | h4
       · have := congrArg Prod.snd h4
         dsimp only at this
         omega
       · have h6 := kd_nil h4 (by rw [← h3, ← h5]; exact e2)
         rw [gT] at h6
         exact (uK ms _).2 (of_decide_eq_true h6)
   · have h2 := h.ovn h0 hk2.1 hk2.2 hx
     rw [Int.toNat_natCast] at h2
     unfold ovL at h2
     refine ⟨fun _ => ?_, fun e => ?_⟩
     · have := hM.no _ hk2.1 hk2.2 hx
       rw [Int.toNat_natCast] at this
       exact this
     · rw [h2] at e; omega
end
end Go.Proofs.YtcaoldilmnpjoaaGreat
