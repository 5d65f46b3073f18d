/-
  Layer 44: StreamWindow, the walk.
-/
import Derived.Test.YtebhcmgfhkjmcaaIny
import Derived.Test.YtebhcmgfhkjmcaaAwk
namespace Go.Proofs.Ytebhcmgfhkjmcaa
set_option linter.all false
set_option linter.unusedVariables false
set_option linter.unusedSimpArgs false
set_option linter.unusedSectionVars false
open Go.RowKit Go.Sx
set_option maxRecDepth 100000
set_option maxHeartbeats 16000000
noncomputable abbrev Ef : Env Ab := ⟨tis, [(22, newRdrSpec.con), (12, newWriSpec.con)] ++ E0.con⟩
theorem efOk : EnvOk Try.prog AI Ef := ((e0Ok.add newWri_sound).add newRdr_sound)
theorem fresh_inl : ConSound Try.prog AI 32 (inl Ef Try.f32 3) := inl_sound efOk mixed (fn := Try.f32) (c := bodyOf Try.f32) Try.call32 (by kernel_rfl) (by kernel_rfl) (by kernel_rfl) 3
theorem beq_inl : ConSound Try.prog AI 24 (inl E0 Try.f24 0) := inl_sound e0Ok mixed (fn := Try.f24) (c := bodyOf Try.f24) Try.call24 (by kernel_rfl) (by kernel_rfl) (by kernel_rfl) 0
noncomputable abbrev Ew : Env Ab := ⟨tis, [(33, actSpec.con), (21, countsSpec.con), (24, inl E0 Try.f24 0), (32, inl Ef Try.f32 3), (11, awakeSpec.con)] ++ E0.con⟩
theorem ewOk : EnvOk Try.prog AI Ew := (((((e0Ok.add awake_sound).add fresh_inl).add beq_inl).add counts_sound).add act_sound)

theorem act_bytes {x : WS} (h : inBytes x.data) (a : Int) : inBytes (actF x a).2.data := by
  have key : ∀ n : Nat, inBytes (x.data ++ ((actB x a).take n).drop (0 : Int).toNat) := by
    intro n y hy
    rcases List.mem_append.1 hy with h1 | h1
    · exact h y h1
    · have h2 : y ∈ actB x a := List.mem_of_mem_take (List.mem_of_mem_drop h1)
      have h3 : y ∈ [IntKind.u8.wrap a, IntKind.u8.wrap (a / 2 ^ (8 : Int).toNat), IntKind.u8.wrap (x.data.length : Int), 7] := List.mem_of_mem_take (List.mem_of_mem_drop h2)
      simp only [List.mem_cons, List.not_mem_nil, or_false, IntKind.wrap_u8] at h3
      omega
  unfold actF act0 act1 act3 act5 act6 act7
  (repeat' split) <;> first | exact h | exact key _
structure SegF (x y : WS) (a : Int) (s : Seg) : Prop where
  s1 : x.w.base ≤ s.1
  s2 : (s.2.1.length : Int) ≤ 1 + a / 8 % 5
  s3 : (s.2.1.length : Int) ≤ 0 ∨ s.1 + (s.2.1.length : Int) ≤ x.w.base + x.w.room
  s4 : s.1 + (s.2.1.length : Int) ≤ y.data.length
  s5 : 0 ≤ s.1
  s6 : s.2.1 = (y.data.drop s.1.toNat).take (s.1 + (s.2.1.length : Int) - s.1).toNat
  s7 : inBytes s.2.1
  s8 : (y.segs.length : Int) = x.segs.length + 1
theorem seg_fact {x y : WS} {a : Int} (h : ActOk x y a) (hb : inBytes y.data) (h0 : 0 ≤ a) (hn : ¬ ((y.segs.length : Int) = (x.segs.length : Int))) : SegF x y a (y.segs.getD ((x.segs.length : Int)).toNat (0, [], false)) := by
  have hm : 0 ≤ a / 8 % 5 := Int.emod_nonneg _ (by decide)
  rcases h.segs with e | ⟨s, e, p, q1, q2, q3⟩
  · rw [e] at hn; exact absurd rfl hn
  · have hs : y.segs.getD ((x.segs.length : Int)).toNat (0, [], false) = s := by
      rw [e, Int.toNat_natCast, getD_app (by omega), if_neg (by omega)]
    rw [hs]
    have p1 := p.lo; have p2 := p.hi; have p3 := h.inv.topd
    have e2 := list_eq_take (l := s.2.1) (d := y.data) (a := s.1.toNat) p.eq (by omega)
    refine ⟨q1, by omega, by by_cases hp : 0 < s.2.1.length; exact .inr (q3 hp); exact .inl (by omega), by omega, p1, ?_, ?_, by rw [e, List.length_append]; simp⟩
    · rw [show (s.1 + (s.2.1.length : Int) - s.1).toNat = s.2.1.length by omega]; exact e2
    · rw [e2]
      exact fun z hz => hb z (List.mem_of_mem_drop (List.mem_of_mem_take hz))
theorem segs_len {x y : WS} {a : Int} (h : ActOk x y a) : y.segs.length ≤ x.segs.length + 1 := by
  rcases h.segs with e | ⟨s, e, _⟩ <;> rw [e]
  · omega
  · rw [List.length_append]; exact Nat.le_refl _
theorem same_len {x y : WS} {a : Int} (h : ActOk x y a) (e : a % 8 = 7) : (y.segs.length : Int) = x.segs.length := by rw [(h.same7 e).2]
theorem edge_fact {x y : WS} {a : Int} (h : ActOk x y a) : x.w.base + x.w.room = x.w.base + x.w.room ∧ y.w.base + y.w.room = (if a % 8 = 7 ∧ 0 < (y.acks.length : Int) then (if x.w.base < (y.acks.getD (a / 8 % (y.acks.length : Int)).toNat (0, 0)).1 then (y.acks.getD (a / 8 % (y.acks.length : Int)).toNat (0, 0)).1 + (y.acks.getD (a / 8 % (y.acks.length : Int)).toNat (0, 0)).2
      else if x.w.base = (y.acks.getD (a / 8 % (y.acks.length : Int)).toNat (0, 0)).1 then max (x.w.base + x.w.room) ((y.acks.getD (a / 8 % (y.acks.length : Int)).toNat (0, 0)).1 + (y.acks.getD (a / 8 % (y.acks.length : Int)).toNat (0, 0)).2) else x.w.base + x.w.room) else x.w.base + x.w.room) := by
  refine ⟨rfl, ?_⟩
  rw [h.edge]
  by_cases e : a % 8 = 7
  · rw [(h.same7 e).1]
  · rw [if_neg (fun hh => e hh.1), if_neg (fun hh => e hh.1)]
theorem ack_rng {x : WS} (h : Inv x) {k : Int} (hp : 0 < (x.acks.length : Int)) : 0 ≤ (x.acks.getD (k % (x.acks.length : Int)).toNat (0, 0)).1 ∧ (x.acks.getD (k % (x.acks.length : Int)).toNat (0, 0)).1 ≤ 4000000 ∧ 0 ≤ (x.acks.getD (k % (x.acks.length : Int)).toNat (0, 0)).2 ∧ (x.acks.getD (k % (x.acks.length : Int)).toNat (0, 0)).2 ≤ 1048576 := by
  have hlt : (k % (x.acks.length : Int)).toNat < x.acks.length := by have := modAt_lt (k := k) hp; omega
  obtain ⟨⟨c1, c2⟩, ⟨c3, c4⟩, _⟩ := h.ack _ hlt
  have := h.st.nxt; have := h.ok.top; have := h.ok.taken
  exact ⟨c1, by omega, c3, c4⟩
theorem WS.eta {x : WS} : (⟨x.w, x.r, x.data, x.read, x.segs, x.acks, x.done, x.fin⟩ : WS) = x := rfl
structure LX (L : List Int) where
  i : Int
  x : WS
  lo : 0 ≤ i
  hi : i ≤ L.length
  inv : Inv x
  bt : inBytes x.data
  l1 : (x.data.length : Int) ≤ 4 * i
  l2 : (x.segs.length : Int) ≤ i
  l3 : (x.acks.length : Int) ≤ i
theorem u16_of {L : List Int} (hL : ∀ a ∈ L, (Ty.int .u16).ok a) {i : Int} (h0 : 0 ≤ i) (hi : i < L.length) : 0 ≤ L.getD i.toNat 0 ∧ L.getD i.toNat 0 < 65536 := by
  have h : L.getD i.toNat 0 = L[i.toNat]'(by omega) := by
    rw [List.getD_eq_getElem?_getD, List.getElem?_eq_getElem (by omega)]; rfl
  rw [h]
  have := inRange_u16 (hL _ (List.getElem_mem (show i.toNat < L.length by omega)))
  omega
theorem next_LX {L : List Int} {i : Int} {x y : WS} {a : Int} (lo : 0 ≤ i) (hi : i < L.length) (h : ActOk x y a) (hb : inBytes y.data) (l1 : (x.data.length : Int) ≤ 4 * i) (l2 : (x.segs.length : Int) ≤ i) (l3 : (x.acks.length : Int) ≤ i) : ∃ z : LX L, z.i = i + 1 ∧ z.x = y := by
  have := h.data; have := h.acks; have := segs_len h
  exact ⟨⟨i + 1, y, by omega, by omega, h.inv, hb, by omega, by omega, by omega⟩, rfl, rfl⟩
def winF (_ _ _ : Int) (_ : List Int) : Tup [DT.cell .bool] := (true, ())
def winSpec : PureSpec := ⟨[.cell (.int .u8), .cell (.int .u8), .cell (.int .u8), .lst (.int .u16)], fun (x : Int × Int × Int × (List Int) × Unit) => (0 ≤ x.1 ∧ x.1 ≤ 255) ∧ (0 ≤ x.2.1 ∧ x.2.1 ≤ 255) ∧ (0 ≤ x.2.2.1 ∧ x.2.2.1 ≤ 255) ∧ x.2.2.2.1.length ≤ maxLen ∧ ∀ a ∈ x.2.2.2.1, (Ty.int .u16).ok a, [.cell .bool], fun (x : Int × Int × Int × (List Int) × Unit) => winF x.1 x.2.1 x.2.2.1 x.2.2.2.1⟩
theorem win_ok (w : Int) (v : Int) (t : Int) (L : List Int) (h : winSpec.pre (w, v, t, L, ())) : TmplOk Try.prog AI 6 (argS winSpec.ds (fun _ => (w, v, t, L, ()))) [] (resOf (svs winSpec.rs (fun _ => winSpec.f (w, v, t, L, ())))) [] := by
  dsimp only [winSpec] at h ⊢
  generalize hr : winF w v t L = r
  obtain ⟨⟨w1, w2⟩, ⟨v1, v2⟩, ⟨t1, t2⟩, hL0, hL⟩ := h
  dsimp only [winF] at hr
  refine tmpl_of_body ewOk mixed (fn := Try.f6) (c := bodyOf Try.f6) (by kernel_rfl) (by kernel_rfl) (by kernel_rfl) (Nat.le_of_ble_eq_true (by kernel_rfl)) ?_
  (try (conv in (LoopInv.inv _ _) => dsimp only)); (try (conv in (SS.mk _ _) => cbv; (try dsimp only [countsSpec, countsF, newWriSpec, newRdrSpec, actSpec, Ty.T, Ty.dflt, KT.T]); (try simp only [natCast_eq])))
  (with_reducible refine (?_ : T1 _ ?_) ?_; rotate_left 1; (conv => lhs; cbv; (try cbv); (try cbv)); intro hT; clear hT; with_reducible refine Sh.mk (by kernel_rfl) ?_)
  repeat' (first
    | with_reducible (first | refine Ck.mk (C := tt) tt_intro ?_ | refine Ck.mk (show drawOk _ _ = true by kernel_rfl) ?_ | refine Ck.all_cons ?_ | refine Ck.all_nil ?_ | refine Ck.mk (by assumption) ?_ | refine Ck.mk (decide_eq_true (by assumption)) ?_ | refine Ck.mk (decide_eq_false (by assumption)) ?_ | refine Ck.mk ?_ ?_)
    | (with_reducible (first | refine Both.mk (fun h => ?_) (fun h => ?_) | refine Alt.mk (fun h => ?_) (fun h => ?_) | refine Pick.mk (fun h => ?_) (fun l1 x l2 h => ?_)) <;> (have hk := h) <;> (try simp only [nrm, reduceCtorEq, pair_eta, map_idL] at h) <;> (try dsimp only [countsSpec, countsF, newWriSpec, newRdrSpec, actSpec, Ty.T, Ty.dflt, KT.T, getM, putM, delM] at h) <;> (try simp only [natCast_eq] at h) <;> (try simp only [WS.eta] at h) <;> (try (have ha := u16_of hL hlo h; have hk1 := actF_ok hinv ha.1; have hA := hk1.2; have hT := hk1.1; have hB := act_bytes hbt (L.getD i.toNat 0); clear hk1)) <;> (try (have hS := seg_fact hA hB ha.1 h; have s1 := hS.s1; have s2 := hS.s2; have s3 := hS.s3; have s4 := hS.s4; have s5 := hS.s5; have s6 := hS.s6; have s8 := hS.s8; have hD := hA.data)) <;> (try (have h7 := same_len hA h)) <;> (try (have hR := ack_rng hA.inv (k := L.getD i.toNat 0 / 8) h)) <;> (try (exfalso; exact absurd s6 h)) <;> (try first | rw [if_pos h] at hr | rw [if_neg h] at hr | rw [ifF h] at hr | rw [ifN h] at hr) <;> (try (have hb : (_ : Bool) = _ := h; clear h; subst hb; (try first | rw [if_pos rfl] at hr | rw [if_neg Bool.false_ne_true] at hr))) <;> first | (exfalso; omega) | exact absurd (h.symm.trans (by assumption) : true = false) Bool.noConfusion | exact absurd (h.symm.trans (by assumption) : false = true) Bool.noConfusion | (with_reducible refine (?_ : T1 _ ?_) ?_; rotate_left 1; (conv => lhs; cbv; (try cbv); (try cbv)); intro hT; clear hT; with_reducible refine Sh.mk (by kernel_rfl) ?_))
    | ((with_reducible refine End.mk ?_); (try ((repeat (first | rw [if_pos (by first | assumption | omega)] at hr | rw [if_neg (by first | assumption | omega | (simp only [Bool.false_eq_true, Bool.true_eq_false, reduceCtorEq, not_false_eq_true]; done) | (simp only [Bool.not_eq_true]; assumption) | (simp only [Bool.not_eq_false]; assumption))] at hr | rw [if_pos rfl] at hr)); subst hr)))
    | with_reducible exact True.intro)
  all_goals first
    | (fail_if_success (with_reducible refine Exists.intro ?_ ?_)
       first
         | with_reducible rfl
         | with_reducible assumption
         | (symm; with_reducible assumption)
         | omega
         | ((try dsimp only [countsSpec, countsF, newWriSpec, newRdrSpec, actSpec, Ty.T, Ty.dflt, KT.T, getM, putM, delM, inI64, maxRow]); first | done | with_reducible rfl | with_reducible assumption | (symm; with_reducible assumption) | ((try simp only [natCast_eq, List.nil_append]); first | done | with_reducible rfl | omega | exact take_cg (by omega) | exact drop_cg (by omega) | exact take_drop_cg (by omega) (by omega) | exact take_all (by omega) | exact take_drop_all (by omega) (by omega) | exact drop_take_cg (by omega) (by omega) (by omega)))
         | ((try dsimp only [countsSpec, countsF, newWriSpec, newRdrSpec, actSpec, Ty.T, Ty.dflt, KT.T, getM, putM, delM, inI64, maxRow]); first | (simp only [nrm, reduceCtorEq, pair_eta, map_idL, natCast_eq, inI64, maxRow]; first | done | with_reducible assumption | omega) | exact map_pair_id _)
         | ((try dsimp only [countsSpec, countsF, newWriSpec, newRdrSpec, actSpec, Ty.T, Ty.dflt, KT.T, getM, putM, delM, inI64, maxRow] at *); first | ((try simp only [natCast_eq] at *) <;> omega) | ((try simp only [lens, natCast_eq] at *) <;> omega))
         | assumption
         | (symm; assumption)
         | (dsimp only; simp only [nrb, *]; done)
         | (simp; done)
         | (and_intros <;> first | trivial | with_reducible assumption | omega)
         | ((try dsimp only [countsSpec, countsF, newWriSpec, newRdrSpec, actSpec, Ty.T, Ty.dflt, KT.T, getM, putM, delM, inI64, maxRow] at *) <;> simp [*] <;> done))
    | skip
  obtain ⟨x0, hx0, hx1⟩ : ∃ x : LX L, x.i = 0 ∧ x.x = newX (1 + w % 20) (1 + t % 6) (1 + v % 20) := ⟨⟨0, newX (1 + w % 20) (1 + t % 6) (1 + v % 20), Int.le_refl _, by omega, newX_inv (by omega) (by omega) (by omega) (by omega) (by omega) (by omega), fun y hy => (by cases hy), by simp [newX], by simp [newX], by simp [newX]⟩, rfl, rfl⟩
  refine ⟨⟨LX L, fun x => ⟨[(9, Sx.one (.ptr 0 0)), (10, Sx.one (.int .i64 (fun _ => x.x.w.base + x.x.w.room))), (39, Sx.one (.ro (.int .u16) (fun _ => L))), (40, Sx.one (.int .i64 (fun _ => L.length))), (41, Sx.one (.int .i64 (fun _ => x.i)))],
      wldC 0 (fun _ => x.x)⟩, fun x => (L.length - x.i).toNat, x0⟩, ?_, fun (x : LX L) => ?_⟩
  · (try (conv in (LoopInv.inv _ _) => dsimp only)); (try (conv in (SS.mk _ _) => cbv; (try dsimp only [countsSpec, countsF, newWriSpec, newRdrSpec, actSpec, Ty.T, Ty.dflt, KT.T]); (try simp only [natCast_eq])))
    (with_reducible refine (?_ : T1 _ ?_) ?_; rotate_left 1; (conv => lhs; cbv; (try cbv); (try cbv)); intro hT; clear hT; with_reducible refine Sh.mk (by kernel_rfl) ?_)
    repeat' (first
      | with_reducible (first | refine Ck.mk (C := tt) tt_intro ?_ | refine Ck.mk (show drawOk _ _ = true by kernel_rfl) ?_ | refine Ck.all_cons ?_ | refine Ck.all_nil ?_ | refine Ck.mk (by assumption) ?_ | refine Ck.mk (decide_eq_true (by assumption)) ?_ | refine Ck.mk (decide_eq_false (by assumption)) ?_ | refine Ck.mk ?_ ?_)
      | (with_reducible (first | refine Both.mk (fun h => ?_) (fun h => ?_) | refine Alt.mk (fun h => ?_) (fun h => ?_) | refine Pick.mk (fun h => ?_) (fun l1 x l2 h => ?_)) <;> (have hk := h) <;> (try simp only [nrm, reduceCtorEq, pair_eta, map_idL] at h) <;> (try dsimp only [countsSpec, countsF, newWriSpec, newRdrSpec, actSpec, Ty.T, Ty.dflt, KT.T, getM, putM, delM] at h) <;> (try simp only [natCast_eq] at h) <;> (try simp only [WS.eta] at h) <;> (try (have ha := u16_of hL hlo h; have hk1 := actF_ok hinv ha.1; have hA := hk1.2; have hT := hk1.1; have hB := act_bytes hbt (L.getD i.toNat 0); clear hk1)) <;> (try (have hS := seg_fact hA hB ha.1 h; have s1 := hS.s1; have s2 := hS.s2; have s3 := hS.s3; have s4 := hS.s4; have s5 := hS.s5; have s6 := hS.s6; have s8 := hS.s8; have hD := hA.data)) <;> (try (have h7 := same_len hA h)) <;> (try (have hR := ack_rng hA.inv (k := L.getD i.toNat 0 / 8) h)) <;> (try (exfalso; exact absurd s6 h)) <;> (try first | rw [if_pos h] at hr | rw [if_neg h] at hr | rw [ifF h] at hr | rw [ifN h] at hr) <;> (try (have hb : (_ : Bool) = _ := h; clear h; subst hb; (try first | rw [if_pos rfl] at hr | rw [if_neg Bool.false_ne_true] at hr))) <;> first | (exfalso; omega) | exact absurd (h.symm.trans (by assumption) : true = false) Bool.noConfusion | exact absurd (h.symm.trans (by assumption) : false = true) Bool.noConfusion | (with_reducible refine (?_ : T1 _ ?_) ?_; rotate_left 1; (conv => lhs; cbv; (try cbv); (try cbv)); intro hT; clear hT; with_reducible refine Sh.mk (by kernel_rfl) ?_))
      | ((with_reducible refine End.mk ?_); skip)
      | with_reducible exact True.intro)
    all_goals first
      | (fail_if_success (with_reducible refine Exists.intro ?_ ?_)
         first
           | with_reducible rfl
           | with_reducible assumption
           | (symm; with_reducible assumption)
           | omega
           | ((try dsimp only [countsSpec, countsF, newWriSpec, newRdrSpec, actSpec, Ty.T, Ty.dflt, KT.T, getM, putM, delM, inI64, maxRow]); first | done | with_reducible rfl | with_reducible assumption | (symm; with_reducible assumption) | ((try simp only [natCast_eq, List.nil_append]); first | done | with_reducible rfl | omega | exact take_cg (by omega) | exact drop_cg (by omega) | exact take_drop_cg (by omega) (by omega) | exact take_all (by omega) | exact take_drop_all (by omega) (by omega) | exact drop_take_cg (by omega) (by omega) (by omega)))
           | first | (rw [hx1]; rfl) | (rw [hx1]; show 1 + w % 20 = 0 + (1 + w % 20); omega)
           | ((try dsimp only [countsSpec, countsF, newWriSpec, newRdrSpec, actSpec, Ty.T, Ty.dflt, KT.T, getM, putM, delM, inI64, maxRow]); first | (simp only [nrm, reduceCtorEq, pair_eta, map_idL, natCast_eq, inI64, maxRow]; first | done | with_reducible assumption | omega) | exact map_pair_id _)
           | ((try dsimp only [countsSpec, countsF, newWriSpec, newRdrSpec, actSpec, Ty.T, Ty.dflt, KT.T, getM, putM, delM, inI64, maxRow] at *); first | ((try simp only [natCast_eq] at *) <;> omega) | ((try simp only [lens, natCast_eq] at *) <;> omega))
           | assumption
           | (symm; assumption)
           | (dsimp only; simp only [nrb, *]; done)
           | (simp; done)
           | (and_intros <;> first | trivial | with_reducible assumption | omega)
           | ((try dsimp only [countsSpec, countsF, newWriSpec, newRdrSpec, actSpec, Ty.T, Ty.dflt, KT.T, getM, putM, delM, inI64, maxRow] at *) <;> simp [*] <;> done))
      | skip
  obtain ⟨i, x, hlo, hhi, hinv, hbt, hl1, hl2, hl3⟩ := x
  (try (conv in (LoopInv.inv _ _) => dsimp only)); (try (conv in (SS.mk _ _) => cbv; (try dsimp only [countsSpec, countsF, newWriSpec, newRdrSpec, actSpec, Ty.T, Ty.dflt, KT.T]); (try simp only [natCast_eq])))
  (with_reducible refine (?_ : T1 _ ?_) ?_; rotate_left 1; (conv => lhs; cbv; (try cbv); (try cbv)); intro hT; clear hT; with_reducible refine Sh.mk (by kernel_rfl) ?_)
  repeat' (first
    | with_reducible (first | refine Ck.mk (C := tt) tt_intro ?_ | refine Ck.mk (show drawOk _ _ = true by kernel_rfl) ?_ | refine Ck.all_cons ?_ | refine Ck.all_nil ?_ | refine Ck.mk (by assumption) ?_ | refine Ck.mk (decide_eq_true (by assumption)) ?_ | refine Ck.mk (decide_eq_false (by assumption)) ?_ | refine Ck.mk ?_ ?_)
    | (with_reducible (first | refine Both.mk (fun h => ?_) (fun h => ?_) | refine Alt.mk (fun h => ?_) (fun h => ?_) | refine Pick.mk (fun h => ?_) (fun l1 x l2 h => ?_)) <;> (have hk := h) <;> (try simp only [nrm, reduceCtorEq, pair_eta, map_idL] at h) <;> (try dsimp only [countsSpec, countsF, newWriSpec, newRdrSpec, actSpec, Ty.T, Ty.dflt, KT.T, getM, putM, delM] at h) <;> (try simp only [natCast_eq] at h) <;> (try simp only [WS.eta] at h) <;> (try (have ha := u16_of hL hlo h; have hk1 := actF_ok hinv ha.1; have hA := hk1.2; have hT := hk1.1; have hB := act_bytes hbt (L.getD i.toNat 0); clear hk1)) <;> (try (have hS := seg_fact hA hB ha.1 h; have s1 := hS.s1; have s2 := hS.s2; have s3 := hS.s3; have s4 := hS.s4; have s5 := hS.s5; have s6 := hS.s6; have s8 := hS.s8; have hD := hA.data)) <;> (try (have h7 := same_len hA h)) <;> (try (have hR := ack_rng hA.inv (k := L.getD i.toNat 0 / 8) h)) <;> (try (exfalso; exact absurd s6 h)) <;> (try first | rw [if_pos h] at hr | rw [if_neg h] at hr | rw [ifF h] at hr | rw [ifN h] at hr) <;> (try (have hb : (_ : Bool) = _ := h; clear h; subst hb; (try first | rw [if_pos rfl] at hr | rw [if_neg Bool.false_ne_true] at hr))) <;> first | (exfalso; omega) | exact absurd (h.symm.trans (by assumption) : true = false) Bool.noConfusion | exact absurd (h.symm.trans (by assumption) : false = true) Bool.noConfusion | (with_reducible refine (?_ : T1 _ ?_) ?_; rotate_left 1; (conv => lhs; cbv; (try cbv); (try cbv)); intro hT; clear hT; with_reducible refine Sh.mk (by kernel_rfl) ?_))
    | ((with_reducible refine End.mk ?_); (try ((repeat (first | rw [if_pos (by first | assumption | omega)] at hr | rw [if_neg (by first | assumption | omega | (simp only [Bool.false_eq_true, Bool.true_eq_false, reduceCtorEq, not_false_eq_true]; done) | (simp only [Bool.not_eq_true]; assumption) | (simp only [Bool.not_eq_false]; assumption))] at hr | rw [if_pos rfl] at hr)); subst hr)))
    | with_reducible exact True.intro)
  all_goals first
    | (fail_if_success (with_reducible refine Exists.intro ?_ ?_)
       first
         | with_reducible rfl
         | with_reducible assumption
         | (symm; with_reducible assumption)
         | omega
         | ((try dsimp only [countsSpec, countsF, newWriSpec, newRdrSpec, actSpec, Ty.T, Ty.dflt, KT.T, getM, putM, delM, inI64, maxRow]); first | done | with_reducible rfl | with_reducible assumption | (symm; with_reducible assumption) | ((try simp only [natCast_eq, List.nil_append]); first | done | with_reducible rfl | omega | exact take_cg (by omega) | exact drop_cg (by omega) | exact take_drop_cg (by omega) (by omega) | exact take_all (by omega) | exact take_drop_all (by omega) (by omega) | exact drop_take_cg (by omega) (by omega) (by omega)))
         | first | exact ⟨hinv.pre (by omega) (by omega) (by omega), ha⟩ | exact ⟨hS.s7, fun z hz => hB z (List.mem_of_mem_drop (List.mem_of_mem_take hz))⟩ | exact modAt_lt h | ((try dsimp only [Ty.T, Ty.dflt]); (try simp only [WS.eta, natCast_eq, inI64]); first | omega | exact ⟨by omega, by omega⟩ | exact modAt_lt h | exact modAt_lt (by assumption) | exact ⟨by omega, by omega, by omega⟩)
         | ((try dsimp only [countsSpec, countsF, newWriSpec, newRdrSpec, actSpec, Ty.T, Ty.dflt, KT.T, getM, putM, delM, inI64, maxRow]); first | (simp only [nrm, reduceCtorEq, pair_eta, map_idL, natCast_eq, inI64, maxRow]; first | done | with_reducible assumption | omega) | exact map_pair_id _)
         | ((try dsimp only [countsSpec, countsF, newWriSpec, newRdrSpec, actSpec, Ty.T, Ty.dflt, KT.T, getM, putM, delM, inI64, maxRow] at *); first | ((try simp only [natCast_eq] at *) <;> omega) | ((try simp only [lens, natCast_eq] at *) <;> omega))
         | assumption
         | (symm; assumption)
         | (dsimp only; simp only [nrb, *]; done)
         | (simp; done)
         | (and_intros <;> first | trivial | with_reducible assumption | omega)
         | ((try dsimp only [countsSpec, countsF, newWriSpec, newRdrSpec, actSpec, Ty.T, Ty.dflt, KT.T, getM, putM, delM, inI64, maxRow] at *) <;> simp [*] <;> done))
    | skip
  · obtain ⟨y, hy1, hy2⟩ := next_LX (L := L) hlo (by assumption) hA hB hl1 hl2 hl3
    refine ⟨y, by dsimp only; (try simp only [natCast_eq]); omega, ?_⟩
    (try (conv in (LoopInv.inv _ _) => dsimp only)); (try (conv in (SS.mk _ _) => cbv; (try dsimp only [countsSpec, countsF, newWriSpec, newRdrSpec, actSpec, Ty.T, Ty.dflt, KT.T]); (try simp only [natCast_eq])))
    (with_reducible refine (?_ : T1 _ ?_) ?_; rotate_left 1; (conv => lhs; cbv; (try cbv); (try cbv)); intro hT; clear hT; with_reducible refine Sh.mk (by kernel_rfl) ?_)
    repeat' (first
      | with_reducible (first | refine Ck.mk (C := tt) tt_intro ?_ | refine Ck.mk (show drawOk _ _ = true by kernel_rfl) ?_ | refine Ck.all_cons ?_ | refine Ck.all_nil ?_ | refine Ck.mk (by assumption) ?_ | refine Ck.mk (decide_eq_true (by assumption)) ?_ | refine Ck.mk (decide_eq_false (by assumption)) ?_ | refine Ck.mk ?_ ?_)
      | (with_reducible (first | refine Both.mk (fun h => ?_) (fun h => ?_) | refine Alt.mk (fun h => ?_) (fun h => ?_) | refine Pick.mk (fun h => ?_) (fun l1 x l2 h => ?_)) <;> (have hk := h) <;> (try simp only [nrm, reduceCtorEq, pair_eta, map_idL] at h) <;> (try dsimp only [countsSpec, countsF, newWriSpec, newRdrSpec, actSpec, Ty.T, Ty.dflt, KT.T, getM, putM, delM] at h) <;> (try simp only [natCast_eq] at h) <;> (try simp only [WS.eta] at h) <;> (try (have ha := u16_of hL hlo h; have hk1 := actF_ok hinv ha.1; have hA := hk1.2; have hT := hk1.1; have hB := act_bytes hbt (L.getD i.toNat 0); clear hk1)) <;> (try (have hS := seg_fact hA hB ha.1 h; have s1 := hS.s1; have s2 := hS.s2; have s3 := hS.s3; have s4 := hS.s4; have s5 := hS.s5; have s6 := hS.s6; have s8 := hS.s8; have hD := hA.data)) <;> (try (have h7 := same_len hA h)) <;> (try (have hR := ack_rng hA.inv (k := L.getD i.toNat 0 / 8) h)) <;> (try (exfalso; exact absurd s6 h)) <;> (try first | rw [if_pos h] at hr | rw [if_neg h] at hr | rw [ifF h] at hr | rw [ifN h] at hr) <;> (try (have hb : (_ : Bool) = _ := h; clear h; subst hb; (try first | rw [if_pos rfl] at hr | rw [if_neg Bool.false_ne_true] at hr))) <;> first | (exfalso; omega) | exact absurd (h.symm.trans (by assumption) : true = false) Bool.noConfusion | exact absurd (h.symm.trans (by assumption) : false = true) Bool.noConfusion | (with_reducible refine (?_ : T1 _ ?_) ?_; rotate_left 1; (conv => lhs; cbv; (try cbv); (try cbv)); intro hT; clear hT; with_reducible refine Sh.mk (by kernel_rfl) ?_))
      | ((with_reducible refine End.mk ?_); skip)
      | with_reducible exact True.intro)
    all_goals first
      | (fail_if_success (with_reducible refine Exists.intro ?_ ?_)
         first
           | with_reducible rfl
           | with_reducible assumption
           | (symm; with_reducible assumption)
           | omega
           | ((try dsimp only [countsSpec, countsF, newWriSpec, newRdrSpec, actSpec, Ty.T, Ty.dflt, KT.T, getM, putM, delM, inI64, maxRow]); first | done | with_reducible rfl | with_reducible assumption | (symm; with_reducible assumption) | ((try simp only [natCast_eq, List.nil_append]); first | done | with_reducible rfl | omega | exact take_cg (by omega) | exact drop_cg (by omega) | exact take_drop_cg (by omega) (by omega) | exact take_all (by omega) | exact take_drop_all (by omega) (by omega) | exact drop_take_cg (by omega) (by omega) (by omega)))
           | first | (rw [hy2]; done) | (rw [hy2]; first | rfl | exact map_pair_id _ | (simp; done)) | (rw [hy2, (edge_fact hA).2]; (try dsimp only [Ty.T, Ty.dflt]); (try simp only [WS.eta, natCast_eq]); ((repeat' split) <;> omega))
           | ((try dsimp only [countsSpec, countsF, newWriSpec, newRdrSpec, actSpec, Ty.T, Ty.dflt, KT.T, getM, putM, delM, inI64, maxRow]); first | (simp only [nrm, reduceCtorEq, pair_eta, map_idL, natCast_eq, inI64, maxRow]; first | done | with_reducible assumption | omega) | exact map_pair_id _)
           | ((try dsimp only [countsSpec, countsF, newWriSpec, newRdrSpec, actSpec, Ty.T, Ty.dflt, KT.T, getM, putM, delM, inI64, maxRow] at *); first | ((try simp only [natCast_eq] at *) <;> omega) | ((try simp only [lens, natCast_eq] at *) <;> omega))
           | assumption
           | (symm; assumption)
           | (dsimp only; simp only [nrb, *]; done)
           | (simp; done)
           | (and_intros <;> first | trivial | with_reducible assumption | omega)
           | ((try dsimp only [countsSpec, countsF, newWriSpec, newRdrSpec, actSpec, Ty.T, Ty.dflt, KT.T, getM, putM, delM, inI64, maxRow] at *) <;> simp [*] <;> done))
      | skip
  · obtain ⟨y, hy1, hy2⟩ := next_LX (L := L) hlo (by assumption) hA hB hl1 hl2 hl3
    refine ⟨y, by dsimp only; (try simp only [natCast_eq]); omega, ?_⟩
    (try (conv in (LoopInv.inv _ _) => dsimp only)); (try (conv in (SS.mk _ _) => cbv; (try dsimp only [countsSpec, countsF, newWriSpec, newRdrSpec, actSpec, Ty.T, Ty.dflt, KT.T]); (try simp only [natCast_eq])))
    (with_reducible refine (?_ : T1 _ ?_) ?_; rotate_left 1; (conv => lhs; cbv; (try cbv); (try cbv)); intro hT; clear hT; with_reducible refine Sh.mk (by kernel_rfl) ?_)
    repeat' (first
      | with_reducible (first | refine Ck.mk (C := tt) tt_intro ?_ | refine Ck.mk (show drawOk _ _ = true by kernel_rfl) ?_ | refine Ck.all_cons ?_ | refine Ck.all_nil ?_ | refine Ck.mk (by assumption) ?_ | refine Ck.mk (decide_eq_true (by assumption)) ?_ | refine Ck.mk (decide_eq_false (by assumption)) ?_ | refine Ck.mk ?_ ?_)
      | (with_reducible (first | refine Both.mk (fun h => ?_) (fun h => ?_) | refine Alt.mk (fun h => ?_) (fun h => ?_) | refine Pick.mk (fun h => ?_) (fun l1 x l2 h => ?_)) <;> (have hk := h) <;> (try simp only [nrm, reduceCtorEq, pair_eta, map_idL] at h) <;> (try dsimp only [countsSpec, countsF, newWriSpec, newRdrSpec, actSpec, Ty.T, Ty.dflt, KT.T, getM, putM, delM] at h) <;> (try simp only [natCast_eq] at h) <;> (try simp only [WS.eta] at h) <;> (try (have ha := u16_of hL hlo h; have hk1 := actF_ok hinv ha.1; have hA := hk1.2; have hT := hk1.1; have hB := act_bytes hbt (L.getD i.toNat 0); clear hk1)) <;> (try (have hS := seg_fact hA hB ha.1 h; have s1 := hS.s1; have s2 := hS.s2; have s3 := hS.s3; have s4 := hS.s4; have s5 := hS.s5; have s6 := hS.s6; have s8 := hS.s8; have hD := hA.data)) <;> (try (have h7 := same_len hA h)) <;> (try (have hR := ack_rng hA.inv (k := L.getD i.toNat 0 / 8) h)) <;> (try (exfalso; exact absurd s6 h)) <;> (try first | rw [if_pos h] at hr | rw [if_neg h] at hr | rw [ifF h] at hr | rw [ifN h] at hr) <;> (try (have hb : (_ : Bool) = _ := h; clear h; subst hb; (try first | rw [if_pos rfl] at hr | rw [if_neg Bool.false_ne_true] at hr))) <;> first | (exfalso; omega) | exact absurd (h.symm.trans (by assumption) : true = false) Bool.noConfusion | exact absurd (h.symm.trans (by assumption) : false = true) Bool.noConfusion | (with_reducible refine (?_ : T1 _ ?_) ?_; rotate_left 1; (conv => lhs; cbv; (try cbv); (try cbv)); intro hT; clear hT; with_reducible refine Sh.mk (by kernel_rfl) ?_))
      | ((with_reducible refine End.mk ?_); skip)
      | with_reducible exact True.intro)
    all_goals first
      | (fail_if_success (with_reducible refine Exists.intro ?_ ?_)
         first
           | with_reducible rfl
           | with_reducible assumption
           | (symm; with_reducible assumption)
           | omega
           | ((try dsimp only [countsSpec, countsF, newWriSpec, newRdrSpec, actSpec, Ty.T, Ty.dflt, KT.T, getM, putM, delM, inI64, maxRow]); first | done | with_reducible rfl | with_reducible assumption | (symm; with_reducible assumption) | ((try simp only [natCast_eq, List.nil_append]); first | done | with_reducible rfl | omega | exact take_cg (by omega) | exact drop_cg (by omega) | exact take_drop_cg (by omega) (by omega) | exact take_all (by omega) | exact take_drop_all (by omega) (by omega) | exact drop_take_cg (by omega) (by omega) (by omega)))
           | first | (rw [hy2]; done) | (rw [hy2]; first | rfl | exact map_pair_id _ | (simp; done)) | (rw [hy2, (edge_fact hA).2]; (try dsimp only [Ty.T, Ty.dflt]); (try simp only [WS.eta, natCast_eq]); ((repeat' split) <;> omega))
           | ((try dsimp only [countsSpec, countsF, newWriSpec, newRdrSpec, actSpec, Ty.T, Ty.dflt, KT.T, getM, putM, delM, inI64, maxRow]); first | (simp only [nrm, reduceCtorEq, pair_eta, map_idL, natCast_eq, inI64, maxRow]; first | done | with_reducible assumption | omega) | exact map_pair_id _)
           | ((try dsimp only [countsSpec, countsF, newWriSpec, newRdrSpec, actSpec, Ty.T, Ty.dflt, KT.T, getM, putM, delM, inI64, maxRow] at *); first | ((try simp only [natCast_eq] at *) <;> omega) | ((try simp only [lens, natCast_eq] at *) <;> omega))
           | assumption
           | (symm; assumption)
           | (dsimp only; simp only [nrb, *]; done)
           | (simp; done)
           | (and_intros <;> first | trivial | with_reducible assumption | omega)
           | ((try dsimp only [countsSpec, countsF, newWriSpec, newRdrSpec, actSpec, Ty.T, Ty.dflt, KT.T, getM, putM, delM, inI64, maxRow] at *) <;> simp [*] <;> done))
      | skip
  · obtain ⟨y, hy1, hy2⟩ := next_LX (L := L) hlo (by assumption) hA hB hl1 hl2 hl3
    refine ⟨y, by dsimp only; (try simp only [natCast_eq]); omega, ?_⟩
    (try (conv in (LoopInv.inv _ _) => dsimp only)); (try (conv in (SS.mk _ _) => cbv; (try dsimp only [countsSpec, countsF, newWriSpec, newRdrSpec, actSpec, Ty.T, Ty.dflt, KT.T]); (try simp only [natCast_eq])))
    (with_reducible refine (?_ : T1 _ ?_) ?_; rotate_left 1; (conv => lhs; cbv; (try cbv); (try cbv)); intro hT; clear hT; with_reducible refine Sh.mk (by kernel_rfl) ?_)
    repeat' (first
      | with_reducible (first | refine Ck.mk (C := tt) tt_intro ?_ | refine Ck.mk (show drawOk _ _ = true by kernel_rfl) ?_ | refine Ck.all_cons ?_ | refine Ck.all_nil ?_ | refine Ck.mk (by assumption) ?_ | refine Ck.mk (decide_eq_true (by assumption)) ?_ | refine Ck.mk (decide_eq_false (by assumption)) ?_ | refine Ck.mk ?_ ?_)
      | (with_reducible (first | refine Both.mk (fun h => ?_) (fun h => ?_) | refine Alt.mk (fun h => ?_) (fun h => ?_) | refine Pick.mk (fun h => ?_) (fun l1 x l2 h => ?_)) <;> (have hk := h) <;> (try simp only [nrm, reduceCtorEq, pair_eta, map_idL] at h) <;> (try dsimp only [countsSpec, countsF, newWriSpec, newRdrSpec, actSpec, Ty.T, Ty.dflt, KT.T, getM, putM, delM] at h) <;> (try simp only [natCast_eq] at h) <;> (try simp only [WS.eta] at h) <;> (try (have ha := u16_of hL hlo h; have hk1 := actF_ok hinv ha.1; have hA := hk1.2; have hT := hk1.1; have hB := act_bytes hbt (L.getD i.toNat 0); clear hk1)) <;> (try (have hS := seg_fact hA hB ha.1 h; have s1 := hS.s1; have s2 := hS.s2; have s3 := hS.s3; have s4 := hS.s4; have s5 := hS.s5; have s6 := hS.s6; have s8 := hS.s8; have hD := hA.data)) <;> (try (have h7 := same_len hA h)) <;> (try (have hR := ack_rng hA.inv (k := L.getD i.toNat 0 / 8) h)) <;> (try (exfalso; exact absurd s6 h)) <;> (try first | rw [if_pos h] at hr | rw [if_neg h] at hr | rw [ifF h] at hr | rw [ifN h] at hr) <;> (try (have hb : (_ : Bool) = _ := h; clear h; subst hb; (try first | rw [if_pos rfl] at hr | rw [if_neg Bool.false_ne_true] at hr))) <;> first | (exfalso; omega) | exact absurd (h.symm.trans (by assumption) : true = false) Bool.noConfusion | exact absurd (h.symm.trans (by assumption) : false = true) Bool.noConfusion | (with_reducible refine (?_ : T1 _ ?_) ?_; rotate_left 1; (conv => lhs; cbv; (try cbv); (try cbv)); intro hT; clear hT; with_reducible refine Sh.mk (by kernel_rfl) ?_))
      | ((with_reducible refine End.mk ?_); skip)
      | with_reducible exact True.intro)
    all_goals first
      | (fail_if_success (with_reducible refine Exists.intro ?_ ?_)
         first
           | with_reducible rfl
           | with_reducible assumption
           | (symm; with_reducible assumption)
           | omega
           | ((try dsimp only [countsSpec, countsF, newWriSpec, newRdrSpec, actSpec, Ty.T, Ty.dflt, KT.T, getM, putM, delM, inI64, maxRow]); first | done | with_reducible rfl | with_reducible assumption | (symm; with_reducible assumption) | ((try simp only [natCast_eq, List.nil_append]); first | done | with_reducible rfl | omega | exact take_cg (by omega) | exact drop_cg (by omega) | exact take_drop_cg (by omega) (by omega) | exact take_all (by omega) | exact take_drop_all (by omega) (by omega) | exact drop_take_cg (by omega) (by omega) (by omega)))
           | first | (rw [hy2]; done) | (rw [hy2]; first | rfl | exact map_pair_id _ | (simp; done)) | (rw [hy2, (edge_fact hA).2]; (try dsimp only [Ty.T, Ty.dflt]); (try simp only [WS.eta, natCast_eq]); ((repeat' split) <;> omega))
           | ((try dsimp only [countsSpec, countsF, newWriSpec, newRdrSpec, actSpec, Ty.T, Ty.dflt, KT.T, getM, putM, delM, inI64, maxRow]); first | (simp only [nrm, reduceCtorEq, pair_eta, map_idL, natCast_eq, inI64, maxRow]; first | done | with_reducible assumption | omega) | exact map_pair_id _)
           | ((try dsimp only [countsSpec, countsF, newWriSpec, newRdrSpec, actSpec, Ty.T, Ty.dflt, KT.T, getM, putM, delM, inI64, maxRow] at *); first | ((try simp only [natCast_eq] at *) <;> omega) | ((try simp only [lens, natCast_eq] at *) <;> omega))
           | assumption
           | (symm; assumption)
           | (dsimp only; simp only [nrb, *]; done)
           | (simp; done)
           | (and_intros <;> first | trivial | with_reducible assumption | omega)
           | ((try dsimp only [countsSpec, countsF, newWriSpec, newRdrSpec, actSpec, Ty.T, Ty.dflt, KT.T, getM, putM, delM, inI64, maxRow] at *) <;> simp [*] <;> done))
      | skip
  · obtain ⟨y, hy1, hy2⟩ := next_LX (L := L) hlo (by assumption) hA hB hl1 hl2 hl3
    refine ⟨y, by dsimp only; (try simp only [natCast_eq]); omega, ?_⟩
    (try (conv in (LoopInv.inv _ _) => dsimp only)); (try (conv in (SS.mk _ _) => cbv; (try dsimp only [countsSpec, countsF, newWriSpec, newRdrSpec, actSpec, Ty.T, Ty.dflt, KT.T]); (try simp only [natCast_eq])))
    (with_reducible refine (?_ : T1 _ ?_) ?_; rotate_left 1; (conv => lhs; cbv; (try cbv); (try cbv)); intro hT; clear hT; with_reducible refine Sh.mk (by kernel_rfl) ?_)
    repeat' (first
      | with_reducible (first | refine Ck.mk (C := tt) tt_intro ?_ | refine Ck.mk (show drawOk _ _ = true by kernel_rfl) ?_ | refine Ck.all_cons ?_ | refine Ck.all_nil ?_ | refine Ck.mk (by assumption) ?_ | refine Ck.mk (decide_eq_true (by assumption)) ?_ | refine Ck.mk (decide_eq_false (by assumption)) ?_ | refine Ck.mk ?_ ?_)
      | (with_reducible (first | refine Both.mk (fun h => ?_) (fun h => ?_) | refine Alt.mk (fun h => ?_) (fun h => ?_) | refine Pick.mk (fun h => ?_) (fun l1 x l2 h => ?_)) <;> (have hk := h) <;> (try simp only [nrm, reduceCtorEq, pair_eta, map_idL] at h) <;> (try dsimp only [countsSpec, countsF, newWriSpec, newRdrSpec, actSpec, Ty.T, Ty.dflt, KT.T, getM, putM, delM] at h) <;> (try simp only [natCast_eq] at h) <;> (try simp only [WS.eta] at h) <;> (try (have ha := u16_of hL hlo h; have hk1 := actF_ok hinv ha.1; have hA := hk1.2; have hT := hk1.1; have hB := act_bytes hbt (L.getD i.toNat 0); clear hk1)) <;> (try (have hS := seg_fact hA hB ha.1 h; have s1 := hS.s1; have s2 := hS.s2; have s3 := hS.s3; have s4 := hS.s4; have s5 := hS.s5; have s6 := hS.s6; have s8 := hS.s8; have hD := hA.data)) <;> (try (have h7 := same_len hA h)) <;> (try (have hR := ack_rng hA.inv (k := L.getD i.toNat 0 / 8) h)) <;> (try (exfalso; exact absurd s6 h)) <;> (try first | rw [if_pos h] at hr | rw [if_neg h] at hr | rw [ifF h] at hr | rw [ifN h] at hr) <;> (try (have hb : (_ : Bool) = _ := h; clear h; subst hb; (try first | rw [if_pos rfl] at hr | rw [if_neg Bool.false_ne_true] at hr))) <;> first | (exfalso; omega) | exact absurd (h.symm.trans (by assumption) : true = false) Bool.noConfusion | exact absurd (h.symm.trans (by assumption) : false = true) Bool.noConfusion | (with_reducible refine (?_ : T1 _ ?_) ?_; rotate_left 1; (conv => lhs; cbv; (try cbv); (try cbv)); intro hT; clear hT; with_reducible refine Sh.mk (by kernel_rfl) ?_))
      | ((with_reducible refine End.mk ?_); skip)
      | with_reducible exact True.intro)
    all_goals first
      | (fail_if_success (with_reducible refine Exists.intro ?_ ?_)
         first
           | with_reducible rfl
           | with_reducible assumption
           | (symm; with_reducible assumption)
           | omega
           | ((try dsimp only [countsSpec, countsF, newWriSpec, newRdrSpec, actSpec, Ty.T, Ty.dflt, KT.T, getM, putM, delM, inI64, maxRow]); first | done | with_reducible rfl | with_reducible assumption | (symm; with_reducible assumption) | ((try simp only [natCast_eq, List.nil_append]); first | done | with_reducible rfl | omega | exact take_cg (by omega) | exact drop_cg (by omega) | exact take_drop_cg (by omega) (by omega) | exact take_all (by omega) | exact take_drop_all (by omega) (by omega) | exact drop_take_cg (by omega) (by omega) (by omega)))
           | first | (rw [hy2]; done) | (rw [hy2]; first | rfl | exact map_pair_id _ | (simp; done)) | (rw [hy2, (edge_fact hA).2]; (try dsimp only [Ty.T, Ty.dflt]); (try simp only [WS.eta, natCast_eq]); ((repeat' split) <;> omega))
           | ((try dsimp only [countsSpec, countsF, newWriSpec, newRdrSpec, actSpec, Ty.T, Ty.dflt, KT.T, getM, putM, delM, inI64, maxRow]); first | (simp only [nrm, reduceCtorEq, pair_eta, map_idL, natCast_eq, inI64, maxRow]; first | done | with_reducible assumption | omega) | exact map_pair_id _)
           | ((try dsimp only [countsSpec, countsF, newWriSpec, newRdrSpec, actSpec, Ty.T, Ty.dflt, KT.T, getM, putM, delM, inI64, maxRow] at *); first | ((try simp only [natCast_eq] at *) <;> omega) | ((try simp only [lens, natCast_eq] at *) <;> omega))
           | assumption
           | (symm; assumption)
           | (dsimp only; simp only [nrb, *]; done)
           | (simp; done)
           | (and_intros <;> first | trivial | with_reducible assumption | omega)
           | ((try dsimp only [countsSpec, countsF, newWriSpec, newRdrSpec, actSpec, Ty.T, Ty.dflt, KT.T, getM, putM, delM, inI64, maxRow] at *) <;> simp [*] <;> done))
      | skip
  · obtain ⟨y, hy1, hy2⟩ := next_LX (L := L) hlo (by assumption) hA hB hl1 hl2 hl3
    refine ⟨y, by dsimp only; (try simp only [natCast_eq]); omega, ?_⟩
    (try (conv in (LoopInv.inv _ _) => dsimp only)); (try (conv in (SS.mk _ _) => cbv; (try dsimp only [countsSpec, countsF, newWriSpec, newRdrSpec, actSpec, Ty.T, Ty.dflt, KT.T]); (try simp only [natCast_eq])))
    (with_reducible refine (?_ : T1 _ ?_) ?_; rotate_left 1; (conv => lhs; cbv; (try cbv); (try cbv)); intro hT; clear hT; with_reducible refine Sh.mk (by kernel_rfl) ?_)
    repeat' (first
      | with_reducible (first | refine Ck.mk (C := tt) tt_intro ?_ | refine Ck.mk (show drawOk _ _ = true by kernel_rfl) ?_ | refine Ck.all_cons ?_ | refine Ck.all_nil ?_ | refine Ck.mk (by assumption) ?_ | refine Ck.mk (decide_eq_true (by assumption)) ?_ | refine Ck.mk (decide_eq_false (by assumption)) ?_ | refine Ck.mk ?_ ?_)
      | (with_reducible (first | refine Both.mk (fun h => ?_) (fun h => ?_) | refine Alt.mk (fun h => ?_) (fun h => ?_) | refine Pick.mk (fun h => ?_) (fun l1 x l2 h => ?_)) <;> (have hk := h) <;> (try simp only [nrm, reduceCtorEq, pair_eta, map_idL] at h) <;> (try dsimp only [countsSpec, countsF, newWriSpec, newRdrSpec, actSpec, Ty.T, Ty.dflt, KT.T, getM, putM, delM] at h) <;> (try simp only [natCast_eq] at h) <;> (try simp only [WS.eta] at h) <;> (try (have ha := u16_of hL hlo h; have hk1 := actF_ok hinv ha.1; have hA := hk1.2; have hT := hk1.1; have hB := act_bytes hbt (L.getD i.toNat 0); clear hk1)) <;> (try (have hS := seg_fact hA hB ha.1 h; have s1 := hS.s1; have s2 := hS.s2; have s3 := hS.s3; have s4 := hS.s4; have s5 := hS.s5; have s6 := hS.s6; have s8 := hS.s8; have hD := hA.data)) <;> (try (have h7 := same_len hA h)) <;> (try (have hR := ack_rng hA.inv (k := L.getD i.toNat 0 / 8) h)) <;> (try (exfalso; exact absurd s6 h)) <;> (try first | rw [if_pos h] at hr | rw [if_neg h] at hr | rw [ifF h] at hr | rw [ifN h] at hr) <;> (try (have hb : (_ : Bool) = _ := h; clear h; subst hb; (try first | rw [if_pos rfl] at hr | rw [if_neg Bool.false_ne_true] at hr))) <;> first | (exfalso; omega) | exact absurd (h.symm.trans (by assumption) : true = false) Bool.noConfusion | exact absurd (h.symm.trans (by assumption) : false = true) Bool.noConfusion | (with_reducible refine (?_ : T1 _ ?_) ?_; rotate_left 1; (conv => lhs; cbv; (try cbv); (try cbv)); intro hT; clear hT; with_reducible refine Sh.mk (by kernel_rfl) ?_))
      | ((with_reducible refine End.mk ?_); skip)
      | with_reducible exact True.intro)
    all_goals first
      | (fail_if_success (with_reducible refine Exists.intro ?_ ?_)
         first
           | with_reducible rfl
           | with_reducible assumption
           | (symm; with_reducible assumption)
           | omega
           | ((try dsimp only [countsSpec, countsF, newWriSpec, newRdrSpec, actSpec, Ty.T, Ty.dflt, KT.T, getM, putM, delM, inI64, maxRow]); first | done | with_reducible rfl | with_reducible assumption | (symm; with_reducible assumption) | ((try simp only [natCast_eq, List.nil_append]); first | done | with_reducible rfl | omega | exact take_cg (by omega) | exact drop_cg (by omega) | exact take_drop_cg (by omega) (by omega) | exact take_all (by omega) | exact take_drop_all (by omega) (by omega) | exact drop_take_cg (by omega) (by omega) (by omega)))
           | first | (rw [hy2]; done) | (rw [hy2]; first | rfl | exact map_pair_id _ | (simp; done)) | (rw [hy2, (edge_fact hA).2]; (try dsimp only [Ty.T, Ty.dflt]); (try simp only [WS.eta, natCast_eq]); ((repeat' split) <;> omega))
           | ((try dsimp only [countsSpec, countsF, newWriSpec, newRdrSpec, actSpec, Ty.T, Ty.dflt, KT.T, getM, putM, delM, inI64, maxRow]); first | (simp only [nrm, reduceCtorEq, pair_eta, map_idL, natCast_eq, inI64, maxRow]; first | done | with_reducible assumption | omega) | exact map_pair_id _)
           | ((try dsimp only [countsSpec, countsF, newWriSpec, newRdrSpec, actSpec, Ty.T, Ty.dflt, KT.T, getM, putM, delM, inI64, maxRow] at *); first | ((try simp only [natCast_eq] at *) <;> omega) | ((try simp only [lens, natCast_eq] at *) <;> omega))
           | assumption
           | (symm; assumption)
           | (dsimp only; simp only [nrb, *]; done)
           | (simp; done)
           | (and_intros <;> first | trivial | with_reducible assumption | omega)
           | ((try dsimp only [countsSpec, countsF, newWriSpec, newRdrSpec, actSpec, Ty.T, Ty.dflt, KT.T, getM, putM, delM, inI64, maxRow] at *) <;> simp [*] <;> done))
      | skip
  · obtain ⟨y, hy1, hy2⟩ := next_LX (L := L) hlo (by assumption) hA hB hl1 hl2 hl3
    refine ⟨y, by dsimp only; (try simp only [natCast_eq]); omega, ?_⟩
    (try (conv in (LoopInv.inv _ _) => dsimp only)); (try (conv in (SS.mk _ _) => cbv; (try dsimp only [countsSpec, countsF, newWriSpec, newRdrSpec, actSpec, Ty.T, Ty.dflt, KT.T]); (try simp only [natCast_eq])))
    (with_reducible refine (?_ : T1 _ ?_) ?_; rotate_left 1; (conv => lhs; cbv; (try cbv); (try cbv)); intro hT; clear hT; with_reducible refine Sh.mk (by kernel_rfl) ?_)
    repeat' (first
      | with_reducible (first | refine Ck.mk (C := tt) tt_intro ?_ | refine Ck.mk (show drawOk _ _ = true by kernel_rfl) ?_ | refine Ck.all_cons ?_ | refine Ck.all_nil ?_ | refine Ck.mk (by assumption) ?_ | refine Ck.mk (decide_eq_true (by assumption)) ?_ | refine Ck.mk (decide_eq_false (by assumption)) ?_ | refine Ck.mk ?_ ?_)
      | (with_reducible (first | refine Both.mk (fun h => ?_) (fun h => ?_) | refine Alt.mk (fun h => ?_) (fun h => ?_) | refine Pick.mk (fun h => ?_) (fun l1 x l2 h => ?_)) <;> (have hk := h) <;> (try simp only [nrm, reduceCtorEq, pair_eta, map_idL] at h) <;> (try dsimp only [countsSpec, countsF, newWriSpec, newRdrSpec, actSpec, Ty.T, Ty.dflt, KT.T, getM, putM, delM] at h) <;> (try simp only [natCast_eq] at h) <;> (try simp only [WS.eta] at h) <;> (try (have ha := u16_of hL hlo h; have hk1 := actF_ok hinv ha.1; have hA := hk1.2; have hT := hk1.1; have hB := act_bytes hbt (L.getD i.toNat 0); clear hk1)) <;> (try (have hS := seg_fact hA hB ha.1 h; have s1 := hS.s1; have s2 := hS.s2; have s3 := hS.s3; have s4 := hS.s4; have s5 := hS.s5; have s6 := hS.s6; have s8 := hS.s8; have hD := hA.data)) <;> (try (have h7 := same_len hA h)) <;> (try (have hR := ack_rng hA.inv (k := L.getD i.toNat 0 / 8) h)) <;> (try (exfalso; exact absurd s6 h)) <;> (try first | rw [if_pos h] at hr | rw [if_neg h] at hr | rw [ifF h] at hr | rw [ifN h] at hr) <;> (try (have hb : (_ : Bool) = _ := h; clear h; subst hb; (try first | rw [if_pos rfl] at hr | rw [if_neg Bool.false_ne_true] at hr))) <;> first | (exfalso; omega) | exact absurd (h.symm.trans (by assumption) : true = false) Bool.noConfusion | exact absurd (h.symm.trans (by assumption) : false = true) Bool.noConfusion | (with_reducible refine (?_ : T1 _ ?_) ?_; rotate_left 1; (conv => lhs; cbv; (try cbv); (try cbv)); intro hT; clear hT; with_reducible refine Sh.mk (by kernel_rfl) ?_))
      | ((with_reducible refine End.mk ?_); skip)
      | with_reducible exact True.intro)
    all_goals first
      | (fail_if_success (with_reducible refine Exists.intro ?_ ?_)
         first
           | with_reducible rfl
           | with_reducible assumption
           | (symm; with_reducible assumption)
           | omega
           | ((try dsimp only [countsSpec, countsF, newWriSpec, newRdrSpec, actSpec, Ty.T, Ty.dflt, KT.T, getM, putM, delM, inI64, maxRow]); first | done | with_reducible rfl | with_reducible assumption | (symm; with_reducible assumption) | ((try simp only [natCast_eq, List.nil_append]); first | done | with_reducible rfl | omega | exact take_cg (by omega) | exact drop_cg (by omega) | exact take_drop_cg (by omega) (by omega) | exact take_all (by omega) | exact take_drop_all (by omega) (by omega) | exact drop_take_cg (by omega) (by omega) (by omega)))
           | first | (rw [hy2]; done) | (rw [hy2]; first | rfl | exact map_pair_id _ | (simp; done)) | (rw [hy2, (edge_fact hA).2]; (try dsimp only [Ty.T, Ty.dflt]); (try simp only [WS.eta, natCast_eq]); ((repeat' split) <;> omega))
           | ((try dsimp only [countsSpec, countsF, newWriSpec, newRdrSpec, actSpec, Ty.T, Ty.dflt, KT.T, getM, putM, delM, inI64, maxRow]); first | (simp only [nrm, reduceCtorEq, pair_eta, map_idL, natCast_eq, inI64, maxRow]; first | done | with_reducible assumption | omega) | exact map_pair_id _)
           | ((try dsimp only [countsSpec, countsF, newWriSpec, newRdrSpec, actSpec, Ty.T, Ty.dflt, KT.T, getM, putM, delM, inI64, maxRow] at *); first | ((try simp only [natCast_eq] at *) <;> omega) | ((try simp only [lens, natCast_eq] at *) <;> omega))
           | assumption
           | (symm; assumption)
           | (dsimp only; simp only [nrb, *]; done)
           | (simp; done)
           | (and_intros <;> first | trivial | with_reducible assumption | omega)
           | ((try dsimp only [countsSpec, countsF, newWriSpec, newRdrSpec, actSpec, Ty.T, Ty.dflt, KT.T, getM, putM, delM, inI64, maxRow] at *) <;> simp [*] <;> done))
      | skip
  · obtain ⟨y, hy1, hy2⟩ := next_LX (L := L) hlo (by assumption) hA hB hl1 hl2 hl3
    refine ⟨y, by dsimp only; (try simp only [natCast_eq]); omega, ?_⟩
    (try (conv in (LoopInv.inv _ _) => dsimp only)); (try (conv in (SS.mk _ _) => cbv; (try dsimp only [countsSpec, countsF, newWriSpec, newRdrSpec, actSpec, Ty.T, Ty.dflt, KT.T]); (try simp only [natCast_eq])))
    (with_reducible refine (?_ : T1 _ ?_) ?_; rotate_left 1; (conv => lhs; cbv; (try cbv); (try cbv)); intro hT; clear hT; with_reducible refine Sh.mk (by kernel_rfl) ?_)
    repeat' (first
      | with_reducible (first | refine Ck.mk (C := tt) tt_intro ?_ | refine Ck.mk (show drawOk _ _ = true by kernel_rfl) ?_ | refine Ck.all_cons ?_ | refine Ck.all_nil ?_ | refine Ck.mk (by assumption) ?_ | refine Ck.mk (decide_eq_true (by assumption)) ?_ | refine Ck.mk (decide_eq_false (by assumption)) ?_ | refine Ck.mk ?_ ?_)
      | (with_reducible (first | refine Both.mk (fun h => ?_) (fun h => ?_) | refine Alt.mk (fun h => ?_) (fun h => ?_) | refine Pick.mk (fun h => ?_) (fun l1 x l2 h => ?_)) <;> (have hk := h) <;> (try simp only [nrm, reduceCtorEq, pair_eta, map_idL] at h) <;> (try dsimp only [countsSpec, countsF, newWriSpec, newRdrSpec, actSpec, Ty.T, Ty.dflt, KT.T, getM, putM, delM] at h) <;> (try simp only [natCast_eq] at h) <;> (try simp only [WS.eta] at h) <;> (try (have ha := u16_of hL hlo h; have hk1 := actF_ok hinv ha.1; have hA := hk1.2; have hT := hk1.1; have hB := act_bytes hbt (L.getD i.toNat 0); clear hk1)) <;> (try (have hS := seg_fact hA hB ha.1 h; have s1 := hS.s1; have s2 := hS.s2; have s3 := hS.s3; have s4 := hS.s4; have s5 := hS.s5; have s6 := hS.s6; have s8 := hS.s8; have hD := hA.data)) <;> (try (have h7 := same_len hA h)) <;> (try (have hR := ack_rng hA.inv (k := L.getD i.toNat 0 / 8) h)) <;> (try (exfalso; exact absurd s6 h)) <;> (try first | rw [if_pos h] at hr | rw [if_neg h] at hr | rw [ifF h] at hr | rw [ifN h] at hr) <;> (try (have hb : (_ : Bool) = _ := h; clear h; subst hb; (try first | rw [if_pos rfl] at hr | rw [if_neg Bool.false_ne_true] at hr))) <;> first | (exfalso; omega) | exact absurd (h.symm.trans (by assumption) : true = false) Bool.noConfusion | exact absurd (h.symm.trans (by assumption) : false = true) Bool.noConfusion | (with_reducible refine (?_ : T1 _ ?_) ?_; rotate_left 1; (conv => lhs; cbv; (try cbv); (try cbv)); intro hT; clear hT; with_reducible refine Sh.mk (by kernel_rfl) ?_))
      | ((with_reducible refine End.mk ?_); skip)
      | with_reducible exact True.intro)
    all_goals first
      | (fail_if_success (with_reducible refine Exists.intro ?_ ?_)
         first
           | with_reducible rfl
           | with_reducible assumption
           | (symm; with_reducible assumption)
           | omega
           | ((try dsimp only [countsSpec, countsF, newWriSpec, newRdrSpec, actSpec, Ty.T, Ty.dflt, KT.T, getM, putM, delM, inI64, maxRow]); first | done | with_reducible rfl | with_reducible assumption | (symm; with_reducible assumption) | ((try simp only [natCast_eq, List.nil_append]); first | done | with_reducible rfl | omega | exact take_cg (by omega) | exact drop_cg (by omega) | exact take_drop_cg (by omega) (by omega) | exact take_all (by omega) | exact take_drop_all (by omega) (by omega) | exact drop_take_cg (by omega) (by omega) (by omega)))
           | first | (rw [hy2]; done) | (rw [hy2]; first | rfl | exact map_pair_id _ | (simp; done)) | (rw [hy2, (edge_fact hA).2]; (try dsimp only [Ty.T, Ty.dflt]); (try simp only [WS.eta, natCast_eq]); ((repeat' split) <;> omega))
           | ((try dsimp only [countsSpec, countsF, newWriSpec, newRdrSpec, actSpec, Ty.T, Ty.dflt, KT.T, getM, putM, delM, inI64, maxRow]); first | (simp only [nrm, reduceCtorEq, pair_eta, map_idL, natCast_eq, inI64, maxRow]; first | done | with_reducible assumption | omega) | exact map_pair_id _)
           | ((try dsimp only [countsSpec, countsF, newWriSpec, newRdrSpec, actSpec, Ty.T, Ty.dflt, KT.T, getM, putM, delM, inI64, maxRow] at *); first | ((try simp only [natCast_eq] at *) <;> omega) | ((try simp only [lens, natCast_eq] at *) <;> omega))
           | assumption
           | (symm; assumption)
           | (dsimp only; simp only [nrb, *]; done)
           | (simp; done)
           | (and_intros <;> first | trivial | with_reducible assumption | omega)
           | ((try dsimp only [countsSpec, countsF, newWriSpec, newRdrSpec, actSpec, Ty.T, Ty.dflt, KT.T, getM, putM, delM, inI64, maxRow] at *) <;> simp [*] <;> done))
      | skip
theorem win_sound : ConSound Try.prog AI 6 winSpec.con := PureSpec.sound Try.call6 (fun x h => win_ok x.1 x.2.1 x.2.2.1 x.2.2.2.1 h)
end Go.Proofs.Ytebhcmgfhkjmcaa
