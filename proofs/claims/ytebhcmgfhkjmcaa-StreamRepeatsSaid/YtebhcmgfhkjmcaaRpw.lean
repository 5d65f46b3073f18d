/-
  Layer 44: StreamRepeats, the walk.
-/
import Derived.Test.YtebhcmgfhkjmcaaWin
import Derived.Test.YtebhcmgfhkjmcaaRpt
import Derived.Test.YtebhcmgfhkjmcaaWlm
namespace Go.Proofs.Ytebhcmgfhkjmcaa
set_option linter.all false
set_option linter.unusedVariables false
set_option linter.unusedSimpArgs false
set_option linter.unusedSectionVars false
open Go.RowKit Go.Sx
set_option maxRecDepth 100000
set_option maxHeartbeats 16000000
abbrev la : List Nat := [0, 1, 2, 6, 7, 8, 9, 10, 3, 4, 5, 11, 12, 13, 14, 15]
abbrev ma : List Nat := [0, 1, 2, 8, 9, 10, 3, 4, 5, 6, 7, 11, 12, 13, 14, 15]
abbrev lb : List Nat := [3, 4, 5, 11, 12, 13, 14, 15, 0, 1, 2, 6, 7, 8, 9, 10]
abbrev mb : List Nat := [8, 9, 10, 0, 1, 2, 11, 12, 13, 14, 15, 3, 4, 5, 6, 7]
noncomputable abbrev Erp : Env Ab := ⟨tis, [(33, orCon (permCon la ma actmSpec.con) (permCon lb mb actmSpec.con)), (25, rcvSpec.con), (20, ackSpec.con), (21, countsSpec.con), (24, inl E0 Try.f24 0), (32, inl Ef Try.f32 3), (11, awakeSpec.con)] ++ E0.con⟩
theorem erpOk : EnvOk Try.prog AI Erp := (((((((e0Ok.add awake_sound).add fresh_inl).add beq_inl).add counts_sound).add ack_sound).add rcv_sound).add (orCon_sound (permCon_sound la ma actm_sound) (permCon_sound lb mb actm_sound)))
/-- Two worlds in one state. -/
def twoC (x : U WS) : List (Chunk Ab) :=
  [.cells 78 [.ptr 1 0, .ptr 2 0, .hd 6 0, .hd 7 0, .hd 8 0, .hd 9 0, .hd 10 0, .sb (fun _ => (x ()).fin)], .abs (.wri (fun _ => (x ()).w)), .abs (.rdr (fun _ => (x ()).r)),
   .cells 78 [.ptr 4 0, .ptr 5 0, .hd 11 0, .hd 12 0, .hd 13 0, .hd 14 0, .hd 15 0, .sb (fun _ => (x ()).fin)], .abs (.wri (fun _ => (x ()).w)), .abs (.rdr (fun _ => (x ()).r)),
   .row 5 (.int .u8) 0 (fun _ => (x ()).data), .row 5 (.int .u8) 0 (fun _ => (x ()).read), .row 39 segE' 0 (fun _ => (x ()).segs), .row 80 ackE 0 (fun _ => (x ()).acks), .row 4 .bool 0 (fun _ => (x ()).done),
   .row 5 (.int .u8) 0 (fun _ => (x ()).data), .row 5 (.int .u8) 0 (fun _ => (x ()).read), .row 39 segE' 0 (fun _ => (x ()).segs), .row 80 ackE 0 (fun _ => (x ()).acks), .row 4 .bool 0 (fun _ => (x ()).done)]
structure LRp (L : List Int) where
  i : Int
  x : WS
  lo : 0 ≤ i
  hi : i ≤ L.length
  inv : Inv x
  bt : inBytes x.data
  st : StO x.r.sto
  l1 : (x.data.length : Int) ≤ 4 * i
  l2 : (x.segs.length : Int) ≤ i
  l3 : (x.acks.length : Int) ≤ i
theorem next_LRp {L : List Int} {i : Int} {x y : WS} {a : Int} (lo : 0 ≤ i) (hi : i < L.length) (h : ActOk x y a) (hb : inBytes y.data) (hs : StO y.r.sto) (l1 : (x.data.length : Int) ≤ 4 * i) (l2 : (x.segs.length : Int) ≤ i) (l3 : (x.acks.length : Int) ≤ i) : ∃ z : LRp L, z.i = i + 1 ∧ z.x = y := by
  have := h.data; have := h.acks; have := segs_len h
  exact ⟨⟨i + 1, y, by omega, by omega, h.inv, hb, hs, by omega, by omega, by omega⟩, rfl, rfl⟩
theorem bytes_rd {y : WS} (h : Inv y) (hb : inBytes y.data) : inBytes y.read := by
  rw [h.rd]; exact fun z hz => hb z (List.mem_of_mem_take hz)
def rpwF (_ _ _ : Int) (_ : List Int) (_ : Int) : Tup [DT.cell .bool] := (true, ())
structure LJ (n : Int) where
  j : Int
  lo : 0 ≤ j
  hi : j ≤ n
theorem LJ.next {n j : Int} (lo : 0 ≤ j) (h : j < n) : ∃ y : LJ n, y.j = j + 1 := ⟨⟨j + 1, by omega, by omega⟩, rfl⟩
def rpwSpec : PureSpec := ⟨[.cell (.int .u8), .cell (.int .u8), .cell (.int .u8), .lst (.int .u16), .cell (.int .u8)], fun (x : Int × Int × Int × (List Int) × Int × Unit) => (0 ≤ x.1 ∧ x.1 ≤ 255) ∧ (0 ≤ x.2.1 ∧ x.2.1 ≤ 255) ∧ (0 ≤ x.2.2.1 ∧ x.2.2.1 ≤ 255) ∧ x.2.2.2.1.length ≤ maxLen ∧ (∀ a ∈ x.2.2.2.1, (Ty.int .u16).ok a) ∧ (0 ≤ x.2.2.2.2.1 ∧ x.2.2.2.2.1 ≤ 255), [.cell .bool], fun (x : Int × Int × Int × (List Int) × Int × Unit) => rpwF x.1 x.2.1 x.2.2.1 x.2.2.2.1 x.2.2.2.2.1⟩
theorem rpw_ok (w : Int) (v : Int) (t : Int) (L : List Int) (g : Int) (h : rpwSpec.pre (w, v, t, L, g, ())) : TmplOk Try.prog AI 7 (argS rpwSpec.ds (fun _ => (w, v, t, L, g, ()))) [] (resOf (svs rpwSpec.rs (fun _ => rpwSpec.f (w, v, t, L, g, ())))) [] := by
  dsimp only [rpwSpec] at h ⊢
  generalize hr : rpwF w v t L g = r
  obtain ⟨⟨w1, w2⟩, ⟨v1, v2⟩, ⟨t1, t2⟩, hL0, hL, g1, g2⟩ := h
  dsimp only [rpwF] at hr
  refine tmpl_of_body erpOk mixed (fn := Try.f7) (c := bodyOf Try.f7) (by kernel_rfl) (by kernel_rfl) (by kernel_rfl) (Nat.le_of_ble_eq_true (by kernel_rfl)) ?_
  (try (conv in (LoopInv.inv _ _) => dsimp only)); (try (conv in (SS.mk _ _) => cbv; (try dsimp only [countsSpec, countsF, newWriSpec, newRdrSpec, actmSpec, wlL, actT, toT, ackSpec, rcvSpec, Ty.T, Ty.dflt, KT.T]); (try simp only [natCast_eq])))
  (with_reducible refine (?_ : T1 _ ?_) ?_; rotate_left 1; (conv => lhs; cbv; (try cbv); (try cbv)); intro hT; clear hT; with_reducible refine Sh.mk (by kernel_rfl) ?_)
  repeat' (first
    | with_reducible (first | refine Ck.mk (C := tt) tt_intro ?_ | refine Ck.mk (show drawOk _ _ = true by kernel_rfl) ?_ | refine Ck.all_cons ?_ | refine Ck.all_nil ?_ | refine Ck.mk (by assumption) ?_ | refine Ck.mk (decide_eq_true (by assumption)) ?_ | refine Ck.mk (decide_eq_false (by assumption)) ?_ | refine Ck.mk ?_ ?_)
    | (with_reducible (first | refine Both.mk (fun h => ?_) (fun h => ?_) | refine Alt.mk (fun h => ?_) (fun h => ?_) | refine Pick.mk (fun h => ?_) (fun l1 x l2 h => ?_)) <;> (have hk := h) <;> (try simp only [nrm, reduceCtorEq, pair_eta, map_idL] at h) <;> (try dsimp only [countsSpec, countsF, newWriSpec, newRdrSpec, actmSpec, wlL, actT, toT, ackSpec, rcvSpec, Ty.T, Ty.dflt, KT.T, getM, putM, delM] at h) <;> (try simp only [natCast_eq] at h) <;> (try simp only [WS.eta] at h) <;> (try (exfalso; first | exact absurd hT h | exact absurd rfl h)) <;> (try first | rw [if_pos h] at hr | rw [if_neg h] at hr | rw [ifF h] at hr | rw [ifN h] at hr) <;> (try (have hb : (_ : Bool) = _ := h; clear h; subst hb; (try first | rw [if_pos rfl] at hr | rw [if_neg Bool.false_ne_true] at hr))) <;> first | (exfalso; omega) | exact absurd (h.symm.trans (by assumption) : true = false) Bool.noConfusion | exact absurd (h.symm.trans (by assumption) : false = true) Bool.noConfusion | (with_reducible refine (?_ : T1 _ ?_) ?_; rotate_left 1; (conv => lhs; cbv; (try cbv); (try cbv)); intro hT; clear hT; with_reducible refine Sh.mk (by kernel_rfl) ?_))
    | ((with_reducible refine End.mk ?_); (try ((repeat (first | rw [if_pos (by first | assumption | omega)] at hr | rw [if_neg (by first | assumption | omega | (simp only [Bool.false_eq_true, Bool.true_eq_false, reduceCtorEq, not_false_eq_true]; done) | (simp only [Bool.not_eq_true]; assumption) | (simp only [Bool.not_eq_false]; assumption))] at hr | rw [if_pos rfl] at hr)); subst hr)))
    | with_reducible exact True.intro)
  all_goals first
    | (fail_if_success (with_reducible refine Exists.intro ?_ ?_)
       first
         | with_reducible rfl
         | with_reducible assumption
         | (symm; with_reducible assumption)
         | omega
         | ((try dsimp only [countsSpec, countsF, newWriSpec, newRdrSpec, actmSpec, wlL, actT, toT, ackSpec, rcvSpec, Ty.T, Ty.dflt, KT.T, getM, putM, delM, inI64, maxRow]); first | done | with_reducible rfl | with_reducible assumption | (symm; with_reducible assumption) | ((try simp only [natCast_eq, List.nil_append]); first | done | with_reducible rfl | omega | exact take_cg (by omega) | exact drop_cg (by omega) | exact take_drop_cg (by omega) (by omega) | exact take_all (by omega) | exact take_drop_all (by omega) (by omega) | exact drop_take_cg (by omega) (by omega) (by omega)))
         | ((try dsimp only [countsSpec, countsF, newWriSpec, newRdrSpec, actmSpec, wlL, actT, toT, ackSpec, rcvSpec, Ty.T, Ty.dflt, KT.T, getM, putM, delM, inI64, maxRow]); first | (simp only [nrm, reduceCtorEq, pair_eta, map_idL, natCast_eq, inI64, maxRow]; first | done | with_reducible assumption | omega) | exact map_pair_id _)
         | ((try dsimp only [countsSpec, countsF, newWriSpec, newRdrSpec, actmSpec, wlL, actT, toT, ackSpec, rcvSpec, Ty.T, Ty.dflt, KT.T, getM, putM, delM, inI64, maxRow] at *); first | ((try simp only [natCast_eq] at *) <;> omega) | ((try simp only [lens, natCast_eq] at *) <;> omega))
         | assumption
         | (symm; assumption)
         | (dsimp only; simp only [nrb, *]; done)
         | (simp; done)
         | (and_intros <;> first | trivial | with_reducible assumption | omega)
         | ((try dsimp only [countsSpec, countsF, newWriSpec, newRdrSpec, actmSpec, wlL, actT, toT, ackSpec, rcvSpec, Ty.T, Ty.dflt, KT.T, getM, putM, delM, inI64, maxRow] at *) <;> simp [*] <;> done))
    | skip
  obtain ⟨x0, hx0, hx1⟩ : ∃ x : LRp L, x.i = 0 ∧ x.x = newX (1 + w % 20) (1 + t % 6) (1 + v % 20) := ⟨⟨0, newX (1 + w % 20) (1 + t % 6) (1 + v % 20), Int.le_refl _, by omega, newX_inv (by omega) (by omega) (by omega) (by omega) (by omega) (by omega), fun y hy => (by cases hy), newS_ok (by omega) (by omega), by simp [newX], by simp [newX], by simp [newX]⟩, rfl, rfl⟩
  refine ⟨⟨LRp L, fun x => ⟨[(4, Sx.one (.int .u8 (fun _ => g))), (11, Sx.one (.ptr 0 0)), (12, Sx.one (.ptr 3 0)), (50, Sx.one (.ro (.int .u16) (fun _ => L))), (51, Sx.one (.int .i64 (fun _ => L.length))), (52, Sx.one (.int .i64 (fun _ => x.i)))], twoC (fun _ => x.x)⟩, fun x => (L.length - x.i).toNat, x0⟩, ?_, fun (x : LRp L) => ?_⟩
  · (try (conv in (LoopInv.inv _ _) => dsimp only)); (try (conv in (SS.mk _ _) => cbv; (try dsimp only [countsSpec, countsF, newWriSpec, newRdrSpec, actmSpec, wlL, actT, toT, ackSpec, rcvSpec, Ty.T, Ty.dflt, KT.T]); (try simp only [natCast_eq])))
    (with_reducible refine (?_ : T1 _ ?_) ?_; rotate_left 1; (conv => lhs; cbv; (try cbv); (try cbv)); intro hT; clear hT; with_reducible refine Sh.mk (by kernel_rfl) ?_)
    repeat' (first
      | with_reducible (first | refine Ck.mk (C := tt) tt_intro ?_ | refine Ck.mk (show drawOk _ _ = true by kernel_rfl) ?_ | refine Ck.all_cons ?_ | refine Ck.all_nil ?_ | refine Ck.mk (by assumption) ?_ | refine Ck.mk (decide_eq_true (by assumption)) ?_ | refine Ck.mk (decide_eq_false (by assumption)) ?_ | refine Ck.mk ?_ ?_)
      | (with_reducible (first | refine Both.mk (fun h => ?_) (fun h => ?_) | refine Alt.mk (fun h => ?_) (fun h => ?_) | refine Pick.mk (fun h => ?_) (fun l1 x l2 h => ?_)) <;> (have hk := h) <;> (try simp only [nrm, reduceCtorEq, pair_eta, map_idL] at h) <;> (try dsimp only [countsSpec, countsF, newWriSpec, newRdrSpec, actmSpec, wlL, actT, toT, ackSpec, rcvSpec, Ty.T, Ty.dflt, KT.T, getM, putM, delM] at h) <;> (try simp only [natCast_eq] at h) <;> (try simp only [WS.eta] at h) <;> (try (exfalso; first | exact absurd hT h | exact absurd rfl h)) <;> (try first | rw [if_pos h] at hr | rw [if_neg h] at hr | rw [ifF h] at hr | rw [ifN h] at hr) <;> (try (have hb : (_ : Bool) = _ := h; clear h; subst hb; (try first | rw [if_pos rfl] at hr | rw [if_neg Bool.false_ne_true] at hr))) <;> first | (exfalso; omega) | exact absurd (h.symm.trans (by assumption) : true = false) Bool.noConfusion | exact absurd (h.symm.trans (by assumption) : false = true) Bool.noConfusion | (with_reducible refine (?_ : T1 _ ?_) ?_; rotate_left 1; (conv => lhs; cbv; (try cbv); (try cbv)); intro hT; clear hT; with_reducible refine Sh.mk (by kernel_rfl) ?_))
      | ((with_reducible refine End.mk ?_); skip)
      | with_reducible exact True.intro)
    all_goals first
      | (fail_if_success (with_reducible refine Exists.intro ?_ ?_)
         first
           | with_reducible rfl
           | with_reducible assumption
           | (symm; with_reducible assumption)
           | omega
           | ((try dsimp only [countsSpec, countsF, newWriSpec, newRdrSpec, actmSpec, wlL, actT, toT, ackSpec, rcvSpec, Ty.T, Ty.dflt, KT.T, getM, putM, delM, inI64, maxRow]); first | done | with_reducible rfl | with_reducible assumption | (symm; with_reducible assumption) | ((try simp only [natCast_eq, List.nil_append]); first | done | with_reducible rfl | omega | exact take_cg (by omega) | exact drop_cg (by omega) | exact take_drop_cg (by omega) (by omega) | exact take_all (by omega) | exact take_drop_all (by omega) (by omega) | exact drop_take_cg (by omega) (by omega) (by omega)))
           | (rw [hx1]; rfl)
           | ((try dsimp only [countsSpec, countsF, newWriSpec, newRdrSpec, actmSpec, wlL, actT, toT, ackSpec, rcvSpec, Ty.T, Ty.dflt, KT.T, getM, putM, delM, inI64, maxRow]); first | (simp only [nrm, reduceCtorEq, pair_eta, map_idL, natCast_eq, inI64, maxRow]; first | done | with_reducible assumption | omega) | exact map_pair_id _)
           | ((try dsimp only [countsSpec, countsF, newWriSpec, newRdrSpec, actmSpec, wlL, actT, toT, ackSpec, rcvSpec, Ty.T, Ty.dflt, KT.T, getM, putM, delM, inI64, maxRow] at *); first | ((try simp only [natCast_eq] at *) <;> omega) | ((try simp only [lens, natCast_eq] at *) <;> omega))
           | assumption
           | (symm; assumption)
           | (dsimp only; simp only [nrb, *]; done)
           | (simp; done)
           | (and_intros <;> first | trivial | with_reducible assumption | omega)
           | ((try dsimp only [countsSpec, countsF, newWriSpec, newRdrSpec, actmSpec, wlL, actT, toT, ackSpec, rcvSpec, Ty.T, Ty.dflt, KT.T, getM, putM, delM, inI64, maxRow] at *) <;> simp [*] <;> done))
      | skip
  obtain ⟨i, x, hlo, hhi, hinv, hbt, hst, hl1, hl2, hl3⟩ := x
  by_cases hin : i < L.length
  · have ha := u16_of hL hlo hin
    obtain ⟨hT, hA⟩ := actF_ok hinv ha.1
    have hB := act_bytes hbt (L.getD i.toNat 0)
    have hS := act_sto hinv hbt hst (L.getD i.toNat 0)
    have hQ := again_seg hinv hbt hst (a := L.getD i.toNat 0)
    have hK := again_ack hinv (a := L.getD i.toNat 0)
    obtain ⟨y, hy⟩ : ∃ y, y = (actF x (L.getD i.toNat 0)).2 := ⟨_, rfl⟩
    rw [← hy] at hA hB hS hQ hK
    have hyl := hA.data; have hya := hA.acks; have hys := segs_len hA
    have hyt := hA.inv.ok.top; have hyk := hA.inv.ok.taken
    (try (conv in (LoopInv.inv _ _) => dsimp only)); (try (conv in (SS.mk _ _) => cbv; (try dsimp only [countsSpec, countsF, newWriSpec, newRdrSpec, actmSpec, wlL, actT, toT, ackSpec, rcvSpec, Ty.T, Ty.dflt, KT.T]); (try simp only [natCast_eq])))
    (with_reducible refine (?_ : T1 _ ?_) ?_; rotate_left 1; (conv => lhs; cbv; (try cbv); (try cbv)); intro hT; clear hT; with_reducible refine Sh.mk (by kernel_rfl) ?_)
    repeat' (first
      | with_reducible (first | refine Ck.mk (C := tt) tt_intro ?_ | refine Ck.mk (show drawOk _ _ = true by kernel_rfl) ?_ | refine Ck.all_cons ?_ | refine Ck.all_nil ?_ | refine Ck.mk (by assumption) ?_ | refine Ck.mk (decide_eq_true (by assumption)) ?_ | refine Ck.mk (decide_eq_false (by assumption)) ?_ | refine Ck.mk ?_ ?_)
      | (with_reducible (first | refine Both.mk (fun h => ?_) (fun h => ?_) | refine Alt.mk (fun h => ?_) (fun h => ?_) | refine Pick.mk (fun h => ?_) (fun l1 x l2 h => ?_)) <;> (have hk := h) <;> (try simp only [nrm, reduceCtorEq, pair_eta, map_idL] at h) <;> (try dsimp only [countsSpec, countsF, newWriSpec, newRdrSpec, actmSpec, wlL, actT, toT, ackSpec, rcvSpec, Ty.T, Ty.dflt, KT.T, getM, putM, delM] at h) <;> (try simp only [natCast_eq] at h) <;> (try simp only [WS.eta] at h) <;> (try (exfalso; first | exact absurd hT h | exact absurd rfl h)) <;> (try first | rw [if_pos h] at hr | rw [if_neg h] at hr | rw [ifF h] at hr | rw [ifN h] at hr) <;> (try (have hb : (_ : Bool) = _ := h; clear h; subst hb; (try first | rw [if_pos rfl] at hr | rw [if_neg Bool.false_ne_true] at hr))) <;> first | (exfalso; omega) | exact absurd (h.symm.trans (by assumption) : true = false) Bool.noConfusion | exact absurd (h.symm.trans (by assumption) : false = true) Bool.noConfusion | (with_reducible refine (?_ : T1 _ ?_) ?_; rotate_left 1; (conv => lhs; cbv; (try cbv); (try cbv)); intro hT; clear hT; with_reducible refine Sh.mk (by kernel_rfl) ?_))
      | ((with_reducible refine End.mk ?_); skip)
      | with_reducible exact True.intro)
    all_goals first
      | (fail_if_success (with_reducible refine Exists.intro ?_ ?_)
         first
           | with_reducible rfl
           | with_reducible assumption
           | (symm; with_reducible assumption)
           | omega
           | ((try dsimp only [countsSpec, countsF, newWriSpec, newRdrSpec, actmSpec, wlL, actT, toT, ackSpec, rcvSpec, Ty.T, Ty.dflt, KT.T, getM, putM, delM, inI64, maxRow]); first | done | with_reducible rfl | with_reducible assumption | (symm; with_reducible assumption) | ((try simp only [natCast_eq, List.nil_append]); first | done | with_reducible rfl | omega | exact take_cg (by omega) | exact drop_cg (by omega) | exact take_drop_cg (by omega) (by omega) | exact take_all (by omega) | exact take_drop_all (by omega) (by omega) | exact drop_take_cg (by omega) (by omega) (by omega)))
           | first | exact ⟨hinv.pre (by omega) (by omega) (by omega), ha⟩
           | ((try dsimp only [countsSpec, countsF, newWriSpec, newRdrSpec, actmSpec, wlL, actT, toT, ackSpec, rcvSpec, Ty.T, Ty.dflt, KT.T, getM, putM, delM, inI64, maxRow]); first | (simp only [nrm, reduceCtorEq, pair_eta, map_idL, natCast_eq, inI64, maxRow]; first | done | with_reducible assumption | omega) | exact map_pair_id _)
           | ((try dsimp only [countsSpec, countsF, newWriSpec, newRdrSpec, actmSpec, wlL, actT, toT, ackSpec, rcvSpec, Ty.T, Ty.dflt, KT.T, getM, putM, delM, inI64, maxRow] at *); first | ((try simp only [natCast_eq] at *) <;> omega) | ((try simp only [lens, natCast_eq] at *) <;> omega))
           | assumption
           | (symm; assumption)
           | (dsimp only; simp only [nrb, *]; done)
           | (simp; done)
           | (and_intros <;> first | trivial | with_reducible assumption | omega)
           | ((try dsimp only [countsSpec, countsF, newWriSpec, newRdrSpec, actmSpec, wlL, actT, toT, ackSpec, rcvSpec, Ty.T, Ty.dflt, KT.T, getM, putM, delM, inI64, maxRow] at *) <;> simp [*] <;> done))
      | skip
    all_goals
      (obtain ⟨z0, hz0⟩ : ∃ z : LJ (g % 4), z.j = 0 := ⟨⟨0, Int.le_refl _, by omega⟩, rfl⟩
       dsimp only
       refine ⟨⟨LJ (g % 4), fun z => ⟨[(4, Sx.one (.int .u8 (fun _ => g))), (11, Sx.one (.ptr 0 0)), (12, Sx.one (.ptr 3 0)), (14, Sx.one (.int .u16 (fun _ => L.getD i.toNat 0))), (50, Sx.one (.ro (.int .u16) (fun _ => L))), (51, Sx.one (.int .i64 (fun _ => L.length))), (52, Sx.one (.int .i64 (fun _ => i))), (68, Sx.one (.int .i64 (fun _ => g % 4))), (69, Sx.one (.int .i64 (fun _ => z.j)))], twoC (fun _ => y)⟩, fun z => (g % 4 - z.j).toNat, z0⟩, ?_, fun (z : LJ (g % 4)) => ?_⟩
       · (try (conv in (LoopInv.inv _ _) => dsimp only)); (try (conv in (SS.mk _ _) => cbv; (try dsimp only [countsSpec, countsF, newWriSpec, newRdrSpec, actmSpec, wlL, actT, toT, ackSpec, rcvSpec, Ty.T, Ty.dflt, KT.T]); (try simp only [natCast_eq])))
         (with_reducible refine (?_ : T1 _ ?_) ?_; rotate_left 1; (conv => lhs; cbv; (try cbv); (try cbv)); intro hT; clear hT; with_reducible refine Sh.mk (by kernel_rfl) ?_)
         repeat' (first
           | with_reducible (first | refine Ck.mk (C := tt) tt_intro ?_ | refine Ck.mk (show drawOk _ _ = true by kernel_rfl) ?_ | refine Ck.all_cons ?_ | refine Ck.all_nil ?_ | refine Ck.mk (by assumption) ?_ | refine Ck.mk (decide_eq_true (by assumption)) ?_ | refine Ck.mk (decide_eq_false (by assumption)) ?_ | refine Ck.mk ?_ ?_)
           | (with_reducible (first | refine Both.mk (fun h => ?_) (fun h => ?_) | refine Alt.mk (fun h => ?_) (fun h => ?_) | refine Pick.mk (fun h => ?_) (fun l1 x l2 h => ?_)) <;> (have hk := h) <;> (try simp only [nrm, reduceCtorEq, pair_eta, map_idL] at h) <;> (try dsimp only [countsSpec, countsF, newWriSpec, newRdrSpec, actmSpec, wlL, actT, toT, ackSpec, rcvSpec, Ty.T, Ty.dflt, KT.T, getM, putM, delM] at h) <;> (try simp only [natCast_eq] at h) <;> (try simp only [WS.eta] at h) <;> (try (exfalso; first | exact absurd hT h | exact absurd rfl h)) <;> (try first | rw [if_pos h] at hr | rw [if_neg h] at hr | rw [ifF h] at hr | rw [ifN h] at hr) <;> (try (have hb : (_ : Bool) = _ := h; clear h; subst hb; (try first | rw [if_pos rfl] at hr | rw [if_neg Bool.false_ne_true] at hr))) <;> first | (exfalso; omega) | exact absurd (h.symm.trans (by assumption) : true = false) Bool.noConfusion | exact absurd (h.symm.trans (by assumption) : false = true) Bool.noConfusion | (with_reducible refine (?_ : T1 _ ?_) ?_; rotate_left 1; (conv => lhs; cbv; (try cbv); (try cbv)); intro hT; clear hT; with_reducible refine Sh.mk (by kernel_rfl) ?_))
           | ((with_reducible refine End.mk ?_); skip)
           | with_reducible exact True.intro)
         all_goals first
           | (fail_if_success (with_reducible refine Exists.intro ?_ ?_)
              first
                | with_reducible rfl
                | with_reducible assumption
                | (symm; with_reducible assumption)
                | omega
                | ((try dsimp only [countsSpec, countsF, newWriSpec, newRdrSpec, actmSpec, wlL, actT, toT, ackSpec, rcvSpec, Ty.T, Ty.dflt, KT.T, getM, putM, delM, inI64, maxRow]); first | done | with_reducible rfl | with_reducible assumption | (symm; with_reducible assumption) | ((try simp only [natCast_eq, List.nil_append]); first | done | with_reducible rfl | omega | exact take_cg (by omega) | exact drop_cg (by omega) | exact take_drop_cg (by omega) (by omega) | exact take_all (by omega) | exact take_drop_all (by omega) (by omega) | exact drop_take_cg (by omega) (by omega) (by omega)))
                | first | exact hz0.symm | ((try dsimp only); (try simp only [WS.eta, map_idL]); rw [hy]; first | done | rfl | exact map_pair_id _ | (simp; done))
                | ((try dsimp only [countsSpec, countsF, newWriSpec, newRdrSpec, actmSpec, wlL, actT, toT, ackSpec, rcvSpec, Ty.T, Ty.dflt, KT.T, getM, putM, delM, inI64, maxRow]); first | (simp only [nrm, reduceCtorEq, pair_eta, map_idL, natCast_eq, inI64, maxRow]; first | done | with_reducible assumption | omega) | exact map_pair_id _)
                | ((try dsimp only [countsSpec, countsF, newWriSpec, newRdrSpec, actmSpec, wlL, actT, toT, ackSpec, rcvSpec, Ty.T, Ty.dflt, KT.T, getM, putM, delM, inI64, maxRow] at *); first | ((try simp only [natCast_eq] at *) <;> omega) | ((try simp only [lens, natCast_eq] at *) <;> omega))
                | assumption
                | (symm; assumption)
                | (dsimp only; simp only [nrb, *]; done)
                | (simp; done)
                | (and_intros <;> first | trivial | with_reducible assumption | omega)
                | ((try dsimp only [countsSpec, countsF, newWriSpec, newRdrSpec, actmSpec, wlL, actT, toT, ackSpec, rcvSpec, Ty.T, Ty.dflt, KT.T, getM, putM, delM, inI64, maxRow] at *) <;> simp [*] <;> done))
           | skip
       clear hy
       obtain ⟨j, jlo, jhi⟩ := z
       (try (conv in (LoopInv.inv _ _) => dsimp only)); (try (conv in (SS.mk _ _) => cbv; (try dsimp only [countsSpec, countsF, newWriSpec, newRdrSpec, actmSpec, wlL, actT, toT, ackSpec, rcvSpec, Ty.T, Ty.dflt, KT.T]); (try simp only [natCast_eq])))
       (with_reducible refine (?_ : T1 _ ?_) ?_; rotate_left 1; (conv => lhs; cbv; (try cbv); (try cbv)); intro hT; clear hT; with_reducible refine Sh.mk (by kernel_rfl) ?_)
       repeat' (first
         | with_reducible (first | refine Ck.mk (C := tt) tt_intro ?_ | refine Ck.mk (show drawOk _ _ = true by kernel_rfl) ?_ | refine Ck.all_cons ?_ | refine Ck.all_nil ?_ | refine Ck.mk (by assumption) ?_ | refine Ck.mk (decide_eq_true (by assumption)) ?_ | refine Ck.mk (decide_eq_false (by assumption)) ?_ | refine Ck.mk ?_ ?_)
         | (with_reducible (first | refine Both.mk (fun h => ?_) (fun h => ?_) | refine Alt.mk (fun h => ?_) (fun h => ?_) | refine Pick.mk (fun h => ?_) (fun l1 x l2 h => ?_)) <;> (have hk := h) <;> (try simp only [nrm, reduceCtorEq, pair_eta, map_idL] at h) <;> (try dsimp only [countsSpec, countsF, newWriSpec, newRdrSpec, actmSpec, wlL, actT, toT, ackSpec, rcvSpec, Ty.T, Ty.dflt, KT.T, getM, putM, delM] at h) <;> (try simp only [natCast_eq] at h) <;> (try simp only [WS.eta] at h) <;> (try (exfalso; first | exact absurd hT h | exact absurd rfl h)) <;> (try first | rw [if_pos h] at hr | rw [if_neg h] at hr | rw [ifF h] at hr | rw [ifN h] at hr) <;> (try (have hb : (_ : Bool) = _ := h; clear h; subst hb; (try first | rw [if_pos rfl] at hr | rw [if_neg Bool.false_ne_true] at hr))) <;> first | (exfalso; omega) | exact absurd (h.symm.trans (by assumption) : true = false) Bool.noConfusion | exact absurd (h.symm.trans (by assumption) : false = true) Bool.noConfusion | (with_reducible refine (?_ : T1 _ ?_) ?_; rotate_left 1; (conv => lhs; cbv; (try cbv); (try cbv)); intro hT; clear hT; with_reducible refine Sh.mk (by kernel_rfl) ?_))
         | ((with_reducible refine End.mk ?_); skip)
         | with_reducible exact True.intro)
       all_goals first
         | (fail_if_success (with_reducible refine Exists.intro ?_ ?_)
            first
              | with_reducible rfl
              | with_reducible assumption
              | (symm; with_reducible assumption)
              | omega
              | ((try dsimp only [countsSpec, countsF, newWriSpec, newRdrSpec, actmSpec, wlL, actT, toT, ackSpec, rcvSpec, Ty.T, Ty.dflt, KT.T, getM, putM, delM, inI64, maxRow]); first | done | with_reducible rfl | with_reducible assumption | (symm; with_reducible assumption) | ((try simp only [natCast_eq, List.nil_append]); first | done | with_reducible rfl | omega | exact take_cg (by omega) | exact drop_cg (by omega) | exact take_drop_cg (by omega) (by omega) | exact take_all (by omega) | exact take_drop_all (by omega) (by omega) | exact drop_take_cg (by omega) (by omega) (by omega)))
              | first | exact ⟨hA.inv.st.pre (by omega), (hA.inv.segB hB (modAt_mem (by assumption))).2⟩ | exact modAt_lt (by assumption) | exact ⟨bytes_rd hA.inv hB, bytes_rd hA.inv hB⟩
              | ((try dsimp only [countsSpec, countsF, newWriSpec, newRdrSpec, actmSpec, wlL, actT, toT, ackSpec, rcvSpec, Ty.T, Ty.dflt, KT.T, getM, putM, delM, inI64, maxRow]); first | (simp only [nrm, reduceCtorEq, pair_eta, map_idL, natCast_eq, inI64, maxRow]; first | done | with_reducible assumption | omega) | exact map_pair_id _)
              | ((try dsimp only [countsSpec, countsF, newWriSpec, newRdrSpec, actmSpec, wlL, actT, toT, ackSpec, rcvSpec, Ty.T, Ty.dflt, KT.T, getM, putM, delM, inI64, maxRow] at *); first | ((try simp only [natCast_eq] at *) <;> omega) | ((try simp only [lens, natCast_eq] at *) <;> omega))
              | assumption
              | (symm; assumption)
              | (dsimp only; simp only [nrb, *]; done)
              | (simp; done)
              | (and_intros <;> first | trivial | with_reducible assumption | omega)
              | ((try dsimp only [countsSpec, countsF, newWriSpec, newRdrSpec, actmSpec, wlL, actT, toT, ackSpec, rcvSpec, Ty.T, Ty.dflt, KT.T, getM, putM, delM, inI64, maxRow] at *) <;> simp [*] <;> done))
         | skip
       all_goals
         (first
           | (refine Exists.elim (LJ.next jlo (by assumption)) ?_
              rintro z hz
              refine ⟨z, by (try dsimp only); (try simp only [natCast_eq]); omega, ?_⟩
              (try (conv in (LoopInv.inv _ _) => dsimp only)); (try (conv in (SS.mk _ _) => cbv; (try dsimp only [countsSpec, countsF, newWriSpec, newRdrSpec, actmSpec, wlL, actT, toT, ackSpec, rcvSpec, Ty.T, Ty.dflt, KT.T]); (try simp only [natCast_eq])))
              (with_reducible refine (?_ : T1 _ ?_) ?_; rotate_left 1; (conv => lhs; cbv; (try cbv); (try cbv)); intro hT; clear hT; with_reducible refine Sh.mk (by kernel_rfl) ?_)
              repeat' (first
                | with_reducible (first | refine Ck.mk (C := tt) tt_intro ?_ | refine Ck.mk (show drawOk _ _ = true by kernel_rfl) ?_ | refine Ck.all_cons ?_ | refine Ck.all_nil ?_ | refine Ck.mk (by assumption) ?_ | refine Ck.mk (decide_eq_true (by assumption)) ?_ | refine Ck.mk (decide_eq_false (by assumption)) ?_ | refine Ck.mk ?_ ?_)
                | (with_reducible (first | refine Both.mk (fun h => ?_) (fun h => ?_) | refine Alt.mk (fun h => ?_) (fun h => ?_) | refine Pick.mk (fun h => ?_) (fun l1 x l2 h => ?_)) <;> (have hk := h) <;> (try simp only [nrm, reduceCtorEq, pair_eta, map_idL] at h) <;> (try dsimp only [countsSpec, countsF, newWriSpec, newRdrSpec, actmSpec, wlL, actT, toT, ackSpec, rcvSpec, Ty.T, Ty.dflt, KT.T, getM, putM, delM] at h) <;> (try simp only [natCast_eq] at h) <;> (try simp only [WS.eta] at h) <;> (try (exfalso; first | exact absurd hT h | exact absurd rfl h)) <;> (try first | rw [if_pos h] at hr | rw [if_neg h] at hr | rw [ifF h] at hr | rw [ifN h] at hr) <;> (try (have hb : (_ : Bool) = _ := h; clear h; subst hb; (try first | rw [if_pos rfl] at hr | rw [if_neg Bool.false_ne_true] at hr))) <;> first | (exfalso; omega) | exact absurd (h.symm.trans (by assumption) : true = false) Bool.noConfusion | exact absurd (h.symm.trans (by assumption) : false = true) Bool.noConfusion | (with_reducible refine (?_ : T1 _ ?_) ?_; rotate_left 1; (conv => lhs; cbv; (try cbv); (try cbv)); intro hT; clear hT; with_reducible refine Sh.mk (by kernel_rfl) ?_))
                | ((with_reducible refine End.mk ?_); skip)
                | with_reducible exact True.intro)
              all_goals first
                | (fail_if_success (with_reducible refine Exists.intro ?_ ?_)
                   first
                     | with_reducible rfl
                     | with_reducible assumption
                     | (symm; with_reducible assumption)
                     | omega
                     | ((try dsimp only [countsSpec, countsF, newWriSpec, newRdrSpec, actmSpec, wlL, actT, toT, ackSpec, rcvSpec, Ty.T, Ty.dflt, KT.T, getM, putM, delM, inI64, maxRow]); first | done | with_reducible rfl | with_reducible assumption | (symm; with_reducible assumption) | ((try simp only [natCast_eq, List.nil_append]); first | done | with_reducible rfl | omega | exact take_cg (by omega) | exact drop_cg (by omega) | exact take_drop_cg (by omega) (by omega) | exact take_all (by omega) | exact take_drop_all (by omega) (by omega) | exact drop_take_cg (by omega) (by omega) (by omega)))
                     | first | exact hz.symm | exact hQ (.inl (by assumption)) (by assumption) | exact hQ (.inr (by assumption)) (by assumption) | ((try dsimp only); (try simp only [WS.eta, map_idL]); first | done | rfl | exact map_pair_id _ | (simp; done))
                     | ((try dsimp only [countsSpec, countsF, newWriSpec, newRdrSpec, actmSpec, wlL, actT, toT, ackSpec, rcvSpec, Ty.T, Ty.dflt, KT.T, getM, putM, delM, inI64, maxRow]); first | (simp only [nrm, reduceCtorEq, pair_eta, map_idL, natCast_eq, inI64, maxRow]; first | done | with_reducible assumption | omega) | exact map_pair_id _)
                     | ((try dsimp only [countsSpec, countsF, newWriSpec, newRdrSpec, actmSpec, wlL, actT, toT, ackSpec, rcvSpec, Ty.T, Ty.dflt, KT.T, getM, putM, delM, inI64, maxRow] at *); first | ((try simp only [natCast_eq] at *) <;> omega) | ((try simp only [lens, natCast_eq] at *) <;> omega))
                     | assumption
                     | (symm; assumption)
                     | (dsimp only; simp only [nrb, *]; done)
                     | (simp; done)
                     | (and_intros <;> first | trivial | with_reducible assumption | omega)
                     | ((try dsimp only [countsSpec, countsF, newWriSpec, newRdrSpec, actmSpec, wlL, actT, toT, ackSpec, rcvSpec, Ty.T, Ty.dflt, KT.T, getM, putM, delM, inI64, maxRow] at *) <;> simp [*] <;> done))
                | skip
              skip)
           | (refine Exists.elim (next_LRp (L := L) hlo hin hA hB hS hl1 hl2 hl3) ?_
              rintro z ⟨hz1, hz2⟩
              refine ⟨z, by (try dsimp only); (try simp only [natCast_eq]); omega, ?_⟩
              (try (conv in (LoopInv.inv _ _) => dsimp only)); (try (conv in (SS.mk _ _) => cbv; (try dsimp only [countsSpec, countsF, newWriSpec, newRdrSpec, actmSpec, wlL, actT, toT, ackSpec, rcvSpec, Ty.T, Ty.dflt, KT.T]); (try simp only [natCast_eq])))
              (with_reducible refine (?_ : T1 _ ?_) ?_; rotate_left 1; (conv => lhs; cbv; (try cbv); (try cbv)); intro hT; clear hT; with_reducible refine Sh.mk (by kernel_rfl) ?_)
              repeat' (first
                | with_reducible (first | refine Ck.mk (C := tt) tt_intro ?_ | refine Ck.mk (show drawOk _ _ = true by kernel_rfl) ?_ | refine Ck.all_cons ?_ | refine Ck.all_nil ?_ | refine Ck.mk (by assumption) ?_ | refine Ck.mk (decide_eq_true (by assumption)) ?_ | refine Ck.mk (decide_eq_false (by assumption)) ?_ | refine Ck.mk ?_ ?_)
                | (with_reducible (first | refine Both.mk (fun h => ?_) (fun h => ?_) | refine Alt.mk (fun h => ?_) (fun h => ?_) | refine Pick.mk (fun h => ?_) (fun l1 x l2 h => ?_)) <;> (have hk := h) <;> (try simp only [nrm, reduceCtorEq, pair_eta, map_idL] at h) <;> (try dsimp only [countsSpec, countsF, newWriSpec, newRdrSpec, actmSpec, wlL, actT, toT, ackSpec, rcvSpec, Ty.T, Ty.dflt, KT.T, getM, putM, delM] at h) <;> (try simp only [natCast_eq] at h) <;> (try simp only [WS.eta] at h) <;> (try (exfalso; first | exact absurd hT h | exact absurd rfl h)) <;> (try first | rw [if_pos h] at hr | rw [if_neg h] at hr | rw [ifF h] at hr | rw [ifN h] at hr) <;> (try (have hb : (_ : Bool) = _ := h; clear h; subst hb; (try first | rw [if_pos rfl] at hr | rw [if_neg Bool.false_ne_true] at hr))) <;> first | (exfalso; omega) | exact absurd (h.symm.trans (by assumption) : true = false) Bool.noConfusion | exact absurd (h.symm.trans (by assumption) : false = true) Bool.noConfusion | (with_reducible refine (?_ : T1 _ ?_) ?_; rotate_left 1; (conv => lhs; cbv; (try cbv); (try cbv)); intro hT; clear hT; with_reducible refine Sh.mk (by kernel_rfl) ?_))
                | ((with_reducible refine End.mk ?_); skip)
                | with_reducible exact True.intro)
              all_goals first
                | (fail_if_success (with_reducible refine Exists.intro ?_ ?_)
                   first
                     | with_reducible rfl
                     | with_reducible assumption
                     | (symm; with_reducible assumption)
                     | omega
                     | ((try dsimp only [countsSpec, countsF, newWriSpec, newRdrSpec, actmSpec, wlL, actT, toT, ackSpec, rcvSpec, Ty.T, Ty.dflt, KT.T, getM, putM, delM, inI64, maxRow]); first | done | with_reducible rfl | with_reducible assumption | (symm; with_reducible assumption) | ((try simp only [natCast_eq, List.nil_append]); first | done | with_reducible rfl | omega | exact take_cg (by omega) | exact drop_cg (by omega) | exact take_drop_cg (by omega) (by omega) | exact take_all (by omega) | exact take_drop_all (by omega) (by omega) | exact drop_take_cg (by omega) (by omega) (by omega)))
                     | first | exact hz1.symm | (rw [hz2]; done) | (rw [hz2]; first | rfl | exact map_pair_id _ | (simp; done))
                     | ((try dsimp only [countsSpec, countsF, newWriSpec, newRdrSpec, actmSpec, wlL, actT, toT, ackSpec, rcvSpec, Ty.T, Ty.dflt, KT.T, getM, putM, delM, inI64, maxRow]); first | (simp only [nrm, reduceCtorEq, pair_eta, map_idL, natCast_eq, inI64, maxRow]; first | done | with_reducible assumption | omega) | exact map_pair_id _)
                     | ((try dsimp only [countsSpec, countsF, newWriSpec, newRdrSpec, actmSpec, wlL, actT, toT, ackSpec, rcvSpec, Ty.T, Ty.dflt, KT.T, getM, putM, delM, inI64, maxRow] at *); first | ((try simp only [natCast_eq] at *) <;> omega) | ((try simp only [lens, natCast_eq] at *) <;> omega))
                     | assumption
                     | (symm; assumption)
                     | (dsimp only; simp only [nrb, *]; done)
                     | (simp; done)
                     | (and_intros <;> first | trivial | with_reducible assumption | omega)
                     | ((try dsimp only [countsSpec, countsF, newWriSpec, newRdrSpec, actmSpec, wlL, actT, toT, ackSpec, rcvSpec, Ty.T, Ty.dflt, KT.T, getM, putM, delM, inI64, maxRow] at *) <;> simp [*] <;> done))
                | skip
              skip)
           | (obtain ⟨m0, hm0⟩ : ∃ z : LJ (j + 1), z.j = 0 := ⟨⟨0, Int.le_refl _, by omega⟩, rfl⟩
              dsimp only
              refine ⟨⟨LJ (j + 1), fun z => ⟨[(4, Sx.one (.int .u8 (fun _ => g))), (11, Sx.one (.ptr 0 0)), (12, Sx.one (.ptr 3 0)), (14, Sx.one (.int .u16 (fun _ => L.getD i.toNat 0))), (16, Sx.one (.int .i64 (fun _ => L.getD i.toNat 0 / 8 % (y.acks.length : Int)))), (50, Sx.one (.ro (.int .u16) (fun _ => L))), (51, Sx.one (.int .i64 (fun _ => L.length))), (52, Sx.one (.int .i64 (fun _ => i))), (68, Sx.one (.int .i64 (fun _ => g % 4))), (69, Sx.one (.int .i64 (fun _ => j))), (127, Sx.one (.int .i64 (fun _ => j + 1))), (128, Sx.one (.int .i64 (fun _ => z.j)))], twoC (fun _ => y)⟩, fun z => (j + 1 - z.j).toNat, m0⟩, ?_, fun (z : LJ (j + 1)) => ?_⟩
              · (try (conv in (LoopInv.inv _ _) => dsimp only)); (try (conv in (SS.mk _ _) => cbv; (try dsimp only [countsSpec, countsF, newWriSpec, newRdrSpec, actmSpec, wlL, actT, toT, ackSpec, rcvSpec, Ty.T, Ty.dflt, KT.T]); (try simp only [natCast_eq])))
                (with_reducible refine (?_ : T1 _ ?_) ?_; rotate_left 1; (conv => lhs; cbv; (try cbv); (try cbv)); intro hT; clear hT; with_reducible refine Sh.mk (by kernel_rfl) ?_)
                repeat' (first
                  | with_reducible (first | refine Ck.mk (C := tt) tt_intro ?_ | refine Ck.mk (show drawOk _ _ = true by kernel_rfl) ?_ | refine Ck.all_cons ?_ | refine Ck.all_nil ?_ | refine Ck.mk (by assumption) ?_ | refine Ck.mk (decide_eq_true (by assumption)) ?_ | refine Ck.mk (decide_eq_false (by assumption)) ?_ | refine Ck.mk ?_ ?_)
                  | (with_reducible (first | refine Both.mk (fun h => ?_) (fun h => ?_) | refine Alt.mk (fun h => ?_) (fun h => ?_) | refine Pick.mk (fun h => ?_) (fun l1 x l2 h => ?_)) <;> (have hk := h) <;> (try simp only [nrm, reduceCtorEq, pair_eta, map_idL] at h) <;> (try dsimp only [countsSpec, countsF, newWriSpec, newRdrSpec, actmSpec, wlL, actT, toT, ackSpec, rcvSpec, Ty.T, Ty.dflt, KT.T, getM, putM, delM] at h) <;> (try simp only [natCast_eq] at h) <;> (try simp only [WS.eta] at h) <;> (try (exfalso; first | exact absurd hT h | exact absurd rfl h)) <;> (try first | rw [if_pos h] at hr | rw [if_neg h] at hr | rw [ifF h] at hr | rw [ifN h] at hr) <;> (try (have hb : (_ : Bool) = _ := h; clear h; subst hb; (try first | rw [if_pos rfl] at hr | rw [if_neg Bool.false_ne_true] at hr))) <;> first | (exfalso; omega) | exact absurd (h.symm.trans (by assumption) : true = false) Bool.noConfusion | exact absurd (h.symm.trans (by assumption) : false = true) Bool.noConfusion | (with_reducible refine (?_ : T1 _ ?_) ?_; rotate_left 1; (conv => lhs; cbv; (try cbv); (try cbv)); intro hT; clear hT; with_reducible refine Sh.mk (by kernel_rfl) ?_))
                  | ((with_reducible refine End.mk ?_); skip)
                  | with_reducible exact True.intro)
                all_goals first
                  | (fail_if_success (with_reducible refine Exists.intro ?_ ?_)
                     first
                       | with_reducible rfl
                       | with_reducible assumption
                       | (symm; with_reducible assumption)
                       | omega
                       | ((try dsimp only [countsSpec, countsF, newWriSpec, newRdrSpec, actmSpec, wlL, actT, toT, ackSpec, rcvSpec, Ty.T, Ty.dflt, KT.T, getM, putM, delM, inI64, maxRow]); first | done | with_reducible rfl | with_reducible assumption | (symm; with_reducible assumption) | ((try simp only [natCast_eq, List.nil_append]); first | done | with_reducible rfl | omega | exact take_cg (by omega) | exact drop_cg (by omega) | exact take_drop_cg (by omega) (by omega) | exact take_all (by omega) | exact take_drop_all (by omega) (by omega) | exact drop_take_cg (by omega) (by omega) (by omega)))
                       | first | exact hm0.symm | ((try dsimp only); (try simp only [WS.eta, map_idL]); first | done | rfl | exact map_pair_id _ | (simp; done))
                       | ((try dsimp only [countsSpec, countsF, newWriSpec, newRdrSpec, actmSpec, wlL, actT, toT, ackSpec, rcvSpec, Ty.T, Ty.dflt, KT.T, getM, putM, delM, inI64, maxRow]); first | (simp only [nrm, reduceCtorEq, pair_eta, map_idL, natCast_eq, inI64, maxRow]; first | done | with_reducible assumption | omega) | exact map_pair_id _)
                       | ((try dsimp only [countsSpec, countsF, newWriSpec, newRdrSpec, actmSpec, wlL, actT, toT, ackSpec, rcvSpec, Ty.T, Ty.dflt, KT.T, getM, putM, delM, inI64, maxRow] at *); first | ((try simp only [natCast_eq] at *) <;> omega) | ((try simp only [lens, natCast_eq] at *) <;> omega))
                       | assumption
                       | (symm; assumption)
                       | (dsimp only; simp only [nrb, *]; done)
                       | (simp; done)
                       | (and_intros <;> first | trivial | with_reducible assumption | omega)
                       | ((try dsimp only [countsSpec, countsF, newWriSpec, newRdrSpec, actmSpec, wlL, actT, toT, ackSpec, rcvSpec, Ty.T, Ty.dflt, KT.T, getM, putM, delM, inI64, maxRow] at *) <;> simp [*] <;> done))
                  | skip
              obtain ⟨m, mlo, mhi⟩ := z
              have hdn := hA.inv.al
              have hml := modAt_lt (k := L.getD i.toNat 0 / 8) (n := (y.acks.length : Int)) (by assumption)
              (try (conv in (LoopInv.inv _ _) => dsimp only)); (try (conv in (SS.mk _ _) => cbv; (try dsimp only [countsSpec, countsF, newWriSpec, newRdrSpec, actmSpec, wlL, actT, toT, ackSpec, rcvSpec, Ty.T, Ty.dflt, KT.T]); (try simp only [natCast_eq])))
              (with_reducible refine (?_ : T1 _ ?_) ?_; rotate_left 1; (conv => lhs; cbv; (try cbv); (try cbv)); intro hT; clear hT; with_reducible refine Sh.mk (by kernel_rfl) ?_)
              repeat' (first
                | with_reducible (first | refine Ck.mk (C := tt) tt_intro ?_ | refine Ck.mk (show drawOk _ _ = true by kernel_rfl) ?_ | refine Ck.all_cons ?_ | refine Ck.all_nil ?_ | refine Ck.mk (by assumption) ?_ | refine Ck.mk (decide_eq_true (by assumption)) ?_ | refine Ck.mk (decide_eq_false (by assumption)) ?_ | refine Ck.mk ?_ ?_)
                | (with_reducible (first | refine Both.mk (fun h => ?_) (fun h => ?_) | refine Alt.mk (fun h => ?_) (fun h => ?_) | refine Pick.mk (fun h => ?_) (fun l1 x l2 h => ?_)) <;> (have hk := h) <;> (try simp only [nrm, reduceCtorEq, pair_eta, map_idL] at h) <;> (try dsimp only [countsSpec, countsF, newWriSpec, newRdrSpec, actmSpec, wlL, actT, toT, ackSpec, rcvSpec, Ty.T, Ty.dflt, KT.T, getM, putM, delM] at h) <;> (try simp only [natCast_eq] at h) <;> (try simp only [WS.eta] at h) <;> (try (exfalso; first | exact absurd hT h | exact absurd rfl h)) <;> (try first | rw [if_pos h] at hr | rw [if_neg h] at hr | rw [ifF h] at hr | rw [ifN h] at hr) <;> (try (have hb : (_ : Bool) = _ := h; clear h; subst hb; (try first | rw [if_pos rfl] at hr | rw [if_neg Bool.false_ne_true] at hr))) <;> first | (exfalso; omega) | exact absurd (h.symm.trans (by assumption) : true = false) Bool.noConfusion | exact absurd (h.symm.trans (by assumption) : false = true) Bool.noConfusion | (with_reducible refine (?_ : T1 _ ?_) ?_; rotate_left 1; (conv => lhs; cbv; (try cbv); (try cbv)); intro hT; clear hT; with_reducible refine Sh.mk (by kernel_rfl) ?_))
                | ((with_reducible refine End.mk ?_); skip)
                | with_reducible exact True.intro)
              all_goals first
                | (fail_if_success (with_reducible refine Exists.intro ?_ ?_)
                   first
                     | with_reducible rfl
                     | with_reducible assumption
                     | (symm; with_reducible assumption)
                     | omega
                     | ((try dsimp only [countsSpec, countsF, newWriSpec, newRdrSpec, actmSpec, wlL, actT, toT, ackSpec, rcvSpec, Ty.T, Ty.dflt, KT.T, getM, putM, delM, inI64, maxRow]); first | done | with_reducible rfl | with_reducible assumption | (symm; with_reducible assumption) | ((try simp only [natCast_eq, List.nil_append]); first | done | with_reducible rfl | omega | exact take_cg (by omega) | exact drop_cg (by omega) | exact take_drop_cg (by omega) (by omega) | exact take_all (by omega) | exact take_drop_all (by omega) (by omega) | exact drop_take_cg (by omega) (by omega) (by omega)))
                     | first | exact hml | (rw [hdn]; exact hml) | exact hA.inv.ok
                     | ((try dsimp only [countsSpec, countsF, newWriSpec, newRdrSpec, actmSpec, wlL, actT, toT, ackSpec, rcvSpec, Ty.T, Ty.dflt, KT.T, getM, putM, delM, inI64, maxRow]); first | (simp only [nrm, reduceCtorEq, pair_eta, map_idL, natCast_eq, inI64, maxRow]; first | done | with_reducible assumption | omega) | exact map_pair_id _)
                     | ((try dsimp only [countsSpec, countsF, newWriSpec, newRdrSpec, actmSpec, wlL, actT, toT, ackSpec, rcvSpec, Ty.T, Ty.dflt, KT.T, getM, putM, delM, inI64, maxRow] at *); first | ((try simp only [natCast_eq] at *) <;> omega) | ((try simp only [lens, natCast_eq] at *) <;> omega))
                     | assumption
                     | (symm; assumption)
                     | (dsimp only; simp only [nrb, *]; done)
                     | (simp; done)
                     | (and_intros <;> first | trivial | with_reducible assumption | omega)
                     | ((try dsimp only [countsSpec, countsF, newWriSpec, newRdrSpec, actmSpec, wlL, actT, toT, ackSpec, rcvSpec, Ty.T, Ty.dflt, KT.T, getM, putM, delM, inI64, maxRow] at *) <;> simp [*] <;> done))
                | skip
              all_goals
                (first
                  | (refine Exists.elim (LJ.next (n := j + 1) mlo (by assumption)) ?_
                     rintro z hz
                     refine ⟨z, by (try dsimp only); (try simp only [natCast_eq]); omega, ?_⟩
                     (try (conv in (LoopInv.inv _ _) => dsimp only)); (try (conv in (SS.mk _ _) => cbv; (try dsimp only [countsSpec, countsF, newWriSpec, newRdrSpec, actmSpec, wlL, actT, toT, ackSpec, rcvSpec, Ty.T, Ty.dflt, KT.T]); (try simp only [natCast_eq])))
                     (with_reducible refine (?_ : T1 _ ?_) ?_; rotate_left 1; (conv => lhs; cbv; (try cbv); (try cbv)); intro hT; clear hT; with_reducible refine Sh.mk (by kernel_rfl) ?_)
                     repeat' (first
                       | with_reducible (first | refine Ck.mk (C := tt) tt_intro ?_ | refine Ck.mk (show drawOk _ _ = true by kernel_rfl) ?_ | refine Ck.all_cons ?_ | refine Ck.all_nil ?_ | refine Ck.mk (by assumption) ?_ | refine Ck.mk (decide_eq_true (by assumption)) ?_ | refine Ck.mk (decide_eq_false (by assumption)) ?_ | refine Ck.mk ?_ ?_)
                       | (with_reducible (first | refine Both.mk (fun h => ?_) (fun h => ?_) | refine Alt.mk (fun h => ?_) (fun h => ?_) | refine Pick.mk (fun h => ?_) (fun l1 x l2 h => ?_)) <;> (have hk := h) <;> (try simp only [nrm, reduceCtorEq, pair_eta, map_idL] at h) <;> (try dsimp only [countsSpec, countsF, newWriSpec, newRdrSpec, actmSpec, wlL, actT, toT, ackSpec, rcvSpec, Ty.T, Ty.dflt, KT.T, getM, putM, delM] at h) <;> (try simp only [natCast_eq] at h) <;> (try simp only [WS.eta] at h) <;> (try (exfalso; first | exact absurd hT h | exact absurd rfl h)) <;> (try first | rw [if_pos h] at hr | rw [if_neg h] at hr | rw [ifF h] at hr | rw [ifN h] at hr) <;> (try (have hb : (_ : Bool) = _ := h; clear h; subst hb; (try first | rw [if_pos rfl] at hr | rw [if_neg Bool.false_ne_true] at hr))) <;> first | (exfalso; omega) | exact absurd (h.symm.trans (by assumption) : true = false) Bool.noConfusion | exact absurd (h.symm.trans (by assumption) : false = true) Bool.noConfusion | (with_reducible refine (?_ : T1 _ ?_) ?_; rotate_left 1; (conv => lhs; cbv; (try cbv); (try cbv)); intro hT; clear hT; with_reducible refine Sh.mk (by kernel_rfl) ?_))
                       | ((with_reducible refine End.mk ?_); skip)
                       | with_reducible exact True.intro)
                     all_goals first
                       | (fail_if_success (with_reducible refine Exists.intro ?_ ?_)
                          first
                            | with_reducible rfl
                            | with_reducible assumption
                            | (symm; with_reducible assumption)
                            | omega
                            | ((try dsimp only [countsSpec, countsF, newWriSpec, newRdrSpec, actmSpec, wlL, actT, toT, ackSpec, rcvSpec, Ty.T, Ty.dflt, KT.T, getM, putM, delM, inI64, maxRow]); first | done | with_reducible rfl | with_reducible assumption | (symm; with_reducible assumption) | ((try simp only [natCast_eq, List.nil_append]); first | done | with_reducible rfl | omega | exact take_cg (by omega) | exact drop_cg (by omega) | exact take_drop_cg (by omega) (by omega) | exact take_all (by omega) | exact take_drop_all (by omega) (by omega) | exact drop_take_cg (by omega) (by omega) (by omega)))
                            | first | exact hz.symm | exact hK (by assumption) (by assumption) | ((try dsimp only); (try simp only [WS.eta, map_idL]); first | done | rfl | exact map_pair_id _ | (simp; done))
                            | ((try dsimp only [countsSpec, countsF, newWriSpec, newRdrSpec, actmSpec, wlL, actT, toT, ackSpec, rcvSpec, Ty.T, Ty.dflt, KT.T, getM, putM, delM, inI64, maxRow]); first | (simp only [nrm, reduceCtorEq, pair_eta, map_idL, natCast_eq, inI64, maxRow]; first | done | with_reducible assumption | omega) | exact map_pair_id _)
                            | ((try dsimp only [countsSpec, countsF, newWriSpec, newRdrSpec, actmSpec, wlL, actT, toT, ackSpec, rcvSpec, Ty.T, Ty.dflt, KT.T, getM, putM, delM, inI64, maxRow] at *); first | ((try simp only [natCast_eq] at *) <;> omega) | ((try simp only [lens, natCast_eq] at *) <;> omega))
                            | assumption
                            | (symm; assumption)
                            | (dsimp only; simp only [nrb, *]; done)
                            | (simp; done)
                            | (and_intros <;> first | trivial | with_reducible assumption | omega)
                            | ((try dsimp only [countsSpec, countsF, newWriSpec, newRdrSpec, actmSpec, wlL, actT, toT, ackSpec, rcvSpec, Ty.T, Ty.dflt, KT.T, getM, putM, delM, inI64, maxRow] at *) <;> simp [*] <;> done))
                       | skip
                     skip)
                  | (refine Exists.elim (LJ.next (n := g % 4) jlo (by assumption)) ?_
                     rintro z hz
                     refine ⟨z, by (try dsimp only); (try simp only [natCast_eq]); omega, ?_⟩
                     (try (conv in (LoopInv.inv _ _) => dsimp only)); (try (conv in (SS.mk _ _) => cbv; (try dsimp only [countsSpec, countsF, newWriSpec, newRdrSpec, actmSpec, wlL, actT, toT, ackSpec, rcvSpec, Ty.T, Ty.dflt, KT.T]); (try simp only [natCast_eq])))
                     (with_reducible refine (?_ : T1 _ ?_) ?_; rotate_left 1; (conv => lhs; cbv; (try cbv); (try cbv)); intro hT; clear hT; with_reducible refine Sh.mk (by kernel_rfl) ?_)
                     repeat' (first
                       | with_reducible (first | refine Ck.mk (C := tt) tt_intro ?_ | refine Ck.mk (show drawOk _ _ = true by kernel_rfl) ?_ | refine Ck.all_cons ?_ | refine Ck.all_nil ?_ | refine Ck.mk (by assumption) ?_ | refine Ck.mk (decide_eq_true (by assumption)) ?_ | refine Ck.mk (decide_eq_false (by assumption)) ?_ | refine Ck.mk ?_ ?_)
                       | (with_reducible (first | refine Both.mk (fun h => ?_) (fun h => ?_) | refine Alt.mk (fun h => ?_) (fun h => ?_) | refine Pick.mk (fun h => ?_) (fun l1 x l2 h => ?_)) <;> (have hk := h) <;> (try simp only [nrm, reduceCtorEq, pair_eta, map_idL] at h) <;> (try dsimp only [countsSpec, countsF, newWriSpec, newRdrSpec, actmSpec, wlL, actT, toT, ackSpec, rcvSpec, Ty.T, Ty.dflt, KT.T, getM, putM, delM] at h) <;> (try simp only [natCast_eq] at h) <;> (try simp only [WS.eta] at h) <;> (try (exfalso; first | exact absurd hT h | exact absurd rfl h)) <;> (try first | rw [if_pos h] at hr | rw [if_neg h] at hr | rw [ifF h] at hr | rw [ifN h] at hr) <;> (try (have hb : (_ : Bool) = _ := h; clear h; subst hb; (try first | rw [if_pos rfl] at hr | rw [if_neg Bool.false_ne_true] at hr))) <;> first | (exfalso; omega) | exact absurd (h.symm.trans (by assumption) : true = false) Bool.noConfusion | exact absurd (h.symm.trans (by assumption) : false = true) Bool.noConfusion | (with_reducible refine (?_ : T1 _ ?_) ?_; rotate_left 1; (conv => lhs; cbv; (try cbv); (try cbv)); intro hT; clear hT; with_reducible refine Sh.mk (by kernel_rfl) ?_))
                       | ((with_reducible refine End.mk ?_); skip)
                       | with_reducible exact True.intro)
                     all_goals first
                       | (fail_if_success (with_reducible refine Exists.intro ?_ ?_)
                          first
                            | with_reducible rfl
                            | with_reducible assumption
                            | (symm; with_reducible assumption)
                            | omega
                            | ((try dsimp only [countsSpec, countsF, newWriSpec, newRdrSpec, actmSpec, wlL, actT, toT, ackSpec, rcvSpec, Ty.T, Ty.dflt, KT.T, getM, putM, delM, inI64, maxRow]); first | done | with_reducible rfl | with_reducible assumption | (symm; with_reducible assumption) | ((try simp only [natCast_eq, List.nil_append]); first | done | with_reducible rfl | omega | exact take_cg (by omega) | exact drop_cg (by omega) | exact take_drop_cg (by omega) (by omega) | exact take_all (by omega) | exact take_drop_all (by omega) (by omega) | exact drop_take_cg (by omega) (by omega) (by omega)))
                            | first | exact hz.symm | ((try dsimp only); (try simp only [WS.eta, map_idL]); first | done | rfl | exact map_pair_id _ | (simp; done))
                            | ((try dsimp only [countsSpec, countsF, newWriSpec, newRdrSpec, actmSpec, wlL, actT, toT, ackSpec, rcvSpec, Ty.T, Ty.dflt, KT.T, getM, putM, delM, inI64, maxRow]); first | (simp only [nrm, reduceCtorEq, pair_eta, map_idL, natCast_eq, inI64, maxRow]; first | done | with_reducible assumption | omega) | exact map_pair_id _)
                            | ((try dsimp only [countsSpec, countsF, newWriSpec, newRdrSpec, actmSpec, wlL, actT, toT, ackSpec, rcvSpec, Ty.T, Ty.dflt, KT.T, getM, putM, delM, inI64, maxRow] at *); first | ((try simp only [natCast_eq] at *) <;> omega) | ((try simp only [lens, natCast_eq] at *) <;> omega))
                            | assumption
                            | (symm; assumption)
                            | (dsimp only; simp only [nrb, *]; done)
                            | (simp; done)
                            | (and_intros <;> first | trivial | with_reducible assumption | omega)
                            | ((try dsimp only [countsSpec, countsF, newWriSpec, newRdrSpec, actmSpec, wlL, actT, toT, ackSpec, rcvSpec, Ty.T, Ty.dflt, KT.T, getM, putM, delM, inI64, maxRow] at *) <;> simp [*] <;> done))
                       | skip
                     skip)
                  | skip))
           | skip))
  · (try (conv in (LoopInv.inv _ _) => dsimp only)); (try (conv in (SS.mk _ _) => cbv; (try dsimp only [countsSpec, countsF, newWriSpec, newRdrSpec, actmSpec, wlL, actT, toT, ackSpec, rcvSpec, Ty.T, Ty.dflt, KT.T]); (try simp only [natCast_eq])))
    (with_reducible refine (?_ : T1 _ ?_) ?_; rotate_left 1; (conv => lhs; cbv; (try cbv); (try cbv)); intro hT; clear hT; with_reducible refine Sh.mk (by kernel_rfl) ?_)
    repeat' (first
      | with_reducible (first | refine Ck.mk (C := tt) tt_intro ?_ | refine Ck.mk (show drawOk _ _ = true by kernel_rfl) ?_ | refine Ck.all_cons ?_ | refine Ck.all_nil ?_ | refine Ck.mk (by assumption) ?_ | refine Ck.mk (decide_eq_true (by assumption)) ?_ | refine Ck.mk (decide_eq_false (by assumption)) ?_ | refine Ck.mk ?_ ?_)
      | (with_reducible (first | refine Both.mk (fun h => ?_) (fun h => ?_) | refine Alt.mk (fun h => ?_) (fun h => ?_) | refine Pick.mk (fun h => ?_) (fun l1 x l2 h => ?_)) <;> (have hk := h) <;> (try simp only [nrm, reduceCtorEq, pair_eta, map_idL] at h) <;> (try dsimp only [countsSpec, countsF, newWriSpec, newRdrSpec, actmSpec, wlL, actT, toT, ackSpec, rcvSpec, Ty.T, Ty.dflt, KT.T, getM, putM, delM] at h) <;> (try simp only [natCast_eq] at h) <;> (try simp only [WS.eta] at h) <;> (try (exfalso; first | exact absurd hT h | exact absurd rfl h)) <;> (try first | rw [if_pos h] at hr | rw [if_neg h] at hr | rw [ifF h] at hr | rw [ifN h] at hr) <;> (try (have hb : (_ : Bool) = _ := h; clear h; subst hb; (try first | rw [if_pos rfl] at hr | rw [if_neg Bool.false_ne_true] at hr))) <;> first | (exfalso; omega) | exact absurd (h.symm.trans (by assumption) : true = false) Bool.noConfusion | exact absurd (h.symm.trans (by assumption) : false = true) Bool.noConfusion | (with_reducible refine (?_ : T1 _ ?_) ?_; rotate_left 1; (conv => lhs; cbv; (try cbv); (try cbv)); intro hT; clear hT; with_reducible refine Sh.mk (by kernel_rfl) ?_))
      | ((with_reducible refine End.mk ?_); (try ((repeat (first | rw [if_pos (by first | assumption | omega)] at hr | rw [if_neg (by first | assumption | omega | (simp only [Bool.false_eq_true, Bool.true_eq_false, reduceCtorEq, not_false_eq_true]; done) | (simp only [Bool.not_eq_true]; assumption) | (simp only [Bool.not_eq_false]; assumption))] at hr | rw [if_pos rfl] at hr)); subst hr)))
      | with_reducible exact True.intro)
    all_goals first
      | (fail_if_success (with_reducible refine Exists.intro ?_ ?_)
         first
           | with_reducible rfl
           | with_reducible assumption
           | (symm; with_reducible assumption)
           | omega
           | ((try dsimp only [countsSpec, countsF, newWriSpec, newRdrSpec, actmSpec, wlL, actT, toT, ackSpec, rcvSpec, Ty.T, Ty.dflt, KT.T, getM, putM, delM, inI64, maxRow]); first | done | with_reducible rfl | with_reducible assumption | (symm; with_reducible assumption) | ((try simp only [natCast_eq, List.nil_append]); first | done | with_reducible rfl | omega | exact take_cg (by omega) | exact drop_cg (by omega) | exact take_drop_cg (by omega) (by omega) | exact take_all (by omega) | exact take_drop_all (by omega) (by omega) | exact drop_take_cg (by omega) (by omega) (by omega)))
           | ((try dsimp only [countsSpec, countsF, newWriSpec, newRdrSpec, actmSpec, wlL, actT, toT, ackSpec, rcvSpec, Ty.T, Ty.dflt, KT.T, getM, putM, delM, inI64, maxRow]); first | (simp only [nrm, reduceCtorEq, pair_eta, map_idL, natCast_eq, inI64, maxRow]; first | done | with_reducible assumption | omega) | exact map_pair_id _)
           | ((try dsimp only [countsSpec, countsF, newWriSpec, newRdrSpec, actmSpec, wlL, actT, toT, ackSpec, rcvSpec, Ty.T, Ty.dflt, KT.T, getM, putM, delM, inI64, maxRow] at *); first | ((try simp only [natCast_eq] at *) <;> omega) | ((try simp only [lens, natCast_eq] at *) <;> omega))
           | assumption
           | (symm; assumption)
           | (dsimp only; simp only [nrb, *]; done)
           | (simp; done)
           | (and_intros <;> first | trivial | with_reducible assumption | omega)
           | ((try dsimp only [countsSpec, countsF, newWriSpec, newRdrSpec, actmSpec, wlL, actT, toT, ackSpec, rcvSpec, Ty.T, Ty.dflt, KT.T, getM, putM, delM, inI64, maxRow] at *) <;> simp [*] <;> done))
      | skip
    all_goals skip
theorem rpw_sound : ConSound Try.prog AI 7 rpwSpec.con := PureSpec.sound Try.call7 (fun x h => rpw_ok x.1 x.2.1 x.2.2.1 x.2.2.2.1 x.2.2.2.2.1 h)
end Go.Proofs.Ytebhcmgfhkjmcaa
