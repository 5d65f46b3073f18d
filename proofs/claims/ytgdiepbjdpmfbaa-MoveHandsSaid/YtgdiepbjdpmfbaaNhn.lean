/-
  Layer 48: Hand while a move is under way, its list owning the rows.
-/
import Derived.Test.YtgdiepbjdpmfbaaNru
namespace Go.Proofs.Ytgdiepbjdpmfbaa
set_option linter.all false
set_option linter.unusedVariables false
set_option linter.unusedSimpArgs false
set_option linter.unusedSectionVars false
open Go.RowKit Go.Sx
set_option maxRecDepth 100000
set_option maxHeartbeats 16000000

noncomputable abbrev Ehn : Env Ab := ⟨tis, [(42, runnSpec.con), (40, empSpec.con), (41, endSpec.con), (39, offSpec.con), (37, putSpec.conW)] ++ E0.con⟩
theorem ehnOk : EnvOk Try.prog AI Ehn := (((((e0Ok.add putW_sound).add off_sound).add end_sound).add emp_sound).add runn_sound)
noncomputable abbrev Ehnn : Env Ab := ⟨(37, ⟨.slice 32 (some (.pair (.int .i64) (.pair .bytes .bool))), 1, 3, [.nilS]⟩) :: (5, ⟨.int .u8, 1, 0, [.li .u8 0]⟩) :: Ehn.ti, Ehn.con⟩
theorem ehnnOk : EnvOk Try.prog AI Ehnn := ehnOk.nest (t := 37) (i := ⟨.slice 32 (some (.pair (.int .i64) (.pair .bytes .bool))), 1, 0, [.nilS]⟩) (tb := 5) (j := ⟨.int .u8, 1, 0, [.li .u8 0]⟩) rfl rfl
theorem lh_in {L : List Seg} {i : Int} (h0 : 0 ≤ i) (h : i < (L.length : Int)) : inL (fun _ => L) (fun _ => i) () := ⟨h0, h⟩
theorem hn_in {a : Sto} (h0 : 0 ≤ ((runsF a).1.length : Int) - 1) : inL (fun _ => (runsF a).1) (fun _ => ((runsF a).1.length : Int) - 1) () := ⟨h0, by show ((runsF a).1.length : Int) - 1 < ((runsF a).1.length : Int); omega⟩
theorem seg_home (L : List Seg) (i : Int) : L.set i.toNat ((L.getD i.toNat (0, [], false)).1, (L.getD i.toNat (0, [], false)).2.1, (L.getD i.toNat (0, [], false)).2.2) = L := by
  by_cases h : i.toNat < L.length
  · have e : L.getD i.toNat (0, [], false) = L[i.toNat] := by rw [List.getD_eq_getElem?_getD, List.getElem?_eq_getElem h]; rfl
    rw [e]; exact List.set_getElem_self h
  · exact List.set_eq_of_length_le (by omega)
def hnnN (S : Mov) : Mov := ⟨S.win, .drain, handA S.win S.a, putsL S.b (handL S.a)⟩
def mhnnSpec : NestMeth Ab := ⟨Mov, selM, .mov, [], fun S (x : Unit) => OkM S ∧ S.ph = .drain ∧ S.a.off + S.win ≤ 1099511627776 ∧ (S.a.known = true → S.a.fin ≤ 1099512676352), 32, 5, fun S (x : Unit) => handL S.a, [.cell (.int .i64)], fun S (x : Unit) => (0, ()), fun S (x : Unit) => hnnN S⟩
theorem mhnn_ok (S : Mov) (h : mhnnSpec.pre S ()) : TmplOk Try.prog AI 17 (Sx.one (.ptr 0 0) :: argS mhnnSpec.ds (fun _ => ())) [.abs (mhnnSpec.put (fun _ => S))] (resOf (.one (.hd 1 0) :: svs mhnnSpec.rs (fun _ => mhnnSpec.g S ()))) [.abs (mhnnSpec.put (fun _ => mhnnSpec.next S ())), .nest mhnnSpec.et mhnnSpec.tb 0 (fun _ => mhnnSpec.f S ()) none] := by
  dsimp only [mhnnSpec, hnnN] at h ⊢
  obtain ⟨hM, hph, h40⟩ := h
  obtain ⟨w, ph, a, b⟩ := S
  dsimp only at hph
  subst hph
  have ha := hM.a (fun e => by cases e)
  have hb := hM.b (fun e => by cases e)
  obtain ⟨h41, h42⟩ := h40
  have hw := hM.win
  dsimp only at ha hb h41 h42 hw
  have hP : PreR a := ⟨ha.1, by rw [ha.2]; exact h41⟩
  have hE := ha.1.fin
  have hO := ha.1.off
  have hF := hnF hP ha.2 h42
  have hLs := hn_hs hF
  refine tmpl_objNest ehnnOk mixed (fn := Try.f17) (c := bodyOf Try.f17) (by kernel_rfl) (by kernel_rfl) (by kernel_rfl) (Nat.le_of_ble_eq_true (by kernel_rfl)) (layOk _) (layOk _) (svs_closed _ _) ?_
  (try (conv in (LoopInv.inv _ _) => dsimp only)); (try (conv in (SS.mk _ _) => cbv; (try dsimp only [putSpec, offSpec, offF, endSpec, endF, empSpec, runnSpec, Ty.T, Ty.dflt, KT.T]); (try simp only [natCast_eq])))
  (with_reducible refine (?_ : T1 _ ?_) ?_; rotate_left 1; (conv => lhs; cbv; (try cbv); (try cbv)); intro hT; clear hT; with_reducible refine Sh.mk (by kernel_rfl) ?_)
  repeat' (first
    | with_reducible (first | refine Ck.mk (C := tt) tt_intro ?_ | refine Ck.mk (show drawOk _ _ = true by kernel_rfl) ?_ | refine Ck.all_cons ?_ | refine Ck.all_nil ?_ | refine Ck.mk (by assumption) ?_ | refine Ck.mk (decide_eq_true (by assumption)) ?_ | refine Ck.mk (decide_eq_false (by assumption)) ?_ | refine Ck.mk ?_ ?_)
    | (with_reducible (first | refine Both.mk (fun h => ?_) (fun h => ?_) | refine Alt.mk (fun h => ?_) (fun h => ?_) | refine Pick.mk (fun h => ?_) (fun l1 x l2 h => ?_)) <;> (have hk := h) <;> (try simp only [nrm, reduceCtorEq, pair_eta, map_idL] at h) <;> (try dsimp only [putSpec, offSpec, offF, endSpec, endF, empSpec, runnSpec, Ty.T, Ty.dflt, KT.T, getM, putM, delM] at h) <;> (try simp only [natCast_eq] at h) <;> skip <;> (try first | rw [if_pos h] at hr | rw [if_neg h] at hr | rw [ifF h] at hr | rw [ifN h] at hr) <;> (try (have hb : (_ : Bool) = _ := h; clear h; subst hb; (try first | rw [if_pos rfl] at hr | rw [if_neg Bool.false_ne_true] at hr))) <;> first | (exfalso; omega) | exact absurd (h.symm.trans (by assumption) : true = false) Bool.noConfusion | exact absurd (h.symm.trans (by assumption) : false = true) Bool.noConfusion | (with_reducible refine (?_ : T1 _ ?_) ?_; rotate_left 1; (conv => lhs; cbv; (try cbv); (try cbv)); intro hT; clear hT; with_reducible refine Sh.mk (by kernel_rfl) ?_))
    | ((with_reducible refine End.mk ?_); skip)
    | with_reducible exact True.intro)
  all_goals first
    | (fail_if_success (with_reducible refine Exists.intro ?_ ?_)
       first
         | with_reducible rfl
         | with_reducible assumption
         | (symm; with_reducible assumption)
         | omega
         | ((try dsimp only [putSpec, offSpec, offF, endSpec, endF, empSpec, runnSpec, Ty.T, Ty.dflt, KT.T, getM, putM, delM, inI64, maxRow]); first | done | with_reducible rfl | with_reducible assumption | (symm; with_reducible assumption) | ((try simp only [natCast_eq, List.nil_append]); first | done | with_reducible rfl | omega | exact take_cg (by omega) | exact drop_cg (by omega) | exact take_drop_cg (by omega) (by omega) | exact take_all (by omega) | exact take_drop_all (by omega) (by omega) | exact drop_take_cg (by omega) (by omega) (by omega)))
         | first | exact ⟨hw, hO.1, by show a.off ≤ _; omega⟩ | exact hn_i1 hF | exact hn_mk hF | exact hn_put hF | exact hn_i2 hF | exact hn_i3 hF h | exact hn_i3 hF (by assumption) | exact hn_in (by assumption) | exact ⟨Nat.zero_lt_one, hn_len hF⟩ | exact hn_len hF
         | ((try dsimp only [putSpec, offSpec, offF, endSpec, endF, empSpec, runnSpec, Ty.T, Ty.dflt, KT.T, getM, putM, delM, inI64, maxRow]); first | (simp only [nrm, reduceCtorEq, pair_eta, map_idL, natCast_eq, inI64, maxRow]; first | done | with_reducible assumption | omega) | exact map_pair_id _)
         | ((try dsimp only [putSpec, offSpec, offF, endSpec, endF, empSpec, runnSpec, Ty.T, Ty.dflt, KT.T, getM, putM, delM, inI64, maxRow] at *); first | ((try simp only [natCast_eq] at *) <;> omega) | ((try simp only [lens, natCast_eq] at *) <;> omega))
         | assumption
         | (symm; assumption)
         | (dsimp only; simp only [nrb, *]; done)
         | (simp; done)
         | (and_intros <;> first | trivial | with_reducible assumption | omega)
         | ((try dsimp only [putSpec, offSpec, offF, endSpec, endF, empSpec, runnSpec, Ty.T, Ty.dflt, KT.T, getM, putM, delM, inI64, maxRow] at *) <;> simp [*] <;> done))
    | skip
  all_goals
    (obtain ⟨x0, hx0, hx1⟩ := lh0 hb.1 (handL a)
     refine ⟨⟨LH b (handL a), fun x => ⟨[(0, Sx.one (.ptr 0 0)), (8, Sx.one (.hd 3 0)), (89, Sx.one (.hd 3 0)), (90, Sx.one (.int .i64 (fun _ => (handL a).length))), (91, Sx.one (.int .i64 (fun _ => x.i)))],
       [.cells 82 [.int .i64 (fun _ => w), .int .i64 (fun _ => 1), .ptr 4 0, .ptr 2 0], .gone, .abs (.sto (fun _ => x.B)), .nest 32 5 0 (fun _ => handL a) none, .abs (.sto (fun _ => handA w a))]⟩, fun x => ((handL a).length - x.i).toNat, x0⟩, ?_, fun (x : LH b (handL a)) => ?_⟩
     · (try (conv in (LoopInv.inv _ _) => dsimp only)); (try (conv in (SS.mk _ _) => cbv; (try dsimp only [putSpec, offSpec, offF, endSpec, endF, empSpec, runnSpec, Ty.T, Ty.dflt, KT.T]); (try simp only [natCast_eq])))
       (with_reducible refine (?_ : T1 _ ?_) ?_; rotate_left 1; (conv => lhs; cbv; (try cbv); (try cbv)); intro hT; clear hT; with_reducible refine Sh.mk (by kernel_rfl) ?_)
       repeat' (first
         | with_reducible (first | refine Ck.mk (C := tt) tt_intro ?_ | refine Ck.mk (show drawOk _ _ = true by kernel_rfl) ?_ | refine Ck.all_cons ?_ | refine Ck.all_nil ?_ | refine Ck.mk (by assumption) ?_ | refine Ck.mk (decide_eq_true (by assumption)) ?_ | refine Ck.mk (decide_eq_false (by assumption)) ?_ | refine Ck.mk ?_ ?_)
         | (with_reducible (first | refine Both.mk (fun h => ?_) (fun h => ?_) | refine Alt.mk (fun h => ?_) (fun h => ?_) | refine Pick.mk (fun h => ?_) (fun l1 x l2 h => ?_)) <;> (have hk := h) <;> (try simp only [nrm, reduceCtorEq, pair_eta, map_idL] at h) <;> (try dsimp only [putSpec, offSpec, offF, endSpec, endF, empSpec, runnSpec, Ty.T, Ty.dflt, KT.T, getM, putM, delM] at h) <;> (try simp only [natCast_eq] at h) <;> skip <;> (try first | rw [if_pos h] at hr | rw [if_neg h] at hr | rw [ifF h] at hr | rw [ifN h] at hr) <;> (try (have hb : (_ : Bool) = _ := h; clear h; subst hb; (try first | rw [if_pos rfl] at hr | rw [if_neg Bool.false_ne_true] at hr))) <;> first | (exfalso; omega) | exact absurd (h.symm.trans (by assumption) : true = false) Bool.noConfusion | exact absurd (h.symm.trans (by assumption) : false = true) Bool.noConfusion | (with_reducible refine (?_ : T1 _ ?_) ?_; rotate_left 1; (conv => lhs; cbv; (try cbv); (try cbv)); intro hT; clear hT; with_reducible refine Sh.mk (by kernel_rfl) ?_))
         | ((with_reducible refine End.mk ?_); skip)
         | with_reducible exact True.intro)
       all_goals first
         | (fail_if_success (with_reducible refine Exists.intro ?_ ?_)
            first
              | with_reducible rfl
              | with_reducible assumption
              | (symm; with_reducible assumption)
              | omega
              | ((try dsimp only [putSpec, offSpec, offF, endSpec, endF, empSpec, runnSpec, Ty.T, Ty.dflt, KT.T, getM, putM, delM, inI64, maxRow]); first | done | with_reducible rfl | with_reducible assumption | (symm; with_reducible assumption) | ((try simp only [natCast_eq, List.nil_append]); first | done | with_reducible rfl | omega | exact take_cg (by omega) | exact drop_cg (by omega) | exact take_drop_cg (by omega) (by omega) | exact take_all (by omega) | exact take_drop_all (by omega) (by omega) | exact drop_take_cg (by omega) (by omega) (by omega)))
              | first | exact hA_k (by assumption) | exact hA_n h | exact hL_set (by assumption) (by assumption) h | exact hL_app (by assumption) h | exact hL_app0 (by assumption) h | exact hL_n h | exact (map_seg_id _).trans (hL_set (by assumption) (by assumption) h) | exact congrArg (fun l => ((List.length l : Nat) : Int)) (hL_set (by assumption) (by assumption) h) | exact (map_seg_id _).trans (hL_app (by assumption) h) | exact congrArg (fun l => ((List.length l : Nat) : Int)) (hL_app (by assumption) h) | exact (map_seg_id _).trans (hL_app0 (by assumption) h) | exact congrArg (fun l => ((List.length l : Nat) : Int)) (hL_app0 (by assumption) h) | exact (map_seg_id _).trans (hL_n h) | exact congrArg (fun l => ((List.length l : Nat) : Int)) (hL_n h)
              | ((try dsimp only [putSpec, offSpec, offF, endSpec, endF, empSpec, runnSpec, Ty.T, Ty.dflt, KT.T, getM, putM, delM, inI64, maxRow]); first | (simp only [nrm, reduceCtorEq, pair_eta, map_idL, natCast_eq, inI64, maxRow]; first | done | with_reducible assumption | omega) | exact map_pair_id _)
              | ((try dsimp only [putSpec, offSpec, offF, endSpec, endF, empSpec, runnSpec, Ty.T, Ty.dflt, KT.T, getM, putM, delM, inI64, maxRow] at *); first | ((try simp only [natCast_eq] at *) <;> omega) | ((try simp only [lens, natCast_eq] at *) <;> omega))
              | assumption
              | (symm; assumption)
              | (dsimp only; simp only [nrb, *]; done)
              | (simp; done)
              | (and_intros <;> first | trivial | with_reducible assumption | omega)
              | ((try dsimp only [putSpec, offSpec, offF, endSpec, endF, empSpec, runnSpec, Ty.T, Ty.dflt, KT.T, getM, putM, delM, inI64, maxRow] at *) <;> simp [*] <;> done))
         | skip
     have hT := x.ok
     have hlo := x.lo
     have hhi := x.hi
     have hLl := hn_hl hF
     (try (conv in (LoopInv.inv _ _) => dsimp only)); (try (conv in (SS.mk _ _) => cbv; (try dsimp only [putSpec, offSpec, offF, endSpec, endF, empSpec, runnSpec, Ty.T, Ty.dflt, KT.T]); (try simp only [natCast_eq])))
     (with_reducible refine (?_ : T1 _ ?_) ?_; rotate_left 1; (conv => lhs; cbv; (try cbv); (try cbv)); intro hT; clear hT; with_reducible refine Sh.mk (by kernel_rfl) ?_)
     repeat' (first
       | with_reducible (first | refine Ck.mk (C := tt) tt_intro ?_ | refine Ck.mk (show drawOk _ _ = true by kernel_rfl) ?_ | refine Ck.all_cons ?_ | refine Ck.all_nil ?_ | refine Ck.mk (by assumption) ?_ | refine Ck.mk (decide_eq_true (by assumption)) ?_ | refine Ck.mk (decide_eq_false (by assumption)) ?_ | refine Ck.mk ?_ ?_)
       | (with_reducible (first | refine Both.mk (fun h => ?_) (fun h => ?_) | refine Alt.mk (fun h => ?_) (fun h => ?_) | refine Pick.mk (fun h => ?_) (fun l1 x l2 h => ?_)) <;> (have hk := h) <;> (try simp only [nrm, reduceCtorEq, pair_eta, map_idL] at h) <;> (try dsimp only [putSpec, offSpec, offF, endSpec, endF, empSpec, runnSpec, Ty.T, Ty.dflt, KT.T, getM, putM, delM] at h) <;> (try simp only [natCast_eq] at h) <;> skip <;> (try first | rw [if_pos h] at hr | rw [if_neg h] at hr | rw [ifF h] at hr | rw [ifN h] at hr) <;> (try (have hb : (_ : Bool) = _ := h; clear h; subst hb; (try first | rw [if_pos rfl] at hr | rw [if_neg Bool.false_ne_true] at hr))) <;> first | (exfalso; omega) | exact absurd (h.symm.trans (by assumption) : true = false) Bool.noConfusion | exact absurd (h.symm.trans (by assumption) : false = true) Bool.noConfusion | (with_reducible refine (?_ : T1 _ ?_) ?_; rotate_left 1; (conv => lhs; cbv; (try cbv); (try cbv)); intro hT; clear hT; with_reducible refine Sh.mk (by kernel_rfl) ?_))
       | ((with_reducible refine End.mk ?_); skip)
       | with_reducible exact True.intro)
     all_goals first
       | (fail_if_success (with_reducible refine Exists.intro ?_ ?_)
          first
            | with_reducible rfl
            | with_reducible assumption
            | (symm; with_reducible assumption)
            | omega
            | ((try dsimp only [putSpec, offSpec, offF, endSpec, endF, empSpec, runnSpec, Ty.T, Ty.dflt, KT.T, getM, putM, delM, inI64, maxRow]); first | done | with_reducible rfl | with_reducible assumption | (symm; with_reducible assumption) | ((try simp only [natCast_eq, List.nil_append]); first | done | with_reducible rfl | omega | exact take_cg (by omega) | exact drop_cg (by omega) | exact take_drop_cg (by omega) (by omega) | exact take_all (by omega) | exact take_drop_all (by omega) (by omega) | exact drop_take_cg (by omega) (by omega) (by omega)))
            | first | exact lh_in hlo (by assumption) | exact ⟨hT.pre, (lh_step hLs x (by assumption)).1⟩
            | ((try dsimp only [putSpec, offSpec, offF, endSpec, endF, empSpec, runnSpec, Ty.T, Ty.dflt, KT.T, getM, putM, delM, inI64, maxRow]); first | (simp only [nrm, reduceCtorEq, pair_eta, map_idL, natCast_eq, inI64, maxRow]; first | done | with_reducible assumption | omega) | exact map_pair_id _)
            | ((try dsimp only [putSpec, offSpec, offF, endSpec, endF, empSpec, runnSpec, Ty.T, Ty.dflt, KT.T, getM, putM, delM, inI64, maxRow] at *); first | ((try simp only [natCast_eq] at *) <;> omega) | ((try simp only [lens, natCast_eq] at *) <;> omega))
            | assumption
            | (symm; assumption)
            | (dsimp only; simp only [nrb, *]; done)
            | (simp; done)
            | (and_intros <;> first | trivial | with_reducible assumption | omega)
            | ((try dsimp only [putSpec, offSpec, offF, endSpec, endF, empSpec, runnSpec, Ty.T, Ty.dflt, KT.T, getM, putM, delM, inI64, maxRow] at *) <;> simp [*] <;> done))
       | skip
     all_goals
       (first
         | (refine ⟨[0, 3, 4, 2], by decide, ?_⟩; cbv)
         | (obtain ⟨hy9, y, hy0, hy1⟩ := lh_step hLs x (by assumption)
            refine ⟨y, by dsimp only; (try simp only [natCast_eq]); omega, ?_⟩))
     repeat' (first | refine Ck.mk trivial ?_ | refine Ck.mk (by assumption) ?_ | refine Ck.mk ?_ ?_ | refine End.mk ?_ | exact trivial)
     all_goals first
       | (fail_if_success (with_reducible refine Exists.intro ?_ ?_)
          first
            | with_reducible rfl
            | with_reducible assumption
            | (symm; with_reducible assumption)
            | omega
            | ((try dsimp only [putSpec, offSpec, offF, endSpec, endF, empSpec, runnSpec, Ty.T, Ty.dflt, KT.T, getM, putM, delM, inI64, maxRow]); first | done | with_reducible rfl | with_reducible assumption | (symm; with_reducible assumption) | ((try simp only [natCast_eq, List.nil_append]); first | done | with_reducible rfl | omega | exact take_cg (by omega) | exact drop_cg (by omega) | exact take_drop_cg (by omega) (by omega) | exact take_all (by omega) | exact take_drop_all (by omega) (by omega) | exact drop_take_cg (by omega) (by omega) (by omega)))
            | first | exact hy1.symm | exact lh_done x (by assumption) | exact seg_home _ _
            | ((try dsimp only [putSpec, offSpec, offF, endSpec, endF, empSpec, runnSpec, Ty.T, Ty.dflt, KT.T, getM, putM, delM, inI64, maxRow]); first | (simp only [nrm, reduceCtorEq, pair_eta, map_idL, natCast_eq, inI64, maxRow]; first | done | with_reducible assumption | omega) | exact map_pair_id _)
            | ((try dsimp only [putSpec, offSpec, offF, endSpec, endF, empSpec, runnSpec, Ty.T, Ty.dflt, KT.T, getM, putM, delM, inI64, maxRow] at *); first | ((try simp only [natCast_eq] at *) <;> omega) | ((try simp only [lens, natCast_eq] at *) <;> omega))
            | assumption
            | (symm; assumption)
            | (dsimp only; simp only [nrb, *]; done)
            | (simp; done)
            | (and_intros <;> first | trivial | with_reducible assumption | omega)
            | ((try dsimp only [putSpec, offSpec, offF, endSpec, endF, empSpec, runnSpec, Ty.T, Ty.dflt, KT.T, getM, putM, delM, inI64, maxRow] at *) <;> simp [*] <;> done))
       | skip)
theorem mhnn_sound : ConSound Try.prog AI 17 mhnnSpec.con := NestMeth.sound Try.call17 ⟨fun a W h => by cases a <;> cases h; rfl, fun W x h => mhnn_ok W h⟩
end Go.Proofs.Ytgdiepbjdpmfbaa
