/-
  Layer 48: runs, its list owning the rows.
-/
import Derived.Test.YtgdiepbjdpmfbaaNrd
namespace Go.Proofs.Ytgdiepbjdpmfbaa
set_option linter.all false
set_option linter.unusedVariables false
set_option linter.unusedSimpArgs false
set_option linter.unusedSectionVars false
open Go.RowKit Go.Sx
set_option maxRecDepth 100000
set_option maxHeartbeats 16000000

noncomputable abbrev Eq0 : Env Ab := ⟨tis, [(39, offSpec.con), (38, readnSpec.con)] ++ E0.con⟩
theorem eq0Ok : EnvOk Try.prog AI Eq0 := ((e0Ok.add readn_sound).add off_sound)
noncomputable abbrev Eq0n : Env Ab := ⟨(37, ⟨.slice 32 (some (.pair (.int .i64) (.pair .bytes .bool))), 1, 3, [.nilS]⟩) :: (5, ⟨.int .u8, 1, 0, [.li .u8 0]⟩) :: Eq0.ti, Eq0.con⟩
theorem eq0nOk : EnvOk Try.prog AI Eq0n := eq0Ok.nest (t := 37) (i := ⟨.slice 32 (some (.pair (.int .i64) (.pair .bytes .bool))), 1, 0, [.nilS]⟩) (tb := 5) (j := ⟨.int .u8, 1, 0, [.li .u8 0]⟩) rfl rfl
theorem run1n_inl : ConSound Try.prog AI 49 (inl Eq0n Try.f49 3) := inl_sound eq0nOk mixed (fn := Try.f49) (c := bodyOf Try.f49) Try.call49 (by kernel_rfl) (by kernel_rfl) (by kernel_rfl) 3
noncomputable abbrev Eqr : Env Ab := ⟨tis, [(49, inl Eq0n Try.f49 3), (50, gapsSpec.con), (51, heldSpec.con), (39, offSpec.con), (38, readnSpec.con), (37, frzCon putSpec.con)] ++ E0.con⟩
theorem eqrOk : EnvOk Try.prog AI Eqr := ((((((e0Ok.add (frzCon_sound put_sound)).add readn_sound).add off_sound).add held_sound).add gaps_sound).add run1n_inl)
noncomputable abbrev Eqrn : Env Ab := ⟨(37, ⟨.slice 32 (some (.pair (.int .i64) (.pair .bytes .bool))), 1, 3, [.nilS]⟩) :: (5, ⟨.int .u8, 1, 0, [.li .u8 0]⟩) :: Eqr.ti, Eqr.con⟩
theorem eqrnOk : EnvOk Try.prog AI Eqrn := eqrOk.nest (t := 37) (i := ⟨.slice 32 (some (.pair (.int .i64) (.pair .bytes .bool))), 1, 0, [.nilS]⟩) (tb := 5) (j := ⟨.int .u8, 1, 0, [.li .u8 0]⟩) rfl rfl
def runnSpec : NestMeth Ab := ⟨Sto, selS, .sto, [], fun S (x : Unit) => PreR S, 32, 5, fun S (x : Unit) => (runsF S).1, [], fun S (x : Unit) => (), fun S (x : Unit) => (runsF S).2⟩
theorem runn_ok (S : Sto) (h : runnSpec.pre S ()) : TmplOk Try.prog AI 42 (Sx.one (.ptr 0 0) :: argS runnSpec.ds (fun _ => ())) [.abs (runnSpec.put (fun _ => S))] (resOf (.one (.hd 1 0) :: svs runnSpec.rs (fun _ => runnSpec.g S ()))) [.abs (runnSpec.put (fun _ => runnSpec.next S ())), .nest runnSpec.et runnSpec.tb 0 (fun _ => runnSpec.f S ()) none] := by
  dsimp only [runnSpec] at h ⊢
  generalize hr : runsF S = r
  have hP := h
  refine tmpl_bodyR eqrnOk mixed (fn := Try.f42) (c := bodyOf Try.f42) (by kernel_rfl) (by kernel_rfl) (by kernel_rfl) (Nat.le_of_ble_eq_true (by kernel_rfl)) ?_
  (try (conv in (LoopInv.inv _ _) => dsimp only)); (try (conv in (SS.mk _ _) => cbv; (try dsimp only [putSpec, readnSpec, offSpec, offF, heldSpec, heldF, gapsSpec, Ty.T, Ty.dflt, KT.T]); (try simp only [natCast_eq])))
  (with_reducible refine (?_ : T1 _ ?_) ?_; rotate_left 1; (conv => lhs; cbv; (try cbv); (try cbv)); intro hT; clear hT; with_reducible refine Sh.mk (by kernel_rfl) ?_)
  repeat' (first
    | with_reducible (first | refine Ck.mk (C := tt) tt_intro ?_ | refine Ck.mk (show drawOk _ _ = true by kernel_rfl) ?_ | refine Ck.all_cons ?_ | refine Ck.all_nil ?_ | refine Ck.mk (by assumption) ?_ | refine Ck.mk (decide_eq_true (by assumption)) ?_ | refine Ck.mk (decide_eq_false (by assumption)) ?_ | refine Ck.mk ?_ ?_)
    | (with_reducible (first | refine Both.mk (fun h => ?_) (fun h => ?_) | refine Alt.mk (fun h => ?_) (fun h => ?_) | refine Pick.mk (fun h => ?_) (fun l1 x l2 h => ?_)) <;> (have hk := h) <;> (try simp only [nrm, reduceCtorEq, pair_eta, map_idL] at h) <;> (try dsimp only [putSpec, readnSpec, offSpec, offF, heldSpec, heldF, gapsSpec, Ty.T, Ty.dflt, KT.T, getM, putM, delM] at h) <;> (try simp only [natCast_eq] at h) <;> (try (have hi9 := h; have F0 := ruF hP x h)) <;> (try have F := ruF_pos hP x hi9 h) <;> (try have F := ruF_neg hP x hi9 h) <;> (try first | rw [if_pos h] at hr | rw [if_neg h] at hr | rw [ifF h] at hr | rw [ifN h] at hr) <;> (try (have hb : (_ : Bool) = _ := h; clear h; subst hb; (try first | rw [if_pos rfl] at hr | rw [if_neg Bool.false_ne_true] at hr))) <;> first | (exfalso; omega) | exact absurd (h.symm.trans (by assumption) : true = false) Bool.noConfusion | exact absurd (h.symm.trans (by assumption) : false = true) Bool.noConfusion | (with_reducible refine (?_ : T1 _ ?_) ?_; rotate_left 1; (conv => lhs; cbv; (try cbv); (try cbv)); intro hT; clear hT; with_reducible refine Sh.mk (by kernel_rfl) ?_))
    | ((with_reducible refine End.mk ?_); skip)
    | with_reducible exact True.intro)
  all_goals first
    | (fail_if_success (with_reducible refine Exists.intro ?_ ?_)
       first
         | with_reducible rfl
         | with_reducible assumption
         | (symm; with_reducible assumption)
         | omega
         | ((try dsimp only [putSpec, readnSpec, offSpec, offF, heldSpec, heldF, gapsSpec, Ty.T, Ty.dflt, KT.T, getM, putM, delM, inI64, maxRow]); first | done | with_reducible rfl | with_reducible assumption | (symm; with_reducible assumption) | ((try simp only [natCast_eq, List.nil_append]); first | done | with_reducible rfl | omega | exact take_cg (by omega) | exact drop_cg (by omega) | exact take_drop_cg (by omega) (by omega) | exact take_all (by omega) | exact take_drop_all (by omega) (by omega) | exact drop_take_cg (by omega) (by omega) (by omega)))
         | exact sto_preG h.ok
         | ((try dsimp only [putSpec, readnSpec, offSpec, offF, heldSpec, heldF, gapsSpec, Ty.T, Ty.dflt, KT.T, getM, putM, delM, inI64, maxRow]); first | (simp only [nrm, reduceCtorEq, pair_eta, map_idL, natCast_eq, inI64, maxRow]; first | done | with_reducible assumption | omega) | exact map_pair_id _)
         | ((try dsimp only [putSpec, readnSpec, offSpec, offF, heldSpec, heldF, gapsSpec, Ty.T, Ty.dflt, KT.T, getM, putM, delM, inI64, maxRow] at *); first | ((try simp only [natCast_eq] at *) <;> omega) | ((try simp only [lens, natCast_eq] at *) <;> omega))
         | assumption
         | (symm; assumption)
         | (dsimp only; simp only [nrb, *]; done)
         | (simp; done)
         | (and_intros <;> first | trivial | with_reducible assumption | omega)
         | ((try dsimp only [putSpec, readnSpec, offSpec, offF, heldSpec, heldF, gapsSpec, Ty.T, Ty.dflt, KT.T, getM, putM, delM, inI64, maxRow] at *) <;> simp [*] <;> done))
    | skip
  obtain ⟨x0, hx0, hx1, hx2⟩ := lr0 h.ok
  refine ⟨⟨LR S, fun x => ⟨[(1, Sx.one (.ptr 1 0)), (3, Sx.one (.ptr 2 0)), (4, .val (.fn 49 [.ptr 2 0, .ptr 1 0])), (10, Sx.one (.ro (.pair (.int .i64) (.int .i64)) (fun _ => gapsL S))), (11, Sx.one (.int .i64 (fun _ => (gapsL S).length))), (12, Sx.one (.int .i64 (fun _ => x.i)))],
      [.abs (.sto (fun _ => x.T)), .cells 77 [.ptr 0 0], .cells 37 [.hd 3 0], .nest 32 5 0 (fun _ => x.l) none]⟩, fun x => ((gapsL S).length - x.i).toNat, x0⟩, ?_, fun (x : LR S) => ?_⟩
  · (try (conv in (LoopInv.inv _ _) => dsimp only)); (try (conv in (SS.mk _ _) => cbv; (try dsimp only [putSpec, readnSpec, offSpec, offF, heldSpec, heldF, gapsSpec, Ty.T, Ty.dflt, KT.T]); (try simp only [natCast_eq])))
    (with_reducible refine (?_ : T1 _ ?_) ?_; rotate_left 1; (conv => lhs; cbv; (try cbv); (try cbv)); intro hT; clear hT; with_reducible refine Sh.mk (by kernel_rfl) ?_)
    repeat' (first
      | with_reducible (first | refine Ck.mk (C := tt) tt_intro ?_ | refine Ck.mk (show drawOk _ _ = true by kernel_rfl) ?_ | refine Ck.all_cons ?_ | refine Ck.all_nil ?_ | refine Ck.mk (by assumption) ?_ | refine Ck.mk (decide_eq_true (by assumption)) ?_ | refine Ck.mk (decide_eq_false (by assumption)) ?_ | refine Ck.mk ?_ ?_)
      | (with_reducible (first | refine Both.mk (fun h => ?_) (fun h => ?_) | refine Alt.mk (fun h => ?_) (fun h => ?_) | refine Pick.mk (fun h => ?_) (fun l1 x l2 h => ?_)) <;> (have hk := h) <;> (try simp only [nrm, reduceCtorEq, pair_eta, map_idL] at h) <;> (try dsimp only [putSpec, readnSpec, offSpec, offF, heldSpec, heldF, gapsSpec, Ty.T, Ty.dflt, KT.T, getM, putM, delM] at h) <;> (try simp only [natCast_eq] at h) <;> (try (have hi9 := h; have F0 := ruF hP x h)) <;> (try have F := ruF_pos hP x hi9 h) <;> (try have F := ruF_neg hP x hi9 h) <;> (try first | rw [if_pos h] at hr | rw [if_neg h] at hr | rw [ifF h] at hr | rw [ifN h] at hr) <;> (try (have hb : (_ : Bool) = _ := h; clear h; subst hb; (try first | rw [if_pos rfl] at hr | rw [if_neg Bool.false_ne_true] at hr))) <;> first | (exfalso; omega) | exact absurd (h.symm.trans (by assumption) : true = false) Bool.noConfusion | exact absurd (h.symm.trans (by assumption) : false = true) Bool.noConfusion | (with_reducible refine (?_ : T1 _ ?_) ?_; rotate_left 1; (conv => lhs; cbv; (try cbv); (try cbv)); intro hT; clear hT; with_reducible refine Sh.mk (by kernel_rfl) ?_))
      | ((with_reducible refine End.mk ?_); skip)
      | with_reducible exact True.intro)
    all_goals first
      | (fail_if_success (with_reducible refine Exists.intro ?_ ?_)
         first
           | with_reducible rfl
           | with_reducible assumption
           | (symm; with_reducible assumption)
           | omega
           | ((try dsimp only [putSpec, readnSpec, offSpec, offF, heldSpec, heldF, gapsSpec, Ty.T, Ty.dflt, KT.T, getM, putM, delM, inI64, maxRow]); first | done | with_reducible rfl | with_reducible assumption | (symm; with_reducible assumption) | ((try simp only [natCast_eq, List.nil_append]); first | done | with_reducible rfl | omega | exact take_cg (by omega) | exact drop_cg (by omega) | exact take_drop_cg (by omega) (by omega) | exact take_all (by omega) | exact take_drop_all (by omega) (by omega) | exact drop_take_cg (by omega) (by omega) (by omega)))
           | ((try dsimp only [putSpec, readnSpec, offSpec, offF, heldSpec, heldF, gapsSpec, Ty.T, Ty.dflt, KT.T, getM, putM, delM, inI64, maxRow]); first | (simp only [nrm, reduceCtorEq, pair_eta, map_idL, natCast_eq, inI64, maxRow]; first | done | with_reducible assumption | omega) | exact map_pair_id _)
           | ((try dsimp only [putSpec, readnSpec, offSpec, offF, heldSpec, heldF, gapsSpec, Ty.T, Ty.dflt, KT.T, getM, putM, delM, inI64, maxRow] at *); first | ((try simp only [natCast_eq] at *) <;> omega) | ((try simp only [lens, natCast_eq] at *) <;> omega))
           | assumption
           | (symm; assumption)
           | (dsimp only; simp only [nrb, *]; done)
           | (simp; done)
           | (and_intros <;> first | trivial | with_reducible assumption | omega)
           | ((try dsimp only [putSpec, readnSpec, offSpec, offF, heldSpec, heldF, gapsSpec, Ty.T, Ty.dflt, KT.T, getM, putM, delM, inI64, maxRow] at *) <;> simp [*] <;> done))
      | skip
  have hT := x.cut.ok
  have hlo := x.lo
  have hhi := x.hi
  (try (conv in (LoopInv.inv _ _) => dsimp only)); (try (conv in (SS.mk _ _) => cbv; (try dsimp only [putSpec, readnSpec, offSpec, offF, heldSpec, heldF, gapsSpec, Ty.T, Ty.dflt, KT.T]); (try simp only [natCast_eq])))
  (with_reducible refine (?_ : T1 _ ?_) ?_; rotate_left 1; (conv => lhs; cbv; (try cbv); (try cbv)); intro hT; clear hT; with_reducible refine Sh.mk (by kernel_rfl) ?_)
  repeat' (first
    | with_reducible (first | refine Ck.mk (C := tt) tt_intro ?_ | refine Ck.mk (show drawOk _ _ = true by kernel_rfl) ?_ | refine Ck.all_cons ?_ | refine Ck.all_nil ?_ | refine Ck.mk (by assumption) ?_ | refine Ck.mk (decide_eq_true (by assumption)) ?_ | refine Ck.mk (decide_eq_false (by assumption)) ?_ | refine Ck.mk ?_ ?_)
    | (with_reducible (first | refine Both.mk (fun h => ?_) (fun h => ?_) | refine Alt.mk (fun h => ?_) (fun h => ?_) | refine Pick.mk (fun h => ?_) (fun l1 x l2 h => ?_)) <;> (have hk := h) <;> (try simp only [nrm, reduceCtorEq, pair_eta, map_idL] at h) <;> (try dsimp only [putSpec, readnSpec, offSpec, offF, heldSpec, heldF, gapsSpec, Ty.T, Ty.dflt, KT.T, getM, putM, delM] at h) <;> (try simp only [natCast_eq] at h) <;> (try (have hi9 := h; have F0 := ruF hP x h)) <;> (try have F := ruF_pos hP x hi9 h) <;> (try have F := ruF_neg hP x hi9 h) <;> (try first | rw [if_pos h] at hr | rw [if_neg h] at hr | rw [ifF h] at hr | rw [ifN h] at hr) <;> (try (have hb : (_ : Bool) = _ := h; clear h; subst hb; (try first | rw [if_pos rfl] at hr | rw [if_neg Bool.false_ne_true] at hr))) <;> first | (exfalso; omega) | exact absurd (h.symm.trans (by assumption) : true = false) Bool.noConfusion | exact absurd (h.symm.trans (by assumption) : false = true) Bool.noConfusion | (with_reducible refine (?_ : T1 _ ?_) ?_; rotate_left 1; (conv => lhs; cbv; (try cbv); (try cbv)); intro hT; clear hT; with_reducible refine Sh.mk (by kernel_rfl) ?_))
    | ((with_reducible refine End.mk ?_); skip)
    | with_reducible exact True.intro)
  all_goals first
    | (fail_if_success (with_reducible refine Exists.intro ?_ ?_)
       first
         | with_reducible rfl
         | with_reducible assumption
         | (symm; with_reducible assumption)
         | omega
         | ((try dsimp only [putSpec, readnSpec, offSpec, offF, heldSpec, heldF, gapsSpec, Ty.T, Ty.dflt, KT.T, getM, putM, delM, inI64, maxRow]); first | done | with_reducible rfl | with_reducible assumption | (symm; with_reducible assumption) | ((try simp only [natCast_eq, List.nil_append]); first | done | with_reducible rfl | omega | exact take_cg (by omega) | exact drop_cg (by omega) | exact take_drop_cg (by omega) (by omega) | exact take_all (by omega) | exact take_drop_all (by omega) (by omega) | exact drop_take_cg (by omega) (by omega) (by omega)))
         | first | exact ru_i1 F0 hT | exact ru_i2 F0 hT | exact ⟨Nat.zero_lt_one, ru_len hP x⟩ | exact ru_len hP x | exact hT.pre | exact ru_mk F h | exact ru_put F h | exact (F.sto h).pre | exact ru_ix hP x
         | ((try dsimp only [putSpec, readnSpec, offSpec, offF, heldSpec, heldF, gapsSpec, Ty.T, Ty.dflt, KT.T, getM, putM, delM, inI64, maxRow]); first | (simp only [nrm, reduceCtorEq, pair_eta, map_idL, natCast_eq, inI64, maxRow]; first | done | with_reducible assumption | omega) | exact map_pair_id _)
         | ((try dsimp only [putSpec, readnSpec, offSpec, offF, heldSpec, heldF, gapsSpec, Ty.T, Ty.dflt, KT.T, getM, putM, delM, inI64, maxRow] at *); first | ((try simp only [natCast_eq] at *) <;> omega) | ((try simp only [lens, natCast_eq] at *) <;> omega))
         | assumption
         | (symm; assumption)
         | (dsimp only; simp only [nrb, *]; done)
         | (simp; done)
         | (and_intros <;> first | trivial | with_reducible assumption | omega)
         | ((try dsimp only [putSpec, readnSpec, offSpec, offF, heldSpec, heldF, gapsSpec, Ty.T, Ty.dflt, KT.T, getM, putM, delM, inI64, maxRow] at *) <;> simp [*] <;> done))
    | skip
  all_goals
    (first
      | (refine ⟨[0, 3], by decide, ?_⟩; cbv)
      | (obtain ⟨y, hy0, hy1, hy2⟩ := F.nx h
         refine ⟨y, by dsimp only; (try simp only [natCast_eq]); omega, ?_⟩))
  repeat' (first | refine Ck.mk trivial ?_ | refine Ck.mk (by assumption) ?_ | refine Ck.mk ?_ ?_ | refine End.mk ?_ | exact trivial)
  all_goals first
    | (fail_if_success (with_reducible refine Exists.intro ?_ ?_)
       first
         | with_reducible rfl
         | with_reducible assumption
         | (symm; with_reducible assumption)
         | omega
         | ((try dsimp only [putSpec, readnSpec, offSpec, offF, heldSpec, heldF, gapsSpec, Ty.T, Ty.dflt, KT.T, getM, putM, delM, inI64, maxRow]); first | done | with_reducible rfl | with_reducible assumption | (symm; with_reducible assumption) | ((try simp only [natCast_eq, List.nil_append]); first | done | with_reducible rfl | omega | exact take_cg (by omega) | exact drop_cg (by omega) | exact take_drop_cg (by omega) (by omega) | exact take_all (by omega) | exact take_drop_all (by omega) (by omega) | exact drop_take_cg (by omega) (by omega) (by omega)))
         | first | exact congrArg Prod.fst ((F.end_ (by assumption)).trans hr) | exact congrArg Prod.snd ((F.end_ (by assumption)).trans hr) | exact congrArg Prod.fst ((rd_pos h).symm.trans ((ru_done x (by assumption)).trans hr)) | exact congrArg Prod.snd ((rd_pos h).symm.trans ((ru_done x (by assumption)).trans hr)) | exact congrArg Prod.fst ((rd_neg h).symm.trans ((ru_done x (by assumption)).trans hr)) | exact congrArg Prod.snd ((rd_neg h).symm.trans ((ru_done x (by assumption)).trans hr)) | exact (map_seg_id _).trans ((congrArg (x.l ++ ·) (map_seg_id _)).trans (congrArg Prod.fst ((F.end_ (by assumption)).trans hr))) | exact (map_seg_id _).trans (congrArg Prod.fst ((F.end_ (by assumption)).trans hr)) | exact (map_seg_id _).trans ((congrArg (x.l ++ ·) (map_seg_id _)).trans (congrArg Prod.fst ((rd_pos h).symm.trans ((ru_done x (by assumption)).trans hr)))) | exact (map_seg_id _).trans (congrArg Prod.fst ((rd_pos h).symm.trans ((ru_done x (by assumption)).trans hr))) | exact (map_seg_id _).trans ((congrArg (x.l ++ ·) (map_seg_id _)).trans (congrArg Prod.fst ((rd_neg h).symm.trans ((ru_done x (by assumption)).trans hr)))) | exact (map_seg_id _).trans (congrArg Prod.fst ((rd_neg h).symm.trans ((ru_done x (by assumption)).trans hr))) | exact hy1.symm | exact hy2.symm
         | ((try dsimp only [putSpec, readnSpec, offSpec, offF, heldSpec, heldF, gapsSpec, Ty.T, Ty.dflt, KT.T, getM, putM, delM, inI64, maxRow]); first | (simp only [nrm, reduceCtorEq, pair_eta, map_idL, natCast_eq, inI64, maxRow]; first | done | with_reducible assumption | omega) | exact map_pair_id _)
         | ((try dsimp only [putSpec, readnSpec, offSpec, offF, heldSpec, heldF, gapsSpec, Ty.T, Ty.dflt, KT.T, getM, putM, delM, inI64, maxRow] at *); first | ((try simp only [natCast_eq] at *) <;> omega) | ((try simp only [lens, natCast_eq] at *) <;> omega))
         | assumption
         | (symm; assumption)
         | (dsimp only; simp only [nrb, *]; done)
         | (simp; done)
         | (and_intros <;> first | trivial | with_reducible assumption | omega)
         | ((try dsimp only [putSpec, readnSpec, offSpec, offF, heldSpec, heldF, gapsSpec, Ty.T, Ty.dflt, KT.T, getM, putM, delM, inI64, maxRow] at *) <;> simp [*] <;> done))
    | skip
theorem runn_sound : ConSound Try.prog AI 42 runnSpec.con := NestMeth.sound Try.call42 ⟨fun a W h => by cases a <;> cases h; rfl, fun W x h => runn_ok W h⟩
end Go.Proofs.Ytgdiepbjdpmfbaa
