/-
  stream.Writer: Tick.
-/
import Derived.Test.YtebhcmgfhkjmcaaWri
namespace Go.Proofs.Ytebhcmgfhkjmcaa
set_option linter.all false
set_option linter.unusedVariables false
set_option linter.unusedSimpArgs false
set_option linter.unusedSectionVars false
open Go.RowKit Go.Sx
set_option maxRecDepth 100000
set_option maxHeartbeats 16000000

def cloneSpec : RowSpec := ⟨[.lst (.int .u8)], 5, .int .u8, fun (x : List Int × Unit) => x.1.length ≤ maxRow, fun (x : List Int × Unit) => x.1⟩
theorem clone_ok (l : List Int) (h : cloneSpec.pre (l, ())) : TmplOk Try.prog AI 44 (argS cloneSpec.ds (fun _ => (l, ()))) [] (Sx.one (.hd 0 0)) [.row cloneSpec.et cloneSpec.e 0 (fun _ => cloneSpec.f (l, ()))] := by
  dsimp only [cloneSpec, maxRow] at h ⊢
  refine tmpl_of_body e0Ok mixed (fn := Try.f44) (c := bodyOf Try.f44) (by kernel_rfl) (by kernel_rfl) (by kernel_rfl) (Nat.le_of_ble_eq_true (by kernel_rfl)) ?_
  (try (conv in (LoopInv.inv _ _) => dsimp only)); (try (conv in (SS.mk _ _) => cbv; (try dsimp only [Ty.T, Ty.dflt, KT.T]); (try simp only [natCast_eq])))
  (with_reducible refine (?_ : T1 _ ?_) ?_; rotate_left 1; (conv => lhs; cbv; (try cbv); (try cbv)); intro hT; clear hT; with_reducible refine Sh.mk (by kernel_rfl) ?_)
  repeat' (first
    | with_reducible (first | refine Ck.mk (C := tt) tt_intro ?_ | refine Ck.mk (show drawOk _ _ = true by kernel_rfl) ?_ | refine Ck.all_cons ?_ | refine Ck.all_nil ?_ | refine Ck.mk (by assumption) ?_ | refine Ck.mk (decide_eq_true (by assumption)) ?_ | refine Ck.mk (decide_eq_false (by assumption)) ?_ | refine Ck.mk ?_ ?_)
    | (with_reducible (first | refine Both.mk (fun h => ?_) (fun h => ?_) | refine Alt.mk (fun h => ?_) (fun h => ?_) | refine Pick.mk (fun h => ?_) (fun l1 x l2 h => ?_)) <;> (have hk := h) <;> (try simp only [nrm, reduceCtorEq, pair_eta, map_idL] at h) <;> (try dsimp only [Ty.T, Ty.dflt, KT.T, getM, putM, delM] at h) <;> (try simp only [natCast_eq] at h) <;> skip <;> (try first | rw [if_pos h] at hr | rw [if_neg h] at hr | rw [ifF h] at hr | rw [ifN h] at hr) <;> (try (have hb : (_ : Bool) = _ := h; clear h; subst hb; (try first | rw [if_pos rfl] at hr | rw [if_neg Bool.false_ne_true] at hr))) <;> first | (exfalso; omega) | exact absurd (h.symm.trans (by assumption) : true = false) Bool.noConfusion | exact absurd (h.symm.trans (by assumption) : false = true) Bool.noConfusion | (with_reducible refine (?_ : T1 _ ?_) ?_; rotate_left 1; (conv => lhs; cbv; (try cbv); (try cbv)); intro hT; clear hT; with_reducible refine Sh.mk (by kernel_rfl) ?_))
    | ((with_reducible refine End.mk ?_); skip)
    | with_reducible exact True.intro)
  all_goals (try dsimp only [cloneSpec, Ty.size] at *)
  all_goals first | (simp; done) | (simp only [List.length_nil, Nat.zero_add, maxRow]; omega) | (simp_all)
theorem clone_sound : ConSound Try.prog AI 44 cloneSpec.con := RowSpec.sound Try.call44 (fun x h => clone_ok x.1 h) rfl
noncomputable abbrev E2 : Env Ab := ⟨tis, [(44, cloneSpec.con)] ++ E0.con⟩
theorem e2Ok : EnvOk Try.prog AI E2 := (e0Ok.add clone_sound)
theorem send_inl : ConSound Try.prog AI 35 (inl E2 Try.f35 6) := inl_sound e2Ok mixed (fn := Try.f35) (c := bodyOf Try.f35) Try.call35 (by kernel_rfl) (by kernel_rfl) (by kernel_rfl) 6
noncomputable abbrev E3 : Env Ab := ⟨tis, [(35, inl E2 Try.f35 6)] ++ E2.con⟩
theorem e3Ok : EnvOk Try.prog AI E3 := (e2Ok.add send_inl)

abbrev Seg := Int × List Int × Bool
def sendW (W : Wri) (n : Int) (last : Bool) : Wri := { W with next := W.next + n, top := max W.top (W.next + n), idle := 0, ended := if last = true then true else W.ended, marked := if last = true then true else W.marked }
def segW (W : Wri) (n : Int) (d : Bool) : Seg := (W.next, (W.data.drop (W.next - W.base).toNat).take n.toNat, d)
abbrev TickR := Tup [DT.cell (.pair (.int .i64) (.pair .bytes .bool)), .cell .bool] × Wri
abbrev tickN (W : Wri) (m : Int) : Int := min (min m (W.taken - W.next)) (W.base + W.room - W.next)
def tickIdle (W : Wri) : TickR :=
  if W.idle + 1 < W.tmo then (((0, [], false), false, ()), { W with idle := W.idle + 1 })
  else if W.base < W.next then (((0, [], false), false, ()), { W with idle := 0, next := W.base, ended := false })
  else if W.ended = true then (((0, [], false), false, ()), { W with idle := 0, next := W.base, ended := false })
  else (((W.base, [], false), true, ()), { W with idle := 0 })
def tickB (W : Wri) : TickR :=
  if W.base = W.next then (if W.next = W.taken then (if W.ended = false then (((0, [], false), false, ()), W) else if W.fin = true then (((0, [], false), false, ()), W) else tickIdle W) else tickIdle W) else tickIdle W
def tickA (W : Wri) : TickR :=
  if W.closed = true then (if W.next = W.taken then (if W.ended = false then (if W.fin = false then ((segW W 0 true, true, ()), sendW W 0 true) else tickB W) else tickB W) else tickB W) else tickB W
def tick (W : Wri) (m : Int) : TickR :=
  if m < 1 then (((0, [], false), false, ()), W)
  else if W.next < W.taken then (if W.next < W.base + W.room then
    (if W.closed = true then (if W.next + tickN W m = W.taken then ((segW W (tickN W m) true, true, ()), sendW W (tickN W m) true) else ((segW W (tickN W m) false, true, ()), sendW W (tickN W m) false)) else ((segW W (tickN W m) false, true, ()), sendW W (tickN W m) false)) else tickA W) else tickA W
def tickSpec : MethSpec Ab := ⟨Wri, selW, .wri, false, [.cell (.int .i64)], fun S (x : Int × Unit) => OkW S, [.cell (.pair (.int .i64) (.pair .bytes .bool)), .cell .bool], fun S (x : Int × Unit) => (tick S x.1).1, fun S (x : Int × Unit) => (tick S x.1).2⟩
theorem tick_ok (S : Wri) (m : Int) (h : tickSpec.pre S (m, ())) : TmplOk Try.prog AI 16 (Sx.one (.ptr 0 0) :: argS tickSpec.ds (fun _ => (m, ()))) [.abs (tickSpec.put (fun _ => S))] (resOf (svs tickSpec.rs (fun _ => tickSpec.f S (m, ())))) [.abs (tickSpec.put (fun _ => tickSpec.next S (m, ())))] := by
  dsimp only [tickSpec] at h ⊢
  generalize hr : tick S m = r
  obtain ⟨⟨h1, h2⟩, ⟨h3, h4⟩, h5, h6, h7, h8, ⟨h9, h10⟩, ⟨h11, h12⟩, ⟨h13, h14⟩, h15, h16⟩ := h
  dsimp only [tick, tickA, tickB, tickIdle, segW, sendW, tickN, cloneSpec] at hr
  refine tmpl_obj e3Ok mixed (fn := Try.f16) (c := bodyOf Try.f16) (by kernel_rfl) (by kernel_rfl) (by kernel_rfl) (Nat.le_of_ble_eq_true (by kernel_rfl)) (layOk _) (layOk _) rfl rfl (resOf_closed (svs_closed _ _)) ?_
  (try (conv in (LoopInv.inv _ _) => dsimp only)); (try (conv in (SS.mk _ _) => cbv; (try dsimp only [Ty.T, Ty.dflt, KT.T]); (try simp only [natCast_eq])))
  (with_reducible refine (?_ : T1 _ ?_) ?_; rotate_left 1; (conv => lhs; cbv; (try cbv); (try cbv)); intro hT; clear hT; with_reducible refine Sh.mk (by kernel_rfl) ?_)
  repeat' (first
    | with_reducible (first | refine Ck.mk (C := tt) tt_intro ?_ | refine Ck.mk (show drawOk _ _ = true by kernel_rfl) ?_ | refine Ck.all_cons ?_ | refine Ck.all_nil ?_ | refine Ck.mk (by assumption) ?_ | refine Ck.mk (decide_eq_true (by assumption)) ?_ | refine Ck.mk (decide_eq_false (by assumption)) ?_ | refine Ck.mk ?_ ?_)
    | (with_reducible (first | refine Both.mk (fun h => ?_) (fun h => ?_) | refine Alt.mk (fun h => ?_) (fun h => ?_) | refine Pick.mk (fun h => ?_) (fun l1 x l2 h => ?_)) <;> (have hk := h) <;> (try simp only [nrm, reduceCtorEq, pair_eta, map_idL] at h) <;> (try dsimp only [Ty.T, Ty.dflt, KT.T, getM, putM, delM] at h) <;> (try simp only [natCast_eq] at h) <;> skip <;> (try first | rw [if_pos h] at hr | rw [if_neg h] at hr | rw [ifF h] at hr | rw [ifN h] at hr) <;> (try (have hb : (_ : Bool) = _ := h; clear h; subst hb; (try first | rw [if_pos rfl] at hr | rw [if_neg Bool.false_ne_true] at hr))) <;> first | (exfalso; omega) | exact absurd (h.symm.trans (by assumption) : true = false) Bool.noConfusion | exact absurd (h.symm.trans (by assumption) : false = true) Bool.noConfusion | (with_reducible refine (?_ : T1 _ ?_) ?_; rotate_left 1; (conv => lhs; cbv; (try cbv); (try cbv)); intro hT; clear hT; with_reducible refine Sh.mk (by kernel_rfl) ?_))
    | ((with_reducible refine End.mk ?_); (try ((repeat (first | rw [if_pos (by first | assumption | omega)] at hr | rw [if_neg (by first | assumption | omega | (simp only [Bool.false_eq_true, Bool.true_eq_false, reduceCtorEq, not_false_eq_true]; done) | (simp only [Bool.not_eq_true]; assumption) | (simp only [Bool.not_eq_false]; assumption))] at hr | rw [if_pos rfl] at hr)); subst hr)))
    | with_reducible exact True.intro)
  all_goals first
    | (fail_if_success (with_reducible refine Exists.intro ?_ ?_)
       first
         | with_reducible rfl
         | with_reducible assumption
         | (symm; with_reducible assumption)
         | omega
         | ((try dsimp only [Ty.T, Ty.dflt, KT.T, getM, putM, delM, inI64, maxRow]); first | done | with_reducible rfl | with_reducible assumption | (symm; with_reducible assumption) | ((try simp only [natCast_eq, List.nil_append]); first | done | with_reducible rfl | omega | exact take_cg (by omega) | exact drop_cg (by omega) | exact take_drop_cg (by omega) (by omega) | exact take_all (by omega) | exact take_drop_all (by omega) (by omega) | exact drop_take_cg (by omega) (by omega) (by omega)))
         | ((try dsimp only [Ty.T, Ty.dflt, KT.T, getM, putM, delM, inI64, maxRow]); first | (simp only [nrm, reduceCtorEq, pair_eta, map_idL, natCast_eq, inI64, maxRow]; first | done | with_reducible assumption | omega) | exact map_pair_id _)
         | ((try dsimp only [Ty.T, Ty.dflt, KT.T, getM, putM, delM, inI64, maxRow] at *); first | ((try simp only [natCast_eq] at *) <;> omega) | ((try simp only [lens, natCast_eq] at *) <;> omega))
         | assumption
         | (symm; assumption)
         | (dsimp only; simp only [nrb, *]; done)
         | (simp; done)
         | (and_intros <;> first | trivial | with_reducible assumption | omega)
         | ((try dsimp only [Ty.T, Ty.dflt, KT.T, getM, putM, delM, inI64, maxRow] at *) <;> simp [*] <;> done))
    | skip
theorem tick_sound : ConSound Try.prog AI 16 tickSpec.con := MethSpec.sound Try.call16 ⟨fun a W h => by cases a <;> cases h; rfl, (fun h => by cases h), fun W x h => tick_ok W x.1 h⟩
end Go.Proofs.Ytebhcmgfhkjmcaa
