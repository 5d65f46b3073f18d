/-
  Layer 47: an end of a session: Tick, Receive.
-/
import Derived.Test.YtldabjgegpmmiaaSes
namespace Go.Proofs.Ytldabjgegpmmiaa
set_option linter.all false
set_option linter.unusedVariables false
set_option linter.unusedSimpArgs false
set_option linter.unusedSectionVars false
open Go.RowKit Go.Sx
set_option maxRecDepth 100000
set_option maxHeartbeats 16000000
abbrev TL := Tup [DT.lst msgE]
abbrev TLI := Tup [DT.lst msgE, DT.cell (.int .i64)]
abbrev helloM (E : Edd) : Msg := (1, E.inc, E.peer, (0, [], false), 0, 0, false)
abbrev dataM (E : Edd) (s : Seg) : Msg := (3, E.inc, E.peer, s, 0, 0, false)
abbrev cfmM (E : Edd) : Msg := (4, E.inc, E.peer, (0, [], false), (rackF E.r).1, (rackF E.r).2.1, (rackF E.r).2.2.1)
def etkF (E : Edd) (m : Int) : TL × Edd :=
  if E.st = 1 then (if E.wait = 0 then (([helloM E], ()), { E with wait := E.tmo - 1 }) else (([], ()), { E with wait := E.wait - 1 }))
  else if E.st = 2 then
    (if ((tick E.w m).1.2.1 : Bool) = true then
      (if E.owed = true then (([dataM E (tick E.w m).1.1, cfmM E], ()), { E with w := (tick E.w m).2, owed := false }) else (([dataM E (tick E.w m).1.1], ()), { E with w := (tick E.w m).2 }))
    else (if E.owed = true then (([cfmM E], ()), { E with w := (tick E.w m).2, owed := false }) else (([], ()), { E with w := (tick E.w m).2 })))
  else if E.owed = true then (if E.st = 4 then (([cfmM E], ()), { E with owed := false }) else (([], ()), E)) else (([], ()), E)
theorem tkc_inl : ConSound Try.prog AI 44 (inl E0 Try.f44 2) := inl_sound e0Ok mixed (fn := Try.f44) (c := bodyOf Try.f44) Try.call44 (by kernel_rfl) (by kernel_rfl) (by kernel_rfl) 2
noncomputable abbrev Et1 : Env Ab := ⟨tis, [(44, inl E0 Try.f44 2), (46, rackSpec.con), (45, tickSpec.con)] ++ E0.con⟩
theorem et1Ok : EnvOk Try.prog AI Et1 := (((e0Ok.add tick_sound).add rack_sound).add tkc_inl)
def etkSpec : MethSpec Ab := ⟨Edd, selE, .edd, false, [.cell (.int .i64)], fun S (x : Int × Unit) => OkE S, [.lst msgE], fun S (x : Int × Unit) => (etkF S x.1).1, fun S (x : Int × Unit) => (etkF S x.1).2⟩
theorem etk_ok (S : Edd) (m : Int) (h : etkSpec.pre S (m, ())) : TmplOk Try.prog AI 20 (Sx.one (.ptr 0 0) :: argS etkSpec.ds (fun _ => (m, ()))) [.abs (etkSpec.put (fun _ => S))] (resOf (svs etkSpec.rs (fun _ => etkSpec.f S (m, ())))) [.abs (etkSpec.put (fun _ => etkSpec.next S (m, ())))] := by
  dsimp only [etkSpec] at h ⊢
  generalize hr : etkF S m = r
  obtain ⟨h1, h2, h3, ⟨h4, h5⟩, h6, h7⟩ := h
  dsimp only [etkF, helloM, dataM, cfmM, rackF] at hr
  refine tmpl_obj et1Ok mixed (fn := Try.f20) (c := bodyOf Try.f20) (by kernel_rfl) (by kernel_rfl) (by kernel_rfl) (Nat.le_of_ble_eq_true (by kernel_rfl)) (layOk _) (layOk _) rfl rfl (resOf_closed (svs_closed _ _)) ?_
  (try (conv in (LoopInv.inv _ _) => dsimp only)); (try (conv in (SS.mk _ _) => cbv; (try dsimp only [tickSpec, rackSpec, rackF, Ty.T, Ty.dflt, KT.T]); (try simp only [natCast_eq])))
  (with_reducible refine (?_ : T1 _ ?_) ?_; rotate_left 1; (conv => lhs; cbv; (try cbv); (try cbv)); intro hT; clear hT; with_reducible refine Sh.mk (by kernel_rfl) ?_)
  repeat' (first
    | with_reducible (first | refine Ck.mk (C := tt) tt_intro ?_ | refine Ck.mk (show drawOk _ _ = true by kernel_rfl) ?_ | refine Ck.all_cons ?_ | refine Ck.all_nil ?_ | refine Ck.mk (by assumption) ?_ | refine Ck.mk (decide_eq_true (by assumption)) ?_ | refine Ck.mk (decide_eq_false (by assumption)) ?_ | refine Ck.mk ?_ ?_)
    | (with_reducible (first | refine Both.mk (fun h => ?_) (fun h => ?_) | refine Alt.mk (fun h => ?_) (fun h => ?_) | refine Pick.mk (fun h => ?_) (fun l1 x l2 h => ?_)) <;> (have hk := h) <;> (try simp only [nrm, reduceCtorEq, pair_eta, map_idL] at h) <;> (try dsimp only [tickSpec, rackSpec, rackF, Ty.T, Ty.dflt, KT.T, getM, putM, delM] at h) <;> (try simp only [natCast_eq] at h) <;> skip <;> (try first | rw [if_pos h] at hr | rw [if_neg h] at hr | rw [ifF h] at hr | rw [ifN h] at hr) <;> (try (have hb : (_ : Bool) = _ := h; clear h; subst hb; (try first | rw [if_pos rfl] at hr | rw [if_neg Bool.false_ne_true] at hr))) <;> first | (exfalso; omega) | exact absurd (h.symm.trans (by assumption) : true = false) Bool.noConfusion | exact absurd (h.symm.trans (by assumption) : false = true) Bool.noConfusion | (with_reducible refine (?_ : T1 _ ?_) ?_; rotate_left 1; (conv => lhs; cbv; (try cbv); (try cbv)); intro hT; clear hT; with_reducible refine Sh.mk (by kernel_rfl) ?_))
    | ((with_reducible refine End.mk ?_); (try ((repeat (first | rw [if_pos (by first | assumption | omega)] at hr | rw [if_neg (by first | assumption | omega | (simp only [Bool.false_eq_true, Bool.true_eq_false, reduceCtorEq, not_false_eq_true]; done) | (simp only [Bool.not_eq_true]; assumption) | (simp only [Bool.not_eq_false]; assumption))] at hr | rw [if_pos rfl] at hr)); subst hr)))
    | with_reducible exact True.intro)
  all_goals first
    | (fail_if_success (with_reducible refine Exists.intro ?_ ?_)
       first
         | with_reducible rfl
         | with_reducible assumption
         | (symm; with_reducible assumption)
         | omega
         | ((try dsimp only [tickSpec, rackSpec, rackF, Ty.T, Ty.dflt, KT.T, getM, putM, delM, inI64, maxRow]); first | done | with_reducible rfl | with_reducible assumption | (symm; with_reducible assumption) | ((try simp only [natCast_eq, List.nil_append]); first | done | with_reducible rfl | omega | exact take_cg (by omega) | exact drop_cg (by omega) | exact take_drop_cg (by omega) (by omega) | exact take_all (by omega) | exact take_drop_all (by omega) (by omega) | exact drop_take_cg (by omega) (by omega) (by omega)))
         | first | exact h1 | exact ⟨h2, h3⟩ | ((try dsimp only); (try simp only [pair_eta, map_idL]); done) | ((try dsimp only); (try simp only [pair_eta, map_idL]); rfl)
         | ((try dsimp only [tickSpec, rackSpec, rackF, Ty.T, Ty.dflt, KT.T, getM, putM, delM, inI64, maxRow]); first | (simp only [nrm, reduceCtorEq, pair_eta, map_idL, natCast_eq, inI64, maxRow]; first | done | with_reducible assumption | omega) | exact map_pair_id _)
         | ((try dsimp only [tickSpec, rackSpec, rackF, Ty.T, Ty.dflt, KT.T, getM, putM, delM, inI64, maxRow] at *); first | ((try simp only [natCast_eq] at *) <;> omega) | ((try simp only [lens, natCast_eq] at *) <;> omega))
         | assumption
         | (symm; assumption)
         | (dsimp only; simp only [nrb, *]; done)
         | (simp; done)
         | (and_intros <;> first | trivial | with_reducible assumption | omega)
         | ((try dsimp only [tickSpec, rackSpec, rackF, Ty.T, Ty.dflt, KT.T, getM, putM, delM, inI64, maxRow] at *) <;> simp [*] <;> done))
    | skip
theorem etk_sound : ConSound Try.prog AI 20 etkSpec.con := MethSpec.sound Try.call20 ⟨fun a W h => by cases a <;> cases h; rfl, (fun h => by cases h), fun W x h => etk_ok W x.1 h⟩
abbrev noM (E : Edd) (n : Int) : TLI × Edd := (([], n, ()), E)
abbrev refu (i k mi n : Int) (E : Edd) : TLI × Edd := if k = 5 then (([], n, ()), E) else (([(5, i, mi, (0, [], false), 0, 0, false)], n, ()), E)
abbrev refuL (E : Edd) (k mi n : Int) : TLI × Edd := if E.st = 4 then refu E.inc k mi n { E with peer := mi } else refu E.inc k mi n { E with peer := mi, st := 3 }
abbrev setA (E : Edd) (n s : Int) (W : Wri) (p : Int) : TLI × Edd :=
  if s = 2 then (if W.fin = true then (if E.ended = true then (([], n, ()), { E with w := W, st := 4, peer := p }) else (([], n, ()), { E with w := W, st := s, peer := p })) else (([], n, ()), { E with w := W, st := s, peer := p })) else (([], n, ()), { E with w := W, st := s, peer := p })
abbrev takE (E : Edd) (s p k : Int) (g : Seg) (o r : Int) (d : Bool) : TLI × Edd :=
  if k = 3 then (if ((rcvF E.r g.1 g.2.1 g.2.2).1.1 : Int) = 0 then (([], (rcvF E.r g.1 g.2.1 g.2.2).1.1, ()), { E with r := (rcvF E.r g.1 g.2.1 g.2.2).2, owed := true, st := s, peer := p }) else (([], (rcvF E.r g.1 g.2.1 g.2.2).1.1, ()), { E with r := (rcvF E.r g.1 g.2.1 g.2.2).2, st := s, peer := p }))
  else if k = 4 then setA E (ackF E.w o r d).1.1 s (ackF E.w o r d).2 p
  else (([], 0, ()), { E with st := s, peer := p })
abbrev erc2 (E : Edd) (m : Msg) : TLI × Edd :=
  if E.st = 0 then noM E 6
  else if m.1 = 5 then (if E.st = 4 then noM { E with peer := m.2.1 } 0 else noM { E with peer := m.2.1, st := 3 } 0)
  else if E.st = 1 then takE E 2 m.2.1 m.1 m.2.2.2.1 m.2.2.2.2.1 m.2.2.2.2.2.1 m.2.2.2.2.2.2
  else takE E E.st E.peer m.1 m.2.2.2.1 m.2.2.2.2.1 m.2.2.2.2.2.1 m.2.2.2.2.2.2
abbrev erc1 (E : Edd) (m : Msg) : TLI × Edd :=
  if E.st = 3 then refu E.inc m.1 m.2.1 14 E
  else if m.1 = 1 then (if E.peer = 0 then (([(2, E.inc, m.2.1, (0, [], false), 0, 0, false)], 0, ()), { E with peer := m.2.1, st := 2 }) else (([(2, E.inc, m.2.1, (0, [], false), 0, 0, false)], 0, ()), E))
  else if m.2.2.1 = E.inc then erc2 E m else refu E.inc m.1 m.2.1 17 E
def ercF (E : Edd) (m : Msg) : TLI × Edd :=
  if m.1 < 1 then noM E 16 else if 5 < m.1 then noM E 16
  else if m.2.1 < 1 then noM E 2 else if 1099511627776 ≤ m.2.1 then noM E 2 else if m.2.2.1 < 0 then noM E 2 else if 1099511627776 ≤ m.2.2.1 then noM E 2
  else if m.2.1 < E.peer then noM E 17
  else if E.peer = 0 then erc1 E m
  else if E.peer < m.2.1 then refuL E m.1 m.2.1 14 else erc1 E m
theorem jn_inl : ConSound Try.prog AI 42 (inl E0 Try.f42 0) := inl_sound e0Ok mixed (fn := Try.f42) (c := bodyOf Try.f42) Try.call42 (by kernel_rfl) (by kernel_rfl) (by kernel_rfl) 0
theorem lo_inl : ConSound Try.prog AI 41 (inl E0 Try.f41 0) := inl_sound e0Ok mixed (fn := Try.f41) (c := bodyOf Try.f41) Try.call41 (by kernel_rfl) (by kernel_rfl) (by kernel_rfl) 0
theorem rfs_inl : ConSound Try.prog AI 40 (inl E0 Try.f40 0) := inl_sound e0Ok mixed (fn := Try.f40) (c := bodyOf Try.f40) Try.call40 (by kernel_rfl) (by kernel_rfl) (by kernel_rfl) 0
noncomputable abbrev Ek1 : Env Ab := ⟨tis, [(49, inl Ew1 Try.f49 0), (68, ackSpec.con), (67, rcvSpec.con)] ++ E0.con⟩
theorem ek1Ok : EnvOk Try.prog AI Ek1 := (((e0Ok.add rcv_sound).add ack_sound).add settle_inl)
theorem tak_inl : ConSound Try.prog AI 43 (inl Ek1 Try.f43 1) := inl_sound ek1Ok mixed (fn := Try.f43) (c := bodyOf Try.f43) Try.call43 (by kernel_rfl) (by kernel_rfl) (by kernel_rfl) 1
noncomputable abbrev Ek2 : Env Ab := ⟨tis, [(43, inl Ek1 Try.f43 1), (40, inl E0 Try.f40 0), (41, inl E0 Try.f41 0), (42, inl E0 Try.f42 0)] ++ E0.con⟩
theorem ek2Ok : EnvOk Try.prog AI Ek2 := ((((e0Ok.add jn_inl).add lo_inl).add rfs_inl).add tak_inl)
def ercSpec : MethSpec Ab := ⟨Edd, selE, .edd, false, [.cell msgE], fun S (x : Msg × Unit) => OkE S ∧ x.1.2.2.2.1.2.1.length ≤ 1048576, [.lst msgE, .cell (.int .i64)], fun S (x : Msg × Unit) => (ercF S x.1).1, fun S (x : Msg × Unit) => (ercF S x.1).2⟩
theorem erc_ok (S : Edd) (m : Msg) (h : ercSpec.pre S (m, ())) : TmplOk Try.prog AI 19 (Sx.one (.ptr 0 0) :: argS ercSpec.ds (fun _ => (m, ()))) [.abs (ercSpec.put (fun _ => S))] (resOf (svs ercSpec.rs (fun _ => ercSpec.f S (m, ())))) [.abs (ercSpec.put (fun _ => ercSpec.next S (m, ())))] := by
  dsimp only [ercSpec] at h ⊢
  generalize hr : ercF S m = r
  obtain ⟨⟨h1, h2, h3, ⟨h4, h5⟩, h6, h7⟩, h8⟩ := h
  obtain ⟨kd, mi, yo, ⟨so, sd, sl⟩, ao, ar, ad⟩ := m
  dsimp only [ercF, erc1, erc2, takE, setA, refuL, refu, noM] at hr
  refine tmpl_obj ek2Ok mixed (fn := Try.f19) (c := bodyOf Try.f19) (by kernel_rfl) (by kernel_rfl) (by kernel_rfl) (Nat.le_of_ble_eq_true (by kernel_rfl)) (layOk _) (layOk _) rfl rfl (resOf_closed (svs_closed _ _)) ?_
  (try (conv in (LoopInv.inv _ _) => dsimp only)); (try (conv in (SS.mk _ _) => cbv; (try dsimp only [rcvSpec, ackSpec, countsSpec, countsF, Ty.T, Ty.dflt, KT.T]); (try simp only [natCast_eq])))
  (with_reducible refine (?_ : T1 _ ?_) ?_; rotate_left 1; (conv => lhs; cbv; (try cbv); (try cbv)); intro hT; clear hT; with_reducible refine Sh.mk (by kernel_rfl) ?_)
  repeat' (first
    | with_reducible (first | refine Ck.mk (C := tt) tt_intro ?_ | refine Ck.mk (show drawOk _ _ = true by kernel_rfl) ?_ | refine Ck.all_cons ?_ | refine Ck.all_nil ?_ | refine Ck.mk (by assumption) ?_ | refine Ck.mk (decide_eq_true (by assumption)) ?_ | refine Ck.mk (decide_eq_false (by assumption)) ?_ | refine Ck.mk ?_ ?_)
    | (with_reducible (first | refine Both.mk (fun h => ?_) (fun h => ?_) | refine Alt.mk (fun h => ?_) (fun h => ?_) | refine Pick.mk (fun h => ?_) (fun l1 x l2 h => ?_)) <;> (have hk := h) <;> (try simp only [nrm, reduceCtorEq, pair_eta, map_idL] at h) <;> (try dsimp only [rcvSpec, ackSpec, countsSpec, countsF, Ty.T, Ty.dflt, KT.T, getM, putM, delM] at h) <;> (try simp only [natCast_eq] at h) <;> skip <;> (try first | rw [if_pos h] at hr | rw [if_neg h] at hr | rw [ifF h] at hr | rw [ifN h] at hr) <;> (try (have hb : (_ : Bool) = _ := h; clear h; subst hb; (try first | rw [if_pos rfl] at hr | rw [if_neg Bool.false_ne_true] at hr))) <;> first | (exfalso; omega) | exact absurd (h.symm.trans (by assumption) : true = false) Bool.noConfusion | exact absurd (h.symm.trans (by assumption) : false = true) Bool.noConfusion | (with_reducible refine (?_ : T1 _ ?_) ?_; rotate_left 1; (conv => lhs; cbv; (try cbv); (try cbv)); intro hT; clear hT; with_reducible refine Sh.mk (by kernel_rfl) ?_))
    | ((with_reducible refine End.mk ?_); (try ((repeat (first | rw [if_pos (by first | assumption | omega)] at hr | rw [if_neg (by first | assumption | omega | (simp only [Bool.false_eq_true, Bool.true_eq_false, reduceCtorEq, not_false_eq_true]; done) | (simp only [Bool.not_eq_true]; assumption) | (simp only [Bool.not_eq_false]; assumption))] at hr | rw [if_pos rfl] at hr)); subst hr)))
    | with_reducible exact True.intro)
  all_goals first
    | (fail_if_success (with_reducible refine Exists.intro ?_ ?_)
       first
         | with_reducible rfl
         | with_reducible assumption
         | (symm; with_reducible assumption)
         | omega
         | ((try dsimp only [rcvSpec, ackSpec, countsSpec, countsF, Ty.T, Ty.dflt, KT.T, getM, putM, delM, inI64, maxRow]); first | done | with_reducible rfl | with_reducible assumption | (symm; with_reducible assumption) | ((try simp only [natCast_eq, List.nil_append]); first | done | with_reducible rfl | omega | exact take_cg (by omega) | exact drop_cg (by omega) | exact take_drop_cg (by omega) (by omega) | exact take_all (by omega) | exact take_drop_all (by omega) (by omega) | exact drop_take_cg (by omega) (by omega) (by omega)))
         | first | exact h1 | exact ⟨h2, h8⟩
         | ((try dsimp only [rcvSpec, ackSpec, countsSpec, countsF, Ty.T, Ty.dflt, KT.T, getM, putM, delM, inI64, maxRow]); first | (simp only [nrm, reduceCtorEq, pair_eta, map_idL, natCast_eq, inI64, maxRow]; first | done | with_reducible assumption | omega) | exact map_pair_id _)
         | ((try dsimp only [rcvSpec, ackSpec, countsSpec, countsF, Ty.T, Ty.dflt, KT.T, getM, putM, delM, inI64, maxRow] at *); first | ((try simp only [natCast_eq] at *) <;> omega) | ((try simp only [lens, natCast_eq] at *) <;> omega))
         | assumption
         | (symm; assumption)
         | (dsimp only; simp only [nrb, *]; done)
         | (simp; done)
         | (and_intros <;> first | trivial | with_reducible assumption | omega)
         | ((try dsimp only [rcvSpec, ackSpec, countsSpec, countsF, Ty.T, Ty.dflt, KT.T, getM, putM, delM, inI64, maxRow] at *) <;> simp [*] <;> done))
    | skip
theorem erc_sound : ConSound Try.prog AI 19 ercSpec.con := MethSpec.sound Try.call19 ⟨fun a W h => by cases a <;> cases h; rfl, (fun h => by cases h), fun W x h => erc_ok W x.1 h⟩
end Go.Proofs.Ytldabjgegpmmiaa
