/-
  Layer 44: a writer and a reader with everything that was ever sent between them: what an act does.
-/
import Derived.Test.YtebhcmgfhkjmcaaTick
import Derived.Test.YtebhcmgfhkjmcaaRdr
import Derived.Test.YtebhcmgfhkjmcaaKv
import Derived.Test.YtebhcmgfhkjmcaaEng3
namespace Go.Proofs.Ytebhcmgfhkjmcaa
set_option linter.all false
set_option linter.unusedVariables false
set_option linter.unusedSimpArgs false
set_option linter.unusedSectionVars false
open Go.RowKit Go.Sx
set_option maxRecDepth 100000
set_option maxHeartbeats 16000000

abbrev segE' : Ty := .pair (.int .i64) (.pair .bytes .bool)
abbrev ackE : Ty := .pair (.int .i64) (.int .i64)
structure WS where
  w : Wri
  r : Rdr
  data : List Int
  read : List Int
  segs : List Seg
  acks : List (Int × Int)
  done : List Bool
  fin : Bool
abbrev actB (x : WS) (a : Int) : List Int := ([IntKind.u8.wrap a, IntKind.u8.wrap (a / 2 ^ (8 : Int).toNat), IntKind.u8.wrap (x.data.length : Int), 7].take (1 + a / 8 % 4).toNat).drop (0 : Int).toNat
def act0 (x : WS) (a : Int) : Bool × WS :=
  if ((writeF x.w (actB x a)).1.1 : Int) < 0 then (false, { x with w := (writeF x.w (actB x a)).2 })
  else if ((actB x a).length : Int) < ((writeF x.w (actB x a)).1.1 : Int) then (false, { x with w := (writeF x.w (actB x a)).2 })
  else if ((writeF x.w (actB x a)).1.2.1 : Int) = 0 then (true, { x with w := (writeF x.w (actB x a)).2, data := x.data ++ ((actB x a).take (writeF x.w (actB x a)).1.1.toNat).drop (0 : Int).toNat })
  else if ((writeF x.w (actB x a)).1.2.1 : Int) = 13 then (true, { x with w := (writeF x.w (actB x a)).2, data := x.data ++ ((actB x a).take (writeF x.w (actB x a)).1.1.toNat).drop (0 : Int).toNat })
  else (false, { x with w := (writeF x.w (actB x a)).2 })
def act1 (x : WS) (a : Int) : Bool × WS :=
  if ((tick x.w (1 + a / 8 % 5)).1.2.1 : Bool) = true then (true, { x with w := (tick x.w (1 + a / 8 % 5)).2, segs := x.segs ++ [(tick x.w (1 + a / 8 % 5)).1.1] }) else (true, { x with w := (tick x.w (1 + a / 8 % 5)).2 })
abbrev segAt (x : WS) (a : Int) : Seg := x.segs.getD (a / 8 % (x.segs.length : Int)).toNat (0, [], false)
def act3 (x : WS) (a : Int) : Bool × WS :=
  if 0 < (x.segs.length : Int) then
    (if ((rcvF x.r (segAt x a).1 (segAt x a).2.1 (segAt x a).2.2).1.1 : Int) = 0 then (true, { x with r := (rcvF x.r (segAt x a).1 (segAt x a).2.1 (segAt x a).2.2).2 })
    else (false, { x with r := (rcvF x.r (segAt x a).1 (segAt x a).2.1 (segAt x a).2.2).2 }))
  else (true, x)
def act5 (x : WS) (a : Int) : Bool × WS :=
  if x.fin = true then (true, { x with r := (rdF x.r (a / 8 % 6)).2, read := x.read ++ (rdF x.r (a / 8 % 6)).1.1, fin := true })
  else (true, { x with r := (rdF x.r (a / 8 % 6)).2, read := x.read ++ (rdF x.r (a / 8 % 6)).1.1, fin := (rdF x.r (a / 8 % 6)).1.2.1 })
def act6 (x : WS) : Bool × WS := (true, { x with acks := x.acks ++ [((rackF x.r).1, (rackF x.r).2.1)], done := x.done ++ [(rackF x.r).2.2.1] })
abbrev ackAt (x : WS) (a : Int) : Int × Int := x.acks.getD (a / 8 % (x.acks.length : Int)).toNat (0, 0)
abbrev dnAt (x : WS) (a : Int) : Bool := x.done.getD (a / 8 % (x.acks.length : Int)).toNat false
def act7 (x : WS) (a : Int) : Bool × WS :=
  if 0 < (x.acks.length : Int) then
    (if ((ackF x.w (ackAt x a).1 (ackAt x a).2 (dnAt x a)).1.1 : Int) = 0 then (true, { x with w := (ackF x.w (ackAt x a).1 (ackAt x a).2 (dnAt x a)).2 })
    else (false, { x with w := (ackF x.w (ackAt x a).1 (ackAt x a).2 (dnAt x a)).2 }))
  else (true, x)
def actF (x : WS) (a : Int) : Bool × WS :=
  if a % 8 = 0 then act0 x a else if a % 8 = 1 then act1 x a else if a % 8 = 2 then act1 x a else if a % 8 = 3 then act3 x a else if a % 8 = 4 then act3 x a
  else if a % 8 = 5 then act5 x a else if a % 8 = 6 then act6 x else act7 x a
theorem modAt_mem {α : Type} {l : List α} {k : Int} {d : α} (h : 0 < (l.length : Int)) : l.getD (k % (l.length : Int)).toNat d ∈ l := by
  have h1 := Int.emod_nonneg k (show (l.length : Int) ≠ 0 by omega)
  have h2 := Int.emod_lt_of_pos k h
  rw [List.getD_eq_getElem?_getD, List.getElem?_eq_getElem (by omega)]
  exact List.getElem_mem _
theorem modAt_lt {k n : Int} (h : 0 < n) : 0 ≤ k % n ∧ k % n < n := ⟨Int.emod_nonneg k (by omega), Int.emod_lt_of_pos k h⟩
theorem modAt_lt' {k n m : Int} (h : 0 < n) (e : m = n) : 0 ≤ k % n ∧ k % n < m := by rw [e]; exact modAt_lt h
structure PreX (x : WS) : Prop where
  w : OkW x.w
  r : PreS x.r.sto
  win : x.r.win = x.r.sto.win
  data : x.data.length ≤ 1000000
  read : x.read.length ≤ 1000000
  segs : x.segs.length ≤ 1000000
  acks : x.acks.length ≤ 1000000
  done : x.done.length = x.acks.length
  seg : ∀ s ∈ x.segs, s.2.1.length ≤ 1048576
def wldC (v : Nat) (x : U WS) : List (Chunk Ab) := [.cells 78 [.ptr 1 0, .ptr 2 0, .hd 3 v, .hd 4 v, .hd 5 v, .hd 6 v, .hd 7 v, .sb (fun _ => (x ()).fin)],
  .abs (.wri (fun _ => (x ()).w)), .abs (.rdr (fun _ => (x ()).r)), .row 5 (.int .u8) v (fun _ => (x ()).data), .row 5 (.int .u8) v (fun _ => (x ()).read), .row 39 segE' v (fun _ => (x ()).segs), .row 80 ackE v (fun _ => (x ()).acks), .row 4 .bool v (fun _ => (x ()).done)]
def actSpec : StepSpec Ab := ⟨8, WS × Int, fun args cs => match args, cs with
  | [.val (.one (.ptr 0 0)), .val (.one (.int .u16 a))], [.cells 78 [.ptr 1 0, .ptr 2 0, .hd 3 0, .hd 4 0, .hd 5 0, .hd 6 0, .hd 7 0, .sb f], .abs (.wri W), .abs (.rdr R), .row 5 (.int .u8) 0 D, .row 5 (.int .u8) 0 B, .row 39 (.pair (.int .i64) (.pair .bytes .bool)) 0 S, .row 80 (.pair (.int .i64) (.int .i64)) 0 K, .row 4 .bool 0 N] =>
    some (fun _ => (⟨W (), R (), D (), B (), S (), K (), N (), f ()⟩, a ()))
  | _, _ => none, fun x => PreX x.1 ∧ 0 ≤ x.2 ∧ x.2 < 65536, fun x => Sx.one (.sb (fun _ => (actF (x ()).1 (x ()).2).1)), fun x => wldC 9 (fun _ => (actF (x ()).1 (x ()).2).2)⟩

noncomputable abbrev E9 : Env Ab := ⟨tis, [(29, rackSpec.con), (26, rrdSpec.con), (25, rcvSpec.con), (20, ackSpec.con), (16, tickSpec.con), (13, writeSpec.con)] ++ E0.con⟩
theorem e9Ok : EnvOk Try.prog AI E9 := ((((((e0Ok.add write_sound).add tick_sound).add ack_sound).add rcv_sound).add rrd_sound).add rack_sound)
theorem act_ok (args : List SV) (cs : List (Chunk Ab)) (x : U actSpec.X) (hx : actSpec.un args cs = some x) (hp : actSpec.pre (x ())) : args.length ≤ Try.f33.ntmps ∧ svc E9 8 (bodyOf Try.f33) ⟨argT 0 args, cs⟩ (finB tis 8 Try.f33.results.toList (actSpec.res x) (actSpec.next x)) := by
  dsimp only [actSpec] at x hx hp ⊢
  split at hx <;> (try cases hx)
  rename_i a f W R D B S K N
  obtain ⟨a, rfl⟩ : ∃ b, a = fun _ => b := ⟨a (), rfl⟩
  obtain ⟨f, rfl⟩ : ∃ b, f = fun _ => b := ⟨f (), rfl⟩
  obtain ⟨W, rfl⟩ : ∃ b, W = fun _ => b := ⟨W (), rfl⟩
  obtain ⟨R, rfl⟩ : ∃ b, R = fun _ => b := ⟨R (), rfl⟩
  obtain ⟨D, rfl⟩ : ∃ b : List Int, D = fun _ => b := ⟨D (), rfl⟩
  obtain ⟨B, rfl⟩ : ∃ b : List Int, B = fun _ => b := ⟨B (), rfl⟩
  obtain ⟨S, rfl⟩ : ∃ b : List Seg, S = fun _ => b := ⟨S (), rfl⟩
  obtain ⟨K, rfl⟩ : ∃ b : List (Int × Int), K = fun _ => b := ⟨K (), rfl⟩
  obtain ⟨N, rfl⟩ : ∃ b : List Bool, N = fun _ => b := ⟨N (), rfl⟩
  dsimp only at hp ⊢
  refine ⟨Nat.le_of_ble_eq_true (by kernel_rfl), ?_⟩
  obtain ⟨⟨p1, p2, p3, p4, p5, p6, p7, p8, p9⟩, p10, p11⟩ := hp
  dsimp only at p1 p2 p3 p4 p5 p6 p7 p8 p9
  generalize hr : actF _ _ = r
  dsimp only [actF, act0, act1, act3, act5, act6, act7, segAt, ackAt, dnAt, actB, II, I1, IIB, IL, TickR, DT.T, Ty.T, Ty.dflt, KT.T] at hr
  (try (conv in (LoopInv.inv _ _) => dsimp only)); (try (conv in (SS.mk _ _) => cbv; (try dsimp only [writeSpec, tickSpec, ackSpec, rcvSpec, rrdSpec, rackSpec, Ty.T, Ty.dflt, KT.T]); (try simp only [natCast_eq])))
  (with_reducible refine (?_ : T1 _ ?_) ?_; rotate_left 1; (conv => lhs; cbv; (try cbv); (try cbv)); intro hT; clear hT; with_reducible refine Sh.mk (by kernel_rfl) ?_)
  repeat' (first
    | with_reducible (first | refine Ck.mk (C := tt) tt_intro ?_ | refine Ck.mk (show drawOk _ _ = true by kernel_rfl) ?_ | refine Ck.all_cons ?_ | refine Ck.all_nil ?_ | refine Ck.mk (by assumption) ?_ | refine Ck.mk (decide_eq_true (by assumption)) ?_ | refine Ck.mk (decide_eq_false (by assumption)) ?_ | refine Ck.mk ?_ ?_)
    | (with_reducible (first | refine Both.mk (fun h => ?_) (fun h => ?_) | refine Alt.mk (fun h => ?_) (fun h => ?_) | refine Pick.mk (fun h => ?_) (fun l1 x l2 h => ?_)) <;> (have hk := h) <;> (try simp only [nrm, reduceCtorEq, pair_eta, map_idL] at h) <;> (try dsimp only [writeSpec, tickSpec, ackSpec, rcvSpec, rrdSpec, rackSpec, Ty.T, Ty.dflt, KT.T, getM, putM, delM] at h) <;> (try simp only [natCast_eq] at h) <;> skip <;> (try first | rw [if_pos h] at hr | rw [if_neg h] at hr | rw [ifF h] at hr | rw [ifN h] at hr) <;> (try (have hb : (_ : Bool) = _ := h; clear h; subst hb; (try first | rw [if_pos rfl] at hr | rw [if_neg Bool.false_ne_true] at hr))) <;> first | (exfalso; omega) | exact absurd (h.symm.trans (by assumption) : true = false) Bool.noConfusion | exact absurd (h.symm.trans (by assumption) : false = true) Bool.noConfusion | (with_reducible refine (?_ : T1 _ ?_) ?_; rotate_left 1; (conv => lhs; cbv; (try cbv); (try cbv)); intro hT; clear hT; with_reducible refine Sh.mk (by kernel_rfl) ?_))
    | ((with_reducible refine End.mk ?_); (try ((repeat (first | rw [if_pos (by first | assumption | omega)] at hr | rw [if_neg (by first | assumption | omega | (simp only [Bool.false_eq_true, Bool.true_eq_false, reduceCtorEq, not_false_eq_true]; done) | (simp only [Bool.not_eq_true]; assumption) | (simp only [Bool.not_eq_false]; assumption))] at hr | rw [if_pos rfl] at hr)); subst hr)))
    | with_reducible exact True.intro)
  all_goals first
    | (fail_if_success (with_reducible refine Exists.intro ?_ ?_)
       first
         | with_reducible rfl
         | with_reducible assumption
         | (symm; with_reducible assumption)
         | omega
         | ((try dsimp only [writeSpec, tickSpec, ackSpec, rcvSpec, rrdSpec, rackSpec, Ty.T, Ty.dflt, KT.T, getM, putM, delM, inI64, maxRow]); first | done | with_reducible rfl | with_reducible assumption | (symm; with_reducible assumption) | ((try simp only [natCast_eq, List.nil_append]); first | done | with_reducible rfl | omega | exact take_cg (by omega) | exact drop_cg (by omega) | exact take_drop_cg (by omega) (by omega) | exact take_all (by omega) | exact take_drop_all (by omega) (by omega) | exact drop_take_cg (by omega) (by omega) (by omega)))
         | first | exact p1 | exact p2 | exact ⟨p2, p3⟩ | exact ⟨p2, p9 _ (modAt_mem h)⟩ | (refine ⟨p1, ?_⟩; dsimp only [Ty.T]; simp only [List.length_drop, List.length_take, List.length_cons, List.length_nil]; omega) | (dsimp only; simp only [List.length_map, List.length_cons, List.length_nil, maxRow]; omega) | exact modAt_lt h | exact modAt_lt' h (congrArg Nat.cast p8) | (have hq := readF_len R.sto (a / 8 % 6); show List.length _ + List.length (readF R.sto (a / 8 % 6)).1.1 ≤ _; simp only [maxRow]; omega)
         | ((try dsimp only [writeSpec, tickSpec, ackSpec, rcvSpec, rrdSpec, rackSpec, Ty.T, Ty.dflt, KT.T, getM, putM, delM, inI64, maxRow]); first | (simp only [nrm, reduceCtorEq, pair_eta, map_idL, natCast_eq, inI64, maxRow]; first | done | with_reducible assumption | omega) | exact map_pair_id _)
         | ((try dsimp only [writeSpec, tickSpec, ackSpec, rcvSpec, rrdSpec, rackSpec, Ty.T, Ty.dflt, KT.T, getM, putM, delM, inI64, maxRow] at *); first | ((try simp only [natCast_eq] at *) <;> omega) | ((try simp only [lens, natCast_eq] at *) <;> omega))
         | assumption
         | (symm; assumption)
         | (dsimp only; simp only [nrb, *]; done)
         | (simp; done)
         | (and_intros <;> first | trivial | with_reducible assumption | omega)
         | ((try dsimp only [writeSpec, tickSpec, ackSpec, rcvSpec, rrdSpec, rackSpec, Ty.T, Ty.dflt, KT.T, getM, putM, delM, inI64, maxRow] at *) <;> simp [*] <;> done))
    | skip
theorem act_sound : ConSound Try.prog AI 33 actSpec.con := StepSpec.sound e9Ok mixed (fn := Try.f33) (c := bodyOf Try.f33) Try.call33 (by kernel_rfl) (by kernel_rfl) (by kernel_rfl) fun args cs x hx hp _ => act_ok args cs x hx hp
end Go.Proofs.Ytebhcmgfhkjmcaa
