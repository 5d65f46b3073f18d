/-
  Part Own1 of the proof.
-/
import Derived.Test.YtcaoldilmnpjoaaGreatEng3
import Derived.Test.YtcaoldilmnpjoaaGreatProg
import Derived.WalkKit
import Derived.ProofKit
import Derived.OpenShut
import Derived.WalkLawsBesides
import Derived.WalkSpells
import Derived.BigQuiet
import Derived.Deep.QuietTactic
import Derived.StillTailTactics
import Derived.Maps.OwnOps
import Derived.Maps.OwnSet
import Derived.Maps.RangeWalk
import Derived.Lib.Hide
import Derived.BigGuardPart
import Derived.Below
import Derived.Laws.Externs
namespace Go.Proofs.YtcaoldilmnpjoaaGreat
set_option linter.all false
open Go.RowKit Go.Sx
def tis : List (Nat × TI) := [
 (3, ⟨.int .i64, 1, 0, [.li .i64 0]⟩),
 (4, ⟨.bool, 1, 0, [.lb false]⟩),
 (5, ⟨.int .u8, 1, 0, [.li .u8 0]⟩),
 (9, ⟨.str, 1, 0, [.str (fun _ => [])]⟩),
 (21, ⟨.int .i32, 1, 0, [.li .i32 0]⟩),
 (22, ⟨.slice 126 (some (.pair .str (.pair .bool (.int .i64)))), 1, 0, [.nilS]⟩),
 (23, ⟨.slice 98 (some (.pair (.int .i64) (.pair (.int .i64) (.pair (.int .i64) (.pair (.int .i64) (.pair (.int .i64) (.int .i64))))))), 1, 0, [.nilS]⟩),
 (25, ⟨.struct [(0, 1), (1, 1)], 2, 0, [.nilS, .nilS]⟩),
 (26, ⟨.slice 4 (some .bool), 1, 0, [.nilS]⟩),
 (29, ⟨.slice 76 (some (.pair (.int .i64) (.pair (.int .i64) (.int .i64)))), 1, 0, [.nilS]⟩),
 (30, ⟨.slice 3 (some (.int .i64)), 1, 0, [.nilS]⟩),
 (32, ⟨.struct [(0, 1)], 1, 0, [.nilS]⟩),
 (35, ⟨.int .i64, 1, 0, [.li .i64 0]⟩),
 (40, ⟨.slice 3 (some (.int .i64)), 1, 0, [.nilS]⟩),
 (45, ⟨.slice 48 (some .bytes), 1, 0, [.nilS]⟩),
 (48, ⟨.slice 5 (some (.int .u8)), 1, 0, [.nilS]⟩),
 (49, ⟨.map 3 4 (some ((.int .i64), .bool)), 1, 0, [.v (.map none)]⟩),
 (50, ⟨.slice 30 (some (.lst (.int .i64))), 1, 0, [.nilS]⟩),
 (52, ⟨.struct [(0, 1), (1, 1), (2, 1)], 3, 0, [.li .i64 0, .nilS, .nilS]⟩),
 (62, ⟨.struct [(0, 1), (1, 1)], 2, 1, [.li .i64 0, .li .i64 0]⟩),
 (68, ⟨.slice 136 (some (.pair (.lst (.int .i64)) (.lst (.int .i64)))), 1, 0, [.nilS]⟩),
 (70, ⟨.struct [(0, 1)], 1, 0, [.nilS]⟩),
 (74, ⟨.map 76 4 (some ((.agg (.pair (.int .i64) (.pair (.int .i64) (.int .i64)))), .bool)), 1, 0, [.v (.map none)]⟩),
 (76, ⟨.struct [(0, 1), (1, 1), (2, 1)], 3, 1, [.li .i64 0, .li .i64 0, .li .i64 0]⟩),
 (82, ⟨.other, 1, 0, [.v .nilFunc]⟩),
 (85, ⟨.map 3 30 (some ((.int .i64), (.lst (.int .i64)))), 1, 0, [.v (.map none)]⟩),
 (86, ⟨.map 3 3 (some ((.int .i64), (.int .i64))), 1, 0, [.v (.map none)]⟩),
 (98, ⟨.struct [(0, 1), (1, 1), (2, 1), (3, 1), (4, 1), (5, 1)], 6, 1, [.li .i64 0, .li .i64 0, .li .i64 0, .li .i64 0, .li .i64 0, .li .i64 0]⟩),
 (102, ⟨.other, 1, 0, [.v .nilFunc]⟩),
 (113, ⟨.int .u64, 1, 0, [.li .u64 0]⟩),
 (117, ⟨.struct [(0, 1), (1, 1), (2, 1)], 3, 0, [.lb false, .li .u64 0, .li .u64 0]⟩),
 (126, ⟨.struct [(0, 1), (1, 1), (2, 1)], 3, 0, [.str (fun _ => []), .lb false, .li .i64 0]⟩),
 (135, ⟨.array 2 3, 2, 1, [.li .i64 0, .li .i64 0]⟩),
 (136, ⟨.array 2 30, 2, 0, [.nilS, .nilS]⟩),
 (151, ⟨.int .u64, 1, 0, [.li .u64 0]⟩),
 (155, ⟨.struct [(0, 1), (1, 1)], 2, 0, [.li .i64 0, .lb false]⟩),
 (162, ⟨.map 9 4 (some (.str, .bool)), 1, 0, [.v (.map none)]⟩),
 (163, ⟨.map 135 4 (some ((.agg (.pair (.int .i64) (.int .i64))), .bool)), 1, 0, [.v (.map none)]⟩),
 (164, ⟨.array 2 135, 4, 0, [.li .i64 0, .li .i64 0, .li .i64 0, .li .i64 0]⟩),
 (165, ⟨.map 155 3 (some ((.agg (.pair (.int .i64) .bool)), (.int .i64))), 1, 0, [.v (.map none)]⟩),
 (186, ⟨.other, 1, 0, [.v .nilFunc]⟩),
 (187, ⟨.array 2 4, 2, 0, [.lb false, .lb false]⟩)]
theorem tisOk : rN Tryz.prog tis := tiOk_of (by kernel_rfl) (by kernel_rfl)
abbrev Ab := Empty
def lay : Ab → List (Chunk Ab) := fun a => a.elim
abbrev AI : Abs Ab := CK lay
instance : fo Ab where
 sub a _ := a.elim
 sound a := a.elim
abbrev E0 : Env Ab := ⟨tis, []⟩
theorem ai : aU Tryz.prog AI E0 := ⟨tisOk, fun f k h => by cases h⟩
theorem mixed : Tryz.prog.follows .mixedOrders = true := by kernel_rfl
end Go.Proofs.YtcaoldilmnpjoaaGreat
namespace Go.Proofs.YtcaoldilmnpjoaaGreat
set_option linter.all false
open Go.RowKit Go.Maps Go.WideMaps
theorem lK {a b : Bool} (h : a = b) : Ending.returned (.bool a) = .returned (.bool b) := by rw [h]
def oR (j : Nat) (c : Int) : Prop := (97 ≤ c ∧ c ≤ 122) ∨ (j ≠ 0 ∧ (48 ≤ c ∧ c ≤ 57))
instance (j : Nat) (c : Int) : Decidable (oR j c) := by unfold oR; infer_instance
def gq (s : ByteArray) : Bool := decide (1 ≤ s.size ∧ s.size ≤ 20 ∧ ∀ j, (h : j < s.size) → oR j (s[j].toNat : Int))
theorem sQ {s : ByteArray} {k : Nat} (h : k < s.size) (hn : ¬ oR k (s[k].toNat : Int)) : gq s = false := by
 unfold gq; simp only [decide_eq_false_iff_not]; intro hh; exact hn (hh.2.2 k h)
set_option maxRecDepth 100000 in
set_option maxHeartbeats 1000000 in
theorem Ac (s : ByteArray) (w : World) (h1 : s.size < 1 ∨ 20 < s.size) : Calls Tryz.prog 106 #[.string s] w fun e w' => e = .returned (.bool (gq s)) ∧ w = w' := by
 have hv : Hid (gq s = false) := by unfold Hid gq; simp; omega
 go_enter Tryz.func106, Tryz.ntmps106
 go_wp2
 all_goals first | (go_ret; exact ⟨lK hv.out.symm, rfl⟩) | omega
set_option maxRecDepth 100000 in
set_option maxHeartbeats 1000000 in
theorem yZ (s : ByteArray) (w : World) : Calls Tryz.prog 106 #[.string s] w fun e w' => e = .returned (.bool (gq s)) ∧ w = w' := by
 by_cases h1 : s.size < 1 ∨ 20 < s.size
 · exact Ac s w h1
 have h3 : decide ((s.size : Int) < 1) = false := by simp; omega
 have h4 : decide (20 < (s.size : Int)) = false := by simp; omega
 go_enter Tryz.func106, Tryz.ntmps106
 go_wp2
 clear h3 h4
 go_loop [16] (fun i => ∃ k : Nat, k ≤ s.size ∧ i = .int .i64 k ∧ ∀ j, j < k → (h : j < s.size) → oR j (s[j].toNat : Int)) (fun i => s.size - (intOf i).toNat)
 case atStart => exact ⟨0, Nat.zero_le _, rfl, fun j hj => by omega⟩
 case round =>
  obtain ⟨k, hk, rfl, hall⟩ := hrel
  have HA := Lib.hid hall; clear hall
  by_cases hlt : k < s.size
  · have next : oR k (s[k].toNat : Int) → ∀ j, j < k + 1 → (h : j < s.size) → oR j (s[j].toNat : Int) := fun hc j hj h => by
     by_cases e : j = k
     · subst e; exact hc
     · exact HA.out j (by omega) h
    have NX := Lib.hid next; clear next
    have no : ¬ oR k (s[k].toNat : Int) → gq s = false := fun hc => sQ hlt hc
    have NO := Lib.hid no; clear no
    rcases k with _ | k
    · go_wp2
      all_goals (try simp only [Bool.not_eq_true', Bool.not_eq_false', beq_iff_eq, beq_eq_false_iff_ne, bne_iff_ne, bne_eq_false_iff_eq, ne_eq, decide_eq_true_eq, decide_eq_false_iff_not, Bool.not_eq_true, Bool.not_eq_false] at *)
      all_goals first
       | (go_round
          case rel => exact ⟨0 + 1, by omega, by go_num, NX.out (by unfold oR; omega)⟩
          case measure => simp [intOf]; omega)
       | (go_ret; exact ⟨lK (NO.out (by unfold oR; omega)).symm, rfl⟩)
       | omega
    · go_wp2
      all_goals (try simp only [Bool.not_eq_true', Bool.not_eq_false', beq_iff_eq, beq_eq_false_iff_ne, bne_iff_ne, bne_eq_false_iff_eq, ne_eq, decide_eq_true_eq, decide_eq_false_iff_not, Bool.not_eq_true, Bool.not_eq_false] at *)
      all_goals first
       | (go_round
          case rel => exact ⟨k + 1 + 1, by omega, by go_num, NX.out (by unfold oR; omega)⟩
          case measure => simp [intOf]; omega)
       | (go_ret; exact ⟨lK (NO.out (by unfold oR; omega)).symm, rfl⟩)
       | omega
  · go_wp2
    go_ret
    exact ⟨lK (by unfold gq; simp only [Eq.comm (a := true), decide_eq_true_eq]; exact ⟨by omega, by omega, fun j h => HA.out j (by omega) h⟩), rfl⟩
end Go.Proofs.YtcaoldilmnpjoaaGreat
namespace Go.Proofs.YtcaoldilmnpjoaaGreat
set_option linter.all false
open Go.RowKit Go.Sx
theorem vX {K V : Type} [DecidableEq K] (c : K) (v : V) (k : K) : ∀ D : List (K × V), bB (ak D c v) k = if c = k then some v else bB D k
 | [] => by show (if c = k then some v else bB [] k) = _; rfl
 | (a, x) :: D => by
   show bB (if a = c then (c, v) :: D else (a, x) :: ak D c v) k = if c = k then some v else (if a = k then some x else bB D k)
   have ih := vX c v k D
   by_cases h1 : a = c
   · rw [if_pos h1]
     show (if c = k then some v else bB D k) = _
     by_cases h2 : c = k
     · rw [if_pos h2, if_pos h2]
     · rw [if_neg h2, if_neg h2, if_neg (fun e => h2 (h1 ▸ e))]
   · rw [if_neg h1]
     show (if a = k then some x else bB (ak D c v) k) = _
     by_cases h2 : a = k
     · have h3 : ¬ c = k := fun e => h1 (h2.trans e.symm)
       rw [if_pos h2, if_neg h3, if_pos h2]
     · rw [if_neg h2, ih, if_neg h2]
theorem ur {K V : Type} [DecidableEq K] (c : K) (v : V) : ∀ D : List (K × V), (ak D c v).length ≤ D.length + 1
 | [] => Nat.le_refl _
 | (a, x) :: D => by
   show (if a = c then (c, v) :: D else (a, x) :: ak D c v).length ≤ D.length + 1 + 1
   split
   · show D.length + 1 ≤ _; omega
   · have := ur c v D; show (ak D c v).length + 1 ≤ _; omega
structure Sn {K : Type} [DecidableEq K] (E : List K) where
 n : Nat
 D : List (K × Bool)
 le : n ≤ E.length
 nd : (E.take n).Nodup
 ok : ∀ k, ((bB D k).getD false = true) ↔ k ∈ E.take n
 dl : D.length ≤ n
theorem Sn.zero {K : Type} [DecidableEq K] (E : List K) : ∃ x : Sn E, x.n = 0 ∧ x.D = [] :=
 ⟨⟨0, [], Nat.zero_le _, by simp, fun k => by simp [bB], Nat.le_refl _⟩, rfl, rfl⟩
theorem Sn.step {K : Type} [DecidableEq K] {E : List K} (x : Sn E) {k : K} (hk : E[x.n]? = some k) (h : ¬ (bB x.D k).getD false = true) :
 ∃ y : Sn E, y.n = x.n + 1 ∧ y.D = ak x.D k true := by
 have hlt : x.n < E.length := by
  rcases Nat.lt_or_ge x.n E.length with h1 | h1
  · exact h1
  · rw [List.getElem?_eq_none h1] at hk; cases hk
 have e : E[x.n] = k := by rw [List.getElem?_eq_getElem hlt] at hk; exact Option.some.inj hk
 have ht : E.take (x.n + 1) = E.take x.n ++ [k] := by rw [List.take_succ_eq_append_getElem hlt, e]
 refine ⟨⟨x.n + 1, ak x.D k true, hlt, ?_, fun j => ?_, Nat.le_trans (ur ..) (by have := x.dl; omega)⟩, rfl, rfl⟩
 · rw [ht, List.nodup_append]
   refine ⟨x.nd, by simp, fun a ha b hb => ?_⟩
   simp only [List.mem_singleton] at hb
   subst hb
   intro e2; subst e2
   exact h ((x.ok _).2 ha)
 · rw [vX, ht, List.mem_append, List.mem_singleton, ← x.ok]
   by_cases hj : k = j
   · simp [hj]
   · rw [if_neg hj]; constructor
     · exact Or.inl
     · rintro (h1 | h1)
       · exact h1
       · exact absurd h1.symm hj
theorem Sn.hit {K : Type} [DecidableEq K] {E : List K} (x : Sn E) {k : K} (hk : E[x.n]? = some k) (h : (bB x.D k).getD false = true) : ¬ E.Nodup := by
 intro hn
 have hlt : x.n < E.length := by
  rcases Nat.lt_or_ge x.n E.length with h1 | h1
  · exact h1
  · rw [List.getElem?_eq_none h1] at hk; cases hk
 have e : E[x.n] = k := by rw [List.getElem?_eq_getElem hlt] at hk; exact Option.some.inj hk
 have ht : E = E.take x.n ++ k :: E.drop (x.n + 1) := by rw [← e, List.getElem_cons_drop hlt, List.take_append_drop]
 rw [ht, List.nodup_append] at hn
 exact hn.2.2 k ((x.ok _).1 h) k (List.mem_cons_self ..) rfl
theorem Sn.done {K : Type} [DecidableEq K] {E : List K} (x : Sn E) (h : ¬ x.n < E.length) : E.Nodup := by
 have := x.nd
 rwa [List.take_of_length_le (by omega)] at this
structure La {α : Type} (L : List α) (f : α → Bool) where
 i : Int
 lo : 0 ≤ i
 hi : i ≤ (L.length : Int)
 ok : ∀ k (h : k < L.length), (k : Int) < i → f L[k] = true
theorem La.zero {α : Type} (L : List α) (f : α → Bool) : ∃ x : La L f, x.i = 0 := ⟨⟨0, Int.le_refl _, by omega, fun k _ h => by omega⟩, rfl⟩
theorem yH {α : Type} {L : List α} {i : Int} (d : α) (h0 : 0 ≤ i) (h : i < (L.length : Int)) : ∃ hk : i.toNat < L.length, L.getD i.toNat d = L[i.toNat] :=
 ⟨by omega, by rw [List.getD_eq_getElem?_getD, List.getElem?_eq_getElem (by omega)]; rfl⟩
theorem La.step {α : Type} {L : List α} {f : α → Bool} (x : La L f) (d : α) (h : x.i < (L.length : Int)) (hf : f (L.getD x.i.toNat d) = true) : ∃ y : La L f, y.i = x.i + 1 := by
 have hlo := x.lo
 refine ⟨⟨x.i + 1, by omega, by omega, fun k hk h1 => ?_⟩, rfl⟩
 by_cases hk2 : (k : Int) < x.i
 · exact x.ok k hk hk2
 · obtain ⟨h3, h4⟩ := yH d hlo h
   have e : x.i.toNat = k := by omega
   rw [h4] at hf
   simpa only [e] using hf
theorem La.bad {α : Type} {L : List α} {f : α → Bool} (x : La L f) (d : α) (h : x.i < (L.length : Int)) (hf : f (L.getD x.i.toNat d) = false) : L.all f = false := by
 obtain ⟨h3, h4⟩ := yH d x.lo h
 rw [List.all_eq_false]
 exact ⟨_, List.getElem_mem h3, by rw [← h4, hf]; decide⟩
theorem La.done {α : Type} {L : List α} {f : α → Bool} (x : La L f) (h : ¬ x.i < (L.length : Int)) : L.all f = true := by
 rw [List.all_eq_true]
 intro a ha
 obtain ⟨k, hk, rfl⟩ := List.getElem_of_mem ha
 exact x.ok k hk (by omega)
theorem dF {n : Nat} {i j : Int} (h : i < (n : Int)) (e : j = i + 1) : ((n : Int) - j).toNat < ((n : Int) - i).toNat := by omega
set_option maxRecDepth 100000
set_option maxHeartbeats 4000000
theorem CJ (w : World) : (callFunc 100 #[.int .u64 3, .int .u64 2, .int .u64 0]).run Tryz.prog w = .ok (.value (.tuple #[.int .u64 5, .int .u64 0])) w := by
 rw [run_callFunc_extern Tryz.func100 (by kernel_rfl) (by kernel_rfl) (by kernel_rfl) (e := add64Entry) (by kernel_rfl), run_add64 3 2 0 (by omega) (by omega) (by omega) (by omega)]
 rfl
theorem AP (w : World) : (callFunc 100 #[.int .u64 0, .int .u64 0, .int .u64 0]).run Tryz.prog w = .ok (.value (.tuple #[.int .u64 0, .int .u64 0])) w := by
 rw [run_callFunc_extern Tryz.func100 (by kernel_rfl) (by kernel_rfl) (by kernel_rfl) (e := add64Entry) (by kernel_rfl), run_add64 0 0 0 (by omega) (by omega) (by omega) (by omega)]
 rfl
theorem AV (w : World) : Calls Tryz.prog 60 #[.agg #[.bool false, .int .u64 0, .int .u64 3], .agg #[.bool false, .int .u64 0, .int .u64 2]] w fun e w' => e = .returned (.agg #[.bool false, .int .u64 0, .int .u64 5]) ∧ Below w.heap.size w w' := by
 go_enter Tryz.func60, Tryz.ntmps60
 go_wp2_with (simp only [CJ, AP])
 refine bodyPost_ret (v := .agg #[.bool false, .int .u64 0, .int .u64 5]) ?_ rfl ⟨rfl, (((Below.refl _ w).alloc (Nat.le_refl _) _).alloc (by simp) _).alloc (by simp; omega) _⟩
 simp [results, Tryz.results60, go_sem]
abbrev U64 : Ty := .int .u64
abbrev I64 : Ty := .int .i64
abbrev WE : Ty := .pair .bool (.pair U64 U64)
abbrev xY : Ty := .pair I64 I64
def jw : aB := ⟨[.cell WE, .cell WE], fun (x : (Bool × Int × Int) × (Bool × Int × Int) × Unit) => x.1 = (false, 0, 3) ∧ x.2.1 = (false, 0, 2), [.cell WE], fun _ => ((false, 0, 5), ())⟩
theorem add_ok (x y : Bool × Int × Int) (h : jw.pre (x, y, ())) : bQ Tryz.prog AI 60 (dM jw.ds (fun _ => (x, y, ()))) [] (ag (svs jw.rs (fun _ => jw.f (x, y, ())))) [] := by
 obtain ⟨h1, h2⟩ := h
 dsimp only at h1 h2
 subst h1; subst h2
 intro G ρ w us hG hsz hh hd
 have e : us = [.agg #[.bool false, .int .u64 0, .int .u64 3], .agg #[.bool false, .int .u64 0, .int .u64 2]] := by
  have key : ∀ (vs : List Value) (n m : Int), aL (aK ρ) [.sb (fun _ => false), .int .u64 (fun _ => n), .int .u64 (fun _ => m)] vs → vs = [.bool false, .int .u64 n, .int .u64 m] := by
   intro vs n m h
   rcases h with _ | ⟨h1, _ | ⟨h2, _ | ⟨h3, h4⟩⟩⟩
   cases h4
   have h1 : _ = Value.bool false := h1
   have h2 : _ = Value.int .u64 n := h2
   have h3 : _ = Value.int .u64 m := h3
   rw [h1, h2, h3]
  rcases hd with _ | ⟨h1, _ | ⟨h2, h3⟩⟩
  cases h3
  obtain ⟨v1, rfl, h1⟩ := h1
  obtain ⟨v2, rfl, h2⟩ := h2
  rw [key v1 0 3 h1, key v2 0 2 h2]
 subst e
 refine (AV w).mono ?_
 rintro e w' ⟨rfl, hb⟩
 exact ⟨_, ρ, rfl, hh.grown hb.block hb.os hb.tape hb.output hb.size, ⟨[.bool false, .int .u64 0, .int .u64 5], rfl, .cons rfl (.cons rfl (.cons rfl .nil))⟩⟩
theorem AO : aE Tryz.prog AI 60 jw.con := aB.sound Tryz.call60 (fun x h => add_ok x.1 x.2.1 h)
end Go.Proofs.YtcaoldilmnpjoaaGreat
