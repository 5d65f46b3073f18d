/-
  Layer 50: the reference's Decimal.
-/
import Derived.Test.YtfgfcbncnngniaaDoorRep
namespace Go.Proofs.YtfgfcbncnngniaaDoor
set_option linter.all false
set_option linter.unusedVariables false
set_option linter.unusedSimpArgs false
set_option linter.unusedSectionVars false
open Go.RowKit Go.Sx
set_option maxRecDepth 100000
set_option maxHeartbeats 16000000
theorem dig_small {n : Int} (h0 : 0 ≤ n) (h : n < 10) : dig n = [48 + n] := by
  unfold dig Lib.itoa
  rw [if_neg (by omega), Lib.decDigits_one (by omega)]
  show [((UInt8.ofNat (48 + n.toNat)).toNat : Int)] = [48 + n]
  rw [UInt8.toNat_ofNat']
  congr 1
  omega
theorem dig_big {n : Int} (h : ¬ n < 10) : dig n = dig (n / 10) ++ [48 + n % 10] := by
  unfold dig Lib.itoa
  rw [if_neg (by omega), if_neg (by omega), Lib.decDigits, dif_neg (by omega), List.map_append]
  have e : (n / 10).toNat = n.toNat / 10 := by omega
  rw [e]
  congr 1
  show [((UInt8.ofNat (48 + n.toNat % 10)).toNat : Int)] = [48 + n % 10]
  rw [UInt8.toNat_ofNat']
  congr 1
  omega
theorem wrapd {n : Int} (h : 0 ≤ n) : IntKind.u8.wrap (48 + n % 10) = 48 + n % 10 := by
  unfold IntKind.wrap
  simp [IntKind.bits, IntKind.signed]
  omega
theorem dec_lt {n : Int} {N : Nat} (h0 : 0 ≤ n) (h : n < ((10 ^ (N + 1) : Nat) : Int)) : n / 10 < ((10 ^ N : Nat) : Int) := by
  have e : (10 ^ (N + 1) : Nat) = 10 ^ N * 10 := Nat.pow_succ ..
  rw [e] at h
  generalize (10 ^ N : Nat) = p at h ⊢
  omega
def decSpec (N : Nat) : PureSpec := ⟨[.cell (.int .i64)], fun (x : Int × Unit) => 0 ≤ x.1 ∧ x.1 < ((10 ^ N : Nat) : Int) ∧ x.1 ≤ 1099511627776, [.cell .str], fun (x : Int × Unit) => (dig x.1, ())⟩
noncomputable abbrev Edc (N : Nat) : Env Ab := ⟨tis, [(40, (decSpec N).con)] ++ E0.con⟩
theorem dec_ok : ∀ (N : Nat) (n : Int), (decSpec N).pre (n, ()) → TmplOk Tryd.prog AI 40 (argS (decSpec N).ds (fun _ => (n, ()))) [] (resOf (svs (decSpec N).rs (fun _ => (decSpec N).f (n, ())))) []
  | 0, n, h => by
    dsimp only [decSpec] at h ⊢
    obtain ⟨h0, h1, h2⟩ := h
    have h10 : n < 10 := by omega
    refine tmpl_of_body e0Ok mixed (fn := Tryd.f40) (c := bodyOf Tryd.f40) (by kernel_rfl) (by kernel_rfl) (by kernel_rfl) (Nat.le_of_ble_eq_true (by kernel_rfl)) ?_
    (try (conv in (LoopInv.inv _ _) => dsimp only)); (try (conv in (SS.mk _ _) => cbv; (try dsimp only [Ty.T, Ty.dflt, KT.T]); (try simp only [natCast_eq])))
    (with_reducible refine (?_ : T1 _ ?_) ?_; rotate_left 1; (conv => lhs; cbv; (try cbv); (try cbv)); intro hT; clear hT; with_reducible refine Sh.mk (by kernel_rfl) ?_)
    repeat' (first
      | with_reducible (first | refine Ck.mk (C := tt) tt_intro ?_ | refine Ck.mk (show drawOk _ _ = true by kernel_rfl) ?_ | refine Ck.all_cons ?_ | refine Ck.all_nil ?_ | refine Ck.mk (by assumption) ?_ | refine Ck.mk (decide_eq_true (by assumption)) ?_ | refine Ck.mk (decide_eq_false (by assumption)) ?_ | refine Ck.mk ?_ ?_)
      | (with_reducible (first | refine Both.mk (fun h => ?_) (fun h => ?_) | refine Alt.mk (fun h => ?_) (fun h => ?_) | refine Pick.mk (fun h => ?_) (fun l1 x l2 h => ?_)) <;> (have hk := h) <;> (try simp only [nrm, reduceCtorEq, pair_eta, map_idL] at h) <;> (try dsimp only [Ty.T, Ty.dflt, KT.T, getM, putM, delM] at h) <;> (try simp only [natCast_eq] at h) <;> skip <;> (try first | rw [if_pos h] at hr | rw [if_neg h] at hr | rw [ifF h] at hr | rw [ifN h] at hr) <;> (try (have hb : (_ : Bool) = _ := h; clear h; subst hb; (try first | rw [if_pos rfl] at hr | rw [if_neg Bool.false_ne_true] at hr))) <;> first | (exfalso; omega) | exact absurd (h.symm.trans (by assumption) : true = false) Bool.noConfusion | exact absurd (h.symm.trans (by assumption) : false = true) Bool.noConfusion | (with_reducible refine (?_ : T1 _ ?_) ?_; rotate_left 1; (conv => lhs; cbv; (try cbv); (try cbv)); intro hT; clear hT; with_reducible refine Sh.mk (by kernel_rfl) ?_))
      | ((with_reducible refine End.mk ?_); skip)
      | with_reducible exact True.intro)
    all_goals first | exact ⟨h0, by decide, by unfold inI64; omega⟩ | (unfold inI64; omega) | decide | (show IntKind.u8.wrap (48 + n % 10) :: [] = dig n; rw [wrapd h0, dig_small h0 h10]; congr 1; omega)
  | N + 1, n, h => by
    have hc : ConSound Tryd.prog AI 40 (decSpec N).con := PureSpec.sound Tryd.call40 (fun x h => dec_ok N x.1 h)
    have hE : EnvOk Tryd.prog AI (Edc N) := e0Ok.add hc
    dsimp only [decSpec] at h ⊢
    obtain ⟨h0, h1, h2⟩ := h
    refine tmpl_of_body hE mixed (fn := Tryd.f40) (c := bodyOf Tryd.f40) (by kernel_rfl) (by kernel_rfl) (by kernel_rfl) (Nat.le_of_ble_eq_true (by kernel_rfl)) ?_
    (try (conv in (LoopInv.inv _ _) => dsimp only)); (try (conv in (SS.mk _ _) => cbv; (try dsimp only [Ty.T, Ty.dflt, KT.T]); (try simp only [natCast_eq])))
    (with_reducible refine (?_ : T1 _ ?_) ?_; rotate_left 1; (conv => lhs; cbv; (try cbv); (try cbv)); intro hT; clear hT; with_reducible refine Sh.mk (by kernel_rfl) ?_)
    repeat' (first
      | with_reducible (first | refine Ck.mk (C := tt) tt_intro ?_ | refine Ck.mk (show drawOk _ _ = true by kernel_rfl) ?_ | refine Ck.all_cons ?_ | refine Ck.all_nil ?_ | refine Ck.mk (by assumption) ?_ | refine Ck.mk (decide_eq_true (by assumption)) ?_ | refine Ck.mk (decide_eq_false (by assumption)) ?_ | refine Ck.mk ?_ ?_)
      | (with_reducible (first | refine Both.mk (fun h => ?_) (fun h => ?_) | refine Alt.mk (fun h => ?_) (fun h => ?_) | refine Pick.mk (fun h => ?_) (fun l1 x l2 h => ?_)) <;> (have hk := h) <;> (try simp only [nrm, reduceCtorEq, pair_eta, map_idL] at h) <;> (try dsimp only [Ty.T, Ty.dflt, KT.T, getM, putM, delM] at h) <;> (try simp only [natCast_eq] at h) <;> skip <;> (try first | rw [if_pos h] at hr | rw [if_neg h] at hr | rw [ifF h] at hr | rw [ifN h] at hr) <;> (try (have hb : (_ : Bool) = _ := h; clear h; subst hb; (try first | rw [if_pos rfl] at hr | rw [if_neg Bool.false_ne_true] at hr))) <;> first | (exfalso; omega) | exact absurd (h.symm.trans (by assumption) : true = false) Bool.noConfusion | exact absurd (h.symm.trans (by assumption) : false = true) Bool.noConfusion | (with_reducible refine (?_ : T1 _ ?_) ?_; rotate_left 1; (conv => lhs; cbv; (try cbv); (try cbv)); intro hT; clear hT; with_reducible refine Sh.mk (by kernel_rfl) ?_))
      | ((with_reducible refine End.mk ?_); skip)
      | with_reducible exact True.intro)
    all_goals first | exact ⟨h0, by decide, by unfold inI64; omega⟩ | (unfold inI64; omega) | decide | (show IntKind.u8.wrap (48 + n % 10) :: [] = dig n; rw [wrapd h0, dig_small h0 (by assumption)]; congr 1; omega) | exact ⟨(by omega : (0 : Int) ≤ n / 10), dec_lt h0 h1, (by omega : n / 10 ≤ 1099511627776)⟩ | (show (dig (n / 10)).length + 1 ≤ 1099511627776; have := dig_len (n := n / 10) (by omega); omega) | (show dig (n / 10) ++ IntKind.u8.wrap (48 + n % 10) :: [] = dig n; rw [wrapd h0, dig_big (n := n) (by assumption)])
/-- .. for all numbers that a report holds. -/
def deciSpec : PureSpec := ⟨[.cell (.int .i64)], fun (x : Int × Unit) => okN x.1, [.cell .str], fun (x : Int × Unit) => (dig x.1, ())⟩
theorem deci_sound : ConSound Tryd.prog AI 40 deciSpec.con :=
  PureSpec.sound Tryd.call40 (fun x h => dec_ok 13 x.1 ⟨h.1, Int.lt_of_le_of_lt h.2 (by decide), h.2⟩)
end Go.Proofs.YtfgfcbncnngniaaDoor
