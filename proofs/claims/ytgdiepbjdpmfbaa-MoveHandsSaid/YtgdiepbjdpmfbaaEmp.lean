/-
  Layer 48: an empty store with an offset.
-/
import Derived.Test.YtgdiepbjdpmfbaaSem
namespace Go.Proofs.Ytgdiepbjdpmfbaa
set_option linter.all false
set_option linter.unusedVariables false
set_option linter.unusedSimpArgs false
set_option linter.unusedSectionVars false
open Go.RowKit Go.Sx
set_option maxRecDepth 100000
set_option maxHeartbeats 16000000

noncomputable abbrev Ee : Env Ab := ⟨tis, [(39, offSpec.con), (38, readSpec.con), (37, frzCon putSpec.con), (36, newStoSpec.con)] ++ E0.con⟩
theorem eeOk : EnvOk Try.prog AI Ee := ((((e0Ok.add newSto_sound).add (frzCon_sound put_sound)).add read_sound).add off_sound)
abbrev eS (w a : Int) : Sto := ⟨w, a, a, [], 0, false⟩
theorem eS_ok {w a : Int} (h1 : 1 ≤ w) (h2 : w ≤ 1048576) (ha : 0 ≤ a) (hb : a ≤ 1099511627776) : StO (eS w a) := by
  refine ⟨⟨h1, h2⟩, ⟨ha, Int.le_refl _⟩, ⟨by show a ≤ a + w; omega, by show a ≤ topK; dsimp only [topK]; omega⟩, List.nodup_nil, fun p hp => (by cases hp), fun k k1 k2 => ?_, List.not_mem_nil, fun h => (by cases h), fun p hp => (by cases hp)⟩
  have k1 : a ≤ k := k1
  have k2 : k < a := k2
  omega
/-- Bytes put at the offset into a store that keeps nothing, and read at once. -/
theorem fill_step {w a : Int} {d : List Int} (h1 : 1 ≤ w) (h2 : w ≤ 1048576) (ha : 0 ≤ a) (hb : a ≤ 1099511627776) (hn : d.length ≤ w) (hz : 0 < d.length) (hd : inBytes d) :
    ∃ T : Sto, putF (eS w a) a d false = (((d.length : Int), 0, ()), T) ∧ StO T ∧ readF T d.length = ((d, ()), eS w (a + d.length)) := by
  have hS : StO (eS w a) := eS_ok h1 h2 ha hb
  have hg : ∀ x, getI (eS w a).kept x = none := fun x => rfl
  have hok : PutOk (eS w a) a d false := by
    refine ⟨ha, hb, by unfold mis; simp, ?_⟩
    cases hc : confl (eS w a).kept d a (pFr (eS w a) a) (pN (eS w a) a d) with
    | false => rfl
    | true =>
      obtain ⟨x, v, _, _, h3, _⟩ := (confl_iff _ _).1 hc
      rw [hg] at h3; cases h3
  have hput := put_ok_eq hok
  have hT := put_sto hS (o := a) false hd (by omega : d.length ≤ 1048576)
  rw [hput] at hT
  have hgT : ∀ x, getI (putK (eS w a) a d) x = if a ≤ x ∧ x < a + d.length then some (d.getD (x - a).toNat 0) else none := by
    intro x
    rw [get_put]
    have e1 : pFr (eS w a) a = a := by dsimp only [pFr, eS]; omega
    have e2 : pTo (eS w a) a d = a + d.length := by dsimp only [pTo, eS]; omega
    rw [e1, e2]
    split
    · rfl
    · exact hg x
  have hnx : (putS (eS w a) a d false).next = a + d.length :=
    next_eq hT (by show a ≤ _; omega) (fun y y1 y2 => by
      have y1 : a ≤ y := y1
      show getI (putK (eS w a) a d) y ≠ none
      rw [hgT, if_pos ⟨y1, y2⟩]; exact fun h => by cases h) (by
      show getI (putK (eS w a) a d) _ = none
      rw [hgT, if_neg (by omega)])
  have hlenK : (putK (eS w a) a d).length = d.length := by
    have hp : ((putK (eS w a) a d).map Prod.fst).Perm (List.map (fun i : Nat => a + (i : Int)) (List.range d.length)) := by
      refine (List.perm_ext_iff_of_nodup hT.nd ?_).2 fun x => ?_
      · exact List.Pairwise.map _ (fun x y h e => h (by omega)) List.nodup_range
      · rw [get_mem]
        constructor
        · rintro ⟨v, hv⟩
          have hv : getI (putK (eS w a) a d) x = some v := hv
          rw [hgT] at hv
          split at hv
          · rename_i hx
            exact List.mem_map.2 ⟨(x - a).toNat, List.mem_range.2 (by omega), by omega⟩
          · cases hv
        · intro hx
          obtain ⟨i, hi, rfl⟩ := List.mem_map.1 hx
          have hi := List.mem_range.1 hi
          exact ⟨_, (hgT _).trans (if_pos (by omega))⟩
    have := hp.length_eq
    rw [List.length_map, List.length_map, List.length_range] at this
    exact this
  refine ⟨putS (eS w a) a d false, ?_, hT, ?_⟩
  · rw [hput, hlenK]
    show (((((d.length : Int) - ((0 : Nat) : Int)), (0 : Int), ()) : II), _) = _
    rw [show ((d.length : Int) - ((0 : Nat) : Int)) = d.length by omega]
  · have hrn : rdN (putS (eS w a) a d false) d.length = d.length := by
      show min (d.length : Int) ((putS (eS w a) a d false).next - a) = _
      rw [hnx]
      omega
    unfold readF
    · rw [if_neg (by omega), hrn, hnx]
      have e1 : rdB (putK (eS w a) a d) a ((d.length : Nat) : Int).toNat = d := by
        refine rdB_eq (by omega) fun i hi => ?_
        rw [hgT, if_pos (by omega)]
        congr 2; omega
      have e2 : rdK (putK (eS w a) a d) a ((d.length : Nat) : Int).toNat = [] := by
        refine nil_of_get fun x => ?_
        rw [get_rdK hT.nd, hgT]
        split
        · rfl
        · rw [if_neg (by omega)]
      show ((rdB (putK (eS w a) a d) a _, ()), (⟨w, a + _, a + _, rdK (putK (eS w a) a d) a _, 0, false⟩ : Sto)) = _
      rw [e1, e2]
abbrev zer (n : Int) : List Int := List.replicate n.toNat 0
theorem zer_byt (n : Int) : inBytes (zer n) := fun x hx => by rw [List.eq_of_mem_replicate hx]; omega
theorem eS_eq {w a o : Int} (h : ¬ a < o) (h2 : a ≤ o) : eS w a = eS w o := by rw [show a = o by omega]
structure LEm (w o : Int) where
  a : Int
  lo : 0 ≤ a
  hi : a ≤ o
theorem emp_fact {w o a : Int} (h1 : 1 ≤ w) (h2 : w ≤ 1048576) (h0 : 0 ≤ a) (hi : a < o) (ho : o ≤ 1099511627776) :
    ∃ T : Sto, putF (eS w a) a (zer (min w (o - a))) false = ((min w (o - a), 0, ()), T) ∧ StO T ∧ readF T (min w (o - a)) = ((zer (min w (o - a)), ()), eS w (a + min w (o - a))) ∧ ((zer (min w (o - a))).length : Int) = min w (o - a) := by
  have hl : ((zer (min w (o - a))).length : Int) = min w (o - a) := by rw [List.length_replicate]; omega
  obtain ⟨T, t1, t2, t3⟩ := fill_step (d := zer (min w (o - a))) h1 h2 h0 (by omega) (by omega) (by omega) (zer_byt _)
  rw [hl] at t1 t3
  exact ⟨T, t1, t2, t3, hl⟩
theorem next_LEm {w o a : Int} (h0 : 0 ≤ a) (hi : a < o) (h1 : 1 ≤ w) : ∃ y : LEm w o, y.a = a + min w (o - a) := ⟨⟨a + min w (o - a), by omega, by omega⟩, rfl⟩
def empSpec : MakeSpec Ab := ⟨[.cell (.int .i64), .cell (.int .i64)], fun (x : Int × Int × Unit) => (1 ≤ x.1 ∧ x.1 ≤ 1048576) ∧ 0 ≤ x.2.1 ∧ x.2.1 ≤ 1099511627776, fun x => .sto (fun _ => eS (x ()).1 (x ()).2.1)⟩
theorem emp_ok (w : Int) (o : Int) (h : empSpec.pre (w, o, ())) : TmplOk Try.prog AI 40 (argS empSpec.ds (fun _ => (w, o, ()))) [] (resOf [.one (.ptr 0 0)]) [.abs (empSpec.put (fun _ => (w, o, ())))] := by
  dsimp only [empSpec] at h ⊢
  obtain ⟨⟨w1, w2⟩, o1, o2⟩ := h
  refine tmpl_of_body eeOk mixed (fn := Try.f40) (c := bodyOf Try.f40) (by kernel_rfl) (by kernel_rfl) (by kernel_rfl) (Nat.le_of_ble_eq_true (by kernel_rfl)) ?_
  (try (conv in (LoopInv.inv _ _) => dsimp only)); (try (conv in (SS.mk _ _) => cbv; (try dsimp only [putSpec, readSpec, offSpec, offF, newStoSpec, Ty.T, Ty.dflt, KT.T]); (try simp only [natCast_eq])))
  (with_reducible refine (?_ : T1 _ ?_) ?_; rotate_left 1; (conv => lhs; cbv; (try cbv); (try cbv)); intro hT; clear hT; with_reducible refine Sh.mk (by kernel_rfl) ?_)
  repeat' (first
    | with_reducible (first | refine Ck.mk (C := tt) tt_intro ?_ | refine Ck.mk (show drawOk _ _ = true by kernel_rfl) ?_ | refine Ck.all_cons ?_ | refine Ck.all_nil ?_ | refine Ck.mk (by assumption) ?_ | refine Ck.mk (decide_eq_true (by assumption)) ?_ | refine Ck.mk (decide_eq_false (by assumption)) ?_ | refine Ck.mk ?_ ?_)
    | (with_reducible (first | refine Both.mk (fun h => ?_) (fun h => ?_) | refine Alt.mk (fun h => ?_) (fun h => ?_) | refine Pick.mk (fun h => ?_) (fun l1 x l2 h => ?_)) <;> (have hk := h) <;> (try simp only [nrm, reduceCtorEq, pair_eta, map_idL] at h) <;> (try dsimp only [putSpec, readSpec, offSpec, offF, newStoSpec, Ty.T, Ty.dflt, KT.T, getM, putM, delM] at h) <;> (try simp only [natCast_eq] at h) <;> (try (have hq := emp_fact w1 w2 hlo h o2; obtain ⟨T, u1, u2, u3, u4⟩ := hq)) <;> (try simp only [u1] at h) <;> (try simp only [u3] at h) <;> (try first | rw [if_pos h] at hr | rw [if_neg h] at hr | rw [ifF h] at hr | rw [ifN h] at hr) <;> (try (have hb : (_ : Bool) = _ := h; clear h; subst hb; (try first | rw [if_pos rfl] at hr | rw [if_neg Bool.false_ne_true] at hr))) <;> first | (exfalso; omega) | exact absurd (h.symm.trans (by assumption) : true = false) Bool.noConfusion | exact absurd (h.symm.trans (by assumption) : false = true) Bool.noConfusion | (with_reducible refine (?_ : T1 _ ?_) ?_; rotate_left 1; (conv => lhs; cbv; (try cbv); (try cbv)); intro hT; clear hT; with_reducible refine Sh.mk (by kernel_rfl) ?_))
    | ((with_reducible refine End.mk ?_); skip)
    | with_reducible exact True.intro)
  all_goals first
    | (fail_if_success (with_reducible refine Exists.intro ?_ ?_)
       first
         | with_reducible rfl
         | with_reducible assumption
         | (symm; with_reducible assumption)
         | omega
         | ((try dsimp only [putSpec, readSpec, offSpec, offF, newStoSpec, Ty.T, Ty.dflt, KT.T, getM, putM, delM, inI64, maxRow]); first | done | with_reducible rfl | with_reducible assumption | (symm; with_reducible assumption) | ((try simp only [natCast_eq, List.nil_append]); first | done | with_reducible rfl | omega | exact take_cg (by omega) | exact drop_cg (by omega) | exact take_drop_cg (by omega) (by omega) | exact take_all (by omega) | exact take_drop_all (by omega) (by omega) | exact drop_take_cg (by omega) (by omega) (by omega)))
         | ((try dsimp only [putSpec, readSpec, offSpec, offF, newStoSpec, Ty.T, Ty.dflt, KT.T, getM, putM, delM, inI64, maxRow]); first | (simp only [nrm, reduceCtorEq, pair_eta, map_idL, natCast_eq, inI64, maxRow]; first | done | with_reducible assumption | omega) | exact map_pair_id _)
         | ((try dsimp only [putSpec, readSpec, offSpec, offF, newStoSpec, Ty.T, Ty.dflt, KT.T, getM, putM, delM, inI64, maxRow] at *); first | ((try simp only [natCast_eq] at *) <;> omega) | ((try simp only [lens, natCast_eq] at *) <;> omega))
         | assumption
         | (symm; assumption)
         | (dsimp only; simp only [nrb, *]; done)
         | (simp; done)
         | (and_intros <;> first | trivial | with_reducible assumption | omega)
         | ((try dsimp only [putSpec, readSpec, offSpec, offF, newStoSpec, Ty.T, Ty.dflt, KT.T, getM, putM, delM, inI64, maxRow] at *) <;> simp [*] <;> done))
    | skip
  obtain ⟨x0, hx0⟩ : ∃ x : LEm w o, x.a = 0 := ⟨⟨0, by omega, by omega⟩, rfl⟩
  refine ⟨⟨LEm w o, fun x => ⟨[(0, Sx.one (.int .i64 (fun _ => w))), (1, Sx.one (.int .i64 (fun _ => o))), (5, Sx.one (.ptr 0 0))], [.abs (.sto (fun _ => eS w x.a))]⟩, fun x => (o - x.a).toNat, x0⟩, ?_, fun (x : LEm w o) => ?_⟩
  · (try (conv in (LoopInv.inv _ _) => dsimp only)); (try (conv in (SS.mk _ _) => cbv; (try dsimp only [putSpec, readSpec, offSpec, offF, newStoSpec, Ty.T, Ty.dflt, KT.T]); (try simp only [natCast_eq])))
    (with_reducible refine (?_ : T1 _ ?_) ?_; rotate_left 1; (conv => lhs; cbv; (try cbv); (try cbv)); intro hT; clear hT; with_reducible refine Sh.mk (by kernel_rfl) ?_)
    repeat' (first
      | with_reducible (first | refine Ck.mk (C := tt) tt_intro ?_ | refine Ck.mk (show drawOk _ _ = true by kernel_rfl) ?_ | refine Ck.all_cons ?_ | refine Ck.all_nil ?_ | refine Ck.mk (by assumption) ?_ | refine Ck.mk (decide_eq_true (by assumption)) ?_ | refine Ck.mk (decide_eq_false (by assumption)) ?_ | refine Ck.mk ?_ ?_)
      | (with_reducible (first | refine Both.mk (fun h => ?_) (fun h => ?_) | refine Alt.mk (fun h => ?_) (fun h => ?_) | refine Pick.mk (fun h => ?_) (fun l1 x l2 h => ?_)) <;> (have hk := h) <;> (try simp only [nrm, reduceCtorEq, pair_eta, map_idL] at h) <;> (try dsimp only [putSpec, readSpec, offSpec, offF, newStoSpec, Ty.T, Ty.dflt, KT.T, getM, putM, delM] at h) <;> (try simp only [natCast_eq] at h) <;> (try (have hq := emp_fact w1 w2 hlo h o2; obtain ⟨T, u1, u2, u3, u4⟩ := hq)) <;> (try simp only [u1] at h) <;> (try simp only [u3] at h) <;> (try first | rw [if_pos h] at hr | rw [if_neg h] at hr | rw [ifF h] at hr | rw [ifN h] at hr) <;> (try (have hb : (_ : Bool) = _ := h; clear h; subst hb; (try first | rw [if_pos rfl] at hr | rw [if_neg Bool.false_ne_true] at hr))) <;> first | (exfalso; omega) | exact absurd (h.symm.trans (by assumption) : true = false) Bool.noConfusion | exact absurd (h.symm.trans (by assumption) : false = true) Bool.noConfusion | (with_reducible refine (?_ : T1 _ ?_) ?_; rotate_left 1; (conv => lhs; cbv; (try cbv); (try cbv)); intro hT; clear hT; with_reducible refine Sh.mk (by kernel_rfl) ?_))
      | ((with_reducible refine End.mk ?_); skip)
      | with_reducible exact True.intro)
    all_goals first
      | (fail_if_success (with_reducible refine Exists.intro ?_ ?_)
         first
           | with_reducible rfl
           | with_reducible assumption
           | (symm; with_reducible assumption)
           | omega
           | ((try dsimp only [putSpec, readSpec, offSpec, offF, newStoSpec, Ty.T, Ty.dflt, KT.T, getM, putM, delM, inI64, maxRow]); first | done | with_reducible rfl | with_reducible assumption | (symm; with_reducible assumption) | ((try simp only [natCast_eq, List.nil_append]); first | done | with_reducible rfl | omega | exact take_cg (by omega) | exact drop_cg (by omega) | exact take_drop_cg (by omega) (by omega) | exact take_all (by omega) | exact take_drop_all (by omega) (by omega) | exact drop_take_cg (by omega) (by omega) (by omega)))
           | (show newS w = eS w x0.a; rw [hx0]; rfl)
           | ((try dsimp only [putSpec, readSpec, offSpec, offF, newStoSpec, Ty.T, Ty.dflt, KT.T, getM, putM, delM, inI64, maxRow]); first | (simp only [nrm, reduceCtorEq, pair_eta, map_idL, natCast_eq, inI64, maxRow]; first | done | with_reducible assumption | omega) | exact map_pair_id _)
           | ((try dsimp only [putSpec, readSpec, offSpec, offF, newStoSpec, Ty.T, Ty.dflt, KT.T, getM, putM, delM, inI64, maxRow] at *); first | ((try simp only [natCast_eq] at *) <;> omega) | ((try simp only [lens, natCast_eq] at *) <;> omega))
           | assumption
           | (symm; assumption)
           | (dsimp only; simp only [nrb, *]; done)
           | (simp; done)
           | (and_intros <;> first | trivial | with_reducible assumption | omega)
           | ((try dsimp only [putSpec, readSpec, offSpec, offF, newStoSpec, Ty.T, Ty.dflt, KT.T, getM, putM, delM, inI64, maxRow] at *) <;> simp [*] <;> done))
      | skip
  obtain ⟨a, hlo, hhi⟩ := x
  (try (conv in (LoopInv.inv _ _) => dsimp only)); (try (conv in (SS.mk _ _) => cbv; (try dsimp only [putSpec, readSpec, offSpec, offF, newStoSpec, Ty.T, Ty.dflt, KT.T]); (try simp only [natCast_eq])))
  (with_reducible refine (?_ : T1 _ ?_) ?_; rotate_left 1; (conv => lhs; cbv; (try cbv); (try cbv)); intro hT; clear hT; with_reducible refine Sh.mk (by kernel_rfl) ?_)
  repeat' (first
    | with_reducible (first | refine Ck.mk (C := tt) tt_intro ?_ | refine Ck.mk (show drawOk _ _ = true by kernel_rfl) ?_ | refine Ck.all_cons ?_ | refine Ck.all_nil ?_ | refine Ck.mk (by assumption) ?_ | refine Ck.mk (decide_eq_true (by assumption)) ?_ | refine Ck.mk (decide_eq_false (by assumption)) ?_ | refine Ck.mk ?_ ?_)
    | (with_reducible (first | refine Both.mk (fun h => ?_) (fun h => ?_) | refine Alt.mk (fun h => ?_) (fun h => ?_) | refine Pick.mk (fun h => ?_) (fun l1 x l2 h => ?_)) <;> (have hk := h) <;> (try simp only [nrm, reduceCtorEq, pair_eta, map_idL] at h) <;> (try dsimp only [putSpec, readSpec, offSpec, offF, newStoSpec, Ty.T, Ty.dflt, KT.T, getM, putM, delM] at h) <;> (try simp only [natCast_eq] at h) <;> (try (have hq := emp_fact w1 w2 hlo h o2; obtain ⟨T, u1, u2, u3, u4⟩ := hq)) <;> (try simp only [u1] at h) <;> (try simp only [u3] at h) <;> (try first | rw [if_pos h] at hr | rw [if_neg h] at hr | rw [ifF h] at hr | rw [ifN h] at hr) <;> (try (have hb : (_ : Bool) = _ := h; clear h; subst hb; (try first | rw [if_pos rfl] at hr | rw [if_neg Bool.false_ne_true] at hr))) <;> first | (exfalso; omega) | exact absurd (h.symm.trans (by assumption) : true = false) Bool.noConfusion | exact absurd (h.symm.trans (by assumption) : false = true) Bool.noConfusion | (with_reducible refine (?_ : T1 _ ?_) ?_; rotate_left 1; (conv => lhs; cbv; (try cbv); (try cbv)); intro hT; clear hT; with_reducible refine Sh.mk (by kernel_rfl) ?_))
    | ((with_reducible refine End.mk ?_); skip)
    | with_reducible exact True.intro)
  all_goals first
    | (fail_if_success (with_reducible refine Exists.intro ?_ ?_)
       first
         | with_reducible rfl
         | with_reducible assumption
         | (symm; with_reducible assumption)
         | omega
         | ((try dsimp only [putSpec, readSpec, offSpec, offF, newStoSpec, Ty.T, Ty.dflt, KT.T, getM, putM, delM, inI64, maxRow]); first | done | with_reducible rfl | with_reducible assumption | (symm; with_reducible assumption) | ((try simp only [natCast_eq, List.nil_append]); first | done | with_reducible rfl | omega | exact take_cg (by omega) | exact drop_cg (by omega) | exact take_drop_cg (by omega) (by omega) | exact take_all (by omega) | exact take_drop_all (by omega) (by omega) | exact drop_take_cg (by omega) (by omega) (by omega)))
         | first | exact eS_eq h hhi | exact ⟨(eS_ok w1 w2 hlo (by omega)).pre, by show (zer (min w (o - a))).length ≤ 1048576; omega⟩ | (show PreS (putF (eS w a) a (zer (min w (o - a))) false).2; rw [u1]; exact u2.pre)
         | ((try dsimp only [putSpec, readSpec, offSpec, offF, newStoSpec, Ty.T, Ty.dflt, KT.T, getM, putM, delM, inI64, maxRow]); first | (simp only [nrm, reduceCtorEq, pair_eta, map_idL, natCast_eq, inI64, maxRow]; first | done | with_reducible assumption | omega) | exact map_pair_id _)
         | ((try dsimp only [putSpec, readSpec, offSpec, offF, newStoSpec, Ty.T, Ty.dflt, KT.T, getM, putM, delM, inI64, maxRow] at *); first | ((try simp only [natCast_eq] at *) <;> omega) | ((try simp only [lens, natCast_eq] at *) <;> omega))
         | assumption
         | (symm; assumption)
         | (dsimp only; simp only [nrb, *]; done)
         | (simp; done)
         | (and_intros <;> first | trivial | with_reducible assumption | omega)
         | ((try dsimp only [putSpec, readSpec, offSpec, offF, newStoSpec, Ty.T, Ty.dflt, KT.T, getM, putM, delM, inI64, maxRow] at *) <;> simp [*] <;> done))
    | skip
  obtain ⟨y, hy⟩ := next_LEm (w := w) (o := o) hlo (by assumption) w1
  refine ⟨y, by dsimp only; (try simp only [natCast_eq]); omega, ?_⟩
  (try (conv in (LoopInv.inv _ _) => dsimp only)); (try (conv in (SS.mk _ _) => cbv; (try dsimp only [putSpec, readSpec, offSpec, offF, newStoSpec, Ty.T, Ty.dflt, KT.T]); (try simp only [natCast_eq])))
  (with_reducible refine (?_ : T1 _ ?_) ?_; rotate_left 1; (conv => lhs; cbv; (try cbv); (try cbv)); intro hT; clear hT; with_reducible refine Sh.mk (by kernel_rfl) ?_)
  repeat' (first
    | with_reducible (first | refine Ck.mk (C := tt) tt_intro ?_ | refine Ck.mk (show drawOk _ _ = true by kernel_rfl) ?_ | refine Ck.all_cons ?_ | refine Ck.all_nil ?_ | refine Ck.mk (by assumption) ?_ | refine Ck.mk (decide_eq_true (by assumption)) ?_ | refine Ck.mk (decide_eq_false (by assumption)) ?_ | refine Ck.mk ?_ ?_)
    | (with_reducible (first | refine Both.mk (fun h => ?_) (fun h => ?_) | refine Alt.mk (fun h => ?_) (fun h => ?_) | refine Pick.mk (fun h => ?_) (fun l1 x l2 h => ?_)) <;> (have hk := h) <;> (try simp only [nrm, reduceCtorEq, pair_eta, map_idL] at h) <;> (try dsimp only [putSpec, readSpec, offSpec, offF, newStoSpec, Ty.T, Ty.dflt, KT.T, getM, putM, delM] at h) <;> (try simp only [natCast_eq] at h) <;> (try (have hq := emp_fact w1 w2 hlo h o2; obtain ⟨T, u1, u2, u3, u4⟩ := hq)) <;> (try simp only [u1] at h) <;> (try simp only [u3] at h) <;> (try first | rw [if_pos h] at hr | rw [if_neg h] at hr | rw [ifF h] at hr | rw [ifN h] at hr) <;> (try (have hb : (_ : Bool) = _ := h; clear h; subst hb; (try first | rw [if_pos rfl] at hr | rw [if_neg Bool.false_ne_true] at hr))) <;> first | (exfalso; omega) | exact absurd (h.symm.trans (by assumption) : true = false) Bool.noConfusion | exact absurd (h.symm.trans (by assumption) : false = true) Bool.noConfusion | (with_reducible refine (?_ : T1 _ ?_) ?_; rotate_left 1; (conv => lhs; cbv; (try cbv); (try cbv)); intro hT; clear hT; with_reducible refine Sh.mk (by kernel_rfl) ?_))
    | ((with_reducible refine End.mk ?_); skip)
    | with_reducible exact True.intro)
  all_goals first
    | (fail_if_success (with_reducible refine Exists.intro ?_ ?_)
       first
         | with_reducible rfl
         | with_reducible assumption
         | (symm; with_reducible assumption)
         | omega
         | ((try dsimp only [putSpec, readSpec, offSpec, offF, newStoSpec, Ty.T, Ty.dflt, KT.T, getM, putM, delM, inI64, maxRow]); first | done | with_reducible rfl | with_reducible assumption | (symm; with_reducible assumption) | ((try simp only [natCast_eq, List.nil_append]); first | done | with_reducible rfl | omega | exact take_cg (by omega) | exact drop_cg (by omega) | exact take_drop_cg (by omega) (by omega) | exact take_all (by omega) | exact take_drop_all (by omega) (by omega) | exact drop_take_cg (by omega) (by omega) (by omega)))
         | (show (readF (putF (eS w a) a (zer (min w (o - a))) false).2 (min w (o - a))).2 = eS w y.a; rw [u1, u3, hy])
         | ((try dsimp only [putSpec, readSpec, offSpec, offF, newStoSpec, Ty.T, Ty.dflt, KT.T, getM, putM, delM, inI64, maxRow]); first | (simp only [nrm, reduceCtorEq, pair_eta, map_idL, natCast_eq, inI64, maxRow]; first | done | with_reducible assumption | omega) | exact map_pair_id _)
         | ((try dsimp only [putSpec, readSpec, offSpec, offF, newStoSpec, Ty.T, Ty.dflt, KT.T, getM, putM, delM, inI64, maxRow] at *); first | ((try simp only [natCast_eq] at *) <;> omega) | ((try simp only [lens, natCast_eq] at *) <;> omega))
         | assumption
         | (symm; assumption)
         | (dsimp only; simp only [nrb, *]; done)
         | (simp; done)
         | (and_intros <;> first | trivial | with_reducible assumption | omega)
         | ((try dsimp only [putSpec, readSpec, offSpec, offF, newStoSpec, Ty.T, Ty.dflt, KT.T, getM, putM, delM, inI64, maxRow] at *) <;> simp [*] <;> done))
    | skip
theorem emp_sound : ConSound Try.prog AI 40 empSpec.con := MakeSpec.sound Try.call40 ⟨fun _ => rfl, fun x h => emp_ok x.1 x.2.1 h⟩
end Go.Proofs.Ytgdiepbjdpmfbaa
