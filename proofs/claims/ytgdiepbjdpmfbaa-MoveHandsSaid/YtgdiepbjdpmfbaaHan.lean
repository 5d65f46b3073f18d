/-
  Layer 48: Finish and Hand.
-/
import Derived.Test.YtgdiepbjdpmfbaaMov
namespace Go.Proofs.Ytgdiepbjdpmfbaa
set_option linter.all false
set_option linter.unusedVariables false
set_option linter.unusedSimpArgs false
set_option linter.unusedSectionVars false
open Go.RowKit Go.Sx
set_option maxRecDepth 100000
set_option maxHeartbeats 16000000

noncomputable abbrev Eh : Env Ab := ⟨tis, [(42, runsSpec.con), (40, empSpec.con), (41, endSpec.con), (39, offSpec.con), (38, readSpec.con), (37, frzCon putSpec.con)] ++ E0.con⟩
theorem ehOk : EnvOk Try.prog AI Eh := ((((((e0Ok.add (frzCon_sound put_sound)).add read_sound).add off_sound).add end_sound).add emp_sound).add runs_sound)
def mfinSpec : MethSpec Ab := ⟨Mov, selM, .mov, false, [], fun S (x : Unit) => True, [.cell (.int .i64)], fun S (x : Unit) => (finM S).1, fun S (x : Unit) => (finM S).2⟩
theorem mfin_ok (S : Mov) : TmplOk Try.prog AI 20 (Sx.one (.ptr 0 0) :: argS mfinSpec.ds (fun _ => ())) [.abs (mfinSpec.put (fun _ => S))] (resOf (svs mfinSpec.rs (fun _ => mfinSpec.f S ()))) [.abs (mfinSpec.put (fun _ => mfinSpec.next S ()))] := by
  dsimp only [mfinSpec]
  obtain ⟨w, ph, a, b⟩ := S
  cases ph <;> dsimp only [finM]
  · refine tmpl_obj emOk mixed (fn := Try.f20) (c := bodyOf Try.f20) (by kernel_rfl) (by kernel_rfl) (by kernel_rfl) (Nat.le_of_ble_eq_true (by kernel_rfl)) (layOk _) (layOk _) rfl rfl (resOf_closed (svs_closed _ _)) ?_
    (try (conv in (LoopInv.inv _ _) => dsimp only)); (try (conv in (SS.mk _ _) => cbv; (try dsimp only [Ty.T, Ty.dflt, KT.T]); (try simp only [natCast_eq])))
    (with_reducible refine (?_ : T1 _ ?_) ?_; rotate_left 1; (conv => lhs; cbv; (try cbv); (try cbv)); intro hT; clear hT; with_reducible refine Sh.mk (by kernel_rfl) ?_)
    repeat' (first
      | with_reducible (first | refine Ck.mk (C := tt) tt_intro ?_ | refine Ck.mk (show drawOk _ _ = true by kernel_rfl) ?_ | refine Ck.all_cons ?_ | refine Ck.all_nil ?_ | refine Ck.mk (by assumption) ?_ | refine Ck.mk (decide_eq_true (by assumption)) ?_ | refine Ck.mk (decide_eq_false (by assumption)) ?_ | refine Ck.mk ?_ ?_)
      | (with_reducible (first | refine Both.mk (fun h => ?_) (fun h => ?_) | refine Alt.mk (fun h => ?_) (fun h => ?_) | refine Pick.mk (fun h => ?_) (fun l1 x l2 h => ?_)) <;> (have hk := h) <;> (try simp only [nrm, reduceCtorEq, pair_eta, map_idL] at h) <;> (try dsimp only [Ty.T, Ty.dflt, KT.T, getM, putM, delM] at h) <;> (try simp only [natCast_eq] at h) <;> skip <;> (try first | rw [if_pos h] at hr | rw [if_neg h] at hr | rw [ifF h] at hr | rw [ifN h] at hr) <;> (try (have hb : (_ : Bool) = _ := h; clear h; subst hb; (try first | rw [if_pos rfl] at hr | rw [if_neg Bool.false_ne_true] at hr))) <;> first | (exfalso; omega) | exact absurd (h.symm.trans (by assumption) : true = false) Bool.noConfusion | exact absurd (h.symm.trans (by assumption) : false = true) Bool.noConfusion | (with_reducible refine (?_ : T1 _ ?_) ?_; rotate_left 1; (conv => lhs; cbv; (try cbv); (try cbv)); intro hT; clear hT; with_reducible refine Sh.mk (by kernel_rfl) ?_))
      | ((with_reducible refine End.mk ?_); skip)
      | with_reducible exact True.intro)
    all_goals first
      | (fail_if_success (with_reducible refine Exists.intro ?_ ?_)
         first
           | with_reducible rfl
           | with_reducible assumption
           | (symm; with_reducible assumption)
           | omega
           | ((try dsimp only [Ty.T, Ty.dflt, KT.T, getM, putM, delM, inI64, maxRow]); first | done | with_reducible rfl | with_reducible assumption | (symm; with_reducible assumption) | ((try simp only [natCast_eq, List.nil_append]); first | done | with_reducible rfl | omega | exact take_cg (by omega) | exact drop_cg (by omega) | exact take_drop_cg (by omega) (by omega) | exact take_all (by omega) | exact take_drop_all (by omega) (by omega) | exact drop_take_cg (by omega) (by omega) (by omega)))
           | ((try dsimp only [Ty.T, Ty.dflt, KT.T, getM, putM, delM, inI64, maxRow]); first | (simp only [nrm, reduceCtorEq, pair_eta, map_idL, natCast_eq, inI64, maxRow]; first | done | with_reducible assumption | omega) | exact map_pair_id _)
           | ((try dsimp only [Ty.T, Ty.dflt, KT.T, getM, putM, delM, inI64, maxRow] at *); first | ((try simp only [natCast_eq] at *) <;> omega) | ((try simp only [lens, natCast_eq] at *) <;> omega))
           | assumption
           | (symm; assumption)
           | (dsimp only; simp only [nrb, *]; done)
           | (simp; done)
           | (and_intros <;> first | trivial | with_reducible assumption | omega)
           | ((try dsimp only [Ty.T, Ty.dflt, KT.T, getM, putM, delM, inI64, maxRow] at *) <;> simp [*] <;> done))
      | skip
  · refine tmpl_objR emOk mixed (fn := Try.f20) (c := bodyOf Try.f20) (by kernel_rfl) (by kernel_rfl) (by kernel_rfl) (Nat.le_of_ble_eq_true (by kernel_rfl)) (layOk _) (layOk _) (resOf_closed (svs_closed _ _)) ?_
    (try (conv in (LoopInv.inv _ _) => dsimp only)); (try (conv in (SS.mk _ _) => cbv; (try dsimp only [Ty.T, Ty.dflt, KT.T]); (try simp only [natCast_eq])))
    (with_reducible refine (?_ : T1 _ ?_) ?_; rotate_left 1; (conv => lhs; cbv; (try cbv); (try cbv)); intro hT; clear hT; with_reducible refine Sh.mk (by kernel_rfl) ?_)
    repeat' (first
      | with_reducible (first | refine Ck.mk (C := tt) tt_intro ?_ | refine Ck.mk (show drawOk _ _ = true by kernel_rfl) ?_ | refine Ck.all_cons ?_ | refine Ck.all_nil ?_ | refine Ck.mk (by assumption) ?_ | refine Ck.mk (decide_eq_true (by assumption)) ?_ | refine Ck.mk (decide_eq_false (by assumption)) ?_ | refine Ck.mk ?_ ?_)
      | (with_reducible (first | refine Both.mk (fun h => ?_) (fun h => ?_) | refine Alt.mk (fun h => ?_) (fun h => ?_) | refine Pick.mk (fun h => ?_) (fun l1 x l2 h => ?_)) <;> (have hk := h) <;> (try simp only [nrm, reduceCtorEq, pair_eta, map_idL] at h) <;> (try dsimp only [Ty.T, Ty.dflt, KT.T, getM, putM, delM] at h) <;> (try simp only [natCast_eq] at h) <;> skip <;> (try first | rw [if_pos h] at hr | rw [if_neg h] at hr | rw [ifF h] at hr | rw [ifN h] at hr) <;> (try (have hb : (_ : Bool) = _ := h; clear h; subst hb; (try first | rw [if_pos rfl] at hr | rw [if_neg Bool.false_ne_true] at hr))) <;> first | (exfalso; omega) | exact absurd (h.symm.trans (by assumption) : true = false) Bool.noConfusion | exact absurd (h.symm.trans (by assumption) : false = true) Bool.noConfusion | (with_reducible refine (?_ : T1 _ ?_) ?_; rotate_left 1; (conv => lhs; cbv; (try cbv); (try cbv)); intro hT; clear hT; with_reducible refine Sh.mk (by kernel_rfl) ?_))
      | ((with_reducible refine End.mk ?_); skip)
      | with_reducible exact True.intro)
    all_goals (refine ⟨[0, 2], by decide, ?_⟩; cbv)
    repeat' (first | refine Ck.mk trivial ?_ | refine Ck.mk (by assumption) ?_ | refine Ck.mk ?_ ?_ | refine End.mk ?_ | exact trivial)
    all_goals first
      | (fail_if_success (with_reducible refine Exists.intro ?_ ?_)
         first
           | with_reducible rfl
           | with_reducible assumption
           | (symm; with_reducible assumption)
           | omega
           | ((try dsimp only [Ty.T, Ty.dflt, KT.T, getM, putM, delM, inI64, maxRow]); first | done | with_reducible rfl | with_reducible assumption | (symm; with_reducible assumption) | ((try simp only [natCast_eq, List.nil_append]); first | done | with_reducible rfl | omega | exact take_cg (by omega) | exact drop_cg (by omega) | exact take_drop_cg (by omega) (by omega) | exact take_all (by omega) | exact take_drop_all (by omega) (by omega) | exact drop_take_cg (by omega) (by omega) (by omega)))
           | ((try dsimp only [Ty.T, Ty.dflt, KT.T, getM, putM, delM, inI64, maxRow]); first | (simp only [nrm, reduceCtorEq, pair_eta, map_idL, natCast_eq, inI64, maxRow]; first | done | with_reducible assumption | omega) | exact map_pair_id _)
           | ((try dsimp only [Ty.T, Ty.dflt, KT.T, getM, putM, delM, inI64, maxRow] at *); first | ((try simp only [natCast_eq] at *) <;> omega) | ((try simp only [lens, natCast_eq] at *) <;> omega))
           | assumption
           | (symm; assumption)
           | (dsimp only; simp only [nrb, *]; done)
           | (simp; done)
           | (and_intros <;> first | trivial | with_reducible assumption | omega)
           | ((try dsimp only [Ty.T, Ty.dflt, KT.T, getM, putM, delM, inI64, maxRow] at *) <;> simp [*] <;> done))
      | skip
  · refine tmpl_obj emOk mixed (fn := Try.f20) (c := bodyOf Try.f20) (by kernel_rfl) (by kernel_rfl) (by kernel_rfl) (Nat.le_of_ble_eq_true (by kernel_rfl)) (layOk _) (layOk _) rfl rfl (resOf_closed (svs_closed _ _)) ?_
    (try (conv in (LoopInv.inv _ _) => dsimp only)); (try (conv in (SS.mk _ _) => cbv; (try dsimp only [Ty.T, Ty.dflt, KT.T]); (try simp only [natCast_eq])))
    (with_reducible refine (?_ : T1 _ ?_) ?_; rotate_left 1; (conv => lhs; cbv; (try cbv); (try cbv)); intro hT; clear hT; with_reducible refine Sh.mk (by kernel_rfl) ?_)
    repeat' (first
      | with_reducible (first | refine Ck.mk (C := tt) tt_intro ?_ | refine Ck.mk (show drawOk _ _ = true by kernel_rfl) ?_ | refine Ck.all_cons ?_ | refine Ck.all_nil ?_ | refine Ck.mk (by assumption) ?_ | refine Ck.mk (decide_eq_true (by assumption)) ?_ | refine Ck.mk (decide_eq_false (by assumption)) ?_ | refine Ck.mk ?_ ?_)
      | (with_reducible (first | refine Both.mk (fun h => ?_) (fun h => ?_) | refine Alt.mk (fun h => ?_) (fun h => ?_) | refine Pick.mk (fun h => ?_) (fun l1 x l2 h => ?_)) <;> (have hk := h) <;> (try simp only [nrm, reduceCtorEq, pair_eta, map_idL] at h) <;> (try dsimp only [Ty.T, Ty.dflt, KT.T, getM, putM, delM] at h) <;> (try simp only [natCast_eq] at h) <;> skip <;> (try first | rw [if_pos h] at hr | rw [if_neg h] at hr | rw [ifF h] at hr | rw [ifN h] at hr) <;> (try (have hb : (_ : Bool) = _ := h; clear h; subst hb; (try first | rw [if_pos rfl] at hr | rw [if_neg Bool.false_ne_true] at hr))) <;> first | (exfalso; omega) | exact absurd (h.symm.trans (by assumption) : true = false) Bool.noConfusion | exact absurd (h.symm.trans (by assumption) : false = true) Bool.noConfusion | (with_reducible refine (?_ : T1 _ ?_) ?_; rotate_left 1; (conv => lhs; cbv; (try cbv); (try cbv)); intro hT; clear hT; with_reducible refine Sh.mk (by kernel_rfl) ?_))
      | ((with_reducible refine End.mk ?_); skip)
      | with_reducible exact True.intro)
    all_goals first
      | (fail_if_success (with_reducible refine Exists.intro ?_ ?_)
         first
           | with_reducible rfl
           | with_reducible assumption
           | (symm; with_reducible assumption)
           | omega
           | ((try dsimp only [Ty.T, Ty.dflt, KT.T, getM, putM, delM, inI64, maxRow]); first | done | with_reducible rfl | with_reducible assumption | (symm; with_reducible assumption) | ((try simp only [natCast_eq, List.nil_append]); first | done | with_reducible rfl | omega | exact take_cg (by omega) | exact drop_cg (by omega) | exact take_drop_cg (by omega) (by omega) | exact take_all (by omega) | exact take_drop_all (by omega) (by omega) | exact drop_take_cg (by omega) (by omega) (by omega)))
           | ((try dsimp only [Ty.T, Ty.dflt, KT.T, getM, putM, delM, inI64, maxRow]); first | (simp only [nrm, reduceCtorEq, pair_eta, map_idL, natCast_eq, inI64, maxRow]; first | done | with_reducible assumption | omega) | exact map_pair_id _)
           | ((try dsimp only [Ty.T, Ty.dflt, KT.T, getM, putM, delM, inI64, maxRow] at *); first | ((try simp only [natCast_eq] at *) <;> omega) | ((try simp only [lens, natCast_eq] at *) <;> omega))
           | assumption
           | (symm; assumption)
           | (dsimp only; simp only [nrb, *]; done)
           | (simp; done)
           | (and_intros <;> first | trivial | with_reducible assumption | omega)
           | ((try dsimp only [Ty.T, Ty.dflt, KT.T, getM, putM, delM, inI64, maxRow] at *) <;> simp [*] <;> done))
      | skip
theorem mfin_sound : ConSound Try.prog AI 20 mfinSpec.con := MethSpec.sound Try.call20 ⟨fun a W h => by cases a <;> cases h; rfl, (fun h => by cases h), fun W x h => mfin_ok W⟩

/-! ### Hand -/
def closeL (l : List Seg) (e : Int) : List Seg :=
  if 0 ≤ (l.length : Int) - 1 ∧ (l.getD ((l.length : Int) - 1).toNat (0, [], false)).1 + ((l.getD ((l.length : Int) - 1).toNat (0, [], false)).2.1.length : Int) = e
  then l.set ((l.length : Int) - 1).toNat ((l.getD ((l.length : Int) - 1).toNat (0, [], false)).1, (l.getD ((l.length : Int) - 1).toNat (0, [], false)).2.1, true)
  else l ++ [(e, [], true)]
abbrev endA (e : Int) : Int := min e 1099511627776
def handL (a : Sto) : List Seg := if a.known = true then closeL (runsF a).1 a.fin else (runsF a).1
def handA (w : Int) (a : Sto) : Sto := if a.known = true then (putF (eS w a.off) (endA a.fin) (zer (a.fin - endA a.fin)) true).2 else eS w a.off
def putsL : Sto → List Seg → Sto
  | B, [] => B
  | B, s :: r => putsL (putF B s.1 s.2.1 s.2.2).2 r
abbrev HT := Tup [DT.lst segE, .cell (.int .i64)]
def handM (M : Mov) : HT × Mov :=
  match M.ph with
  | .old => (([], 6, ()), ⟨M.win, .old, M.a, M.b⟩)
  | .drain => ((handL M.a, 0, ()), ⟨M.win, .drain, handA M.win M.a, putsL M.b (handL M.a)⟩)
  | .moved => (([], 6, ()), ⟨M.win, .moved, M.a, M.b⟩)
structure SegOk (s : Seg) : Prop where
  o : 0 ≤ s.1 ∧ s.1 ≤ topK
  n : s.2.1.length ≤ 1048576
  byt : inBytes s.2.1
theorem runs_all {S : Sto} (h : PreR S) (Q : Seg → Prop) (hQ : ∀ T n, Cut S T → 0 < n → Q (T.off, (readF T n).1.1, false)) : ∀ s ∈ (runsF S).1, Q s := by
  have hr : ∀ (l : List Seg) (T : Sto) (n : Int), Cut S T → (∀ s ∈ l, Q s) → ∀ s ∈ (rdTo l T n).1, Q s := by
    intro l T n hc hl s hs
    unfold rdTo at hs
    split at hs
    · rcases List.mem_append.1 hs with h1 | h1
      · exact hl s h1
      · rw [List.mem_singleton.1 h1]; exact hQ T n hc (by assumption)
    · exact hl s hs
  have key : ∀ (m : Nat) (x : LR S), ((gapsL S).length - x.i).toNat = m → (∀ s ∈ x.l, Q s) → ∀ s ∈ (runsF S).1, Q s := by
    intro m
    induction m with
    | zero =>
      intro x hm hl
      rw [← ru_done x (by omega)]
      exact hr _ _ _ x.cut hl
    | succ m ih =>
      intro x hm hl
      have hlo := x.lo
      have F := ruF h x (by omega)
      have hl2 := hr x.l x.T ((gAt S x.i).1 - x.T.off) x.cut hl
      by_cases c : ((rdTo x.l x.T ((gAt S x.i).1 - x.T.off)).2.kept.length : Int) = 0
      · rw [← F.end_ c]; exact hl2
      · obtain ⟨y, y1, y2, _⟩ := F.nx c
        exact ih y (by omega) (by rw [y2]; exact hl2)
  obtain ⟨x0, _, hx1, _⟩ := lr0 h.ok
  exact key _ x0 rfl (by rw [hx1]; intro s hs; cases hs)
theorem read_byt {S : Sto} (h : StO S) (m : Int) : inBytes (readF S m).1.1 := by
  unfold readF
  split
  · intro x hx; cases hx
  · intro x hx
    have hx : x ∈ rdB S.kept S.off (rdN S m).toNat := hx
    obtain ⟨i, hi, rfl⟩ := List.mem_iff_getElem.1 hx
    rw [rdB_len] at hi
    have hg := rdB_get (rdN S m).toNat S.kept S.off i hi
    rw [List.getD_eq_getElem?_getD, List.getElem?_eq_getElem (by rw [rdB_len]; exact hi)] at hg
    have hg : (rdB S.kept S.off (rdN S m).toNat)[i] = (getI S.kept (S.off + i)).getD 0 := hg
    rw [hg]
    cases e : getI S.kept (S.off + i) with
    | none => show (0 : Int) ≤ 0 ∧ (0 : Int) < 256; omega
    | some v => exact h.byt _ (getI_mem e)
theorem read_len2 {S : Sto} (h : StO S) (m : Int) : ((readF S m).1.1 : List Int).length ≤ 1048576 := by
  unfold readF
  split
  · exact Nat.zero_le _
  · show (rdB S.kept S.off (rdN S m).toNat).length ≤ _
    rw [rdB_len]
    have := h.nxt; have := h.win; dsimp only [rdN]; omega
theorem runs_sg {S : Sto} (h : PreR S) : ∀ s ∈ (runsF S).1, SegOk s := by
  refine runs_all h SegOk fun T n hc hn => ⟨?_, read_len2 hc.ok n, read_byt hc.ok n⟩
  have h1 := hc.ok.off; have h2 := hc.ok.nxt
  exact ⟨h1.1, by show T.off ≤ topK; omega⟩
theorem segOk_close {l : List Seg} {e : Int} (hl : ∀ s ∈ l, SegOk s) (h0 : 0 ≤ e) (h1 : e ≤ topK) : ∀ s ∈ closeL l e, SegOk s := by
  unfold closeL
  split
  · rename_i hc
    intro s hs
    rcases List.mem_or_eq_of_mem_set hs with h | rfl
    · exact hl s h
    · have hlt : ((l.length : Int) - 1).toNat < l.length := by omega
      have hm := hl (l.getD ((l.length : Int) - 1).toNat (0, [], false)) (by rw [List.getD_eq_getElem?_getD, List.getElem?_eq_getElem hlt]; exact List.getElem_mem hlt)
      exact ⟨hm.o, hm.n, hm.byt⟩
  · intro s hs
    rcases List.mem_append.1 hs with h | h
    · exact hl s h
    · rw [List.mem_singleton.1 h]; exact ⟨⟨h0, h1⟩, by simp, fun x hx => by cases hx⟩
structure LH (b : Sto) (L : List Seg) where
  i : Int
  B : Sto
  lo : 0 ≤ i
  hi : i ≤ L.length
  ok : StO B
  eq : putsL B (L.drop i.toNat) = putsL b L
abbrev sAt (L : List Seg) (i : Int) : Seg := L.getD i.toNat (0, [], false)
theorem lh_step {b : Sto} {L : List Seg} (hL : ∀ s ∈ L, SegOk s) (x : LH b L) (h : x.i < (L.length : Int)) : (sAt L x.i).2.1.length ≤ 1048576 ∧ ∃ y : LH b L, y.i = x.i + 1 ∧ y.B = (putF x.B (sAt L x.i).1 (sAt L x.i).2.1 (sAt L x.i).2.2).2 := by
  have hlo := x.lo
  have hlt : x.i.toNat < L.length := by omega
  have es : sAt L x.i = L[x.i.toNat] := by rw [sAt, List.getD_eq_getElem?_getD, List.getElem?_eq_getElem hlt]; rfl
  have hs := hL (sAt L x.i) (by rw [es]; exact List.getElem_mem hlt)
  have heq := x.eq
  rw [List.drop_eq_getElem_cons hlt, ← es] at heq
  refine ⟨hs.n, ⟨x.i + 1, (putF x.B (sAt L x.i).1 (sAt L x.i).2.1 (sAt L x.i).2.2).2, by omega, by omega, put_sto x.ok _ hs.byt hs.n, ?_⟩, rfl, rfl⟩
  rw [show (x.i + 1).toNat = x.i.toNat + 1 by omega]; exact heq
theorem lh_done {b : Sto} {L : List Seg} (x : LH b L) (h : ¬ x.i < (L.length : Int)) : x.B = putsL b L := by
  have heq := x.eq
  rw [List.drop_eq_nil_of_le (by omega)] at heq
  exact heq
theorem lh0 {b : Sto} (hb : StO b) (L : List Seg) : ∃ x : LH b L, x.i = 0 ∧ x.B = b := ⟨⟨0, b, Int.le_refl _, by omega, hb, rfl⟩, rfl, rfl⟩
theorem runs_len {S : Sto} (h : PreR S) : (runsF S).1.length ≤ 1048578 := by
  have hg := gapsL_len S
  have hk := h.ok.len; have hw := h.ok.win
  have hr : ∀ (l : List Seg) (T : Sto) (n : Int), (rdTo l T n).1.length ≤ l.length + 1 := by
    intro l T n
    unfold rdTo
    split
    · simp
    · show l.length ≤ _; omega
  have key : ∀ (m : Nat) (x : LR S), ((gapsL S).length - x.i).toNat = m → (runsF S).1.length ≤ 1048578 := by
    intro m
    induction m with
    | zero =>
      intro x hm
      rw [← ru_done x (by omega)]
      have := hr x.l x.T x.T.kept.length
      have := x.len; have := x.hi
      omega
    | succ m ih =>
      intro x hm
      have hlo := x.lo
      have F := ruF h x (by omega)
      by_cases c : ((rdTo x.l x.T ((gAt S x.i).1 - x.T.off)).2.kept.length : Int) = 0
      · rw [← F.end_ c]
        have := hr x.l x.T ((gAt S x.i).1 - x.T.off)
        have := x.len; have := x.hi
        omega
      · obtain ⟨y, y1, y2, _⟩ := F.nx c
        exact ih y (by omega)
  obtain ⟨x0, _, _⟩ := lr0 h.ok
  exact key _ x0 rfl
abbrev eF (a : Sto) : Int := if a.known = true then a.fin else 0
structure HnF (w : Int) (a : Sto) : Prop where
  f : 0 ≤ eF a ∧ eF a ≤ 1099512676352
  e : StO (eS w a.off)
  r : ∀ s ∈ (runsF a).1, SegOk s
  l : (runsF a).1.length ≤ 1048578
theorem hnF {w : Int} {a : Sto} (hP : PreR a) (hw : a.win = w) (h42 : a.known = true → a.fin ≤ 1099512676352) : HnF w a := by
  have hE := hP.ok.fin; have h2 := hP.ok.win; have h3 := hP.ok.off; have h4 := hP.top
  refine ⟨?_, eS_ok (by omega) (by omega) h3.1 (by omega), runs_sg hP, runs_len hP⟩
  dsimp only [eF]
  split
  · rename_i hk; have := hE hk; have := h42 hk; omega
  · omega
theorem hn_i1 {w : Int} {a : Sto} (h : HnF w a) : inI64 (eF a - min (eF a) 1099511627776) := by
  have := h.f; unfold inI64; omega
theorem hn_mk {w : Int} {a : Sto} (h : HnF w a) : 0 ≤ eF a - min (eF a) 1099511627776 ∧ eF a - min (eF a) 1099511627776 ≤ eF a - min (eF a) 1099511627776 ∧ eF a - min (eF a) 1099511627776 ≤ 1099511627776 := by
  have := h.f; omega
theorem hn_put {w : Int} {a : Sto} (h : HnF w a) : PreS (eS w a.off) ∧ (zer (eF a - min (eF a) 1099511627776)).length ≤ 1048576 := by
  have := h.f
  refine ⟨h.e.pre, ?_⟩
  rw [List.length_replicate]; omega
theorem hn_i2 {w : Int} {a : Sto} (h : HnF w a) : inI64 (((runsF a).1.length : Int) - 1) := by
  have := h.l; unfold inI64; omega
theorem hn_i3 {w : Int} {a : Sto} (h : HnF w a) (h0 : 0 ≤ ((runsF a).1.length : Int) - 1) : inI64 (((runsF a).1.getD (((runsF a).1.length : Int) - 1).toNat (0, [], false)).1 + (((runsF a).1.getD (((runsF a).1.length : Int) - 1).toNat (0, [], false)).2.1.length : Int)) := by
  have hlt : (((runsF a).1.length : Int) - 1).toNat < (runsF a).1.length := by omega
  have hm := h.r ((runsF a).1.getD (((runsF a).1.length : Int) - 1).toNat (0, [], false)) (by rw [List.getD_eq_getElem?_getD, List.getElem?_eq_getElem hlt]; exact List.getElem_mem hlt)
  have h1 := hm.o; have h2 := hm.n
  generalize (runsF a).1.getD (((runsF a).1.length : Int) - 1).toNat (0, [], false) = s at *
  dsimp only [topK] at h1
  unfold inI64; omega
theorem hn_len {w : Int} {a : Sto} (h : HnF w a) : (runsF a).1.length + 1 ≤ 1099511627776 := by
  have := h.l; omega
theorem hn_hs {w : Int} {a : Sto} (h : HnF w a) : ∀ s ∈ handL a, SegOk s := by
  have hf := h.f
  unfold handL
  split
  · rename_i hk
    dsimp only [eF] at hf
    rw [if_pos hk] at hf
    exact segOk_close h.r hf.1 (by dsimp only [topK]; omega)
  · exact h.r
theorem hn_hl {w : Int} {a : Sto} (h : HnF w a) : (handL a).length ≤ 1048579 := by
  have hl := h.l
  unfold handL
  split
  · unfold closeL
    split
    · rw [List.length_set]; omega
    · rw [List.length_append]; simp; omega
  · omega
theorem hA_k {w : Int} {a : Sto} (hk : a.known = true) : (putF (eS w a.off) (min (eF a) 1099511627776) (zer (eF a - min (eF a) 1099511627776)) true).2 = handA w a := by
  unfold handA; dsimp only [eF, endA]; rw [if_pos hk, if_pos hk]
theorem hA_n {w : Int} {a : Sto} (hk : a.known = false) : eS w a.off = handA w a := by
  unfold handA; rw [if_neg (by rw [hk]; exact Bool.false_ne_true)]
abbrev qEnd (a : Sto) : Int := ((runsF a).1.getD (((runsF a).1.length : Int) - 1).toNat (0, [], false)).1 + (((runsF a).1.getD (((runsF a).1.length : Int) - 1).toNat (0, [], false)).2.1.length : Int)
theorem hL_set {a : Sto} (hk : a.known = true) (h0 : 0 ≤ ((runsF a).1.length : Int) - 1) (h1 : qEnd a = eF a) : (runsF a).1.set (((runsF a).1.length : Int) - 1).toNat (((runsF a).1.getD (((runsF a).1.length : Int) - 1).toNat (0, [], false)).1, ((runsF a).1.getD (((runsF a).1.length : Int) - 1).toNat (0, [], false)).2.1, true) = handL a := by
  dsimp only [eF] at h1
  rw [if_pos hk] at h1
  unfold handL closeL; rw [if_pos hk, if_pos ⟨h0, h1⟩]
theorem hL_app {a : Sto} (hk : a.known = true) (h1 : ¬ qEnd a = eF a) : (runsF a).1 ++ [(eF a, [], true)] = handL a := by
  dsimp only [eF] at h1 ⊢
  rw [if_pos hk] at h1 ⊢
  unfold handL closeL; rw [if_pos hk, if_neg (fun h => h1 h.2)]
theorem hL_app0 {a : Sto} (hk : a.known = true) (h0 : ¬ 0 ≤ ((runsF a).1.length : Int) - 1) : (runsF a).1 ++ [(eF a, [], true)] = handL a := by
  dsimp only [eF]
  rw [if_pos hk]
  unfold handL closeL; rw [if_pos hk, if_neg (fun h => h0 h.1)]
theorem hL_n {a : Sto} (hk : a.known = false) : (runsF a).1 = handL a := by
  unfold handL; rw [if_neg (by rw [hk]; exact Bool.false_ne_true)]
def mhandSpec : MethSpec Ab := ⟨Mov, selM, .mov, false, [], fun S (x : Unit) => OkM S ∧ (S.ph = .drain → S.a.off + S.win ≤ 1099511627776 ∧ (S.a.known = true → S.a.fin ≤ 1099512676352)), [.lst segE, .cell (.int .i64)], fun S (x : Unit) => (handM S).1, fun S (x : Unit) => (handM S).2⟩
theorem mhand_ok (S : Mov) (h : mhandSpec.pre S ()) : TmplOk Try.prog AI 17 (Sx.one (.ptr 0 0) :: argS mhandSpec.ds (fun _ => ())) [.abs (mhandSpec.put (fun _ => S))] (resOf (svs mhandSpec.rs (fun _ => mhandSpec.f S ()))) [.abs (mhandSpec.put (fun _ => mhandSpec.next S ()))] := by
  dsimp only [mhandSpec] at h ⊢
  obtain ⟨hM, h40⟩ := h
  obtain ⟨w, ph, a, b⟩ := S
  cases ph <;> dsimp only [handM]
  · refine tmpl_obj ehOk mixed (fn := Try.f17) (c := bodyOf Try.f17) (by kernel_rfl) (by kernel_rfl) (by kernel_rfl) (Nat.le_of_ble_eq_true (by kernel_rfl)) (layOk _) (layOk _) rfl rfl (resOf_closed (svs_closed _ _)) ?_
    (try (conv in (LoopInv.inv _ _) => dsimp only)); (try (conv in (SS.mk _ _) => cbv; (try dsimp only [putSpec, offSpec, offF, endSpec, endF, empSpec, runsSpec, Ty.T, Ty.dflt, KT.T]); (try simp only [natCast_eq])))
    (with_reducible refine (?_ : T1 _ ?_) ?_; rotate_left 1; (conv => lhs; cbv; (try cbv); (try cbv)); intro hT; clear hT; with_reducible refine Sh.mk (by kernel_rfl) ?_)
    repeat' (first
      | with_reducible (first | refine Ck.mk (C := tt) tt_intro ?_ | refine Ck.mk (show drawOk _ _ = true by kernel_rfl) ?_ | refine Ck.all_cons ?_ | refine Ck.all_nil ?_ | refine Ck.mk (by assumption) ?_ | refine Ck.mk (decide_eq_true (by assumption)) ?_ | refine Ck.mk (decide_eq_false (by assumption)) ?_ | refine Ck.mk ?_ ?_)
      | (with_reducible (first | refine Both.mk (fun h => ?_) (fun h => ?_) | refine Alt.mk (fun h => ?_) (fun h => ?_) | refine Pick.mk (fun h => ?_) (fun l1 x l2 h => ?_)) <;> (have hk := h) <;> (try simp only [nrm, reduceCtorEq, pair_eta, map_idL] at h) <;> (try dsimp only [putSpec, offSpec, offF, endSpec, endF, empSpec, runsSpec, Ty.T, Ty.dflt, KT.T, getM, putM, delM] at h) <;> (try simp only [natCast_eq] at h) <;> skip <;> (try first | rw [if_pos h] at hr | rw [if_neg h] at hr | rw [ifF h] at hr | rw [ifN h] at hr) <;> (try (have hb : (_ : Bool) = _ := h; clear h; subst hb; (try first | rw [if_pos rfl] at hr | rw [if_neg Bool.false_ne_true] at hr))) <;> first | (exfalso; omega) | exact absurd (h.symm.trans (by assumption) : true = false) Bool.noConfusion | exact absurd (h.symm.trans (by assumption) : false = true) Bool.noConfusion | (with_reducible refine (?_ : T1 _ ?_) ?_; rotate_left 1; (conv => lhs; cbv; (try cbv); (try cbv)); intro hT; clear hT; with_reducible refine Sh.mk (by kernel_rfl) ?_))
      | ((with_reducible refine End.mk ?_); skip)
      | with_reducible exact True.intro)
    all_goals first
      | (fail_if_success (with_reducible refine Exists.intro ?_ ?_)
         first
           | with_reducible rfl
           | with_reducible assumption
           | (symm; with_reducible assumption)
           | omega
           | ((try dsimp only [putSpec, offSpec, offF, endSpec, endF, empSpec, runsSpec, Ty.T, Ty.dflt, KT.T, getM, putM, delM, inI64, maxRow]); first | done | with_reducible rfl | with_reducible assumption | (symm; with_reducible assumption) | ((try simp only [natCast_eq, List.nil_append]); first | done | with_reducible rfl | omega | exact take_cg (by omega) | exact drop_cg (by omega) | exact take_drop_cg (by omega) (by omega) | exact take_all (by omega) | exact take_drop_all (by omega) (by omega) | exact drop_take_cg (by omega) (by omega) (by omega)))
           | ((try dsimp only [putSpec, offSpec, offF, endSpec, endF, empSpec, runsSpec, Ty.T, Ty.dflt, KT.T, getM, putM, delM, inI64, maxRow]); first | (simp only [nrm, reduceCtorEq, pair_eta, map_idL, natCast_eq, inI64, maxRow]; first | done | with_reducible assumption | omega) | exact map_pair_id _)
           | ((try dsimp only [putSpec, offSpec, offF, endSpec, endF, empSpec, runsSpec, Ty.T, Ty.dflt, KT.T, getM, putM, delM, inI64, maxRow] at *); first | ((try simp only [natCast_eq] at *) <;> omega) | ((try simp only [lens, natCast_eq] at *) <;> omega))
           | assumption
           | (symm; assumption)
           | (dsimp only; simp only [nrb, *]; done)
           | (simp; done)
           | (and_intros <;> first | trivial | with_reducible assumption | omega)
           | ((try dsimp only [putSpec, offSpec, offF, endSpec, endF, empSpec, runsSpec, Ty.T, Ty.dflt, KT.T, getM, putM, delM, inI64, maxRow] at *) <;> simp [*] <;> done))
      | skip
  · have ha := hM.a (fun e => by cases e)
    have hb := hM.b (fun e => by cases e)
    obtain ⟨h41, h42⟩ := h40 rfl
    have hw := hM.win
    dsimp only at ha hb h41 h42 hw
    have hP : PreR a := ⟨ha.1, by rw [ha.2]; exact h41⟩
    have hE := ha.1.fin
    have hO := ha.1.off
    have hF := hnF hP ha.2 h42
    have hLs := hn_hs hF
    refine tmpl_objR ehOk mixed (fn := Try.f17) (c := bodyOf Try.f17) (by kernel_rfl) (by kernel_rfl) (by kernel_rfl) (Nat.le_of_ble_eq_true (by kernel_rfl)) (layOk _) (layOk _) (resOf_closed (svs_closed _ _)) ?_
    (try (conv in (LoopInv.inv _ _) => dsimp only)); (try (conv in (SS.mk _ _) => cbv; (try dsimp only [putSpec, offSpec, offF, endSpec, endF, empSpec, runsSpec, Ty.T, Ty.dflt, KT.T]); (try simp only [natCast_eq])))
    (with_reducible refine (?_ : T1 _ ?_) ?_; rotate_left 1; (conv => lhs; cbv; (try cbv); (try cbv)); intro hT; clear hT; with_reducible refine Sh.mk (by kernel_rfl) ?_)
    repeat' (first
      | with_reducible (first | refine Ck.mk (C := tt) tt_intro ?_ | refine Ck.mk (show drawOk _ _ = true by kernel_rfl) ?_ | refine Ck.all_cons ?_ | refine Ck.all_nil ?_ | refine Ck.mk (by assumption) ?_ | refine Ck.mk (decide_eq_true (by assumption)) ?_ | refine Ck.mk (decide_eq_false (by assumption)) ?_ | refine Ck.mk ?_ ?_)
      | (with_reducible (first | refine Both.mk (fun h => ?_) (fun h => ?_) | refine Alt.mk (fun h => ?_) (fun h => ?_) | refine Pick.mk (fun h => ?_) (fun l1 x l2 h => ?_)) <;> (have hk := h) <;> (try simp only [nrm, reduceCtorEq, pair_eta, map_idL] at h) <;> (try dsimp only [putSpec, offSpec, offF, endSpec, endF, empSpec, runsSpec, Ty.T, Ty.dflt, KT.T, getM, putM, delM] at h) <;> (try simp only [natCast_eq] at h) <;> skip <;> (try first | rw [if_pos h] at hr | rw [if_neg h] at hr | rw [ifF h] at hr | rw [ifN h] at hr) <;> (try (have hb : (_ : Bool) = _ := h; clear h; subst hb; (try first | rw [if_pos rfl] at hr | rw [if_neg Bool.false_ne_true] at hr))) <;> first | (exfalso; omega) | exact absurd (h.symm.trans (by assumption) : true = false) Bool.noConfusion | exact absurd (h.symm.trans (by assumption) : false = true) Bool.noConfusion | (with_reducible refine (?_ : T1 _ ?_) ?_; rotate_left 1; (conv => lhs; cbv; (try cbv); (try cbv)); intro hT; clear hT; with_reducible refine Sh.mk (by kernel_rfl) ?_))
      | ((with_reducible refine End.mk ?_); skip)
      | with_reducible exact True.intro)
    all_goals first
      | (fail_if_success (with_reducible refine Exists.intro ?_ ?_)
         first
           | with_reducible rfl
           | with_reducible assumption
           | (symm; with_reducible assumption)
           | omega
           | ((try dsimp only [putSpec, offSpec, offF, endSpec, endF, empSpec, runsSpec, Ty.T, Ty.dflt, KT.T, getM, putM, delM, inI64, maxRow]); first | done | with_reducible rfl | with_reducible assumption | (symm; with_reducible assumption) | ((try simp only [natCast_eq, List.nil_append]); first | done | with_reducible rfl | omega | exact take_cg (by omega) | exact drop_cg (by omega) | exact take_drop_cg (by omega) (by omega) | exact take_all (by omega) | exact take_drop_all (by omega) (by omega) | exact drop_take_cg (by omega) (by omega) (by omega)))
           | first | exact ⟨hw, hO.1, by show a.off ≤ _; omega⟩ | exact hn_i1 hF | exact hn_mk hF | exact hn_put hF | exact hn_i2 hF | exact hn_i3 hF h | exact hn_i3 hF (by assumption) | exact hn_len hF
           | ((try dsimp only [putSpec, offSpec, offF, endSpec, endF, empSpec, runsSpec, Ty.T, Ty.dflt, KT.T, getM, putM, delM, inI64, maxRow]); first | (simp only [nrm, reduceCtorEq, pair_eta, map_idL, natCast_eq, inI64, maxRow]; first | done | with_reducible assumption | omega) | exact map_pair_id _)
           | ((try dsimp only [putSpec, offSpec, offF, endSpec, endF, empSpec, runsSpec, Ty.T, Ty.dflt, KT.T, getM, putM, delM, inI64, maxRow] at *); first | ((try simp only [natCast_eq] at *) <;> omega) | ((try simp only [lens, natCast_eq] at *) <;> omega))
           | assumption
           | (symm; assumption)
           | (dsimp only; simp only [nrb, *]; done)
           | (simp; done)
           | (and_intros <;> first | trivial | with_reducible assumption | omega)
           | ((try dsimp only [putSpec, offSpec, offF, endSpec, endF, empSpec, runsSpec, Ty.T, Ty.dflt, KT.T, getM, putM, delM, inI64, maxRow] at *) <;> simp [*] <;> done))
      | skip
    all_goals
      (obtain ⟨x0, hx0, hx1⟩ := lh0 hb.1 (handL a)
       refine ⟨⟨LH b (handL a), fun x => ⟨[(0, Sx.one (.ptr 0 0)), (8, Sx.one (.hd 3 0)), (89, Sx.one (.hd 3 0)), (90, Sx.one (.int .i64 (fun _ => (handL a).length))), (91, Sx.one (.int .i64 (fun _ => x.i)))],
         [.cells 82 [.int .i64 (fun _ => w), .int .i64 (fun _ => 1), .ptr 4 0, .ptr 2 0], .gone, .abs (.sto (fun _ => x.B)), .row 32 segE 0 (fun _ => handL a), .abs (.sto (fun _ => handA w a))]⟩, fun x => ((handL a).length - x.i).toNat, x0⟩, ?_, fun (x : LH b (handL a)) => ?_⟩
       · (try (conv in (LoopInv.inv _ _) => dsimp only)); (try (conv in (SS.mk _ _) => cbv; (try dsimp only [putSpec, offSpec, offF, endSpec, endF, empSpec, runsSpec, Ty.T, Ty.dflt, KT.T]); (try simp only [natCast_eq])))
         (with_reducible refine (?_ : T1 _ ?_) ?_; rotate_left 1; (conv => lhs; cbv; (try cbv); (try cbv)); intro hT; clear hT; with_reducible refine Sh.mk (by kernel_rfl) ?_)
         repeat' (first
           | with_reducible (first | refine Ck.mk (C := tt) tt_intro ?_ | refine Ck.mk (show drawOk _ _ = true by kernel_rfl) ?_ | refine Ck.all_cons ?_ | refine Ck.all_nil ?_ | refine Ck.mk (by assumption) ?_ | refine Ck.mk (decide_eq_true (by assumption)) ?_ | refine Ck.mk (decide_eq_false (by assumption)) ?_ | refine Ck.mk ?_ ?_)
           | (with_reducible (first | refine Both.mk (fun h => ?_) (fun h => ?_) | refine Alt.mk (fun h => ?_) (fun h => ?_) | refine Pick.mk (fun h => ?_) (fun l1 x l2 h => ?_)) <;> (have hk := h) <;> (try simp only [nrm, reduceCtorEq, pair_eta, map_idL] at h) <;> (try dsimp only [putSpec, offSpec, offF, endSpec, endF, empSpec, runsSpec, Ty.T, Ty.dflt, KT.T, getM, putM, delM] at h) <;> (try simp only [natCast_eq] at h) <;> skip <;> (try first | rw [if_pos h] at hr | rw [if_neg h] at hr | rw [ifF h] at hr | rw [ifN h] at hr) <;> (try (have hb : (_ : Bool) = _ := h; clear h; subst hb; (try first | rw [if_pos rfl] at hr | rw [if_neg Bool.false_ne_true] at hr))) <;> first | (exfalso; omega) | exact absurd (h.symm.trans (by assumption) : true = false) Bool.noConfusion | exact absurd (h.symm.trans (by assumption) : false = true) Bool.noConfusion | (with_reducible refine (?_ : T1 _ ?_) ?_; rotate_left 1; (conv => lhs; cbv; (try cbv); (try cbv)); intro hT; clear hT; with_reducible refine Sh.mk (by kernel_rfl) ?_))
           | ((with_reducible refine End.mk ?_); skip)
           | with_reducible exact True.intro)
         all_goals first
           | (fail_if_success (with_reducible refine Exists.intro ?_ ?_)
              first
                | with_reducible rfl
                | with_reducible assumption
                | (symm; with_reducible assumption)
                | omega
                | ((try dsimp only [putSpec, offSpec, offF, endSpec, endF, empSpec, runsSpec, Ty.T, Ty.dflt, KT.T, getM, putM, delM, inI64, maxRow]); first | done | with_reducible rfl | with_reducible assumption | (symm; with_reducible assumption) | ((try simp only [natCast_eq, List.nil_append]); first | done | with_reducible rfl | omega | exact take_cg (by omega) | exact drop_cg (by omega) | exact take_drop_cg (by omega) (by omega) | exact take_all (by omega) | exact take_drop_all (by omega) (by omega) | exact drop_take_cg (by omega) (by omega) (by omega)))
                | first | exact hA_k (by assumption) | exact hA_n h | exact (map_seg_id _).trans (hL_set (by assumption) (by assumption) h) | exact congrArg (fun l => ((List.length l : Nat) : Int)) (hL_set (by assumption) (by assumption) h) | exact (map_seg_id _).trans (hL_app (by assumption) h) | exact congrArg (fun l => ((List.length l : Nat) : Int)) (hL_app (by assumption) h) | exact (map_seg_id _).trans (hL_app0 (by assumption) h) | exact congrArg (fun l => ((List.length l : Nat) : Int)) (hL_app0 (by assumption) h) | exact (map_seg_id _).trans (hL_n h) | exact congrArg (fun l => ((List.length l : Nat) : Int)) (hL_n h)
                | ((try dsimp only [putSpec, offSpec, offF, endSpec, endF, empSpec, runsSpec, Ty.T, Ty.dflt, KT.T, getM, putM, delM, inI64, maxRow]); first | (simp only [nrm, reduceCtorEq, pair_eta, map_idL, natCast_eq, inI64, maxRow]; first | done | with_reducible assumption | omega) | exact map_pair_id _)
                | ((try dsimp only [putSpec, offSpec, offF, endSpec, endF, empSpec, runsSpec, Ty.T, Ty.dflt, KT.T, getM, putM, delM, inI64, maxRow] at *); first | ((try simp only [natCast_eq] at *) <;> omega) | ((try simp only [lens, natCast_eq] at *) <;> omega))
                | assumption
                | (symm; assumption)
                | (dsimp only; simp only [nrb, *]; done)
                | (simp; done)
                | (and_intros <;> first | trivial | with_reducible assumption | omega)
                | ((try dsimp only [putSpec, offSpec, offF, endSpec, endF, empSpec, runsSpec, Ty.T, Ty.dflt, KT.T, getM, putM, delM, inI64, maxRow] at *) <;> simp [*] <;> done))
           | skip
       have hT := x.ok
       have hlo := x.lo
       have hhi := x.hi
       have hLl := hn_hl hF
       (try (conv in (LoopInv.inv _ _) => dsimp only)); (try (conv in (SS.mk _ _) => cbv; (try dsimp only [putSpec, offSpec, offF, endSpec, endF, empSpec, runsSpec, Ty.T, Ty.dflt, KT.T]); (try simp only [natCast_eq])))
       (with_reducible refine (?_ : T1 _ ?_) ?_; rotate_left 1; (conv => lhs; cbv; (try cbv); (try cbv)); intro hT; clear hT; with_reducible refine Sh.mk (by kernel_rfl) ?_)
       repeat' (first
         | with_reducible (first | refine Ck.mk (C := tt) tt_intro ?_ | refine Ck.mk (show drawOk _ _ = true by kernel_rfl) ?_ | refine Ck.all_cons ?_ | refine Ck.all_nil ?_ | refine Ck.mk (by assumption) ?_ | refine Ck.mk (decide_eq_true (by assumption)) ?_ | refine Ck.mk (decide_eq_false (by assumption)) ?_ | refine Ck.mk ?_ ?_)
         | (with_reducible (first | refine Both.mk (fun h => ?_) (fun h => ?_) | refine Alt.mk (fun h => ?_) (fun h => ?_) | refine Pick.mk (fun h => ?_) (fun l1 x l2 h => ?_)) <;> (have hk := h) <;> (try simp only [nrm, reduceCtorEq, pair_eta, map_idL] at h) <;> (try dsimp only [putSpec, offSpec, offF, endSpec, endF, empSpec, runsSpec, Ty.T, Ty.dflt, KT.T, getM, putM, delM] at h) <;> (try simp only [natCast_eq] at h) <;> skip <;> (try first | rw [if_pos h] at hr | rw [if_neg h] at hr | rw [ifF h] at hr | rw [ifN h] at hr) <;> (try (have hb : (_ : Bool) = _ := h; clear h; subst hb; (try first | rw [if_pos rfl] at hr | rw [if_neg Bool.false_ne_true] at hr))) <;> first | (exfalso; omega) | exact absurd (h.symm.trans (by assumption) : true = false) Bool.noConfusion | exact absurd (h.symm.trans (by assumption) : false = true) Bool.noConfusion | (with_reducible refine (?_ : T1 _ ?_) ?_; rotate_left 1; (conv => lhs; cbv; (try cbv); (try cbv)); intro hT; clear hT; with_reducible refine Sh.mk (by kernel_rfl) ?_))
         | ((with_reducible refine End.mk ?_); skip)
         | with_reducible exact True.intro)
       all_goals first
         | (fail_if_success (with_reducible refine Exists.intro ?_ ?_)
            first
              | with_reducible rfl
              | with_reducible assumption
              | (symm; with_reducible assumption)
              | omega
              | ((try dsimp only [putSpec, offSpec, offF, endSpec, endF, empSpec, runsSpec, Ty.T, Ty.dflt, KT.T, getM, putM, delM, inI64, maxRow]); first | done | with_reducible rfl | with_reducible assumption | (symm; with_reducible assumption) | ((try simp only [natCast_eq, List.nil_append]); first | done | with_reducible rfl | omega | exact take_cg (by omega) | exact drop_cg (by omega) | exact take_drop_cg (by omega) (by omega) | exact take_all (by omega) | exact take_drop_all (by omega) (by omega) | exact drop_take_cg (by omega) (by omega) (by omega)))
              | first | exact ⟨hT.pre, (lh_step hLs x (by assumption)).1⟩
              | ((try dsimp only [putSpec, offSpec, offF, endSpec, endF, empSpec, runsSpec, Ty.T, Ty.dflt, KT.T, getM, putM, delM, inI64, maxRow]); first | (simp only [nrm, reduceCtorEq, pair_eta, map_idL, natCast_eq, inI64, maxRow]; first | done | with_reducible assumption | omega) | exact map_pair_id _)
              | ((try dsimp only [putSpec, offSpec, offF, endSpec, endF, empSpec, runsSpec, Ty.T, Ty.dflt, KT.T, getM, putM, delM, inI64, maxRow] at *); first | ((try simp only [natCast_eq] at *) <;> omega) | ((try simp only [lens, natCast_eq] at *) <;> omega))
              | assumption
              | (symm; assumption)
              | (dsimp only; simp only [nrb, *]; done)
              | (simp; done)
              | (and_intros <;> first | trivial | with_reducible assumption | omega)
              | ((try dsimp only [putSpec, offSpec, offF, endSpec, endF, empSpec, runsSpec, Ty.T, Ty.dflt, KT.T, getM, putM, delM, inI64, maxRow] at *) <;> simp [*] <;> done))
         | skip
       all_goals
         (first
           | (refine ⟨[0, 4, 2, 3], by decide, ?_⟩; cbv)
           | (obtain ⟨hy9, y, hy0, hy1⟩ := lh_step hLs x (by assumption)
              refine ⟨y, by dsimp only; (try simp only [natCast_eq]); omega, ?_⟩))
       repeat' (first | refine Ck.mk trivial ?_ | refine Ck.mk (by assumption) ?_ | refine Ck.mk ?_ ?_ | refine End.mk ?_ | exact trivial)
       all_goals first
         | (fail_if_success (with_reducible refine Exists.intro ?_ ?_)
            first
              | with_reducible rfl
              | with_reducible assumption
              | (symm; with_reducible assumption)
              | omega
              | ((try dsimp only [putSpec, offSpec, offF, endSpec, endF, empSpec, runsSpec, Ty.T, Ty.dflt, KT.T, getM, putM, delM, inI64, maxRow]); first | done | with_reducible rfl | with_reducible assumption | (symm; with_reducible assumption) | ((try simp only [natCast_eq, List.nil_append]); first | done | with_reducible rfl | omega | exact take_cg (by omega) | exact drop_cg (by omega) | exact take_drop_cg (by omega) (by omega) | exact take_all (by omega) | exact take_drop_all (by omega) (by omega) | exact drop_take_cg (by omega) (by omega) (by omega)))
              | first | exact hy1.symm | exact lh_done x (by assumption)
              | ((try dsimp only [putSpec, offSpec, offF, endSpec, endF, empSpec, runsSpec, Ty.T, Ty.dflt, KT.T, getM, putM, delM, inI64, maxRow]); first | (simp only [nrm, reduceCtorEq, pair_eta, map_idL, natCast_eq, inI64, maxRow]; first | done | with_reducible assumption | omega) | exact map_pair_id _)
              | ((try dsimp only [putSpec, offSpec, offF, endSpec, endF, empSpec, runsSpec, Ty.T, Ty.dflt, KT.T, getM, putM, delM, inI64, maxRow] at *); first | ((try simp only [natCast_eq] at *) <;> omega) | ((try simp only [lens, natCast_eq] at *) <;> omega))
              | assumption
              | (symm; assumption)
              | (dsimp only; simp only [nrb, *]; done)
              | (simp; done)
              | (and_intros <;> first | trivial | with_reducible assumption | omega)
              | ((try dsimp only [putSpec, offSpec, offF, endSpec, endF, empSpec, runsSpec, Ty.T, Ty.dflt, KT.T, getM, putM, delM, inI64, maxRow] at *) <;> simp [*] <;> done))
         | skip)
  · refine tmpl_obj ehOk mixed (fn := Try.f17) (c := bodyOf Try.f17) (by kernel_rfl) (by kernel_rfl) (by kernel_rfl) (Nat.le_of_ble_eq_true (by kernel_rfl)) (layOk _) (layOk _) rfl rfl (resOf_closed (svs_closed _ _)) ?_
    (try (conv in (LoopInv.inv _ _) => dsimp only)); (try (conv in (SS.mk _ _) => cbv; (try dsimp only [putSpec, offSpec, offF, endSpec, endF, empSpec, runsSpec, Ty.T, Ty.dflt, KT.T]); (try simp only [natCast_eq])))
    (with_reducible refine (?_ : T1 _ ?_) ?_; rotate_left 1; (conv => lhs; cbv; (try cbv); (try cbv)); intro hT; clear hT; with_reducible refine Sh.mk (by kernel_rfl) ?_)
    repeat' (first
      | with_reducible (first | refine Ck.mk (C := tt) tt_intro ?_ | refine Ck.mk (show drawOk _ _ = true by kernel_rfl) ?_ | refine Ck.all_cons ?_ | refine Ck.all_nil ?_ | refine Ck.mk (by assumption) ?_ | refine Ck.mk (decide_eq_true (by assumption)) ?_ | refine Ck.mk (decide_eq_false (by assumption)) ?_ | refine Ck.mk ?_ ?_)
      | (with_reducible (first | refine Both.mk (fun h => ?_) (fun h => ?_) | refine Alt.mk (fun h => ?_) (fun h => ?_) | refine Pick.mk (fun h => ?_) (fun l1 x l2 h => ?_)) <;> (have hk := h) <;> (try simp only [nrm, reduceCtorEq, pair_eta, map_idL] at h) <;> (try dsimp only [putSpec, offSpec, offF, endSpec, endF, empSpec, runsSpec, Ty.T, Ty.dflt, KT.T, getM, putM, delM] at h) <;> (try simp only [natCast_eq] at h) <;> skip <;> (try first | rw [if_pos h] at hr | rw [if_neg h] at hr | rw [ifF h] at hr | rw [ifN h] at hr) <;> (try (have hb : (_ : Bool) = _ := h; clear h; subst hb; (try first | rw [if_pos rfl] at hr | rw [if_neg Bool.false_ne_true] at hr))) <;> first | (exfalso; omega) | exact absurd (h.symm.trans (by assumption) : true = false) Bool.noConfusion | exact absurd (h.symm.trans (by assumption) : false = true) Bool.noConfusion | (with_reducible refine (?_ : T1 _ ?_) ?_; rotate_left 1; (conv => lhs; cbv; (try cbv); (try cbv)); intro hT; clear hT; with_reducible refine Sh.mk (by kernel_rfl) ?_))
      | ((with_reducible refine End.mk ?_); skip)
      | with_reducible exact True.intro)
    all_goals first
      | (fail_if_success (with_reducible refine Exists.intro ?_ ?_)
         first
           | with_reducible rfl
           | with_reducible assumption
           | (symm; with_reducible assumption)
           | omega
           | ((try dsimp only [putSpec, offSpec, offF, endSpec, endF, empSpec, runsSpec, Ty.T, Ty.dflt, KT.T, getM, putM, delM, inI64, maxRow]); first | done | with_reducible rfl | with_reducible assumption | (symm; with_reducible assumption) | ((try simp only [natCast_eq, List.nil_append]); first | done | with_reducible rfl | omega | exact take_cg (by omega) | exact drop_cg (by omega) | exact take_drop_cg (by omega) (by omega) | exact take_all (by omega) | exact take_drop_all (by omega) (by omega) | exact drop_take_cg (by omega) (by omega) (by omega)))
           | ((try dsimp only [putSpec, offSpec, offF, endSpec, endF, empSpec, runsSpec, Ty.T, Ty.dflt, KT.T, getM, putM, delM, inI64, maxRow]); first | (simp only [nrm, reduceCtorEq, pair_eta, map_idL, natCast_eq, inI64, maxRow]; first | done | with_reducible assumption | omega) | exact map_pair_id _)
           | ((try dsimp only [putSpec, offSpec, offF, endSpec, endF, empSpec, runsSpec, Ty.T, Ty.dflt, KT.T, getM, putM, delM, inI64, maxRow] at *); first | ((try simp only [natCast_eq] at *) <;> omega) | ((try simp only [lens, natCast_eq] at *) <;> omega))
           | assumption
           | (symm; assumption)
           | (dsimp only; simp only [nrb, *]; done)
           | (simp; done)
           | (and_intros <;> first | trivial | with_reducible assumption | omega)
           | ((try dsimp only [putSpec, offSpec, offF, endSpec, endF, empSpec, runsSpec, Ty.T, Ty.dflt, KT.T, getM, putM, delM, inI64, maxRow] at *) <;> simp [*] <;> done))
      | skip
theorem mhand_sound : ConSound Try.prog AI 17 mhandSpec.con := MethSpec.sound Try.call17 ⟨fun a W h => by cases a <;> cases h; rfl, (fun h => by cases h), fun W x h => mhand_ok W h⟩
end Go.Proofs.Ytgdiepbjdpmfbaa
