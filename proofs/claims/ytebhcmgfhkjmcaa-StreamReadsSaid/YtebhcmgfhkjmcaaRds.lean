/-
  Layer 44: StreamReads, the walk.
-/
import Derived.Test.YtebhcmgfhkjmcaaAwk
import Derived.Test.YtebhcmgfhkjmcaaCmpa
import Derived.Test.YtebhcmgfhkjmcaaEng3
namespace Go.Proofs.Ytebhcmgfhkjmcaa
set_option linter.all false
set_option linter.unusedVariables false
set_option linter.unusedSimpArgs false
set_option linter.unusedSectionVars false
open Go.RowKit Go.Sx
set_option maxRecDepth 100000
set_option maxHeartbeats 16000000

abbrev IIB2 := Tup [DT.cell (.int .i64), .cell (.int .i64), .cell .bool]
def confF (M : TS) (k : Bool) : IIB2 := (rctg M, M.2.1 + M.1 - rctg M, k && decide (M.2.2.1 = rctg M), ())
def confSpec : PureSpec := ⟨[.cell eS, .cell .bool], fun (x : TS × Bool × Unit) => PreR x.1, [.cell (.int .i64), .cell (.int .i64), .cell .bool], fun (x : TS × Bool × Unit) => confF x.1 x.2.1⟩
theorem conf_ok (M : TS) (k : Bool) (h : confSpec.pre (M, k, ())) : TmplOk Try.prog AI 30 (argS confSpec.ds (fun _ => (M, k, ()))) [] (resOf (svs confSpec.rs (fun _ => confSpec.f (M, k, ())))) [] := by
  dsimp only [confSpec] at h ⊢
  generalize hr : confF M k = r
  have hM := h; obtain ⟨⟨h1, h2⟩, ⟨h3, h4⟩, ⟨h5, h6⟩, h7, h8⟩ := h; have hc := adv_rng (K := M.2.2.2) M.1.toNat M.2.1
  dsimp only [confF] at hr
  refine tmpl_of_body ecOk mixed (fn := Try.f30) (c := bodyOf Try.f30) (by kernel_rfl) (by kernel_rfl) (by kernel_rfl) (Nat.le_of_ble_eq_true (by kernel_rfl)) ?_
  (try (conv in (LoopInv.inv _ _) => dsimp only)); (try (conv in (SS.mk _ _) => cbv; (try dsimp only [rctgcSpec, rctgF, Ty.T, Ty.dflt, KT.T]); (try simp only [natCast_eq])))
  (refine (?_ : T1 _ ?_) ?_; rotate_left 1; (conv => lhs; cbv; (try cbv); (try cbv)); intro hT; clear hT; refine Sh.mk (by kernel_rfl) ?_)
  repeat' (first
    | with_reducible refine Ck.mk (C := tt) tt_intro ?_
    | with_reducible refine Ck.mk (show drawOk _ _ = true by kernel_rfl) ?_
    | with_reducible refine Ck.all_cons ?_
    | with_reducible refine Ck.all_nil ?_
    | with_reducible refine Ck.mk (by assumption) ?_
    | with_reducible refine Ck.mk (decide_eq_true (by assumption)) ?_
    | with_reducible refine Ck.mk (decide_eq_false (by assumption)) ?_
    | with_reducible refine Ck.mk ?_ ?_
    | (with_reducible refine Both.mk (fun h => ?_) (fun h => ?_) <;> (have hk := h) <;> (try simp only [decide_eq_true_eq, decide_eq_false_iff_not, Bool.not_eq_true', Bool.not_eq_false', Bool.not_eq_true, Bool.not_eq_false, Bool.not_true, Bool.not_false, ne_eq, Bool.false_eq_true, Bool.true_eq_false, reduceCtorEq, beq_iff_eq, beq_eq_false_iff_ne, not_true_eq_false, not_false_eq_true, pair_eta, map_idL] at h) <;> (try dsimp only [rctgcSpec, rctgF, Ty.T, Ty.dflt, KT.T, getM, putM, delM] at h) <;> (try simp only [natCast_eq] at h) <;> skip <;> (try first | rw [if_pos h] at hr | rw [if_neg h] at hr | rw [ifF h] at hr | rw [ifN h] at hr) <;> (try (have hb : (_ : Bool) = _ := h; clear h; subst hb; (try first | rw [if_pos rfl] at hr | rw [if_neg Bool.false_ne_true] at hr))) <;> first | (exfalso; omega) | exact absurd (h.symm.trans (by assumption) : true = false) Bool.noConfusion | exact absurd (h.symm.trans (by assumption) : false = true) Bool.noConfusion | (refine (?_ : T1 _ ?_) ?_; rotate_left 1; (conv => lhs; cbv; (try cbv); (try cbv)); intro hT; clear hT; refine Sh.mk (by kernel_rfl) ?_))
    | (with_reducible refine Alt.mk (fun h => ?_) (fun h => ?_) <;> (have hk := h) <;> (try simp only [decide_eq_true_eq, decide_eq_false_iff_not, Bool.not_eq_true', Bool.not_eq_false', Bool.not_eq_true, Bool.not_eq_false, Bool.not_true, Bool.not_false, ne_eq, Bool.false_eq_true, Bool.true_eq_false, reduceCtorEq, beq_iff_eq, beq_eq_false_iff_ne, not_true_eq_false, not_false_eq_true, pair_eta, map_idL] at h) <;> (try dsimp only [rctgcSpec, rctgF, Ty.T, Ty.dflt, KT.T, getM, putM, delM] at h) <;> (try simp only [natCast_eq] at h) <;> skip <;> (try first | rw [if_pos h] at hr | rw [if_neg h] at hr | rw [ifF h] at hr | rw [ifN h] at hr) <;> (try (have hb : (_ : Bool) = _ := h; clear h; subst hb; (try first | rw [if_pos rfl] at hr | rw [if_neg Bool.false_ne_true] at hr))) <;> first | (exfalso; omega) | exact absurd (h.symm.trans (by assumption) : true = false) Bool.noConfusion | exact absurd (h.symm.trans (by assumption) : false = true) Bool.noConfusion | (refine (?_ : T1 _ ?_) ?_; rotate_left 1; (conv => lhs; cbv; (try cbv); (try cbv)); intro hT; clear hT; refine Sh.mk (by kernel_rfl) ?_))
    | (with_reducible refine Pick.mk (fun h => ?_) (fun l1 x l2 h => ?_) <;> (refine (?_ : T1 _ ?_) ?_; rotate_left 1; (conv => lhs; cbv; (try cbv); (try cbv)); intro hT; clear hT; refine Sh.mk (by kernel_rfl) ?_))
    | ((with_reducible refine End.mk ?_); (try ((repeat (first | rw [if_pos (by first | assumption | omega)] at hr | rw [if_neg (by first | assumption | omega | (simp only [Bool.false_eq_true, Bool.true_eq_false, reduceCtorEq, not_false_eq_true]; done) | (simp only [Bool.not_eq_true]; assumption) | (simp only [Bool.not_eq_false]; assumption))] at hr | rw [if_pos rfl] at hr)); subst hr)))
    | with_reducible exact True.intro)
  all_goals first
    | (fail_if_success (with_reducible refine Exists.intro ?_ ?_)
       first
         | with_reducible rfl
         | with_reducible assumption
         | (dsimp only [rctgcSpec, rctgF, Ty.T, Ty.dflt, KT.T, getM, putM, delM, inI64, maxRow]; done)
         | (symm; with_reducible assumption)
         | (dsimp only [rctgcSpec, rctgF, Ty.T, Ty.dflt, KT.T, getM, putM, delM, inI64, maxRow]; first | with_reducible rfl | with_reducible assumption | (symm; with_reducible assumption) | (simp only [natCast_eq]; with_reducible rfl) | omega)
         | omega
         | (dsimp only [rctgcSpec, rctgF, Ty.T, Ty.dflt, KT.T, getM, putM, delM, inI64, maxRow]; (try simp only [natCast_eq, List.nil_append]); first | with_reducible rfl | exact take_cg (by omega) | exact drop_cg (by omega) | exact take_drop_cg (by omega) (by omega) | exact take_all (by omega) | exact take_drop_all (by omega) (by omega) | exact drop_take_cg (by omega) (by omega) (by omega))
         | exact hM | (dsimp only [rctgcSpec, rctgF, rctg, Ty.T, Ty.dflt]; simp only [pair_eta, map_idL, inI64]; first | done | omega)
         | ((try dsimp only [rctgcSpec, rctgF, Ty.T, Ty.dflt, KT.T, getM, putM, delM, inI64, maxRow]); simp only [decide_eq_true_eq, decide_eq_false_iff_not, Bool.not_eq_true', Bool.not_eq_false', Bool.not_eq_true, Bool.not_eq_false, Bool.not_true, Bool.not_false, ne_eq, Bool.false_eq_true, Bool.true_eq_false, reduceCtorEq, beq_iff_eq, beq_eq_false_iff_ne, not_true_eq_false, not_false_eq_true, pair_eta, map_idL, natCast_eq, inI64, maxRow]; first | done | with_reducible assumption | omega)
         | exact map_pair_id _
         | ((try dsimp only [rctgcSpec, rctgF, Ty.T, Ty.dflt, KT.T, getM, putM, delM, inI64, maxRow]) <;> (try simp only [natCast_eq]) <;> omega)
         | ((try dsimp only [rctgcSpec, rctgF, Ty.T, Ty.dflt, KT.T, getM, putM, delM, inI64, maxRow] at *) <;> (try simp only [natCast_eq] at *) <;> omega)
         | ((try dsimp only [rctgcSpec, rctgF, Ty.T, Ty.dflt, KT.T, getM, putM, delM, inI64, maxRow] at *) <;> (try simp only [List.length_append, List.length_cons, List.length_nil, List.length_replicate, List.length_take, List.length_drop, natCast_eq] at *) <;> omega)
         | assumption
         | (symm; assumption)
         | (dsimp only; simp only [Bool.or_true, Bool.true_or, Bool.or_false, Bool.false_or, Bool.and_true, Bool.true_and, Bool.and_false, Bool.false_and, Bool.not_true, Bool.not_false, *]; done)
         | (simp; done)
         | (and_intros <;> first | trivial | with_reducible assumption | omega)
         | ((try dsimp only [rctgcSpec, rctgF, Ty.T, Ty.dflt, KT.T, getM, putM, delM, inI64, maxRow] at *) <;> simp [*] <;> done))
    | skip
theorem conf_sound : ConSound Try.prog AI 30 confSpec.con := PureSpec.sound Try.call30 (fun x h => conf_ok x.1 x.2.1 h)
theorem beq_inl : ConSound Try.prog AI 24 (inl E0 Try.f24 0) := inl_sound e0Ok mixed (fn := Try.f24) (c := bodyOf Try.f24) Try.call24 (by kernel_rfl) (by kernel_rfl) (by kernel_rfl) 0
noncomputable abbrev Es : Env Ab := ⟨tis, [(30, confSpec.con), (28, rreadSpec.con), (27, rputSpec.con), (31, rcntSpec.con), (29, rackSpec.con), (26, rrdSpec.con), (25, rcvSpec.con), (22, newRdrSpec.con), (11, awakeSpec.con), (24, inl E0 Try.f24 0)] ++ E0.con⟩
theorem esOk : EnvOk Try.prog AI Es := ((((((((((e0Ok.add beq_inl).add awake_sound).add newRdr_sound).add rcv_sound).add rrd_sound).add rack_sound).add rcnt_sound).add rput_sound).add rread_sound).add conf_sound)
abbrev segD : Ty := .pair (.int .i64) (.pair .bytes .bool)
abbrev sgA (L : List (Int × List Int × Bool)) (i : Int) : Int × List Int × Bool := L.getD i.toNat (0, [], false)
theorem getD_mem {α : Type} {L : List α} {d : α} {i : Nat} (h : i < L.length) : L.getD i d ∈ L := by
  rw [List.getD_eq_getElem?_getD, List.getElem?_eq_getElem h]; exact List.getElem_mem h
abbrev rd1 (S : Sto) (s : Int × List Int × Bool) : II × Sto := putF S s.1 s.2.1 s.2.2
abbrev rd2 (S : Sto) (s : Int × List Int × Bool) (m : Int) : IL × Sto := readF (putF S s.1 s.2.1 s.2.2).2 m
structure RdG (S : Sto) (s : Int × List Int × Bool) (m : Int) : Prop where
  e2 : rreadF (mof (rd1 S s).2) m = (mof (rd2 S s m).2, ((rd2 S s m).1.1 : List Int), ())
  e3 : confF (mof (rd2 S s m).2) (decide (0 ≤ (if (rd2 S s m).2.known = true then (rd2 S s m).2.fin else -1))) = ((rd2 S s m).2.next, (rd2 S s m).2.off + S.win - (rd2 S s m).2.next, (rd2 S s m).2.known && decide ((rd2 S s m).2.fin = (rd2 S s m).2.next), ())
  ok : StO (rd2 S s m).2
  win : (rd2 S s m).2.win = S.win
  byt : inBytes (rd2 S s m).1.1
  pos : 0 ≤ (if (rd2 S s m).2.known = true then (rd2 S s m).2.fin else -1) → (rd2 S s m).2.known = true ∧ (if (rd2 S s m).2.known = true then (rd2 S s m).2.fin else -1) = (rd2 S s m).2.fin
  neg : ¬ 0 ≤ (if (rd2 S s m).2.known = true then (rd2 S s m).2.fin else -1) → (rd2 S s m).2.known = false
  eqd : decide ((rd2 S s m).2.fin = (rd2 S s m).2.off) = decide ((rd2 S s m).2.off = (rd2 S s m).2.fin)
theorem put_keep (S : Sto) (o : Int) (d : List Int) (l : Bool) : (putF S o d l).2.win = S.win ∧ (putF S o d l).2.off = S.off := by
  unfold putF
  (repeat' split) <;> exact ⟨rfl, rfl⟩
theorem read_win (S : Sto) (m : Int) : (readF S m).2.win = S.win := by
  unfold readF; split <;> rfl
theorem read_byt {S : Sto} (h : StO S) (m : Int) : inBytes (readF S m).1.1 := by
  unfold readF
  split
  · intro x hx; cases hx
  · intro x hx
    have hx : x ∈ rdB S.kept S.off (rdN S m).toNat := hx
    obtain ⟨i, hi, e⟩ := List.getElem_of_mem hx
    have hg := rdB_get (rdN S m).toNat S.kept S.off i (by rw [rdB_len] at hi; exact hi)
    rw [List.getD_eq_getElem?_getD, List.getElem?_eq_getElem hi] at hg
    have hg : (rdB S.kept S.off (rdN S m).toNat)[i] = (getI S.kept (S.off + i)).getD 0 := hg
    rw [← e, hg]
    cases hv : getI S.kept (S.off + i) with
    | none => show 0 ≤ (0 : Int) ∧ (0 : Int) < 256; omega
    | some v => exact h.byt _ (getI_mem hv)
theorem conf_cmp {T : Sto} (h : StO T) {w : Int} (hw : T.win = w) : confF (mof T) (decide (0 ≤ (if T.known = true then T.fin else -1))) = (T.next, T.off + w - T.next, T.known && decide (T.fin = T.next), ()) := by
  unfold confF
  rw [ctg_cmp h]
  show (T.next, T.off + T.win - T.next, decide (0 ≤ (if T.known = true then T.fin else -1)) && decide ((if T.known = true then T.fin else -1) = T.next), ()) = _
  rw [hw]
  rcases mof_fin h with ⟨k1, k2, k3, _⟩ | ⟨k1, k2⟩
  · rw [k2, k1, decide_eq_true k3]
  · rw [k2, k1]; rfl
theorem rdG {S : Sto} (h : StO S) {s : Int × List Int × Bool} (hb : inBytes s.2.1) (hl : s.2.1.length ≤ 1048576) (m : Int) : RdG S s m := by
  have h1 := put_sto h (o := s.1) s.2.2 hb hl
  have h2 := read_sto h1 m
  have hw : (rd2 S s m).2.win = S.win := (read_win _ m).trans (put_keep S s.1 s.2.1 s.2.2).1
  refine ⟨read_cmp h1 m, conf_cmp h2 hw, h2, hw, read_byt h1 m, fun hp => ?_, fun hn => ?_, ?_⟩
  · rcases mof_fin h2 with ⟨k1, k2, _⟩ | ⟨k1, k2⟩
    · exact ⟨k1, k2⟩
    · exact absurd hp (by show ¬ 0 ≤ (if (readF (putF S s.1 s.2.1 s.2.2).2 m).2.known = true then _ else (-1 : Int)); rw [k2]; decide)
  · rcases mof_fin h2 with ⟨k1, k2, k3, _⟩ | ⟨k1, k2⟩
    · exact absurd (show 0 ≤ (if (readF (putF S s.1 s.2.1 s.2.2).2 m).2.known = true then _ else (-1 : Int)) from by rw [k2]; exact k3) hn
    · exact k1
  · rw [decide_eq_decide]; exact eq_comm
structure RdH (S : Sto) (s : Int × List Int × Bool) : Prop where
  e1 : rputF (mof S) s = (mof (rd1 S s).2, (rd1 S s).1.1, (rd1 S s).1.2.1, ())
  ok1 : StO (rd1 S s).2
  len : s.2.1.length ≤ 1048576
structure LRd (L : List (Int × List Int × Bool)) (w : Int) where
  i : Int
  S : Sto
  lo : 0 ≤ i
  hi : i ≤ L.length
  ok : StO S
  win : S.win = w
theorem next_LRd {L : List (Int × List Int × Bool)} {w i : Int} {S : Sto} (h0 : 0 ≤ i) (hi : i < L.length) (h : StO S) (hw : S.win = w) : ∃ y : LRd L w, y.i = i + 1 ∧ y.S = S := ⟨⟨i + 1, S, by omega, by omega, h, hw⟩, rfl, rfl⟩
theorem seg_byt {L : List (Int × List Int × Bool)} (hL : ∀ a ∈ L, segD.ok a) {i : Int} (h0 : 0 ≤ i) (hi : i < L.length) : inBytes (sgA L i).2.1 := (hL _ (getD_mem (by omega))).2.1.2
theorem rdH {L : List (Int × List Int × Bool)} (hL : ∀ a ∈ L, segD.ok a) {S : Sto} (h : StO S) {i : Int} (h0 : 0 ≤ i) (hi : i < L.length) (hl : ¬ 60 < ((sgA L i).2.1.length : Int)) : RdH S (sgA L i) ∧ RdG S (sgA L i) 0 := by
  have hb := seg_byt hL h0 hi
  have hn : (sgA L i).2.1.length ≤ 1048576 := by omega
  exact ⟨⟨put_cmp h _ _ _, put_sto h _ hb hn, hn⟩, rdG h hb hn 0⟩
theorem u8m {R : List Int} (hR : inBytes R) {i : Int} (h0 : 0 ≤ i) (hi : i < R.length) : 0 ≤ R.getD i.toNat 0 ∧ R.getD i.toNat 0 ≤ 255 := by
  have := hR _ (getD_mem (d := 0) (show i.toNat < R.length by omega)); omega
def rdsF (_ : Int) (_ : List (Int × List Int × Bool)) (_ : List Int) : Tup [DT.cell .bool] := (true, ())
def rdsSpec : PureSpec := ⟨[.cell (.int .i64), .lst segD, .lst (.int .u8)], fun (x : Int × (List (Int × List Int × Bool)) × (List Int) × Unit) => (x.2.1.length ≤ maxLen ∧ ∀ a ∈ x.2.1, segD.ok a) ∧ (x.2.2.1.length ≤ maxLen ∧ inBytes x.2.2.1), [.cell .bool], fun (x : Int × (List (Int × List Int × Bool)) × (List Int) × Unit) => rdsF x.1 x.2.1 x.2.2.1⟩
theorem rds_ok (w : Int) (L : List (Int × List Int × Bool)) (R : List Int) (h : rdsSpec.pre (w, L, R, ())) : TmplOk Try.prog AI 5 (argS rdsSpec.ds (fun _ => (w, L, R, ()))) [] (resOf (svs rdsSpec.rs (fun _ => rdsSpec.f (w, L, R, ())))) [] := by
  dsimp only [rdsSpec] at h ⊢
  generalize hr : rdsF w L R = r
  obtain ⟨⟨hL0, hL⟩, hR0, hR⟩ := h
  dsimp only [rdsF] at hr
  refine tmpl_of_body esOk mixed (fn := Try.f5) (c := bodyOf Try.f5) (by kernel_rfl) (by kernel_rfl) (by kernel_rfl) (Nat.le_of_ble_eq_true (by kernel_rfl)) ?_
  (try (conv in (LoopInv.inv _ _) => dsimp only)); (try (conv in (SS.mk _ _) => cbv; (try dsimp only [rcvSpec, rcvF, rrdSpec, rdF, rackSpec, rackF, rcntSpec, rcntF, newRdrSpec, rputSpec, rreadSpec, confSpec, newS, Ty.T, Ty.dflt, KT.T]); (try simp only [natCast_eq])))
  (refine (?_ : T1 _ ?_) ?_; rotate_left 1; (conv => lhs; cbv; (try cbv); (try cbv)); intro hT; clear hT; refine Sh.mk (by kernel_rfl) ?_)
  repeat' (first
    | with_reducible refine Ck.mk (C := tt) tt_intro ?_
    | with_reducible refine Ck.mk (show drawOk _ _ = true by kernel_rfl) ?_
    | with_reducible refine Ck.all_cons ?_
    | with_reducible refine Ck.all_nil ?_
    | with_reducible refine Ck.mk (by assumption) ?_
    | with_reducible refine Ck.mk (decide_eq_true (by assumption)) ?_
    | with_reducible refine Ck.mk (decide_eq_false (by assumption)) ?_
    | with_reducible refine Ck.mk ?_ ?_
    | (with_reducible refine Both.mk (fun h => ?_) (fun h => ?_) <;> (have hk := h) <;> (try simp only [decide_eq_true_eq, decide_eq_false_iff_not, Bool.not_eq_true', Bool.not_eq_false', Bool.not_eq_true, Bool.not_eq_false, Bool.not_true, Bool.not_false, ne_eq, Bool.false_eq_true, Bool.true_eq_false, reduceCtorEq, beq_iff_eq, beq_eq_false_iff_ne, not_true_eq_false, not_false_eq_true, pair_eta, map_idL] at h) <;> (try dsimp only [rcvSpec, rcvF, rrdSpec, rdF, rackSpec, rackF, rcntSpec, rcntF, newRdrSpec, rputSpec, rreadSpec, confSpec, newS, Ty.T, Ty.dflt, KT.T, getM, putM, delM] at h) <;> (try simp only [natCast_eq] at h) <;> (try (have hH := rdH hL hok hlo (by assumption) h; obtain ⟨hH, hG0⟩ := hH; have e1 := hH.e1; have ok1 := hH.ok1; have hln := hH.len; dsimp only [mof, rd1, sgA] at e1 ok1 hln)) <;> (try (have hu := u8m hR hlo h; obtain ⟨u1, u2⟩ := hu; have hG := rdG hok (seg_byt hL hlo (by assumption)) hln (R.getD i.toNat 0 % 20); have e2 := hG.e2; have e3 := hG.e3; have e4 := hG.pos; have e5 := hG.neg; have e6 := hG.eqd; dsimp only [mof, rd1, rd2, sgA] at e2 e3 e4 e5 e6)) <;> (try (have hno : ¬ i < (R.length : Int) := h; have hG := hG0; have e2 := hG.e2; have e3 := hG.e3; have e4 := hG.pos; have e5 := hG.neg; have e6 := hG.eqd; dsimp only [mof, rd1, rd2, sgA] at e2 e3 e4 e5 e6)) <;> (try simp only [pair_eta, map_idL, e1, natCast_eq] at h) <;> (try simp only [e2] at h) <;> (try simp only [e3] at h) <;> (try simp only [hwin] at h) <;> (try simp only [k1, Bool.true_and, Bool.false_and] at h) <;> (try simp only [k2] at h) <;> (try simp only [e6] at h) <;> (try (have k := e4 h; obtain ⟨k1, k2⟩ := k)) <;> (try (have k1 := e5 h)) <;> (try (exfalso; first | exact absurd rfl h | (simp at h; done))) <;> (try first | rw [if_pos h] at hr | rw [if_neg h] at hr | rw [ifF h] at hr | rw [ifN h] at hr) <;> (try (have hb : (_ : Bool) = _ := h; clear h; subst hb; (try first | rw [if_pos rfl] at hr | rw [if_neg Bool.false_ne_true] at hr))) <;> first | (exfalso; omega) | exact absurd (h.symm.trans (by assumption) : true = false) Bool.noConfusion | exact absurd (h.symm.trans (by assumption) : false = true) Bool.noConfusion | (refine (?_ : T1 _ ?_) ?_; rotate_left 1; (conv => lhs; cbv; (try cbv); (try cbv)); intro hT; clear hT; refine Sh.mk (by kernel_rfl) ?_))
    | (with_reducible refine Alt.mk (fun h => ?_) (fun h => ?_) <;> (have hk := h) <;> (try simp only [decide_eq_true_eq, decide_eq_false_iff_not, Bool.not_eq_true', Bool.not_eq_false', Bool.not_eq_true, Bool.not_eq_false, Bool.not_true, Bool.not_false, ne_eq, Bool.false_eq_true, Bool.true_eq_false, reduceCtorEq, beq_iff_eq, beq_eq_false_iff_ne, not_true_eq_false, not_false_eq_true, pair_eta, map_idL] at h) <;> (try dsimp only [rcvSpec, rcvF, rrdSpec, rdF, rackSpec, rackF, rcntSpec, rcntF, newRdrSpec, rputSpec, rreadSpec, confSpec, newS, Ty.T, Ty.dflt, KT.T, getM, putM, delM] at h) <;> (try simp only [natCast_eq] at h) <;> (try (have hH := rdH hL hok hlo (by assumption) h; obtain ⟨hH, hG0⟩ := hH; have e1 := hH.e1; have ok1 := hH.ok1; have hln := hH.len; dsimp only [mof, rd1, sgA] at e1 ok1 hln)) <;> (try (have hu := u8m hR hlo h; obtain ⟨u1, u2⟩ := hu; have hG := rdG hok (seg_byt hL hlo (by assumption)) hln (R.getD i.toNat 0 % 20); have e2 := hG.e2; have e3 := hG.e3; have e4 := hG.pos; have e5 := hG.neg; have e6 := hG.eqd; dsimp only [mof, rd1, rd2, sgA] at e2 e3 e4 e5 e6)) <;> (try (have hno : ¬ i < (R.length : Int) := h; have hG := hG0; have e2 := hG.e2; have e3 := hG.e3; have e4 := hG.pos; have e5 := hG.neg; have e6 := hG.eqd; dsimp only [mof, rd1, rd2, sgA] at e2 e3 e4 e5 e6)) <;> (try simp only [pair_eta, map_idL, e1, natCast_eq] at h) <;> (try simp only [e2] at h) <;> (try simp only [e3] at h) <;> (try simp only [hwin] at h) <;> (try simp only [k1, Bool.true_and, Bool.false_and] at h) <;> (try simp only [k2] at h) <;> (try simp only [e6] at h) <;> (try (have k := e4 h; obtain ⟨k1, k2⟩ := k)) <;> (try (have k1 := e5 h)) <;> (try (exfalso; first | exact absurd rfl h | (simp at h; done))) <;> (try first | rw [if_pos h] at hr | rw [if_neg h] at hr | rw [ifF h] at hr | rw [ifN h] at hr) <;> (try (have hb : (_ : Bool) = _ := h; clear h; subst hb; (try first | rw [if_pos rfl] at hr | rw [if_neg Bool.false_ne_true] at hr))) <;> first | (exfalso; omega) | exact absurd (h.symm.trans (by assumption) : true = false) Bool.noConfusion | exact absurd (h.symm.trans (by assumption) : false = true) Bool.noConfusion | (refine (?_ : T1 _ ?_) ?_; rotate_left 1; (conv => lhs; cbv; (try cbv); (try cbv)); intro hT; clear hT; refine Sh.mk (by kernel_rfl) ?_))
    | (with_reducible refine Pick.mk (fun h => ?_) (fun l1 x l2 h => ?_) <;> (refine (?_ : T1 _ ?_) ?_; rotate_left 1; (conv => lhs; cbv; (try cbv); (try cbv)); intro hT; clear hT; refine Sh.mk (by kernel_rfl) ?_))
    | ((with_reducible refine End.mk ?_); (try ((repeat (first | rw [if_pos (by first | assumption | omega)] at hr | rw [if_neg (by first | assumption | omega | (simp only [Bool.false_eq_true, Bool.true_eq_false, reduceCtorEq, not_false_eq_true]; done) | (simp only [Bool.not_eq_true]; assumption) | (simp only [Bool.not_eq_false]; assumption))] at hr | rw [if_pos rfl] at hr)); subst hr)))
    | with_reducible exact True.intro)
  all_goals first
    | (fail_if_success (with_reducible refine Exists.intro ?_ ?_)
       first
         | with_reducible rfl
         | with_reducible assumption
         | (dsimp only [rcvSpec, rcvF, rrdSpec, rdF, rackSpec, rackF, rcntSpec, rcntF, newRdrSpec, rputSpec, rreadSpec, confSpec, newS, Ty.T, Ty.dflt, KT.T, getM, putM, delM, inI64, maxRow]; done)
         | (symm; with_reducible assumption)
         | (dsimp only [rcvSpec, rcvF, rrdSpec, rdF, rackSpec, rackF, rcntSpec, rcntF, newRdrSpec, rputSpec, rreadSpec, confSpec, newS, Ty.T, Ty.dflt, KT.T, getM, putM, delM, inI64, maxRow]; first | with_reducible rfl | with_reducible assumption | (symm; with_reducible assumption) | (simp only [natCast_eq]; with_reducible rfl) | omega)
         | omega
         | (dsimp only [rcvSpec, rcvF, rrdSpec, rdF, rackSpec, rackF, rcntSpec, rcntF, newRdrSpec, rputSpec, rreadSpec, confSpec, newS, Ty.T, Ty.dflt, KT.T, getM, putM, delM, inI64, maxRow]; (try simp only [natCast_eq, List.nil_append]); first | with_reducible rfl | exact take_cg (by omega) | exact drop_cg (by omega) | exact take_drop_cg (by omega) (by omega) | exact take_all (by omega) | exact take_drop_all (by omega) (by omega) | exact drop_take_cg (by omega) (by omega) (by omega))
         | ((try dsimp only [rcvSpec, rcvF, rrdSpec, rdF, rackSpec, rackF, rcntSpec, rcntF, newRdrSpec, rputSpec, rreadSpec, confSpec, newS, Ty.T, Ty.dflt, KT.T, getM, putM, delM, inI64, maxRow]); simp only [decide_eq_true_eq, decide_eq_false_iff_not, Bool.not_eq_true', Bool.not_eq_false', Bool.not_eq_true, Bool.not_eq_false, Bool.not_true, Bool.not_false, ne_eq, Bool.false_eq_true, Bool.true_eq_false, reduceCtorEq, beq_iff_eq, beq_eq_false_iff_ne, not_true_eq_false, not_false_eq_true, pair_eta, map_idL, natCast_eq, inI64, maxRow]; first | done | with_reducible assumption | omega)
         | exact map_pair_id _
         | ((try dsimp only [rcvSpec, rcvF, rrdSpec, rdF, rackSpec, rackF, rcntSpec, rcntF, newRdrSpec, rputSpec, rreadSpec, confSpec, newS, Ty.T, Ty.dflt, KT.T, getM, putM, delM, inI64, maxRow]) <;> (try simp only [natCast_eq]) <;> omega)
         | ((try dsimp only [rcvSpec, rcvF, rrdSpec, rdF, rackSpec, rackF, rcntSpec, rcntF, newRdrSpec, rputSpec, rreadSpec, confSpec, newS, Ty.T, Ty.dflt, KT.T, getM, putM, delM, inI64, maxRow] at *) <;> (try simp only [natCast_eq] at *) <;> omega)
         | ((try dsimp only [rcvSpec, rcvF, rrdSpec, rdF, rackSpec, rackF, rcntSpec, rcntF, newRdrSpec, rputSpec, rreadSpec, confSpec, newS, Ty.T, Ty.dflt, KT.T, getM, putM, delM, inI64, maxRow] at *) <;> (try simp only [List.length_append, List.length_cons, List.length_nil, List.length_replicate, List.length_take, List.length_drop, natCast_eq] at *) <;> omega)
         | assumption
         | (symm; assumption)
         | (dsimp only; simp only [Bool.or_true, Bool.true_or, Bool.or_false, Bool.false_or, Bool.and_true, Bool.true_and, Bool.and_false, Bool.false_and, Bool.not_true, Bool.not_false, *]; done)
         | (simp; done)
         | (and_intros <;> first | trivial | with_reducible assumption | omega)
         | ((try dsimp only [rcvSpec, rcvF, rrdSpec, rdF, rackSpec, rackF, rcntSpec, rcntF, newRdrSpec, rputSpec, rreadSpec, confSpec, newS, Ty.T, Ty.dflt, KT.T, getM, putM, delM, inI64, maxRow] at *) <;> simp [*] <;> done))
    | skip
  obtain ⟨x0, hx0, hx1⟩ : ∃ x : LRd L w, x.i = 0 ∧ x.S = newS w := ⟨⟨0, newS w, Int.le_refl _, by omega, newS_ok (by omega) (by omega), rfl⟩, rfl, rfl⟩
  refine ⟨⟨LRd L w, fun x => ⟨[(2, Sx.one (.ro (.int .u8) (fun _ => R))), (7, Sx.one (.ptr 0 0)), (9, Sx.one (.ptr 1 0)), (63, Sx.one (.ro segD (fun _ => L))), (64, Sx.one (.int .i64 (fun _ => L.length))), (65, Sx.one (.int .i64 (fun _ => x.i)))], [.abs (.rdr (fun _ => ⟨x.S, w⟩)), .cells 63 (storeC (fun _ => mof x.S))]⟩, fun x => (L.length - x.i).toNat, x0⟩, ?_, fun (x : LRd L w) => ?_⟩
  · (try (conv in (LoopInv.inv _ _) => dsimp only)); (try (conv in (SS.mk _ _) => cbv; (try dsimp only [rcvSpec, rcvF, rrdSpec, rdF, rackSpec, rackF, rcntSpec, rcntF, newRdrSpec, rputSpec, rreadSpec, confSpec, newS, Ty.T, Ty.dflt, KT.T]); (try simp only [natCast_eq])))
    (refine (?_ : T1 _ ?_) ?_; rotate_left 1; (conv => lhs; cbv; (try cbv); (try cbv)); intro hT; clear hT; refine Sh.mk (by kernel_rfl) ?_)
    repeat' (first
      | with_reducible refine Ck.mk (C := tt) tt_intro ?_
      | with_reducible refine Ck.mk (show drawOk _ _ = true by kernel_rfl) ?_
      | with_reducible refine Ck.all_cons ?_
      | with_reducible refine Ck.all_nil ?_
      | with_reducible refine Ck.mk (by assumption) ?_
      | with_reducible refine Ck.mk (decide_eq_true (by assumption)) ?_
      | with_reducible refine Ck.mk (decide_eq_false (by assumption)) ?_
      | with_reducible refine Ck.mk ?_ ?_
      | (with_reducible refine Both.mk (fun h => ?_) (fun h => ?_) <;> (have hk := h) <;> (try simp only [decide_eq_true_eq, decide_eq_false_iff_not, Bool.not_eq_true', Bool.not_eq_false', Bool.not_eq_true, Bool.not_eq_false, Bool.not_true, Bool.not_false, ne_eq, Bool.false_eq_true, Bool.true_eq_false, reduceCtorEq, beq_iff_eq, beq_eq_false_iff_ne, not_true_eq_false, not_false_eq_true, pair_eta, map_idL] at h) <;> (try dsimp only [rcvSpec, rcvF, rrdSpec, rdF, rackSpec, rackF, rcntSpec, rcntF, newRdrSpec, rputSpec, rreadSpec, confSpec, newS, Ty.T, Ty.dflt, KT.T, getM, putM, delM] at h) <;> (try simp only [natCast_eq] at h) <;> (try (have hH := rdH hL hok hlo (by assumption) h; obtain ⟨hH, hG0⟩ := hH; have e1 := hH.e1; have ok1 := hH.ok1; have hln := hH.len; dsimp only [mof, rd1, sgA] at e1 ok1 hln)) <;> (try (have hu := u8m hR hlo h; obtain ⟨u1, u2⟩ := hu; have hG := rdG hok (seg_byt hL hlo (by assumption)) hln (R.getD i.toNat 0 % 20); have e2 := hG.e2; have e3 := hG.e3; have e4 := hG.pos; have e5 := hG.neg; have e6 := hG.eqd; dsimp only [mof, rd1, rd2, sgA] at e2 e3 e4 e5 e6)) <;> (try (have hno : ¬ i < (R.length : Int) := h; have hG := hG0; have e2 := hG.e2; have e3 := hG.e3; have e4 := hG.pos; have e5 := hG.neg; have e6 := hG.eqd; dsimp only [mof, rd1, rd2, sgA] at e2 e3 e4 e5 e6)) <;> (try simp only [pair_eta, map_idL, e1, natCast_eq] at h) <;> (try simp only [e2] at h) <;> (try simp only [e3] at h) <;> (try simp only [hwin] at h) <;> (try simp only [k1, Bool.true_and, Bool.false_and] at h) <;> (try simp only [k2] at h) <;> (try simp only [e6] at h) <;> (try (have k := e4 h; obtain ⟨k1, k2⟩ := k)) <;> (try (have k1 := e5 h)) <;> (try (exfalso; first | exact absurd rfl h | (simp at h; done))) <;> (try first | rw [if_pos h] at hr | rw [if_neg h] at hr | rw [ifF h] at hr | rw [ifN h] at hr) <;> (try (have hb : (_ : Bool) = _ := h; clear h; subst hb; (try first | rw [if_pos rfl] at hr | rw [if_neg Bool.false_ne_true] at hr))) <;> first | (exfalso; omega) | exact absurd (h.symm.trans (by assumption) : true = false) Bool.noConfusion | exact absurd (h.symm.trans (by assumption) : false = true) Bool.noConfusion | (refine (?_ : T1 _ ?_) ?_; rotate_left 1; (conv => lhs; cbv; (try cbv); (try cbv)); intro hT; clear hT; refine Sh.mk (by kernel_rfl) ?_))
      | (with_reducible refine Alt.mk (fun h => ?_) (fun h => ?_) <;> (have hk := h) <;> (try simp only [decide_eq_true_eq, decide_eq_false_iff_not, Bool.not_eq_true', Bool.not_eq_false', Bool.not_eq_true, Bool.not_eq_false, Bool.not_true, Bool.not_false, ne_eq, Bool.false_eq_true, Bool.true_eq_false, reduceCtorEq, beq_iff_eq, beq_eq_false_iff_ne, not_true_eq_false, not_false_eq_true, pair_eta, map_idL] at h) <;> (try dsimp only [rcvSpec, rcvF, rrdSpec, rdF, rackSpec, rackF, rcntSpec, rcntF, newRdrSpec, rputSpec, rreadSpec, confSpec, newS, Ty.T, Ty.dflt, KT.T, getM, putM, delM] at h) <;> (try simp only [natCast_eq] at h) <;> (try (have hH := rdH hL hok hlo (by assumption) h; obtain ⟨hH, hG0⟩ := hH; have e1 := hH.e1; have ok1 := hH.ok1; have hln := hH.len; dsimp only [mof, rd1, sgA] at e1 ok1 hln)) <;> (try (have hu := u8m hR hlo h; obtain ⟨u1, u2⟩ := hu; have hG := rdG hok (seg_byt hL hlo (by assumption)) hln (R.getD i.toNat 0 % 20); have e2 := hG.e2; have e3 := hG.e3; have e4 := hG.pos; have e5 := hG.neg; have e6 := hG.eqd; dsimp only [mof, rd1, rd2, sgA] at e2 e3 e4 e5 e6)) <;> (try (have hno : ¬ i < (R.length : Int) := h; have hG := hG0; have e2 := hG.e2; have e3 := hG.e3; have e4 := hG.pos; have e5 := hG.neg; have e6 := hG.eqd; dsimp only [mof, rd1, rd2, sgA] at e2 e3 e4 e5 e6)) <;> (try simp only [pair_eta, map_idL, e1, natCast_eq] at h) <;> (try simp only [e2] at h) <;> (try simp only [e3] at h) <;> (try simp only [hwin] at h) <;> (try simp only [k1, Bool.true_and, Bool.false_and] at h) <;> (try simp only [k2] at h) <;> (try simp only [e6] at h) <;> (try (have k := e4 h; obtain ⟨k1, k2⟩ := k)) <;> (try (have k1 := e5 h)) <;> (try (exfalso; first | exact absurd rfl h | (simp at h; done))) <;> (try first | rw [if_pos h] at hr | rw [if_neg h] at hr | rw [ifF h] at hr | rw [ifN h] at hr) <;> (try (have hb : (_ : Bool) = _ := h; clear h; subst hb; (try first | rw [if_pos rfl] at hr | rw [if_neg Bool.false_ne_true] at hr))) <;> first | (exfalso; omega) | exact absurd (h.symm.trans (by assumption) : true = false) Bool.noConfusion | exact absurd (h.symm.trans (by assumption) : false = true) Bool.noConfusion | (refine (?_ : T1 _ ?_) ?_; rotate_left 1; (conv => lhs; cbv; (try cbv); (try cbv)); intro hT; clear hT; refine Sh.mk (by kernel_rfl) ?_))
      | (with_reducible refine Pick.mk (fun h => ?_) (fun l1 x l2 h => ?_) <;> (refine (?_ : T1 _ ?_) ?_; rotate_left 1; (conv => lhs; cbv; (try cbv); (try cbv)); intro hT; clear hT; refine Sh.mk (by kernel_rfl) ?_))
      | ((with_reducible refine End.mk ?_); skip)
      | with_reducible exact True.intro)
    all_goals first
      | (fail_if_success (with_reducible refine Exists.intro ?_ ?_)
         first
           | with_reducible rfl
           | with_reducible assumption
           | (dsimp only [rcvSpec, rcvF, rrdSpec, rdF, rackSpec, rackF, rcntSpec, rcntF, newRdrSpec, rputSpec, rreadSpec, confSpec, newS, Ty.T, Ty.dflt, KT.T, getM, putM, delM, inI64, maxRow]; done)
           | (symm; with_reducible assumption)
           | (dsimp only [rcvSpec, rcvF, rrdSpec, rdF, rackSpec, rackF, rcntSpec, rcntF, newRdrSpec, rputSpec, rreadSpec, confSpec, newS, Ty.T, Ty.dflt, KT.T, getM, putM, delM, inI64, maxRow]; first | with_reducible rfl | with_reducible assumption | (symm; with_reducible assumption) | (simp only [natCast_eq]; with_reducible rfl) | omega)
           | omega
           | (dsimp only [rcvSpec, rcvF, rrdSpec, rdF, rackSpec, rackF, rcntSpec, rcntF, newRdrSpec, rputSpec, rreadSpec, confSpec, newS, Ty.T, Ty.dflt, KT.T, getM, putM, delM, inI64, maxRow]; (try simp only [natCast_eq, List.nil_append]); first | with_reducible rfl | exact take_cg (by omega) | exact drop_cg (by omega) | exact take_drop_cg (by omega) (by omega) | exact take_all (by omega) | exact take_drop_all (by omega) (by omega) | exact drop_take_cg (by omega) (by omega) (by omega))
           | first | (rw [hx1]; done) | (rw [hx1]; rfl)
           | ((try dsimp only [rcvSpec, rcvF, rrdSpec, rdF, rackSpec, rackF, rcntSpec, rcntF, newRdrSpec, rputSpec, rreadSpec, confSpec, newS, Ty.T, Ty.dflt, KT.T, getM, putM, delM, inI64, maxRow]); simp only [decide_eq_true_eq, decide_eq_false_iff_not, Bool.not_eq_true', Bool.not_eq_false', Bool.not_eq_true, Bool.not_eq_false, Bool.not_true, Bool.not_false, ne_eq, Bool.false_eq_true, Bool.true_eq_false, reduceCtorEq, beq_iff_eq, beq_eq_false_iff_ne, not_true_eq_false, not_false_eq_true, pair_eta, map_idL, natCast_eq, inI64, maxRow]; first | done | with_reducible assumption | omega)
           | exact map_pair_id _
           | ((try dsimp only [rcvSpec, rcvF, rrdSpec, rdF, rackSpec, rackF, rcntSpec, rcntF, newRdrSpec, rputSpec, rreadSpec, confSpec, newS, Ty.T, Ty.dflt, KT.T, getM, putM, delM, inI64, maxRow]) <;> (try simp only [natCast_eq]) <;> omega)
           | ((try dsimp only [rcvSpec, rcvF, rrdSpec, rdF, rackSpec, rackF, rcntSpec, rcntF, newRdrSpec, rputSpec, rreadSpec, confSpec, newS, Ty.T, Ty.dflt, KT.T, getM, putM, delM, inI64, maxRow] at *) <;> (try simp only [natCast_eq] at *) <;> omega)
           | ((try dsimp only [rcvSpec, rcvF, rrdSpec, rdF, rackSpec, rackF, rcntSpec, rcntF, newRdrSpec, rputSpec, rreadSpec, confSpec, newS, Ty.T, Ty.dflt, KT.T, getM, putM, delM, inI64, maxRow] at *) <;> (try simp only [List.length_append, List.length_cons, List.length_nil, List.length_replicate, List.length_take, List.length_drop, natCast_eq] at *) <;> omega)
           | assumption
           | (symm; assumption)
           | (dsimp only; simp only [Bool.or_true, Bool.true_or, Bool.or_false, Bool.false_or, Bool.and_true, Bool.true_and, Bool.and_false, Bool.false_and, Bool.not_true, Bool.not_false, *]; done)
           | (simp; done)
           | (and_intros <;> first | trivial | with_reducible assumption | omega)
           | ((try dsimp only [rcvSpec, rcvF, rrdSpec, rdF, rackSpec, rackF, rcntSpec, rcntF, newRdrSpec, rputSpec, rreadSpec, confSpec, newS, Ty.T, Ty.dflt, KT.T, getM, putM, delM, inI64, maxRow] at *) <;> simp [*] <;> done))
      | skip
  obtain ⟨i, S, hlo, hhi, hok, hwin⟩ := x
  (try (conv in (LoopInv.inv _ _) => dsimp only)); (try (conv in (SS.mk _ _) => cbv; (try dsimp only [rcvSpec, rcvF, rrdSpec, rdF, rackSpec, rackF, rcntSpec, rcntF, newRdrSpec, rputSpec, rreadSpec, confSpec, newS, Ty.T, Ty.dflt, KT.T]); (try simp only [natCast_eq])))
  (refine (?_ : T1 _ ?_) ?_; rotate_left 1; (conv => lhs; cbv; (try cbv); (try cbv)); intro hT; clear hT; refine Sh.mk (by kernel_rfl) ?_)
  repeat' (first
    | with_reducible refine Ck.mk (C := tt) tt_intro ?_
    | with_reducible refine Ck.mk (show drawOk _ _ = true by kernel_rfl) ?_
    | with_reducible refine Ck.all_cons ?_
    | with_reducible refine Ck.all_nil ?_
    | with_reducible refine Ck.mk (by assumption) ?_
    | with_reducible refine Ck.mk (decide_eq_true (by assumption)) ?_
    | with_reducible refine Ck.mk (decide_eq_false (by assumption)) ?_
    | with_reducible refine Ck.mk ?_ ?_
    | (with_reducible refine Both.mk (fun h => ?_) (fun h => ?_) <;> (have hk := h) <;> (try simp only [decide_eq_true_eq, decide_eq_false_iff_not, Bool.not_eq_true', Bool.not_eq_false', Bool.not_eq_true, Bool.not_eq_false, Bool.not_true, Bool.not_false, ne_eq, Bool.false_eq_true, Bool.true_eq_false, reduceCtorEq, beq_iff_eq, beq_eq_false_iff_ne, not_true_eq_false, not_false_eq_true, pair_eta, map_idL] at h) <;> (try dsimp only [rcvSpec, rcvF, rrdSpec, rdF, rackSpec, rackF, rcntSpec, rcntF, newRdrSpec, rputSpec, rreadSpec, confSpec, newS, Ty.T, Ty.dflt, KT.T, getM, putM, delM] at h) <;> (try simp only [natCast_eq] at h) <;> (try (have hH := rdH hL hok hlo (by assumption) h; obtain ⟨hH, hG0⟩ := hH; have e1 := hH.e1; have ok1 := hH.ok1; have hln := hH.len; dsimp only [mof, rd1, sgA] at e1 ok1 hln)) <;> (try (have hu := u8m hR hlo h; obtain ⟨u1, u2⟩ := hu; have hG := rdG hok (seg_byt hL hlo (by assumption)) hln (R.getD i.toNat 0 % 20); have e2 := hG.e2; have e3 := hG.e3; have e4 := hG.pos; have e5 := hG.neg; have e6 := hG.eqd; dsimp only [mof, rd1, rd2, sgA] at e2 e3 e4 e5 e6)) <;> (try (have hno : ¬ i < (R.length : Int) := h; have hG := hG0; have e2 := hG.e2; have e3 := hG.e3; have e4 := hG.pos; have e5 := hG.neg; have e6 := hG.eqd; dsimp only [mof, rd1, rd2, sgA] at e2 e3 e4 e5 e6)) <;> (try simp only [pair_eta, map_idL, e1, natCast_eq] at h) <;> (try simp only [e2] at h) <;> (try simp only [e3] at h) <;> (try simp only [hwin] at h) <;> (try simp only [k1, Bool.true_and, Bool.false_and] at h) <;> (try simp only [k2] at h) <;> (try simp only [e6] at h) <;> (try (have k := e4 h; obtain ⟨k1, k2⟩ := k)) <;> (try (have k1 := e5 h)) <;> (try (exfalso; first | exact absurd rfl h | (simp at h; done))) <;> (try first | rw [if_pos h] at hr | rw [if_neg h] at hr | rw [ifF h] at hr | rw [ifN h] at hr) <;> (try (have hb : (_ : Bool) = _ := h; clear h; subst hb; (try first | rw [if_pos rfl] at hr | rw [if_neg Bool.false_ne_true] at hr))) <;> first | (exfalso; omega) | exact absurd (h.symm.trans (by assumption) : true = false) Bool.noConfusion | exact absurd (h.symm.trans (by assumption) : false = true) Bool.noConfusion | (refine (?_ : T1 _ ?_) ?_; rotate_left 1; (conv => lhs; cbv; (try cbv); (try cbv)); intro hT; clear hT; refine Sh.mk (by kernel_rfl) ?_))
    | (with_reducible refine Alt.mk (fun h => ?_) (fun h => ?_) <;> (have hk := h) <;> (try simp only [decide_eq_true_eq, decide_eq_false_iff_not, Bool.not_eq_true', Bool.not_eq_false', Bool.not_eq_true, Bool.not_eq_false, Bool.not_true, Bool.not_false, ne_eq, Bool.false_eq_true, Bool.true_eq_false, reduceCtorEq, beq_iff_eq, beq_eq_false_iff_ne, not_true_eq_false, not_false_eq_true, pair_eta, map_idL] at h) <;> (try dsimp only [rcvSpec, rcvF, rrdSpec, rdF, rackSpec, rackF, rcntSpec, rcntF, newRdrSpec, rputSpec, rreadSpec, confSpec, newS, Ty.T, Ty.dflt, KT.T, getM, putM, delM] at h) <;> (try simp only [natCast_eq] at h) <;> (try (have hH := rdH hL hok hlo (by assumption) h; obtain ⟨hH, hG0⟩ := hH; have e1 := hH.e1; have ok1 := hH.ok1; have hln := hH.len; dsimp only [mof, rd1, sgA] at e1 ok1 hln)) <;> (try (have hu := u8m hR hlo h; obtain ⟨u1, u2⟩ := hu; have hG := rdG hok (seg_byt hL hlo (by assumption)) hln (R.getD i.toNat 0 % 20); have e2 := hG.e2; have e3 := hG.e3; have e4 := hG.pos; have e5 := hG.neg; have e6 := hG.eqd; dsimp only [mof, rd1, rd2, sgA] at e2 e3 e4 e5 e6)) <;> (try (have hno : ¬ i < (R.length : Int) := h; have hG := hG0; have e2 := hG.e2; have e3 := hG.e3; have e4 := hG.pos; have e5 := hG.neg; have e6 := hG.eqd; dsimp only [mof, rd1, rd2, sgA] at e2 e3 e4 e5 e6)) <;> (try simp only [pair_eta, map_idL, e1, natCast_eq] at h) <;> (try simp only [e2] at h) <;> (try simp only [e3] at h) <;> (try simp only [hwin] at h) <;> (try simp only [k1, Bool.true_and, Bool.false_and] at h) <;> (try simp only [k2] at h) <;> (try simp only [e6] at h) <;> (try (have k := e4 h; obtain ⟨k1, k2⟩ := k)) <;> (try (have k1 := e5 h)) <;> (try (exfalso; first | exact absurd rfl h | (simp at h; done))) <;> (try first | rw [if_pos h] at hr | rw [if_neg h] at hr | rw [ifF h] at hr | rw [ifN h] at hr) <;> (try (have hb : (_ : Bool) = _ := h; clear h; subst hb; (try first | rw [if_pos rfl] at hr | rw [if_neg Bool.false_ne_true] at hr))) <;> first | (exfalso; omega) | exact absurd (h.symm.trans (by assumption) : true = false) Bool.noConfusion | exact absurd (h.symm.trans (by assumption) : false = true) Bool.noConfusion | (refine (?_ : T1 _ ?_) ?_; rotate_left 1; (conv => lhs; cbv; (try cbv); (try cbv)); intro hT; clear hT; refine Sh.mk (by kernel_rfl) ?_))
    | (with_reducible refine Pick.mk (fun h => ?_) (fun l1 x l2 h => ?_) <;> (refine (?_ : T1 _ ?_) ?_; rotate_left 1; (conv => lhs; cbv; (try cbv); (try cbv)); intro hT; clear hT; refine Sh.mk (by kernel_rfl) ?_))
    | ((with_reducible refine End.mk ?_); (try ((repeat (first | rw [if_pos (by first | assumption | omega)] at hr | rw [if_neg (by first | assumption | omega | (simp only [Bool.false_eq_true, Bool.true_eq_false, reduceCtorEq, not_false_eq_true]; done) | (simp only [Bool.not_eq_true]; assumption) | (simp only [Bool.not_eq_false]; assumption))] at hr | rw [if_pos rfl] at hr)); subst hr)))
    | with_reducible exact True.intro)
  all_goals first
    | (fail_if_success (with_reducible refine Exists.intro ?_ ?_)
       first
         | with_reducible rfl
         | with_reducible assumption
         | (dsimp only [rcvSpec, rcvF, rrdSpec, rdF, rackSpec, rackF, rcntSpec, rcntF, newRdrSpec, rputSpec, rreadSpec, confSpec, newS, Ty.T, Ty.dflt, KT.T, getM, putM, delM, inI64, maxRow]; done)
         | (symm; with_reducible assumption)
         | (dsimp only [rcvSpec, rcvF, rrdSpec, rdF, rackSpec, rackF, rcntSpec, rcntF, newRdrSpec, rputSpec, rreadSpec, confSpec, newS, Ty.T, Ty.dflt, KT.T, getM, putM, delM, inI64, maxRow]; first | with_reducible rfl | with_reducible assumption | (symm; with_reducible assumption) | (simp only [natCast_eq]; with_reducible rfl) | omega)
         | omega
         | (dsimp only [rcvSpec, rcvF, rrdSpec, rdF, rackSpec, rackF, rcntSpec, rcntF, newRdrSpec, rputSpec, rreadSpec, confSpec, newS, Ty.T, Ty.dflt, KT.T, getM, putM, delM, inI64, maxRow]; (try simp only [natCast_eq, List.nil_append]); first | with_reducible rfl | exact take_cg (by omega) | exact drop_cg (by omega) | exact take_drop_cg (by omega) (by omega) | exact take_all (by omega) | exact take_drop_all (by omega) (by omega) | exact drop_take_cg (by omega) (by omega) (by omega))
         | first | exact ⟨hok.pre, hln⟩ | exact ok1.pre | exact ⟨hG.ok.pre, hwin.symm.trans hG.win.symm⟩ | (dsimp only [Ty.T, Ty.dflt]; simp only [pair_eta, map_idL]; exact ⟨preR_of hok, hln⟩) | (dsimp only [Ty.T, Ty.dflt]; simp only [pair_eta, map_idL, e1]; exact preR_of ok1) | (dsimp only [Ty.T, Ty.dflt]; simp only [pair_eta, map_idL, e1, e2]; first | exact preR_of ok1 | exact preR_of hG.ok | exact ⟨hG.byt, hG.byt⟩)
         | ((try dsimp only [rcvSpec, rcvF, rrdSpec, rdF, rackSpec, rackF, rcntSpec, rcntF, newRdrSpec, rputSpec, rreadSpec, confSpec, newS, Ty.T, Ty.dflt, KT.T, getM, putM, delM, inI64, maxRow]); simp only [decide_eq_true_eq, decide_eq_false_iff_not, Bool.not_eq_true', Bool.not_eq_false', Bool.not_eq_true, Bool.not_eq_false, Bool.not_true, Bool.not_false, ne_eq, Bool.false_eq_true, Bool.true_eq_false, reduceCtorEq, beq_iff_eq, beq_eq_false_iff_ne, not_true_eq_false, not_false_eq_true, pair_eta, map_idL, natCast_eq, inI64, maxRow]; first | done | with_reducible assumption | omega)
         | exact map_pair_id _
         | ((try dsimp only [rcvSpec, rcvF, rrdSpec, rdF, rackSpec, rackF, rcntSpec, rcntF, newRdrSpec, rputSpec, rreadSpec, confSpec, newS, Ty.T, Ty.dflt, KT.T, getM, putM, delM, inI64, maxRow]) <;> (try simp only [natCast_eq]) <;> omega)
         | ((try dsimp only [rcvSpec, rcvF, rrdSpec, rdF, rackSpec, rackF, rcntSpec, rcntF, newRdrSpec, rputSpec, rreadSpec, confSpec, newS, Ty.T, Ty.dflt, KT.T, getM, putM, delM, inI64, maxRow] at *) <;> (try simp only [natCast_eq] at *) <;> omega)
         | ((try dsimp only [rcvSpec, rcvF, rrdSpec, rdF, rackSpec, rackF, rcntSpec, rcntF, newRdrSpec, rputSpec, rreadSpec, confSpec, newS, Ty.T, Ty.dflt, KT.T, getM, putM, delM, inI64, maxRow] at *) <;> (try simp only [List.length_append, List.length_cons, List.length_nil, List.length_replicate, List.length_take, List.length_drop, natCast_eq] at *) <;> omega)
         | assumption
         | (symm; assumption)
         | (dsimp only; simp only [Bool.or_true, Bool.true_or, Bool.or_false, Bool.false_or, Bool.and_true, Bool.true_and, Bool.and_false, Bool.false_and, Bool.not_true, Bool.not_false, *]; done)
         | (simp; done)
         | (and_intros <;> first | trivial | with_reducible assumption | omega)
         | ((try dsimp only [rcvSpec, rcvF, rrdSpec, rdF, rackSpec, rackF, rcntSpec, rcntF, newRdrSpec, rputSpec, rreadSpec, confSpec, newS, Ty.T, Ty.dflt, KT.T, getM, putM, delM, inI64, maxRow] at *) <;> simp [*] <;> done))
    | skip
  all_goals
    (obtain ⟨y, hy0, hy1⟩ := next_LRd (L := L) (w := w) hlo (by assumption) hG.ok (hG.win.trans hwin)
     refine ⟨y, by dsimp only; (try simp only [natCast_eq]); omega, ?_⟩
     (try (conv in (LoopInv.inv _ _) => dsimp only)); (try (conv in (SS.mk _ _) => cbv; (try dsimp only [rcvSpec, rcvF, rrdSpec, rdF, rackSpec, rackF, rcntSpec, rcntF, newRdrSpec, rputSpec, rreadSpec, confSpec, newS, Ty.T, Ty.dflt, KT.T]); (try simp only [natCast_eq])))
     (refine (?_ : T1 _ ?_) ?_; rotate_left 1; (conv => lhs; cbv; (try cbv); (try cbv)); intro hT; clear hT; refine Sh.mk (by kernel_rfl) ?_)
     repeat' (first
       | with_reducible refine Ck.mk (C := tt) tt_intro ?_
       | with_reducible refine Ck.mk (show drawOk _ _ = true by kernel_rfl) ?_
       | with_reducible refine Ck.all_cons ?_
       | with_reducible refine Ck.all_nil ?_
       | with_reducible refine Ck.mk (by assumption) ?_
       | with_reducible refine Ck.mk (decide_eq_true (by assumption)) ?_
       | with_reducible refine Ck.mk (decide_eq_false (by assumption)) ?_
       | with_reducible refine Ck.mk ?_ ?_
       | (with_reducible refine Both.mk (fun h => ?_) (fun h => ?_) <;> (have hk := h) <;> (try simp only [decide_eq_true_eq, decide_eq_false_iff_not, Bool.not_eq_true', Bool.not_eq_false', Bool.not_eq_true, Bool.not_eq_false, Bool.not_true, Bool.not_false, ne_eq, Bool.false_eq_true, Bool.true_eq_false, reduceCtorEq, beq_iff_eq, beq_eq_false_iff_ne, not_true_eq_false, not_false_eq_true, pair_eta, map_idL] at h) <;> (try dsimp only [rcvSpec, rcvF, rrdSpec, rdF, rackSpec, rackF, rcntSpec, rcntF, newRdrSpec, rputSpec, rreadSpec, confSpec, newS, Ty.T, Ty.dflt, KT.T, getM, putM, delM] at h) <;> (try simp only [natCast_eq] at h) <;> (try (have hH := rdH hL hok hlo (by assumption) h; obtain ⟨hH, hG0⟩ := hH; have e1 := hH.e1; have ok1 := hH.ok1; have hln := hH.len; dsimp only [mof, rd1, sgA] at e1 ok1 hln)) <;> (try (have hu := u8m hR hlo h; obtain ⟨u1, u2⟩ := hu; have hG := rdG hok (seg_byt hL hlo (by assumption)) hln (R.getD i.toNat 0 % 20); have e2 := hG.e2; have e3 := hG.e3; have e4 := hG.pos; have e5 := hG.neg; have e6 := hG.eqd; dsimp only [mof, rd1, rd2, sgA] at e2 e3 e4 e5 e6)) <;> (try (have hno : ¬ i < (R.length : Int) := h; have hG := hG0; have e2 := hG.e2; have e3 := hG.e3; have e4 := hG.pos; have e5 := hG.neg; have e6 := hG.eqd; dsimp only [mof, rd1, rd2, sgA] at e2 e3 e4 e5 e6)) <;> (try simp only [pair_eta, map_idL, e1, natCast_eq] at h) <;> (try simp only [e2] at h) <;> (try simp only [e3] at h) <;> (try simp only [hwin] at h) <;> (try simp only [k1, Bool.true_and, Bool.false_and] at h) <;> (try simp only [k2] at h) <;> (try simp only [e6] at h) <;> (try (have k := e4 h; obtain ⟨k1, k2⟩ := k)) <;> (try (have k1 := e5 h)) <;> (try (exfalso; first | exact absurd rfl h | (simp at h; done))) <;> (try first | rw [if_pos h] at hr | rw [if_neg h] at hr | rw [ifF h] at hr | rw [ifN h] at hr) <;> (try (have hb : (_ : Bool) = _ := h; clear h; subst hb; (try first | rw [if_pos rfl] at hr | rw [if_neg Bool.false_ne_true] at hr))) <;> first | (exfalso; omega) | exact absurd (h.symm.trans (by assumption) : true = false) Bool.noConfusion | exact absurd (h.symm.trans (by assumption) : false = true) Bool.noConfusion | (refine (?_ : T1 _ ?_) ?_; rotate_left 1; (conv => lhs; cbv; (try cbv); (try cbv)); intro hT; clear hT; refine Sh.mk (by kernel_rfl) ?_))
       | (with_reducible refine Alt.mk (fun h => ?_) (fun h => ?_) <;> (have hk := h) <;> (try simp only [decide_eq_true_eq, decide_eq_false_iff_not, Bool.not_eq_true', Bool.not_eq_false', Bool.not_eq_true, Bool.not_eq_false, Bool.not_true, Bool.not_false, ne_eq, Bool.false_eq_true, Bool.true_eq_false, reduceCtorEq, beq_iff_eq, beq_eq_false_iff_ne, not_true_eq_false, not_false_eq_true, pair_eta, map_idL] at h) <;> (try dsimp only [rcvSpec, rcvF, rrdSpec, rdF, rackSpec, rackF, rcntSpec, rcntF, newRdrSpec, rputSpec, rreadSpec, confSpec, newS, Ty.T, Ty.dflt, KT.T, getM, putM, delM] at h) <;> (try simp only [natCast_eq] at h) <;> (try (have hH := rdH hL hok hlo (by assumption) h; obtain ⟨hH, hG0⟩ := hH; have e1 := hH.e1; have ok1 := hH.ok1; have hln := hH.len; dsimp only [mof, rd1, sgA] at e1 ok1 hln)) <;> (try (have hu := u8m hR hlo h; obtain ⟨u1, u2⟩ := hu; have hG := rdG hok (seg_byt hL hlo (by assumption)) hln (R.getD i.toNat 0 % 20); have e2 := hG.e2; have e3 := hG.e3; have e4 := hG.pos; have e5 := hG.neg; have e6 := hG.eqd; dsimp only [mof, rd1, rd2, sgA] at e2 e3 e4 e5 e6)) <;> (try (have hno : ¬ i < (R.length : Int) := h; have hG := hG0; have e2 := hG.e2; have e3 := hG.e3; have e4 := hG.pos; have e5 := hG.neg; have e6 := hG.eqd; dsimp only [mof, rd1, rd2, sgA] at e2 e3 e4 e5 e6)) <;> (try simp only [pair_eta, map_idL, e1, natCast_eq] at h) <;> (try simp only [e2] at h) <;> (try simp only [e3] at h) <;> (try simp only [hwin] at h) <;> (try simp only [k1, Bool.true_and, Bool.false_and] at h) <;> (try simp only [k2] at h) <;> (try simp only [e6] at h) <;> (try (have k := e4 h; obtain ⟨k1, k2⟩ := k)) <;> (try (have k1 := e5 h)) <;> (try (exfalso; first | exact absurd rfl h | (simp at h; done))) <;> (try first | rw [if_pos h] at hr | rw [if_neg h] at hr | rw [ifF h] at hr | rw [ifN h] at hr) <;> (try (have hb : (_ : Bool) = _ := h; clear h; subst hb; (try first | rw [if_pos rfl] at hr | rw [if_neg Bool.false_ne_true] at hr))) <;> first | (exfalso; omega) | exact absurd (h.symm.trans (by assumption) : true = false) Bool.noConfusion | exact absurd (h.symm.trans (by assumption) : false = true) Bool.noConfusion | (refine (?_ : T1 _ ?_) ?_; rotate_left 1; (conv => lhs; cbv; (try cbv); (try cbv)); intro hT; clear hT; refine Sh.mk (by kernel_rfl) ?_))
       | (with_reducible refine Pick.mk (fun h => ?_) (fun l1 x l2 h => ?_) <;> (refine (?_ : T1 _ ?_) ?_; rotate_left 1; (conv => lhs; cbv; (try cbv); (try cbv)); intro hT; clear hT; refine Sh.mk (by kernel_rfl) ?_))
       | ((with_reducible refine End.mk ?_); skip)
       | with_reducible exact True.intro)
     all_goals first
       | (fail_if_success (with_reducible refine Exists.intro ?_ ?_)
          first
            | with_reducible rfl
            | with_reducible assumption
            | (dsimp only [rcvSpec, rcvF, rrdSpec, rdF, rackSpec, rackF, rcntSpec, rcntF, newRdrSpec, rputSpec, rreadSpec, confSpec, newS, Ty.T, Ty.dflt, KT.T, getM, putM, delM, inI64, maxRow]; done)
            | (symm; with_reducible assumption)
            | (dsimp only [rcvSpec, rcvF, rrdSpec, rdF, rackSpec, rackF, rcntSpec, rcntF, newRdrSpec, rputSpec, rreadSpec, confSpec, newS, Ty.T, Ty.dflt, KT.T, getM, putM, delM, inI64, maxRow]; first | with_reducible rfl | with_reducible assumption | (symm; with_reducible assumption) | (simp only [natCast_eq]; with_reducible rfl) | omega)
            | omega
            | (dsimp only [rcvSpec, rcvF, rrdSpec, rdF, rackSpec, rackF, rcntSpec, rcntF, newRdrSpec, rputSpec, rreadSpec, confSpec, newS, Ty.T, Ty.dflt, KT.T, getM, putM, delM, inI64, maxRow]; (try simp only [natCast_eq, List.nil_append]); first | with_reducible rfl | exact take_cg (by omega) | exact drop_cg (by omega) | exact take_drop_cg (by omega) (by omega) | exact take_all (by omega) | exact take_drop_all (by omega) (by omega) | exact drop_take_cg (by omega) (by omega) (by omega))
            | first | exact hy1.symm | (rw [hy1]; done) | (rw [hy1]; simp only [pair_eta, map_idL, e1, e2]; done)
            | ((try dsimp only [rcvSpec, rcvF, rrdSpec, rdF, rackSpec, rackF, rcntSpec, rcntF, newRdrSpec, rputSpec, rreadSpec, confSpec, newS, Ty.T, Ty.dflt, KT.T, getM, putM, delM, inI64, maxRow]); simp only [decide_eq_true_eq, decide_eq_false_iff_not, Bool.not_eq_true', Bool.not_eq_false', Bool.not_eq_true, Bool.not_eq_false, Bool.not_true, Bool.not_false, ne_eq, Bool.false_eq_true, Bool.true_eq_false, reduceCtorEq, beq_iff_eq, beq_eq_false_iff_ne, not_true_eq_false, not_false_eq_true, pair_eta, map_idL, natCast_eq, inI64, maxRow]; first | done | with_reducible assumption | omega)
            | exact map_pair_id _
            | ((try dsimp only [rcvSpec, rcvF, rrdSpec, rdF, rackSpec, rackF, rcntSpec, rcntF, newRdrSpec, rputSpec, rreadSpec, confSpec, newS, Ty.T, Ty.dflt, KT.T, getM, putM, delM, inI64, maxRow]) <;> (try simp only [natCast_eq]) <;> omega)
            | ((try dsimp only [rcvSpec, rcvF, rrdSpec, rdF, rackSpec, rackF, rcntSpec, rcntF, newRdrSpec, rputSpec, rreadSpec, confSpec, newS, Ty.T, Ty.dflt, KT.T, getM, putM, delM, inI64, maxRow] at *) <;> (try simp only [natCast_eq] at *) <;> omega)
            | ((try dsimp only [rcvSpec, rcvF, rrdSpec, rdF, rackSpec, rackF, rcntSpec, rcntF, newRdrSpec, rputSpec, rreadSpec, confSpec, newS, Ty.T, Ty.dflt, KT.T, getM, putM, delM, inI64, maxRow] at *) <;> (try simp only [List.length_append, List.length_cons, List.length_nil, List.length_replicate, List.length_take, List.length_drop, natCast_eq] at *) <;> omega)
            | assumption
            | (symm; assumption)
            | (dsimp only; simp only [Bool.or_true, Bool.true_or, Bool.or_false, Bool.false_or, Bool.and_true, Bool.true_and, Bool.and_false, Bool.false_and, Bool.not_true, Bool.not_false, *]; done)
            | (simp; done)
            | (and_intros <;> first | trivial | with_reducible assumption | omega)
            | ((try dsimp only [rcvSpec, rcvF, rrdSpec, rdF, rackSpec, rackF, rcntSpec, rcntF, newRdrSpec, rputSpec, rreadSpec, confSpec, newS, Ty.T, Ty.dflt, KT.T, getM, putM, delM, inI64, maxRow] at *) <;> simp [*] <;> done))
       | skip
     )
theorem rds_sound : ConSound Try.prog AI 5 rdsSpec.con := PureSpec.sound Try.call5 (fun x h => rds_ok x.1 x.2.1 x.2.2.1 h)
end Go.Proofs.Ytebhcmgfhkjmcaa
