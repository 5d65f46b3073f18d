/-
  Layer 44: StreamCompletes, the walk.
-/
import Derived.Test.YtebhcmgfhkjmcaaWin
import Derived.Test.YtebhcmgfhkjmcaaCmr
namespace Go.Proofs.Ytebhcmgfhkjmcaa
set_option linter.all false
set_option linter.unusedVariables false
set_option linter.unusedSimpArgs false
set_option linter.unusedSectionVars false
open Go.RowKit Go.Sx
set_option maxRecDepth 100000
set_option maxHeartbeats 16000000
noncomputable abbrev Ecm : Env Ab := ⟨tis, [(33, actSpec.con), (29, rackSpec.con), (26, rrdSpec.con), (25, rcvSpec.con), (20, ackSpec.con), (16, tickSpec.con), (15, closeSpec.con), (21, countsSpec.con), (24, inl E0 Try.f24 0), (32, inl Ef Try.f32 3), (11, awakeSpec.con)] ++ E0.con⟩
theorem ecmOk : EnvOk Try.prog AI Ecm := (((((((((((e0Ok.add awake_sound).add fresh_inl).add beq_inl).add counts_sound).add close_sound).add tick_sound).add ack_sound).add rcv_sound).add rrd_sound).add rack_sound).add act_sound)
/-- A writer that is open. -/
structure Op (x : WS) (T V : Int) : Prop where
  cl : x.w.closed = false
  fn : x.w.fin = false
  en : x.w.ended = false
  tm : x.w.tmo = T
  rv : x.r.sto.win = V
theorem tick_op {w : Wri} (h : w.closed = false) (he : w.ended = false) (m : Int) : (tick w m).2.closed = false ∧ (tick w m).2.ended = false := by
  have hI : (tickIdle w).2.closed = false ∧ (tickIdle w).2.ended = false := by unfold tickIdle; (repeat' split) <;> first | exact ⟨h, he⟩ | exact ⟨h, rfl⟩
  have hB : (tickB w).2.closed = false ∧ (tickB w).2.ended = false := by unfold tickB; (repeat' split) <;> first | exact ⟨h, he⟩ | exact hI
  have hA : (tickA w).2.closed = false ∧ (tickA w).2.ended = false := by
    unfold tickA
    rw [if_neg (by rw [h]; exact Bool.false_ne_true)]
    exact hB
  unfold tick
  split; · exact ⟨h, he⟩
  split
  · split
    · rw [if_neg (by rw [h]; exact Bool.false_ne_true)]; exact ⟨h, he⟩
    · exact hA
  · exact hA
theorem put_winN (S : Sto) (o : Int) (d : List Int) (l : Bool) : (putF S o d l).2.win = S.win := by
  unfold putF
  (repeat' split) <;> rfl
theorem act_op {x : WS} {T V : Int} (hi : Inv x) (h : Op x T V) (a : Int) : Op (actF x a).2 T V := by
  obtain ⟨h1, h2, h3, h4, h5⟩ := h
  have hw : (writeF x.w (actB x a)).2.closed = false ∧ (writeF x.w (actB x a)).2.fin = false ∧ (writeF x.w (actB x a)).2.ended = false ∧ (writeF x.w (actB x a)).2.tmo = T := by
    unfold writeF; split <;> exact ⟨h1, h2, h3, h4⟩
  have a0 : Op (act0 x a).2 T V := by unfold act0; (repeat' split) <;> exact ⟨hw.1, hw.2.1, hw.2.2.1, hw.2.2.2, h5⟩
  have ht := tick_op h1 h3 (1 + a / 8 % 5)
  have a1 : Op (act1 x a).2 T V := by unfold act1; split <;> exact ⟨ht.1, (tick_fin _ _).1.trans h2, ht.2, (tick_tmo _ _).trans h4, h5⟩
  have a3 : Op (act3 x a).2 T V := by
    unfold act3
    (repeat' split) <;> exact ⟨h1, h2, h3, h4, by first | exact h5 | exact (put_winN _ _ _ _).trans h5⟩
  have a5 : Op (act5 x a).2 T V := by
    have hr : (readF x.r.sto (a / 8 % 6)).2.win = x.r.sto.win := by unfold readF; split <;> rfl
    unfold act5
    split <;> exact ⟨h1, h2, h3, h4, hr.trans h5⟩
  have a7 : Op (act7 x a).2 T V := by
    unfold act7
    split
    · rename_i hp
      have hlt : (a / 8 % (x.acks.length : Int)).toNat < x.acks.length := by have := modAt_lt (k := a / 8) hp; omega
      have hd : dnAt x a = false := by
        cases hd : dnAt x a with
        | false => rfl
        | true => have := ((hi.ack _ hlt).2.2 hd).1; rw [h1] at this; cases this
      have hk : Op { x with w := (ackF x.w (ackAt x a).1 (ackAt x a).2 (dnAt x a)).2 } T V := by
        rw [hd]
        have hm : (ackM x.w (ackAt x a).1 (ackAt x a).2 false).2.closed = false ∧ (ackM x.w (ackAt x a).1 (ackAt x a).2 false).2.fin = false ∧ (ackM x.w (ackAt x a).1 (ackAt x a).2 false).2.ended = false ∧ (ackM x.w (ackAt x a).1 (ackAt x a).2 false).2.tmo = T := by
          unfold ackM
          (repeat' split) <;> exact ⟨h1, by first | exact h2 | (show (x.w.fin || false) = false; rw [h2]; rfl), h3, h4⟩
        unfold ackF
        rw [if_neg (c := false = true) Bool.false_ne_true]
        (repeat' split) <;> first | exact ⟨h1, h2, h3, h4, h5⟩ | exact ⟨hm.1, hm.2.1, hm.2.2.1, hm.2.2.2, h5⟩
      split <;> exact hk
    · exact ⟨h1, h2, h3, h4, h5⟩
  unfold actF
  split; · exact a0
  split; · exact a1
  split; · exact a1
  split; · exact a3
  split; · exact a3
  split; · exact a5
  split; · exact ⟨h1, h2, h3, h4, h5⟩
  exact a7
theorem newX_op (w t v : Int) : Op (newX w t v) t v := ⟨rfl, rfl, rfl, rfl, rfl⟩
/-- The start of the rounds. -/
theorem start {x : WS} {T V : Int} (hi : Inv x) (h : Op x T V) (hT : T ≤ 6) (hV : V ≤ 20) : Ci T { x with w := (closeF x.w).2 } 0 := by
  have hd : Dn x.w x.r x.data x.read := ⟨hi.ok, hi.tk, hi.wd, hi.base, hi.st, hi.rw, hi.fin, hi.rd, fun q => by rw [h.fn] at q; cases q⟩
  have hx : Wx false x.w := ⟨h.cl, fun q => (by rw [h.en] at q; cases q), fun q => by rw [h.fn] at q; cases q⟩
  refine ⟨⟨hd.close.1, hx.close, ⟨?_, hT⟩, by rw [← h.rv] at hV; exact hV⟩, ?_, Int.le_refl _, .inl ⟨rfl, ?_⟩⟩
  · show (closeF x.w).2.tmo = T; rw [closeF_eq]; exact h.tm
  · show ¬ (closeF x.w).2.fin = true; rw [closeF_eq]; show ¬ x.w.fin = true; rw [h.fn]; exact Bool.false_ne_true
  · show (closeF x.w).2.ended = false; rw [closeF_eq]; exact h.en
/-- The end of the rounds. -/
theorem fin_facts {x : WS} {T : Int} (h : Cx x T) (ho : x.r.sto.off = x.r.sto.next) (hf : x.w.fin = true) : x.w.base = x.w.taken ∧ x.w.taken = x.data.length ∧ x.read = x.data ∧ ((tick x.w 9).1.2.1 : Bool) = false := by
  have hb := h.wx.fb hf
  obtain ⟨k1, k2⟩ := h.dn.fw hf
  have k3 := (h.dn.fin k1).2.2
  have hn := h.dn.ok.next
  have htk := h.dn.tk
  refine ⟨hb, htk, ?_, ?_⟩
  · have := h.dn.rd
    rw [this, List.take_of_length_le (by omega)]
  · have hB : ((tickB x.w).1.2.1 : Bool) = false := by
      unfold tickB
      rw [if_pos (by omega), if_pos (by omega)]
      split
      · rfl
      · first | rfl | rw [if_pos hf]
    unfold tick
    rw [if_neg (by decide), if_neg (by omega)]
    unfold tickA
    rw [if_pos h.wx.cl, if_pos (by omega)]
    split
    · rw [if_neg (by rw [hf]; exact Bool.noConfusion)]; exact hB
    · exact hB
structure LC1 (L : List Int) (T V : Int) where
  i : Int
  x : WS
  lo : 0 ≤ i
  hi : i ≤ L.length
  inv : Inv x
  bt : inBytes x.data
  op : Op x T V
  l1 : (x.data.length : Int) ≤ 4 * i
  l2 : (x.segs.length : Int) ≤ i
  l3 : (x.acks.length : Int) ≤ i
theorem LC1.next {L : List Int} {T V i : Int} {x y : WS} {a : Int} (lo : 0 ≤ i) (hi : i < L.length) (h : ActOk x y a) (hb : inBytes y.data) (ho : Op y T V) (l1 : (x.data.length : Int) ≤ 4 * i) (l2 : (x.segs.length : Int) ≤ i) (l3 : (x.acks.length : Int) ≤ i) : ∃ z : LC1 L T V, z.i = i + 1 ∧ z.x = y := by
  have := h.data; have := h.acks; have := segs_len h
  exact ⟨⟨i + 1, y, by omega, by omega, h.inv, hb, ho, by omega, by omega, by omega⟩, rfl, rfl⟩
structure LC2 (T : Int) (D : List Int) where
  i : Int
  x : WS
  ci : Ci T x i
  d : x.data = D
  rl : x.read.length ≤ 1000
def cmwF (_ _ _ : Int) (_ : List Int) (_ : Int) : Tup [DT.cell .bool] := (true, ())
def cmwSpec : PureSpec := ⟨[.cell (.int .u8), .cell (.int .u8), .cell (.int .u8), .lst (.int .u16), .cell (.int .u8)], fun (x : Int × Int × Int × (List Int) × Int × Unit) => (0 ≤ x.1 ∧ x.1 ≤ 255) ∧ (0 ≤ x.2.1 ∧ x.2.1 ≤ 255) ∧ (0 ≤ x.2.2.1 ∧ x.2.2.1 ≤ 255) ∧ x.2.2.2.1.length ≤ maxLen ∧ (∀ a ∈ x.2.2.2.1, (Ty.int .u16).ok a) ∧ (0 ≤ x.2.2.2.2.1 ∧ x.2.2.2.2.1 ≤ 255), [.cell .bool], fun (x : Int × Int × Int × (List Int) × Int × Unit) => cmwF x.1 x.2.1 x.2.2.1 x.2.2.2.1 x.2.2.2.2.1⟩
theorem cmw_ok (w : Int) (v : Int) (t : Int) (L : List Int) (mo : Int) (h : cmwSpec.pre (w, v, t, L, mo, ())) : TmplOk Try.prog AI 8 (argS cmwSpec.ds (fun _ => (w, v, t, L, mo, ()))) [] (resOf (svs cmwSpec.rs (fun _ => cmwSpec.f (w, v, t, L, mo, ())))) [] := by
  dsimp only [cmwSpec] at h ⊢
  generalize hr : cmwF w v t L mo = r
  obtain ⟨⟨w1, w2⟩, ⟨v1, v2⟩, ⟨t1, t2⟩, hL0, hL, m1, m2⟩ := h
  dsimp only [cmwF] at hr
  refine tmpl_of_body ecmOk mixed (fn := Try.f8) (c := bodyOf Try.f8) (by kernel_rfl) (by kernel_rfl) (by kernel_rfl) (Nat.le_of_ble_eq_true (by kernel_rfl)) ?_
  (try (conv in (LoopInv.inv _ _) => dsimp only)); (try (conv in (SS.mk _ _) => cbv; (try dsimp only [countsSpec, countsF, newWriSpec, newRdrSpec, actSpec, closeSpec, tickSpec, ackSpec, rcvSpec, rrdSpec, rackSpec, Ty.T, Ty.dflt, KT.T]); (try simp only [natCast_eq])))
  (with_reducible refine (?_ : T1 _ ?_) ?_; rotate_left 1; (conv => lhs; cbv; (try cbv); (try cbv)); intro hT; clear hT; with_reducible refine Sh.mk (by kernel_rfl) ?_)
  repeat' (first
    | with_reducible (first | refine Ck.mk (C := tt) tt_intro ?_ | refine Ck.mk (show drawOk _ _ = true by kernel_rfl) ?_ | refine Ck.all_cons ?_ | refine Ck.all_nil ?_ | refine Ck.mk (by assumption) ?_ | refine Ck.mk (decide_eq_true (by assumption)) ?_ | refine Ck.mk (decide_eq_false (by assumption)) ?_ | refine Ck.mk ?_ ?_)
    | (with_reducible (first | refine Both.mk (fun h => ?_) (fun h => ?_) | refine Alt.mk (fun h => ?_) (fun h => ?_) | refine Pick.mk (fun h => ?_) (fun l1 x l2 h => ?_)) <;> (have hk := h) <;> (try simp only [nrm, reduceCtorEq, pair_eta, map_idL] at h) <;> (try dsimp only [countsSpec, countsF, newWriSpec, newRdrSpec, actSpec, closeSpec, tickSpec, ackSpec, rcvSpec, rrdSpec, rackSpec, Ty.T, Ty.dflt, KT.T, getM, putM, delM] at h) <;> (try simp only [natCast_eq] at h) <;> (try simp only [WS.eta] at h) <;> (try (exfalso; first | exact absurd hT h | exact absurd rfl h | exact absurd hca h | exact absurd hbd h | exact absurd h hs | exact absurd h hf | exact absurd (hcr hs) h | exact absurd f3 h | exact absurd f3' h)) <;> (try first | rw [if_pos h] at hr | rw [if_neg h] at hr | rw [ifF h] at hr | rw [ifN h] at hr) <;> (try (have hb : (_ : Bool) = _ := h; clear h; subst hb; (try first | rw [if_pos rfl] at hr | rw [if_neg Bool.false_ne_true] at hr))) <;> first | (exfalso; omega) | exact absurd (h.symm.trans (by assumption) : true = false) Bool.noConfusion | exact absurd (h.symm.trans (by assumption) : false = true) Bool.noConfusion | (with_reducible refine (?_ : T1 _ ?_) ?_; rotate_left 1; (conv => lhs; cbv; (try cbv); (try cbv)); intro hT; clear hT; with_reducible refine Sh.mk (by kernel_rfl) ?_))
    | ((with_reducible refine End.mk ?_); (try ((repeat (first | rw [if_pos (by first | assumption | omega)] at hr | rw [if_neg (by first | assumption | omega | (simp only [Bool.false_eq_true, Bool.true_eq_false, reduceCtorEq, not_false_eq_true]; done) | (simp only [Bool.not_eq_true]; assumption) | (simp only [Bool.not_eq_false]; assumption))] at hr | rw [if_pos rfl] at hr)); subst hr)))
    | with_reducible exact True.intro)
  all_goals first
    | (fail_if_success (with_reducible refine Exists.intro ?_ ?_)
       first
         | with_reducible rfl
         | with_reducible assumption
         | (symm; with_reducible assumption)
         | omega
         | ((try dsimp only [countsSpec, countsF, newWriSpec, newRdrSpec, actSpec, closeSpec, tickSpec, ackSpec, rcvSpec, rrdSpec, rackSpec, Ty.T, Ty.dflt, KT.T, getM, putM, delM, inI64, maxRow]); first | done | with_reducible rfl | with_reducible assumption | (symm; with_reducible assumption) | ((try simp only [natCast_eq, List.nil_append]); first | done | with_reducible rfl | omega | exact take_cg (by omega) | exact drop_cg (by omega) | exact take_drop_cg (by omega) (by omega) | exact take_all (by omega) | exact take_drop_all (by omega) (by omega) | exact drop_take_cg (by omega) (by omega) (by omega)))
         | ((try dsimp only [countsSpec, countsF, newWriSpec, newRdrSpec, actSpec, closeSpec, tickSpec, ackSpec, rcvSpec, rrdSpec, rackSpec, Ty.T, Ty.dflt, KT.T, getM, putM, delM, inI64, maxRow]); first | (simp only [nrm, reduceCtorEq, pair_eta, map_idL, natCast_eq, inI64, maxRow]; first | done | with_reducible assumption | omega) | exact map_pair_id _)
         | ((try dsimp only [countsSpec, countsF, newWriSpec, newRdrSpec, actSpec, closeSpec, tickSpec, ackSpec, rcvSpec, rrdSpec, rackSpec, Ty.T, Ty.dflt, KT.T, getM, putM, delM, inI64, maxRow] at *); first | ((try simp only [natCast_eq] at *) <;> omega) | ((try simp only [lens, natCast_eq] at *) <;> omega))
         | assumption
         | (symm; assumption)
         | (dsimp only; simp only [nrb, *]; done)
         | (simp; done)
         | (and_intros <;> first | trivial | with_reducible assumption | omega)
         | ((try dsimp only [countsSpec, countsF, newWriSpec, newRdrSpec, actSpec, closeSpec, tickSpec, ackSpec, rcvSpec, rrdSpec, rackSpec, Ty.T, Ty.dflt, KT.T, getM, putM, delM, inI64, maxRow] at *) <;> simp [*] <;> done))
    | skip
  obtain ⟨x0, hx0, hx1⟩ : ∃ x : LC1 L (1 + t % 6) (1 + v % 20), x.i = 0 ∧ x.x = newX (1 + w % 20) (1 + t % 6) (1 + v % 20) := ⟨⟨0, newX (1 + w % 20) (1 + t % 6) (1 + v % 20), Int.le_refl _, by omega, newX_inv (by omega) (by omega) (by omega) (by omega) (by omega) (by omega), fun y hy => (by cases hy), newX_op _ _ _, by simp [newX], by simp [newX], by simp [newX]⟩, rfl, rfl⟩
  refine ⟨⟨LC1 L (1 + t % 6) (1 + v % 20), fun x => ⟨[(4, Sx.one (.int .u8 (fun _ => mo))), (11, Sx.one (.ptr 0 0)), (42, Sx.one (.ro (.int .u16) (fun _ => L))), (43, Sx.one (.int .i64 (fun _ => L.length))), (44, Sx.one (.int .i64 (fun _ => x.i)))],
      wldC 0 (fun _ => x.x)⟩, fun x => (L.length - x.i).toNat, x0⟩, ?_, fun (x : LC1 L (1 + t % 6) (1 + v % 20)) => ?_⟩
  · (try (conv in (LoopInv.inv _ _) => dsimp only)); (try (conv in (SS.mk _ _) => cbv; (try dsimp only [countsSpec, countsF, newWriSpec, newRdrSpec, actSpec, closeSpec, tickSpec, ackSpec, rcvSpec, rrdSpec, rackSpec, Ty.T, Ty.dflt, KT.T]); (try simp only [natCast_eq])))
    (with_reducible refine (?_ : T1 _ ?_) ?_; rotate_left 1; (conv => lhs; cbv; (try cbv); (try cbv)); intro hT; clear hT; with_reducible refine Sh.mk (by kernel_rfl) ?_)
    repeat' (first
      | with_reducible (first | refine Ck.mk (C := tt) tt_intro ?_ | refine Ck.mk (show drawOk _ _ = true by kernel_rfl) ?_ | refine Ck.all_cons ?_ | refine Ck.all_nil ?_ | refine Ck.mk (by assumption) ?_ | refine Ck.mk (decide_eq_true (by assumption)) ?_ | refine Ck.mk (decide_eq_false (by assumption)) ?_ | refine Ck.mk ?_ ?_)
      | (with_reducible (first | refine Both.mk (fun h => ?_) (fun h => ?_) | refine Alt.mk (fun h => ?_) (fun h => ?_) | refine Pick.mk (fun h => ?_) (fun l1 x l2 h => ?_)) <;> (have hk := h) <;> (try simp only [nrm, reduceCtorEq, pair_eta, map_idL] at h) <;> (try dsimp only [countsSpec, countsF, newWriSpec, newRdrSpec, actSpec, closeSpec, tickSpec, ackSpec, rcvSpec, rrdSpec, rackSpec, Ty.T, Ty.dflt, KT.T, getM, putM, delM] at h) <;> (try simp only [natCast_eq] at h) <;> (try simp only [WS.eta] at h) <;> (try (exfalso; first | exact absurd hT h | exact absurd rfl h | exact absurd hca h | exact absurd hbd h | exact absurd h hs | exact absurd h hf | exact absurd (hcr hs) h | exact absurd f3 h | exact absurd f3' h)) <;> (try first | rw [if_pos h] at hr | rw [if_neg h] at hr | rw [ifF h] at hr | rw [ifN h] at hr) <;> (try (have hb : (_ : Bool) = _ := h; clear h; subst hb; (try first | rw [if_pos rfl] at hr | rw [if_neg Bool.false_ne_true] at hr))) <;> first | (exfalso; omega) | exact absurd (h.symm.trans (by assumption) : true = false) Bool.noConfusion | exact absurd (h.symm.trans (by assumption) : false = true) Bool.noConfusion | (with_reducible refine (?_ : T1 _ ?_) ?_; rotate_left 1; (conv => lhs; cbv; (try cbv); (try cbv)); intro hT; clear hT; with_reducible refine Sh.mk (by kernel_rfl) ?_))
      | ((with_reducible refine End.mk ?_); skip)
      | with_reducible exact True.intro)
    all_goals first
      | (fail_if_success (with_reducible refine Exists.intro ?_ ?_)
         first
           | with_reducible rfl
           | with_reducible assumption
           | (symm; with_reducible assumption)
           | omega
           | ((try dsimp only [countsSpec, countsF, newWriSpec, newRdrSpec, actSpec, closeSpec, tickSpec, ackSpec, rcvSpec, rrdSpec, rackSpec, Ty.T, Ty.dflt, KT.T, getM, putM, delM, inI64, maxRow]); first | done | with_reducible rfl | with_reducible assumption | (symm; with_reducible assumption) | ((try simp only [natCast_eq, List.nil_append]); first | done | with_reducible rfl | omega | exact take_cg (by omega) | exact drop_cg (by omega) | exact take_drop_cg (by omega) (by omega) | exact take_all (by omega) | exact take_drop_all (by omega) (by omega) | exact drop_take_cg (by omega) (by omega) (by omega)))
           | (rw [hx1]; rfl)
           | ((try dsimp only [countsSpec, countsF, newWriSpec, newRdrSpec, actSpec, closeSpec, tickSpec, ackSpec, rcvSpec, rrdSpec, rackSpec, Ty.T, Ty.dflt, KT.T, getM, putM, delM, inI64, maxRow]); first | (simp only [nrm, reduceCtorEq, pair_eta, map_idL, natCast_eq, inI64, maxRow]; first | done | with_reducible assumption | omega) | exact map_pair_id _)
           | ((try dsimp only [countsSpec, countsF, newWriSpec, newRdrSpec, actSpec, closeSpec, tickSpec, ackSpec, rcvSpec, rrdSpec, rackSpec, Ty.T, Ty.dflt, KT.T, getM, putM, delM, inI64, maxRow] at *); first | ((try simp only [natCast_eq] at *) <;> omega) | ((try simp only [lens, natCast_eq] at *) <;> omega))
           | assumption
           | (symm; assumption)
           | (dsimp only; simp only [nrb, *]; done)
           | (simp; done)
           | (and_intros <;> first | trivial | with_reducible assumption | omega)
           | ((try dsimp only [countsSpec, countsF, newWriSpec, newRdrSpec, actSpec, closeSpec, tickSpec, ackSpec, rcvSpec, rrdSpec, rackSpec, Ty.T, Ty.dflt, KT.T, getM, putM, delM, inI64, maxRow] at *) <;> simp [*] <;> done))
      | skip
  obtain ⟨i, x, hlo, hhi, hinv, hbt, hop, hl1, hl2, hl3⟩ := x
  by_cases hin : i < L.length
  · have ha := u16_of hL hlo hin
    obtain ⟨hT, hA⟩ := actF_ok hinv ha.1
    have hB := act_bytes hbt (L.getD i.toNat 0)
    have hO := act_op hinv hop (L.getD i.toNat 0)
    (try (conv in (LoopInv.inv _ _) => dsimp only)); (try (conv in (SS.mk _ _) => cbv; (try dsimp only [countsSpec, countsF, newWriSpec, newRdrSpec, actSpec, closeSpec, tickSpec, ackSpec, rcvSpec, rrdSpec, rackSpec, Ty.T, Ty.dflt, KT.T]); (try simp only [natCast_eq])))
    (with_reducible refine (?_ : T1 _ ?_) ?_; rotate_left 1; (conv => lhs; cbv; (try cbv); (try cbv)); intro hT; clear hT; with_reducible refine Sh.mk (by kernel_rfl) ?_)
    repeat' (first
      | with_reducible (first | refine Ck.mk (C := tt) tt_intro ?_ | refine Ck.mk (show drawOk _ _ = true by kernel_rfl) ?_ | refine Ck.all_cons ?_ | refine Ck.all_nil ?_ | refine Ck.mk (by assumption) ?_ | refine Ck.mk (decide_eq_true (by assumption)) ?_ | refine Ck.mk (decide_eq_false (by assumption)) ?_ | refine Ck.mk ?_ ?_)
      | (with_reducible (first | refine Both.mk (fun h => ?_) (fun h => ?_) | refine Alt.mk (fun h => ?_) (fun h => ?_) | refine Pick.mk (fun h => ?_) (fun l1 x l2 h => ?_)) <;> (have hk := h) <;> (try simp only [nrm, reduceCtorEq, pair_eta, map_idL] at h) <;> (try dsimp only [countsSpec, countsF, newWriSpec, newRdrSpec, actSpec, closeSpec, tickSpec, ackSpec, rcvSpec, rrdSpec, rackSpec, Ty.T, Ty.dflt, KT.T, getM, putM, delM] at h) <;> (try simp only [natCast_eq] at h) <;> (try simp only [WS.eta] at h) <;> (try (exfalso; first | exact absurd hT h | exact absurd rfl h | exact absurd hca h | exact absurd hbd h | exact absurd h hs | exact absurd h hf | exact absurd (hcr hs) h | exact absurd f3 h | exact absurd f3' h)) <;> (try first | rw [if_pos h] at hr | rw [if_neg h] at hr | rw [ifF h] at hr | rw [ifN h] at hr) <;> (try (have hb : (_ : Bool) = _ := h; clear h; subst hb; (try first | rw [if_pos rfl] at hr | rw [if_neg Bool.false_ne_true] at hr))) <;> first | (exfalso; omega) | exact absurd (h.symm.trans (by assumption) : true = false) Bool.noConfusion | exact absurd (h.symm.trans (by assumption) : false = true) Bool.noConfusion | (with_reducible refine (?_ : T1 _ ?_) ?_; rotate_left 1; (conv => lhs; cbv; (try cbv); (try cbv)); intro hT; clear hT; with_reducible refine Sh.mk (by kernel_rfl) ?_))
      | ((with_reducible refine End.mk ?_); skip)
      | with_reducible exact True.intro)
    all_goals first
      | (fail_if_success (with_reducible refine Exists.intro ?_ ?_)
         first
           | with_reducible rfl
           | with_reducible assumption
           | (symm; with_reducible assumption)
           | omega
           | ((try dsimp only [countsSpec, countsF, newWriSpec, newRdrSpec, actSpec, closeSpec, tickSpec, ackSpec, rcvSpec, rrdSpec, rackSpec, Ty.T, Ty.dflt, KT.T, getM, putM, delM, inI64, maxRow]); first | done | with_reducible rfl | with_reducible assumption | (symm; with_reducible assumption) | ((try simp only [natCast_eq, List.nil_append]); first | done | with_reducible rfl | omega | exact take_cg (by omega) | exact drop_cg (by omega) | exact take_drop_cg (by omega) (by omega) | exact take_all (by omega) | exact take_drop_all (by omega) (by omega) | exact drop_take_cg (by omega) (by omega) (by omega)))
           | first | exact ⟨hinv.pre (by omega) (by omega) (by omega), ha⟩
           | ((try dsimp only [countsSpec, countsF, newWriSpec, newRdrSpec, actSpec, closeSpec, tickSpec, ackSpec, rcvSpec, rrdSpec, rackSpec, Ty.T, Ty.dflt, KT.T, getM, putM, delM, inI64, maxRow]); first | (simp only [nrm, reduceCtorEq, pair_eta, map_idL, natCast_eq, inI64, maxRow]; first | done | with_reducible assumption | omega) | exact map_pair_id _)
           | ((try dsimp only [countsSpec, countsF, newWriSpec, newRdrSpec, actSpec, closeSpec, tickSpec, ackSpec, rcvSpec, rrdSpec, rackSpec, Ty.T, Ty.dflt, KT.T, getM, putM, delM, inI64, maxRow] at *); first | ((try simp only [natCast_eq] at *) <;> omega) | ((try simp only [lens, natCast_eq] at *) <;> omega))
           | assumption
           | (symm; assumption)
           | (dsimp only; simp only [nrb, *]; done)
           | (simp; done)
           | (and_intros <;> first | trivial | with_reducible assumption | omega)
           | ((try dsimp only [countsSpec, countsF, newWriSpec, newRdrSpec, actSpec, closeSpec, tickSpec, ackSpec, rcvSpec, rrdSpec, rackSpec, Ty.T, Ty.dflt, KT.T, getM, putM, delM, inI64, maxRow] at *) <;> simp [*] <;> done))
      | skip
    all_goals
      (refine Exists.elim (LC1.next (L := L) hlo hin hA hB hO hl1 hl2 hl3) ?_
       rintro z ⟨hz1, hz2⟩
       refine ⟨z, by (try dsimp only); (try simp only [natCast_eq]); omega, ?_⟩
       (try (conv in (LoopInv.inv _ _) => dsimp only)); (try (conv in (SS.mk _ _) => cbv; (try dsimp only [countsSpec, countsF, newWriSpec, newRdrSpec, actSpec, closeSpec, tickSpec, ackSpec, rcvSpec, rrdSpec, rackSpec, Ty.T, Ty.dflt, KT.T]); (try simp only [natCast_eq])))
       (with_reducible refine (?_ : T1 _ ?_) ?_; rotate_left 1; (conv => lhs; cbv; (try cbv); (try cbv)); intro hT; clear hT; with_reducible refine Sh.mk (by kernel_rfl) ?_)
       repeat' (first
         | with_reducible (first | refine Ck.mk (C := tt) tt_intro ?_ | refine Ck.mk (show drawOk _ _ = true by kernel_rfl) ?_ | refine Ck.all_cons ?_ | refine Ck.all_nil ?_ | refine Ck.mk (by assumption) ?_ | refine Ck.mk (decide_eq_true (by assumption)) ?_ | refine Ck.mk (decide_eq_false (by assumption)) ?_ | refine Ck.mk ?_ ?_)
         | (with_reducible (first | refine Both.mk (fun h => ?_) (fun h => ?_) | refine Alt.mk (fun h => ?_) (fun h => ?_) | refine Pick.mk (fun h => ?_) (fun l1 x l2 h => ?_)) <;> (have hk := h) <;> (try simp only [nrm, reduceCtorEq, pair_eta, map_idL] at h) <;> (try dsimp only [countsSpec, countsF, newWriSpec, newRdrSpec, actSpec, closeSpec, tickSpec, ackSpec, rcvSpec, rrdSpec, rackSpec, Ty.T, Ty.dflt, KT.T, getM, putM, delM] at h) <;> (try simp only [natCast_eq] at h) <;> (try simp only [WS.eta] at h) <;> (try (exfalso; first | exact absurd hT h | exact absurd rfl h | exact absurd hca h | exact absurd hbd h | exact absurd h hs | exact absurd h hf | exact absurd (hcr hs) h | exact absurd f3 h | exact absurd f3' h)) <;> (try first | rw [if_pos h] at hr | rw [if_neg h] at hr | rw [ifF h] at hr | rw [ifN h] at hr) <;> (try (have hb : (_ : Bool) = _ := h; clear h; subst hb; (try first | rw [if_pos rfl] at hr | rw [if_neg Bool.false_ne_true] at hr))) <;> first | (exfalso; omega) | exact absurd (h.symm.trans (by assumption) : true = false) Bool.noConfusion | exact absurd (h.symm.trans (by assumption) : false = true) Bool.noConfusion | (with_reducible refine (?_ : T1 _ ?_) ?_; rotate_left 1; (conv => lhs; cbv; (try cbv); (try cbv)); intro hT; clear hT; with_reducible refine Sh.mk (by kernel_rfl) ?_))
         | ((with_reducible refine End.mk ?_); skip)
         | with_reducible exact True.intro)
       all_goals first
         | (fail_if_success (with_reducible refine Exists.intro ?_ ?_)
            first
              | with_reducible rfl
              | with_reducible assumption
              | (symm; with_reducible assumption)
              | omega
              | ((try dsimp only [countsSpec, countsF, newWriSpec, newRdrSpec, actSpec, closeSpec, tickSpec, ackSpec, rcvSpec, rrdSpec, rackSpec, Ty.T, Ty.dflt, KT.T, getM, putM, delM, inI64, maxRow]); first | done | with_reducible rfl | with_reducible assumption | (symm; with_reducible assumption) | ((try simp only [natCast_eq, List.nil_append]); first | done | with_reducible rfl | omega | exact take_cg (by omega) | exact drop_cg (by omega) | exact take_drop_cg (by omega) (by omega) | exact take_all (by omega) | exact take_drop_all (by omega) (by omega) | exact drop_take_cg (by omega) (by omega) (by omega)))
              | first | exact hz1.symm | (rw [hz2]; done) | (rw [hz2]; first | rfl | exact map_pair_id _ | (simp; done))
              | ((try dsimp only [countsSpec, countsF, newWriSpec, newRdrSpec, actSpec, closeSpec, tickSpec, ackSpec, rcvSpec, rrdSpec, rackSpec, Ty.T, Ty.dflt, KT.T, getM, putM, delM, inI64, maxRow]); first | (simp only [nrm, reduceCtorEq, pair_eta, map_idL, natCast_eq, inI64, maxRow]; first | done | with_reducible assumption | omega) | exact map_pair_id _)
              | ((try dsimp only [countsSpec, countsF, newWriSpec, newRdrSpec, actSpec, closeSpec, tickSpec, ackSpec, rcvSpec, rrdSpec, rackSpec, Ty.T, Ty.dflt, KT.T, getM, putM, delM, inI64, maxRow] at *); first | ((try simp only [natCast_eq] at *) <;> omega) | ((try simp only [lens, natCast_eq] at *) <;> omega))
              | assumption
              | (symm; assumption)
              | (dsimp only; simp only [nrb, *]; done)
              | (simp; done)
              | (and_intros <;> first | trivial | with_reducible assumption | omega)
              | ((try dsimp only [countsSpec, countsF, newWriSpec, newRdrSpec, actSpec, closeSpec, tickSpec, ackSpec, rcvSpec, rrdSpec, rackSpec, Ty.T, Ty.dflt, KT.T, getM, putM, delM, inI64, maxRow] at *) <;> simp [*] <;> done))
         | skip
       skip)
  · have hS := start hinv hop (by omega) (by omega)
    have hrl := hS.cx.dn.rdl
    have hro := hS.cx.dn.st.off; have hrn := hS.cx.dn.st.nxt; have htd := hS.cx.dn.topd
    dsimp only at hrl hro hrn htd
    have hN0 : 0 ≤ ((x.data.length : Int) + 3) * ((x.data.length : Int) + 12) := Int.mul_nonneg (by omega) (by omega)
    have hN1 : ((x.data.length : Int) + 3) * ((x.data.length : Int) + 12) ≤ 600 * 600 := Int.mul_le_mul (by omega) (by omega) (by omega) (by decide)
    (try (conv in (LoopInv.inv _ _) => dsimp only)); (try (conv in (SS.mk _ _) => cbv; (try dsimp only [countsSpec, countsF, newWriSpec, newRdrSpec, actSpec, closeSpec, tickSpec, ackSpec, rcvSpec, rrdSpec, rackSpec, Ty.T, Ty.dflt, KT.T]); (try simp only [natCast_eq])))
    (with_reducible refine (?_ : T1 _ ?_) ?_; rotate_left 1; (conv => lhs; cbv; (try cbv); (try cbv)); intro hT; clear hT; with_reducible refine Sh.mk (by kernel_rfl) ?_)
    repeat' (first
      | with_reducible (first | refine Ck.mk (C := tt) tt_intro ?_ | refine Ck.mk (show drawOk _ _ = true by kernel_rfl) ?_ | refine Ck.all_cons ?_ | refine Ck.all_nil ?_ | refine Ck.mk (by assumption) ?_ | refine Ck.mk (decide_eq_true (by assumption)) ?_ | refine Ck.mk (decide_eq_false (by assumption)) ?_ | refine Ck.mk ?_ ?_)
      | (with_reducible (first | refine Both.mk (fun h => ?_) (fun h => ?_) | refine Alt.mk (fun h => ?_) (fun h => ?_) | refine Pick.mk (fun h => ?_) (fun l1 x l2 h => ?_)) <;> (have hk := h) <;> (try simp only [nrm, reduceCtorEq, pair_eta, map_idL] at h) <;> (try dsimp only [countsSpec, countsF, newWriSpec, newRdrSpec, actSpec, closeSpec, tickSpec, ackSpec, rcvSpec, rrdSpec, rackSpec, Ty.T, Ty.dflt, KT.T, getM, putM, delM] at h) <;> (try simp only [natCast_eq] at h) <;> (try simp only [WS.eta] at h) <;> (try (exfalso; first | exact absurd hT h | exact absurd rfl h | exact absurd hca h | exact absurd hbd h | exact absurd h hs | exact absurd h hf | exact absurd (hcr hs) h | exact absurd f3 h | exact absurd f3' h)) <;> (try first | rw [if_pos h] at hr | rw [if_neg h] at hr | rw [ifF h] at hr | rw [ifN h] at hr) <;> (try (have hb : (_ : Bool) = _ := h; clear h; subst hb; (try first | rw [if_pos rfl] at hr | rw [if_neg Bool.false_ne_true] at hr))) <;> first | (exfalso; omega) | exact absurd (h.symm.trans (by assumption) : true = false) Bool.noConfusion | exact absurd (h.symm.trans (by assumption) : false = true) Bool.noConfusion | (with_reducible refine (?_ : T1 _ ?_) ?_; rotate_left 1; (conv => lhs; cbv; (try cbv); (try cbv)); intro hT; clear hT; with_reducible refine Sh.mk (by kernel_rfl) ?_))
      | ((with_reducible refine End.mk ?_); (try ((repeat (first | rw [if_pos (by first | assumption | omega)] at hr | rw [if_neg (by first | assumption | omega | (simp only [Bool.false_eq_true, Bool.true_eq_false, reduceCtorEq, not_false_eq_true]; done) | (simp only [Bool.not_eq_true]; assumption) | (simp only [Bool.not_eq_false]; assumption))] at hr | rw [if_pos rfl] at hr)); subst hr)))
      | with_reducible exact True.intro)
    all_goals first
      | (fail_if_success (with_reducible refine Exists.intro ?_ ?_)
         first
           | with_reducible rfl
           | with_reducible assumption
           | (symm; with_reducible assumption)
           | omega
           | ((try dsimp only [countsSpec, countsF, newWriSpec, newRdrSpec, actSpec, closeSpec, tickSpec, ackSpec, rcvSpec, rrdSpec, rackSpec, Ty.T, Ty.dflt, KT.T, getM, putM, delM, inI64, maxRow]); first | done | with_reducible rfl | with_reducible assumption | (symm; with_reducible assumption) | ((try simp only [natCast_eq, List.nil_append]); first | done | with_reducible rfl | omega | exact take_cg (by omega) | exact drop_cg (by omega) | exact take_drop_cg (by omega) (by omega) | exact take_all (by omega) | exact take_drop_all (by omega) (by omega) | exact drop_take_cg (by omega) (by omega) (by omega)))
           | first | exact ⟨Int.le_trans (by decide) hN0, Int.le_trans hN1 (by decide)⟩
           | ((try dsimp only [countsSpec, countsF, newWriSpec, newRdrSpec, actSpec, closeSpec, tickSpec, ackSpec, rcvSpec, rrdSpec, rackSpec, Ty.T, Ty.dflt, KT.T, getM, putM, delM, inI64, maxRow]); first | (simp only [nrm, reduceCtorEq, pair_eta, map_idL, natCast_eq, inI64, maxRow]; first | done | with_reducible assumption | omega) | exact map_pair_id _)
           | ((try dsimp only [countsSpec, countsF, newWriSpec, newRdrSpec, actSpec, closeSpec, tickSpec, ackSpec, rcvSpec, rrdSpec, rackSpec, Ty.T, Ty.dflt, KT.T, getM, putM, delM, inI64, maxRow] at *); first | ((try simp only [natCast_eq] at *) <;> omega) | ((try simp only [lens, natCast_eq] at *) <;> omega))
           | assumption
           | (symm; assumption)
           | (dsimp only; simp only [nrb, *]; done)
           | (simp; done)
           | (and_intros <;> first | trivial | with_reducible assumption | omega)
           | ((try dsimp only [countsSpec, countsF, newWriSpec, newRdrSpec, actSpec, closeSpec, tickSpec, ackSpec, rcvSpec, rrdSpec, rackSpec, Ty.T, Ty.dflt, KT.T, getM, putM, delM, inI64, maxRow] at *) <;> simp [*] <;> done))
      | skip
    all_goals
      (obtain ⟨y0, hy0, hy1⟩ : ∃ y : LC2 (1 + t % 6) x.data, y.i = 0 ∧ y.x = { x with w := (closeF x.w).2 } := ⟨⟨0, { x with w := (closeF x.w).2 }, hS, rfl, by show x.read.length ≤ 1000; omega⟩, rfl, rfl⟩
       dsimp only
       refine ⟨⟨LC2 (1 + t % 6) x.data, fun y => ⟨[(4, Sx.one (.int .u8 (fun _ => mo))), (11, Sx.one (.ptr 0 0)), (14, Sx.one (.int .i64 (fun _ => (x.data.length : Int)))), (67, Sx.one (.int .i64 (fun _ => ((x.data.length : Int) + 3) * ((x.data.length : Int) + 12)))), (68, Sx.one (.int .i64 (fun _ => y.i)))],
         wldC 0 (fun _ => y.x)⟩, fun y => (((x.data.length : Int) + 3) * ((x.data.length : Int) + 12) - y.i).toNat, y0⟩, ?_, fun (y : LC2 (1 + t % 6) x.data) => ?_⟩
       · (try (conv in (LoopInv.inv _ _) => dsimp only)); (try (conv in (SS.mk _ _) => cbv; (try dsimp only [countsSpec, countsF, newWriSpec, newRdrSpec, actSpec, closeSpec, tickSpec, ackSpec, rcvSpec, rrdSpec, rackSpec, Ty.T, Ty.dflt, KT.T]); (try simp only [natCast_eq])))
         (with_reducible refine (?_ : T1 _ ?_) ?_; rotate_left 1; (conv => lhs; cbv; (try cbv); (try cbv)); intro hT; clear hT; with_reducible refine Sh.mk (by kernel_rfl) ?_)
         repeat' (first
           | with_reducible (first | refine Ck.mk (C := tt) tt_intro ?_ | refine Ck.mk (show drawOk _ _ = true by kernel_rfl) ?_ | refine Ck.all_cons ?_ | refine Ck.all_nil ?_ | refine Ck.mk (by assumption) ?_ | refine Ck.mk (decide_eq_true (by assumption)) ?_ | refine Ck.mk (decide_eq_false (by assumption)) ?_ | refine Ck.mk ?_ ?_)
           | (with_reducible (first | refine Both.mk (fun h => ?_) (fun h => ?_) | refine Alt.mk (fun h => ?_) (fun h => ?_) | refine Pick.mk (fun h => ?_) (fun l1 x l2 h => ?_)) <;> (have hk := h) <;> (try simp only [nrm, reduceCtorEq, pair_eta, map_idL] at h) <;> (try dsimp only [countsSpec, countsF, newWriSpec, newRdrSpec, actSpec, closeSpec, tickSpec, ackSpec, rcvSpec, rrdSpec, rackSpec, Ty.T, Ty.dflt, KT.T, getM, putM, delM] at h) <;> (try simp only [natCast_eq] at h) <;> (try simp only [WS.eta] at h) <;> (try (exfalso; first | exact absurd hT h | exact absurd rfl h | exact absurd hca h | exact absurd hbd h | exact absurd h hs | exact absurd h hf | exact absurd (hcr hs) h | exact absurd f3 h | exact absurd f3' h)) <;> (try first | rw [if_pos h] at hr | rw [if_neg h] at hr | rw [ifF h] at hr | rw [ifN h] at hr) <;> (try (have hb : (_ : Bool) = _ := h; clear h; subst hb; (try first | rw [if_pos rfl] at hr | rw [if_neg Bool.false_ne_true] at hr))) <;> first | (exfalso; omega) | exact absurd (h.symm.trans (by assumption) : true = false) Bool.noConfusion | exact absurd (h.symm.trans (by assumption) : false = true) Bool.noConfusion | (with_reducible refine (?_ : T1 _ ?_) ?_; rotate_left 1; (conv => lhs; cbv; (try cbv); (try cbv)); intro hT; clear hT; with_reducible refine Sh.mk (by kernel_rfl) ?_))
           | ((with_reducible refine End.mk ?_); skip)
           | with_reducible exact True.intro)
         all_goals first
           | (fail_if_success (with_reducible refine Exists.intro ?_ ?_)
              first
                | with_reducible rfl
                | with_reducible assumption
                | (symm; with_reducible assumption)
                | omega
                | ((try dsimp only [countsSpec, countsF, newWriSpec, newRdrSpec, actSpec, closeSpec, tickSpec, ackSpec, rcvSpec, rrdSpec, rackSpec, Ty.T, Ty.dflt, KT.T, getM, putM, delM, inI64, maxRow]); first | done | with_reducible rfl | with_reducible assumption | (symm; with_reducible assumption) | ((try simp only [natCast_eq, List.nil_append]); first | done | with_reducible rfl | omega | exact take_cg (by omega) | exact drop_cg (by omega) | exact take_drop_cg (by omega) (by omega) | exact take_all (by omega) | exact take_drop_all (by omega) (by omega) | exact drop_take_cg (by omega) (by omega) (by omega)))
                | first | exact hy0.symm | (rw [hy1]; first | done | rfl | exact map_pair_id _ | (simp; done))
                | ((try dsimp only [countsSpec, countsF, newWriSpec, newRdrSpec, actSpec, closeSpec, tickSpec, ackSpec, rcvSpec, rrdSpec, rackSpec, Ty.T, Ty.dflt, KT.T, getM, putM, delM, inI64, maxRow]); first | (simp only [nrm, reduceCtorEq, pair_eta, map_idL, natCast_eq, inI64, maxRow]; first | done | with_reducible assumption | omega) | exact map_pair_id _)
                | ((try dsimp only [countsSpec, countsF, newWriSpec, newRdrSpec, actSpec, closeSpec, tickSpec, ackSpec, rcvSpec, rrdSpec, rackSpec, Ty.T, Ty.dflt, KT.T, getM, putM, delM, inI64, maxRow] at *); first | ((try simp only [natCast_eq] at *) <;> omega) | ((try simp only [lens, natCast_eq] at *) <;> omega))
                | assumption
                | (symm; assumption)
                | (dsimp only; simp only [nrb, *]; done)
                | (simp; done)
                | (and_intros <;> first | trivial | with_reducible assumption | omega)
                | ((try dsimp only [countsSpec, countsF, newWriSpec, newRdrSpec, actSpec, closeSpec, tickSpec, ackSpec, rcvSpec, rrdSpec, rackSpec, Ty.T, Ty.dflt, KT.T, getM, putM, delM, inI64, maxRow] at *) <;> simp [*] <;> done))
           | skip
       obtain ⟨j, y, hci, hdt, hrl2⟩ := y
       have hbd := hci.bound
       have htk := hci.cx.dn.tk
       rw [hdt] at htk
       rw [htk] at hbd
       have hjl := hci.lo
       obtain ⟨hRF, hbn, hoff, hfe, hfn⟩ := round hci.cx (m := 1 + mo % 20) (by omega)
       have hRl := hRF.cx.dn.rdl
       have hRt := hRF.cx.dn.topd; have hRn := hRF.cx.dn.st.nxt; have hRo := hRF.cx.dn.st.off
       have hbt3 : inBytes y.data := by rw [hdt]; exact hbt
       have hxl : (x.data.length : Int) ≤ 480 := by omega
       have hyl : y.data.length = x.data.length := by rw [hdt]
       have hR16 : ((rnd y (1 + mo % 20)).read.length : Int) ≤ 480 := by
         have e : (rnd y (1 + mo % 20)).data = y.data := rfl
         rw [e] at hRt
         omega
       have hnx := Ci.next hci (m := 1 + mo % 20) (by omega)
       have hff := fin_facts hRF.cx hoff
       have hok4 := hRF.cx.dn.ok
       have hrd4 := hRF.cx.dn.rd
       have hp1 := hRF.p1
       have hp2 := hRF.p2
       have hca := hRF.ca
       have ho1 := hRF.o1
       have hl1' := hRF.l1
       have hp0 : PreS y.r.sto := hci.cx.dn.st.pre (by have := hci.cx.dn.ok.top; have := hci.cx.dn.ok.taken; omega)
       have hok0 := hci.cx.dn.ok
       by_cases hs : ((tick y.w (1 + mo % 20)).1.2.1 : Bool) = true
       · have e1 : r1 y (1 + mo % 20) = (rcvF y.r (tick y.w (1 + mo % 20)).1.1.1 (tick y.w (1 + mo % 20)).1.1.2.1 (tick y.w (1 + mo % 20)).1.1.2.2).2 := if_pos hs
         have hcr := hRF.cr
         have hsl := hRF.sl
         have ern : rnd y (1 + mo % 20) = { y with w := (ackF (tick y.w (1 + mo % 20)).2 (rackF (rdF (rcvF y.r (tick y.w (1 + mo % 20)).1.1.1 (tick y.w (1 + mo % 20)).1.1.2.1 (tick y.w (1 + mo % 20)).1.1.2.2).2 1000).2).1 (rackF (rdF (rcvF y.r (tick y.w (1 + mo % 20)).1.1.1 (tick y.w (1 + mo % 20)).1.1.2.1 (tick y.w (1 + mo % 20)).1.1.2.2).2 1000).2).2.1 (rackF (rdF (rcvF y.r (tick y.w (1 + mo % 20)).1.1.1 (tick y.w (1 + mo % 20)).1.1.2.1 (tick y.w (1 + mo % 20)).1.1.2.2).2 1000).2).2.2.1).2, r := (rdF (rcvF y.r (tick y.w (1 + mo % 20)).1.1.1 (tick y.w (1 + mo % 20)).1.1.2.1 (tick y.w (1 + mo % 20)).1.1.2.2).2 1000).2, read := y.read ++ (rdF (rcvF y.r (tick y.w (1 + mo % 20)).1.1.1 (tick y.w (1 + mo % 20)).1.1.2.1 (tick y.w (1 + mo % 20)).1.1.2.2).2 1000).1.1, fin := y.fin || (rdF (rcvF y.r (tick y.w (1 + mo % 20)).1.1.1 (tick y.w (1 + mo % 20)).1.1.2.1 (tick y.w (1 + mo % 20)).1.1.2.2).2 1000).1.2.1 } := by
           unfold rnd ak r2; rw [e1]
         unfold ak r2 at hca
         unfold r2 at hp2
         rw [e1] at hca hp1 hp2 hl1'
         rw [ern] at hff hnx hfe hR16 hok4 hrd4
         dsimp only at hff hnx hfe hR16 hok4 hrd4
         have hlen : y.read.length + ((rdF (rcvF y.r (tick y.w (1 + mo % 20)).1.1.1 (tick y.w (1 + mo % 20)).1.1.2.1 (tick y.w (1 + mo % 20)).1.1.2.2).2 1000).1.1 : List Int).length ≤ maxRow := by unfold maxRow; omega
         have hbr : inBytes (y.read ++ (rdF (rcvF y.r (tick y.w (1 + mo % 20)).1.1.1 (tick y.w (1 + mo % 20)).1.1.2.1 (tick y.w (1 + mo % 20)).1.1.2.2).2 1000).1.1) := by
           rw [hrd4]; exact fun z hz => hbt3 z (List.mem_of_mem_take hz)
         by_cases hf : (ackF (tick y.w (1 + mo % 20)).2 (rackF (rdF (rcvF y.r (tick y.w (1 + mo % 20)).1.1.1 (tick y.w (1 + mo % 20)).1.1.2.1 (tick y.w (1 + mo % 20)).1.1.2.2).2 1000).2).1 (rackF (rdF (rcvF y.r (tick y.w (1 + mo % 20)).1.1.1 (tick y.w (1 + mo % 20)).1.1.2.1 (tick y.w (1 + mo % 20)).1.1.2.2).2 1000).2).2.1 (rackF (rdF (rcvF y.r (tick y.w (1 + mo % 20)).1.1.1 (tick y.w (1 + mo % 20)).1.1.2.1 (tick y.w (1 + mo % 20)).1.1.2.2).2 1000).2).2.2.1).2.fin = true
         · obtain ⟨f1, f2, f3, f4⟩ := hff hf
           have f5 := Bool.or_eq_true_iff.1 (hfe hf)
           have f3' := f3
           have f4' : (!((tick (ackF (tick y.w (1 + mo % 20)).2 (rackF (rdF (rcvF y.r (tick y.w (1 + mo % 20)).1.1.1 (tick y.w (1 + mo % 20)).1.1.2.1 (tick y.w (1 + mo % 20)).1.1.2.2).2 1000).2).1 (rackF (rdF (rcvF y.r (tick y.w (1 + mo % 20)).1.1.1 (tick y.w (1 + mo % 20)).1.1.2.1 (tick y.w (1 + mo % 20)).1.1.2.2).2 1000).2).2.1 (rackF (rdF (rcvF y.r (tick y.w (1 + mo % 20)).1.1.1 (tick y.w (1 + mo % 20)).1.1.2.1 (tick y.w (1 + mo % 20)).1.1.2.2).2 1000).2).2.2.1).2 9).1.2.1 : Bool)) = true := by rw [f4]; rfl
           rw [hdt] at f2 f3
           clear hnx hff hfe
           (try (conv in (LoopInv.inv _ _) => dsimp only)); (try (conv in (SS.mk _ _) => cbv; (try dsimp only [countsSpec, countsF, newWriSpec, newRdrSpec, actSpec, closeSpec, tickSpec, ackSpec, rcvSpec, rrdSpec, rackSpec, Ty.T, Ty.dflt, KT.T]); (try simp only [natCast_eq])))
           (with_reducible refine (?_ : T1 _ ?_) ?_; rotate_left 1; (conv => lhs; cbv; (try cbv); (try cbv)); intro hT; clear hT; with_reducible refine Sh.mk (by kernel_rfl) ?_)
           repeat' (first
             | with_reducible (first | refine Ck.mk (C := tt) tt_intro ?_ | refine Ck.mk (show drawOk _ _ = true by kernel_rfl) ?_ | refine Ck.all_cons ?_ | refine Ck.all_nil ?_ | refine Ck.mk (by assumption) ?_ | refine Ck.mk (decide_eq_true (by assumption)) ?_ | refine Ck.mk (decide_eq_false (by assumption)) ?_ | refine Ck.mk ?_ ?_)
             | (with_reducible (first | refine Both.mk (fun h => ?_) (fun h => ?_) | refine Alt.mk (fun h => ?_) (fun h => ?_) | refine Pick.mk (fun h => ?_) (fun l1 x l2 h => ?_)) <;> (have hk := h) <;> (try simp only [nrm, reduceCtorEq, pair_eta, map_idL] at h) <;> (try dsimp only [countsSpec, countsF, newWriSpec, newRdrSpec, actSpec, closeSpec, tickSpec, ackSpec, rcvSpec, rrdSpec, rackSpec, Ty.T, Ty.dflt, KT.T, getM, putM, delM] at h) <;> (try simp only [natCast_eq] at h) <;> (try simp only [WS.eta] at h) <;> (try (exfalso; first | exact absurd hT h | exact absurd rfl h | exact absurd hca h | exact absurd hbd h | exact absurd h hs | exact absurd h hf | exact absurd (hcr hs) h | exact absurd f3 h | exact absurd f3' h)) <;> (try first | rw [if_pos h] at hr | rw [if_neg h] at hr | rw [ifF h] at hr | rw [ifN h] at hr) <;> (try (have hb : (_ : Bool) = _ := h; clear h; subst hb; (try first | rw [if_pos rfl] at hr | rw [if_neg Bool.false_ne_true] at hr))) <;> first | (exfalso; omega) | exact absurd (h.symm.trans (by assumption) : true = false) Bool.noConfusion | exact absurd (h.symm.trans (by assumption) : false = true) Bool.noConfusion | (with_reducible refine (?_ : T1 _ ?_) ?_; rotate_left 1; (conv => lhs; cbv; (try cbv); (try cbv)); intro hT; clear hT; with_reducible refine Sh.mk (by kernel_rfl) ?_))
             | ((with_reducible refine End.mk ?_); (try ((repeat (first | rw [if_pos (by first | assumption | omega)] at hr | rw [if_neg (by first | assumption | omega | (simp only [Bool.false_eq_true, Bool.true_eq_false, reduceCtorEq, not_false_eq_true]; done) | (simp only [Bool.not_eq_true]; assumption) | (simp only [Bool.not_eq_false]; assumption))] at hr | rw [if_pos rfl] at hr)); subst hr)))
             | with_reducible exact True.intro)
           all_goals first
             | (fail_if_success (with_reducible refine Exists.intro ?_ ?_)
                first
                  | with_reducible rfl
                  | with_reducible assumption
                  | (symm; with_reducible assumption)
                  | omega
                  | ((try dsimp only [countsSpec, countsF, newWriSpec, newRdrSpec, actSpec, closeSpec, tickSpec, ackSpec, rcvSpec, rrdSpec, rackSpec, Ty.T, Ty.dflt, KT.T, getM, putM, delM, inI64, maxRow]); first | done | with_reducible rfl | with_reducible assumption | (symm; with_reducible assumption) | ((try simp only [natCast_eq, List.nil_append]); first | done | with_reducible rfl | omega | exact take_cg (by omega) | exact drop_cg (by omega) | exact take_drop_cg (by omega) (by omega) | exact take_all (by omega) | exact take_drop_all (by omega) (by omega) | exact drop_take_cg (by omega) (by omega) (by omega)))
                  | first | exact hok0 | exact ⟨hp0, hsl (by assumption)⟩ | exact hp1 | exact hp2 | exact ho1 | exact hok4 | exact ⟨hbr, hbt3⟩ | exact hlen | exact f4' | (exfalso; first | exact hs (by assumption) | exact absurd (hcr hs) (by assumption) | exact absurd f3 (by assumption) | exact absurd f3' (by assumption) | exact f5.elim (fun q => Bool.noConfusion (q.symm.trans (by assumption : y.fin = false))) (fun q => Bool.noConfusion (q.symm.trans (by assumption : ((rdF (rcvF y.r (tick y.w (1 + mo % 20)).1.1.1 (tick y.w (1 + mo % 20)).1.1.2.1 (tick y.w (1 + mo % 20)).1.1.2.2).2 1000).1.2.1 : Bool) = false)))) | (show inI64 _; simp only [inI64]; omega) | (refine ⟨by omega, by decide, ?_⟩; simp only [inI64]; omega)
                  | ((try dsimp only [countsSpec, countsF, newWriSpec, newRdrSpec, actSpec, closeSpec, tickSpec, ackSpec, rcvSpec, rrdSpec, rackSpec, Ty.T, Ty.dflt, KT.T, getM, putM, delM, inI64, maxRow]); first | (simp only [nrm, reduceCtorEq, pair_eta, map_idL, natCast_eq, inI64, maxRow]; first | done | with_reducible assumption | omega) | exact map_pair_id _)
                  | ((try dsimp only [countsSpec, countsF, newWriSpec, newRdrSpec, actSpec, closeSpec, tickSpec, ackSpec, rcvSpec, rrdSpec, rackSpec, Ty.T, Ty.dflt, KT.T, getM, putM, delM, inI64, maxRow] at *); first | ((try simp only [natCast_eq] at *) <;> omega) | ((try simp only [lens, natCast_eq] at *) <;> omega))
                  | assumption
                  | (symm; assumption)
                  | (dsimp only; simp only [nrb, *]; done)
                  | (simp; done)
                  | (and_intros <;> first | trivial | with_reducible assumption | omega)
                  | ((try dsimp only [countsSpec, countsF, newWriSpec, newRdrSpec, actSpec, closeSpec, tickSpec, ackSpec, rcvSpec, rrdSpec, rackSpec, Ty.T, Ty.dflt, KT.T, getM, putM, delM, inI64, maxRow] at *) <;> simp [*] <;> done))
             | skip
           all_goals skip
         · have hci2 := hnx hf
           clear hnx hff hfe
           (try (conv in (LoopInv.inv _ _) => dsimp only)); (try (conv in (SS.mk _ _) => cbv; (try dsimp only [countsSpec, countsF, newWriSpec, newRdrSpec, actSpec, closeSpec, tickSpec, ackSpec, rcvSpec, rrdSpec, rackSpec, Ty.T, Ty.dflt, KT.T]); (try simp only [natCast_eq])))
           (with_reducible refine (?_ : T1 _ ?_) ?_; rotate_left 1; (conv => lhs; cbv; (try cbv); (try cbv)); intro hT; clear hT; with_reducible refine Sh.mk (by kernel_rfl) ?_)
           repeat' (first
             | with_reducible (first | refine Ck.mk (C := tt) tt_intro ?_ | refine Ck.mk (show drawOk _ _ = true by kernel_rfl) ?_ | refine Ck.all_cons ?_ | refine Ck.all_nil ?_ | refine Ck.mk (by assumption) ?_ | refine Ck.mk (decide_eq_true (by assumption)) ?_ | refine Ck.mk (decide_eq_false (by assumption)) ?_ | refine Ck.mk ?_ ?_)
             | (with_reducible (first | refine Both.mk (fun h => ?_) (fun h => ?_) | refine Alt.mk (fun h => ?_) (fun h => ?_) | refine Pick.mk (fun h => ?_) (fun l1 x l2 h => ?_)) <;> (have hk := h) <;> (try simp only [nrm, reduceCtorEq, pair_eta, map_idL] at h) <;> (try dsimp only [countsSpec, countsF, newWriSpec, newRdrSpec, actSpec, closeSpec, tickSpec, ackSpec, rcvSpec, rrdSpec, rackSpec, Ty.T, Ty.dflt, KT.T, getM, putM, delM] at h) <;> (try simp only [natCast_eq] at h) <;> (try simp only [WS.eta] at h) <;> (try (exfalso; first | exact absurd hT h | exact absurd rfl h | exact absurd hca h | exact absurd hbd h | exact absurd h hs | exact absurd h hf | exact absurd (hcr hs) h | exact absurd f3 h | exact absurd f3' h)) <;> (try first | rw [if_pos h] at hr | rw [if_neg h] at hr | rw [ifF h] at hr | rw [ifN h] at hr) <;> (try (have hb : (_ : Bool) = _ := h; clear h; subst hb; (try first | rw [if_pos rfl] at hr | rw [if_neg Bool.false_ne_true] at hr))) <;> first | (exfalso; omega) | exact absurd (h.symm.trans (by assumption) : true = false) Bool.noConfusion | exact absurd (h.symm.trans (by assumption) : false = true) Bool.noConfusion | (with_reducible refine (?_ : T1 _ ?_) ?_; rotate_left 1; (conv => lhs; cbv; (try cbv); (try cbv)); intro hT; clear hT; with_reducible refine Sh.mk (by kernel_rfl) ?_))
             | ((with_reducible refine End.mk ?_); (try ((repeat (first | rw [if_pos (by first | assumption | omega)] at hr | rw [if_neg (by first | assumption | omega | (simp only [Bool.false_eq_true, Bool.true_eq_false, reduceCtorEq, not_false_eq_true]; done) | (simp only [Bool.not_eq_true]; assumption) | (simp only [Bool.not_eq_false]; assumption))] at hr | rw [if_pos rfl] at hr)); subst hr)))
             | with_reducible exact True.intro)
           all_goals first
             | (fail_if_success (with_reducible refine Exists.intro ?_ ?_)
                first
                  | with_reducible rfl
                  | with_reducible assumption
                  | (symm; with_reducible assumption)
                  | omega
                  | ((try dsimp only [countsSpec, countsF, newWriSpec, newRdrSpec, actSpec, closeSpec, tickSpec, ackSpec, rcvSpec, rrdSpec, rackSpec, Ty.T, Ty.dflt, KT.T, getM, putM, delM, inI64, maxRow]); first | done | with_reducible rfl | with_reducible assumption | (symm; with_reducible assumption) | ((try simp only [natCast_eq, List.nil_append]); first | done | with_reducible rfl | omega | exact take_cg (by omega) | exact drop_cg (by omega) | exact take_drop_cg (by omega) (by omega) | exact take_all (by omega) | exact take_drop_all (by omega) (by omega) | exact drop_take_cg (by omega) (by omega) (by omega)))
                  | first | exact hok0 | exact ⟨hp0, hsl (by assumption)⟩ | exact hp1 | exact hp2 | exact ho1 | exact hok4 | exact hlen | (exfalso; first | exact hs (by assumption) | exact hf (by assumption) | exact absurd (hcr hs) (by assumption)) | (show inI64 _; simp only [inI64]; omega) | (refine ⟨by omega, by decide, ?_⟩; simp only [inI64]; omega)
                  | ((try dsimp only [countsSpec, countsF, newWriSpec, newRdrSpec, actSpec, closeSpec, tickSpec, ackSpec, rcvSpec, rrdSpec, rackSpec, Ty.T, Ty.dflt, KT.T, getM, putM, delM, inI64, maxRow]); first | (simp only [nrm, reduceCtorEq, pair_eta, map_idL, natCast_eq, inI64, maxRow]; first | done | with_reducible assumption | omega) | exact map_pair_id _)
                  | ((try dsimp only [countsSpec, countsF, newWriSpec, newRdrSpec, actSpec, closeSpec, tickSpec, ackSpec, rcvSpec, rrdSpec, rackSpec, Ty.T, Ty.dflt, KT.T, getM, putM, delM, inI64, maxRow] at *); first | ((try simp only [natCast_eq] at *) <;> omega) | ((try simp only [lens, natCast_eq] at *) <;> omega))
                  | assumption
                  | (symm; assumption)
                  | (dsimp only; simp only [nrb, *]; done)
                  | (simp; done)
                  | (and_intros <;> first | trivial | with_reducible assumption | omega)
                  | ((try dsimp only [countsSpec, countsF, newWriSpec, newRdrSpec, actSpec, closeSpec, tickSpec, ackSpec, rcvSpec, rrdSpec, rackSpec, Ty.T, Ty.dflt, KT.T, getM, putM, delM, inI64, maxRow] at *) <;> simp [*] <;> done))
             | skip
           all_goals
             (obtain ⟨z, hz1, hz2⟩ : ∃ z : LC2 (1 + t % 6) x.data, z.i = j + 1 ∧ z.x = { y with w := (ackF (tick y.w (1 + mo % 20)).2 (rackF (rdF (rcvF y.r (tick y.w (1 + mo % 20)).1.1.1 (tick y.w (1 + mo % 20)).1.1.2.1 (tick y.w (1 + mo % 20)).1.1.2.2).2 1000).2).1 (rackF (rdF (rcvF y.r (tick y.w (1 + mo % 20)).1.1.1 (tick y.w (1 + mo % 20)).1.1.2.1 (tick y.w (1 + mo % 20)).1.1.2.2).2 1000).2).2.1 (rackF (rdF (rcvF y.r (tick y.w (1 + mo % 20)).1.1.1 (tick y.w (1 + mo % 20)).1.1.2.1 (tick y.w (1 + mo % 20)).1.1.2.2).2 1000).2).2.2.1).2, r := (rdF (rcvF y.r (tick y.w (1 + mo % 20)).1.1.1 (tick y.w (1 + mo % 20)).1.1.2.1 (tick y.w (1 + mo % 20)).1.1.2.2).2 1000).2, read := y.read ++ (rdF (rcvF y.r (tick y.w (1 + mo % 20)).1.1.1 (tick y.w (1 + mo % 20)).1.1.2.1 (tick y.w (1 + mo % 20)).1.1.2.2).2 1000).1.1, fin := y.fin || (rdF (rcvF y.r (tick y.w (1 + mo % 20)).1.1.1 (tick y.w (1 + mo % 20)).1.1.2.1 (tick y.w (1 + mo % 20)).1.1.2.2).2 1000).1.2.1 } := ⟨⟨j + 1, _, hci2, hdt, by dsimp only; omega⟩, rfl, rfl⟩
              refine ⟨z, by (try dsimp only); (try simp only [natCast_eq]); omega, ?_⟩
              (try (conv in (LoopInv.inv _ _) => dsimp only)); (try (conv in (SS.mk _ _) => cbv; (try dsimp only [countsSpec, countsF, newWriSpec, newRdrSpec, actSpec, closeSpec, tickSpec, ackSpec, rcvSpec, rrdSpec, rackSpec, Ty.T, Ty.dflt, KT.T]); (try simp only [natCast_eq])))
              (with_reducible refine (?_ : T1 _ ?_) ?_; rotate_left 1; (conv => lhs; cbv; (try cbv); (try cbv)); intro hT; clear hT; with_reducible refine Sh.mk (by kernel_rfl) ?_)
              repeat' (first
                | with_reducible (first | refine Ck.mk (C := tt) tt_intro ?_ | refine Ck.mk (show drawOk _ _ = true by kernel_rfl) ?_ | refine Ck.all_cons ?_ | refine Ck.all_nil ?_ | refine Ck.mk (by assumption) ?_ | refine Ck.mk (decide_eq_true (by assumption)) ?_ | refine Ck.mk (decide_eq_false (by assumption)) ?_ | refine Ck.mk ?_ ?_)
                | (with_reducible (first | refine Both.mk (fun h => ?_) (fun h => ?_) | refine Alt.mk (fun h => ?_) (fun h => ?_) | refine Pick.mk (fun h => ?_) (fun l1 x l2 h => ?_)) <;> (have hk := h) <;> (try simp only [nrm, reduceCtorEq, pair_eta, map_idL] at h) <;> (try dsimp only [countsSpec, countsF, newWriSpec, newRdrSpec, actSpec, closeSpec, tickSpec, ackSpec, rcvSpec, rrdSpec, rackSpec, Ty.T, Ty.dflt, KT.T, getM, putM, delM] at h) <;> (try simp only [natCast_eq] at h) <;> (try simp only [WS.eta] at h) <;> (try (exfalso; first | exact absurd hT h | exact absurd rfl h | exact absurd hca h | exact absurd hbd h | exact absurd h hs | exact absurd h hf | exact absurd (hcr hs) h | exact absurd f3 h | exact absurd f3' h)) <;> (try first | rw [if_pos h] at hr | rw [if_neg h] at hr | rw [ifF h] at hr | rw [ifN h] at hr) <;> (try (have hb : (_ : Bool) = _ := h; clear h; subst hb; (try first | rw [if_pos rfl] at hr | rw [if_neg Bool.false_ne_true] at hr))) <;> first | (exfalso; omega) | exact absurd (h.symm.trans (by assumption) : true = false) Bool.noConfusion | exact absurd (h.symm.trans (by assumption) : false = true) Bool.noConfusion | (with_reducible refine (?_ : T1 _ ?_) ?_; rotate_left 1; (conv => lhs; cbv; (try cbv); (try cbv)); intro hT; clear hT; with_reducible refine Sh.mk (by kernel_rfl) ?_))
                | ((with_reducible refine End.mk ?_); skip)
                | with_reducible exact True.intro)
              all_goals first
                | (fail_if_success (with_reducible refine Exists.intro ?_ ?_)
                   first
                     | with_reducible rfl
                     | with_reducible assumption
                     | (symm; with_reducible assumption)
                     | omega
                     | ((try dsimp only [countsSpec, countsF, newWriSpec, newRdrSpec, actSpec, closeSpec, tickSpec, ackSpec, rcvSpec, rrdSpec, rackSpec, Ty.T, Ty.dflt, KT.T, getM, putM, delM, inI64, maxRow]); first | done | with_reducible rfl | with_reducible assumption | (symm; with_reducible assumption) | ((try simp only [natCast_eq, List.nil_append]); first | done | with_reducible rfl | omega | exact take_cg (by omega) | exact drop_cg (by omega) | exact take_drop_cg (by omega) (by omega) | exact take_all (by omega) | exact take_drop_all (by omega) (by omega) | exact drop_take_cg (by omega) (by omega) (by omega)))
                     | first | exact hz1.symm | (rw [hz2]; first | done | rfl | exact map_pair_id _ | (simp; done)) | (rw [hz2]; (try dsimp only); simp only [Bool.true_or, Bool.false_or, *]; done)
                     | ((try dsimp only [countsSpec, countsF, newWriSpec, newRdrSpec, actSpec, closeSpec, tickSpec, ackSpec, rcvSpec, rrdSpec, rackSpec, Ty.T, Ty.dflt, KT.T, getM, putM, delM, inI64, maxRow]); first | (simp only [nrm, reduceCtorEq, pair_eta, map_idL, natCast_eq, inI64, maxRow]; first | done | with_reducible assumption | omega) | exact map_pair_id _)
                     | ((try dsimp only [countsSpec, countsF, newWriSpec, newRdrSpec, actSpec, closeSpec, tickSpec, ackSpec, rcvSpec, rrdSpec, rackSpec, Ty.T, Ty.dflt, KT.T, getM, putM, delM, inI64, maxRow] at *); first | ((try simp only [natCast_eq] at *) <;> omega) | ((try simp only [lens, natCast_eq] at *) <;> omega))
                     | assumption
                     | (symm; assumption)
                     | (dsimp only; simp only [nrb, *]; done)
                     | (simp; done)
                     | (and_intros <;> first | trivial | with_reducible assumption | omega)
                     | ((try dsimp only [countsSpec, countsF, newWriSpec, newRdrSpec, actSpec, closeSpec, tickSpec, ackSpec, rcvSpec, rrdSpec, rackSpec, Ty.T, Ty.dflt, KT.T, getM, putM, delM, inI64, maxRow] at *) <;> simp [*] <;> done))
                | skip
              skip)
       · have e1 : r1 y (1 + mo % 20) = y.r := if_neg hs
         have hcr := hRF.cr
         have hsl := hRF.sl
         have ern : rnd y (1 + mo % 20) = { y with w := (ackF (tick y.w (1 + mo % 20)).2 (rackF (rdF y.r 1000).2).1 (rackF (rdF y.r 1000).2).2.1 (rackF (rdF y.r 1000).2).2.2.1).2, r := (rdF y.r 1000).2, read := y.read ++ (rdF y.r 1000).1.1, fin := y.fin || (rdF y.r 1000).1.2.1 } := by
           unfold rnd ak r2; rw [e1]
         unfold ak r2 at hca
         unfold r2 at hp2
         rw [e1] at hca hp1 hp2 hl1'
         rw [ern] at hff hnx hfe hR16 hok4 hrd4
         dsimp only at hff hnx hfe hR16 hok4 hrd4
         have hlen : y.read.length + ((rdF y.r 1000).1.1 : List Int).length ≤ maxRow := by unfold maxRow; omega
         have hbr : inBytes (y.read ++ (rdF y.r 1000).1.1) := by
           rw [hrd4]; exact fun z hz => hbt3 z (List.mem_of_mem_take hz)
         by_cases hf : (ackF (tick y.w (1 + mo % 20)).2 (rackF (rdF y.r 1000).2).1 (rackF (rdF y.r 1000).2).2.1 (rackF (rdF y.r 1000).2).2.2.1).2.fin = true
         · obtain ⟨f1, f2, f3, f4⟩ := hff hf
           have f5 := Bool.or_eq_true_iff.1 (hfe hf)
           have f3' := f3
           have f4' : (!((tick (ackF (tick y.w (1 + mo % 20)).2 (rackF (rdF y.r 1000).2).1 (rackF (rdF y.r 1000).2).2.1 (rackF (rdF y.r 1000).2).2.2.1).2 9).1.2.1 : Bool)) = true := by rw [f4]; rfl
           rw [hdt] at f2 f3
           clear hnx hff hfe
           (try (conv in (LoopInv.inv _ _) => dsimp only)); (try (conv in (SS.mk _ _) => cbv; (try dsimp only [countsSpec, countsF, newWriSpec, newRdrSpec, actSpec, closeSpec, tickSpec, ackSpec, rcvSpec, rrdSpec, rackSpec, Ty.T, Ty.dflt, KT.T]); (try simp only [natCast_eq])))
           (with_reducible refine (?_ : T1 _ ?_) ?_; rotate_left 1; (conv => lhs; cbv; (try cbv); (try cbv)); intro hT; clear hT; with_reducible refine Sh.mk (by kernel_rfl) ?_)
           repeat' (first
             | with_reducible (first | refine Ck.mk (C := tt) tt_intro ?_ | refine Ck.mk (show drawOk _ _ = true by kernel_rfl) ?_ | refine Ck.all_cons ?_ | refine Ck.all_nil ?_ | refine Ck.mk (by assumption) ?_ | refine Ck.mk (decide_eq_true (by assumption)) ?_ | refine Ck.mk (decide_eq_false (by assumption)) ?_ | refine Ck.mk ?_ ?_)
             | (with_reducible (first | refine Both.mk (fun h => ?_) (fun h => ?_) | refine Alt.mk (fun h => ?_) (fun h => ?_) | refine Pick.mk (fun h => ?_) (fun l1 x l2 h => ?_)) <;> (have hk := h) <;> (try simp only [nrm, reduceCtorEq, pair_eta, map_idL] at h) <;> (try dsimp only [countsSpec, countsF, newWriSpec, newRdrSpec, actSpec, closeSpec, tickSpec, ackSpec, rcvSpec, rrdSpec, rackSpec, Ty.T, Ty.dflt, KT.T, getM, putM, delM] at h) <;> (try simp only [natCast_eq] at h) <;> (try simp only [WS.eta] at h) <;> (try (exfalso; first | exact absurd hT h | exact absurd rfl h | exact absurd hca h | exact absurd hbd h | exact absurd h hs | exact absurd h hf | exact absurd (hcr hs) h | exact absurd f3 h | exact absurd f3' h)) <;> (try first | rw [if_pos h] at hr | rw [if_neg h] at hr | rw [ifF h] at hr | rw [ifN h] at hr) <;> (try (have hb : (_ : Bool) = _ := h; clear h; subst hb; (try first | rw [if_pos rfl] at hr | rw [if_neg Bool.false_ne_true] at hr))) <;> first | (exfalso; omega) | exact absurd (h.symm.trans (by assumption) : true = false) Bool.noConfusion | exact absurd (h.symm.trans (by assumption) : false = true) Bool.noConfusion | (with_reducible refine (?_ : T1 _ ?_) ?_; rotate_left 1; (conv => lhs; cbv; (try cbv); (try cbv)); intro hT; clear hT; with_reducible refine Sh.mk (by kernel_rfl) ?_))
             | ((with_reducible refine End.mk ?_); (try ((repeat (first | rw [if_pos (by first | assumption | omega)] at hr | rw [if_neg (by first | assumption | omega | (simp only [Bool.false_eq_true, Bool.true_eq_false, reduceCtorEq, not_false_eq_true]; done) | (simp only [Bool.not_eq_true]; assumption) | (simp only [Bool.not_eq_false]; assumption))] at hr | rw [if_pos rfl] at hr)); subst hr)))
             | with_reducible exact True.intro)
           all_goals first
             | (fail_if_success (with_reducible refine Exists.intro ?_ ?_)
                first
                  | with_reducible rfl
                  | with_reducible assumption
                  | (symm; with_reducible assumption)
                  | omega
                  | ((try dsimp only [countsSpec, countsF, newWriSpec, newRdrSpec, actSpec, closeSpec, tickSpec, ackSpec, rcvSpec, rrdSpec, rackSpec, Ty.T, Ty.dflt, KT.T, getM, putM, delM, inI64, maxRow]); first | done | with_reducible rfl | with_reducible assumption | (symm; with_reducible assumption) | ((try simp only [natCast_eq, List.nil_append]); first | done | with_reducible rfl | omega | exact take_cg (by omega) | exact drop_cg (by omega) | exact take_drop_cg (by omega) (by omega) | exact take_all (by omega) | exact take_drop_all (by omega) (by omega) | exact drop_take_cg (by omega) (by omega) (by omega)))
                  | first | exact hok0 | exact ⟨hp0, hsl (by assumption)⟩ | exact hp1 | exact hp2 | exact ho1 | exact hok4 | exact ⟨hbr, hbt3⟩ | exact hlen | exact f4' | (exfalso; first | exact hs (by assumption) | exact absurd (hcr hs) (by assumption) | exact absurd f3 (by assumption) | exact absurd f3' (by assumption) | exact f5.elim (fun q => Bool.noConfusion (q.symm.trans (by assumption : y.fin = false))) (fun q => Bool.noConfusion (q.symm.trans (by assumption : ((rdF y.r 1000).1.2.1 : Bool) = false)))) | (show inI64 _; simp only [inI64]; omega) | (refine ⟨by omega, by decide, ?_⟩; simp only [inI64]; omega)
                  | ((try dsimp only [countsSpec, countsF, newWriSpec, newRdrSpec, actSpec, closeSpec, tickSpec, ackSpec, rcvSpec, rrdSpec, rackSpec, Ty.T, Ty.dflt, KT.T, getM, putM, delM, inI64, maxRow]); first | (simp only [nrm, reduceCtorEq, pair_eta, map_idL, natCast_eq, inI64, maxRow]; first | done | with_reducible assumption | omega) | exact map_pair_id _)
                  | ((try dsimp only [countsSpec, countsF, newWriSpec, newRdrSpec, actSpec, closeSpec, tickSpec, ackSpec, rcvSpec, rrdSpec, rackSpec, Ty.T, Ty.dflt, KT.T, getM, putM, delM, inI64, maxRow] at *); first | ((try simp only [natCast_eq] at *) <;> omega) | ((try simp only [lens, natCast_eq] at *) <;> omega))
                  | assumption
                  | (symm; assumption)
                  | (dsimp only; simp only [nrb, *]; done)
                  | (simp; done)
                  | (and_intros <;> first | trivial | with_reducible assumption | omega)
                  | ((try dsimp only [countsSpec, countsF, newWriSpec, newRdrSpec, actSpec, closeSpec, tickSpec, ackSpec, rcvSpec, rrdSpec, rackSpec, Ty.T, Ty.dflt, KT.T, getM, putM, delM, inI64, maxRow] at *) <;> simp [*] <;> done))
             | skip
           all_goals skip
         · have hci2 := hnx hf
           clear hnx hff hfe
           (try (conv in (LoopInv.inv _ _) => dsimp only)); (try (conv in (SS.mk _ _) => cbv; (try dsimp only [countsSpec, countsF, newWriSpec, newRdrSpec, actSpec, closeSpec, tickSpec, ackSpec, rcvSpec, rrdSpec, rackSpec, Ty.T, Ty.dflt, KT.T]); (try simp only [natCast_eq])))
           (with_reducible refine (?_ : T1 _ ?_) ?_; rotate_left 1; (conv => lhs; cbv; (try cbv); (try cbv)); intro hT; clear hT; with_reducible refine Sh.mk (by kernel_rfl) ?_)
           repeat' (first
             | with_reducible (first | refine Ck.mk (C := tt) tt_intro ?_ | refine Ck.mk (show drawOk _ _ = true by kernel_rfl) ?_ | refine Ck.all_cons ?_ | refine Ck.all_nil ?_ | refine Ck.mk (by assumption) ?_ | refine Ck.mk (decide_eq_true (by assumption)) ?_ | refine Ck.mk (decide_eq_false (by assumption)) ?_ | refine Ck.mk ?_ ?_)
             | (with_reducible (first | refine Both.mk (fun h => ?_) (fun h => ?_) | refine Alt.mk (fun h => ?_) (fun h => ?_) | refine Pick.mk (fun h => ?_) (fun l1 x l2 h => ?_)) <;> (have hk := h) <;> (try simp only [nrm, reduceCtorEq, pair_eta, map_idL] at h) <;> (try dsimp only [countsSpec, countsF, newWriSpec, newRdrSpec, actSpec, closeSpec, tickSpec, ackSpec, rcvSpec, rrdSpec, rackSpec, Ty.T, Ty.dflt, KT.T, getM, putM, delM] at h) <;> (try simp only [natCast_eq] at h) <;> (try simp only [WS.eta] at h) <;> (try (exfalso; first | exact absurd hT h | exact absurd rfl h | exact absurd hca h | exact absurd hbd h | exact absurd h hs | exact absurd h hf | exact absurd (hcr hs) h | exact absurd f3 h | exact absurd f3' h)) <;> (try first | rw [if_pos h] at hr | rw [if_neg h] at hr | rw [ifF h] at hr | rw [ifN h] at hr) <;> (try (have hb : (_ : Bool) = _ := h; clear h; subst hb; (try first | rw [if_pos rfl] at hr | rw [if_neg Bool.false_ne_true] at hr))) <;> first | (exfalso; omega) | exact absurd (h.symm.trans (by assumption) : true = false) Bool.noConfusion | exact absurd (h.symm.trans (by assumption) : false = true) Bool.noConfusion | (with_reducible refine (?_ : T1 _ ?_) ?_; rotate_left 1; (conv => lhs; cbv; (try cbv); (try cbv)); intro hT; clear hT; with_reducible refine Sh.mk (by kernel_rfl) ?_))
             | ((with_reducible refine End.mk ?_); (try ((repeat (first | rw [if_pos (by first | assumption | omega)] at hr | rw [if_neg (by first | assumption | omega | (simp only [Bool.false_eq_true, Bool.true_eq_false, reduceCtorEq, not_false_eq_true]; done) | (simp only [Bool.not_eq_true]; assumption) | (simp only [Bool.not_eq_false]; assumption))] at hr | rw [if_pos rfl] at hr)); subst hr)))
             | with_reducible exact True.intro)
           all_goals first
             | (fail_if_success (with_reducible refine Exists.intro ?_ ?_)
                first
                  | with_reducible rfl
                  | with_reducible assumption
                  | (symm; with_reducible assumption)
                  | omega
                  | ((try dsimp only [countsSpec, countsF, newWriSpec, newRdrSpec, actSpec, closeSpec, tickSpec, ackSpec, rcvSpec, rrdSpec, rackSpec, Ty.T, Ty.dflt, KT.T, getM, putM, delM, inI64, maxRow]); first | done | with_reducible rfl | with_reducible assumption | (symm; with_reducible assumption) | ((try simp only [natCast_eq, List.nil_append]); first | done | with_reducible rfl | omega | exact take_cg (by omega) | exact drop_cg (by omega) | exact take_drop_cg (by omega) (by omega) | exact take_all (by omega) | exact take_drop_all (by omega) (by omega) | exact drop_take_cg (by omega) (by omega) (by omega)))
                  | first | exact hok0 | exact ⟨hp0, hsl (by assumption)⟩ | exact hp1 | exact hp2 | exact ho1 | exact hok4 | exact hlen | (exfalso; first | exact hs (by assumption) | exact hf (by assumption) | exact absurd (hcr hs) (by assumption)) | (show inI64 _; simp only [inI64]; omega) | (refine ⟨by omega, by decide, ?_⟩; simp only [inI64]; omega)
                  | ((try dsimp only [countsSpec, countsF, newWriSpec, newRdrSpec, actSpec, closeSpec, tickSpec, ackSpec, rcvSpec, rrdSpec, rackSpec, Ty.T, Ty.dflt, KT.T, getM, putM, delM, inI64, maxRow]); first | (simp only [nrm, reduceCtorEq, pair_eta, map_idL, natCast_eq, inI64, maxRow]; first | done | with_reducible assumption | omega) | exact map_pair_id _)
                  | ((try dsimp only [countsSpec, countsF, newWriSpec, newRdrSpec, actSpec, closeSpec, tickSpec, ackSpec, rcvSpec, rrdSpec, rackSpec, Ty.T, Ty.dflt, KT.T, getM, putM, delM, inI64, maxRow] at *); first | ((try simp only [natCast_eq] at *) <;> omega) | ((try simp only [lens, natCast_eq] at *) <;> omega))
                  | assumption
                  | (symm; assumption)
                  | (dsimp only; simp only [nrb, *]; done)
                  | (simp; done)
                  | (and_intros <;> first | trivial | with_reducible assumption | omega)
                  | ((try dsimp only [countsSpec, countsF, newWriSpec, newRdrSpec, actSpec, closeSpec, tickSpec, ackSpec, rcvSpec, rrdSpec, rackSpec, Ty.T, Ty.dflt, KT.T, getM, putM, delM, inI64, maxRow] at *) <;> simp [*] <;> done))
             | skip
           all_goals
             (obtain ⟨z, hz1, hz2⟩ : ∃ z : LC2 (1 + t % 6) x.data, z.i = j + 1 ∧ z.x = { y with w := (ackF (tick y.w (1 + mo % 20)).2 (rackF (rdF y.r 1000).2).1 (rackF (rdF y.r 1000).2).2.1 (rackF (rdF y.r 1000).2).2.2.1).2, r := (rdF y.r 1000).2, read := y.read ++ (rdF y.r 1000).1.1, fin := y.fin || (rdF y.r 1000).1.2.1 } := ⟨⟨j + 1, _, hci2, hdt, by dsimp only; omega⟩, rfl, rfl⟩
              refine ⟨z, by (try dsimp only); (try simp only [natCast_eq]); omega, ?_⟩
              (try (conv in (LoopInv.inv _ _) => dsimp only)); (try (conv in (SS.mk _ _) => cbv; (try dsimp only [countsSpec, countsF, newWriSpec, newRdrSpec, actSpec, closeSpec, tickSpec, ackSpec, rcvSpec, rrdSpec, rackSpec, Ty.T, Ty.dflt, KT.T]); (try simp only [natCast_eq])))
              (with_reducible refine (?_ : T1 _ ?_) ?_; rotate_left 1; (conv => lhs; cbv; (try cbv); (try cbv)); intro hT; clear hT; with_reducible refine Sh.mk (by kernel_rfl) ?_)
              repeat' (first
                | with_reducible (first | refine Ck.mk (C := tt) tt_intro ?_ | refine Ck.mk (show drawOk _ _ = true by kernel_rfl) ?_ | refine Ck.all_cons ?_ | refine Ck.all_nil ?_ | refine Ck.mk (by assumption) ?_ | refine Ck.mk (decide_eq_true (by assumption)) ?_ | refine Ck.mk (decide_eq_false (by assumption)) ?_ | refine Ck.mk ?_ ?_)
                | (with_reducible (first | refine Both.mk (fun h => ?_) (fun h => ?_) | refine Alt.mk (fun h => ?_) (fun h => ?_) | refine Pick.mk (fun h => ?_) (fun l1 x l2 h => ?_)) <;> (have hk := h) <;> (try simp only [nrm, reduceCtorEq, pair_eta, map_idL] at h) <;> (try dsimp only [countsSpec, countsF, newWriSpec, newRdrSpec, actSpec, closeSpec, tickSpec, ackSpec, rcvSpec, rrdSpec, rackSpec, Ty.T, Ty.dflt, KT.T, getM, putM, delM] at h) <;> (try simp only [natCast_eq] at h) <;> (try simp only [WS.eta] at h) <;> (try (exfalso; first | exact absurd hT h | exact absurd rfl h | exact absurd hca h | exact absurd hbd h | exact absurd h hs | exact absurd h hf | exact absurd (hcr hs) h | exact absurd f3 h | exact absurd f3' h)) <;> (try first | rw [if_pos h] at hr | rw [if_neg h] at hr | rw [ifF h] at hr | rw [ifN h] at hr) <;> (try (have hb : (_ : Bool) = _ := h; clear h; subst hb; (try first | rw [if_pos rfl] at hr | rw [if_neg Bool.false_ne_true] at hr))) <;> first | (exfalso; omega) | exact absurd (h.symm.trans (by assumption) : true = false) Bool.noConfusion | exact absurd (h.symm.trans (by assumption) : false = true) Bool.noConfusion | (with_reducible refine (?_ : T1 _ ?_) ?_; rotate_left 1; (conv => lhs; cbv; (try cbv); (try cbv)); intro hT; clear hT; with_reducible refine Sh.mk (by kernel_rfl) ?_))
                | ((with_reducible refine End.mk ?_); skip)
                | with_reducible exact True.intro)
              all_goals first
                | (fail_if_success (with_reducible refine Exists.intro ?_ ?_)
                   first
                     | with_reducible rfl
                     | with_reducible assumption
                     | (symm; with_reducible assumption)
                     | omega
                     | ((try dsimp only [countsSpec, countsF, newWriSpec, newRdrSpec, actSpec, closeSpec, tickSpec, ackSpec, rcvSpec, rrdSpec, rackSpec, Ty.T, Ty.dflt, KT.T, getM, putM, delM, inI64, maxRow]); first | done | with_reducible rfl | with_reducible assumption | (symm; with_reducible assumption) | ((try simp only [natCast_eq, List.nil_append]); first | done | with_reducible rfl | omega | exact take_cg (by omega) | exact drop_cg (by omega) | exact take_drop_cg (by omega) (by omega) | exact take_all (by omega) | exact take_drop_all (by omega) (by omega) | exact drop_take_cg (by omega) (by omega) (by omega)))
                     | first | exact hz1.symm | (rw [hz2]; first | done | rfl | exact map_pair_id _ | (simp; done)) | (rw [hz2]; (try dsimp only); simp only [Bool.true_or, Bool.false_or, *]; done)
                     | ((try dsimp only [countsSpec, countsF, newWriSpec, newRdrSpec, actSpec, closeSpec, tickSpec, ackSpec, rcvSpec, rrdSpec, rackSpec, Ty.T, Ty.dflt, KT.T, getM, putM, delM, inI64, maxRow]); first | (simp only [nrm, reduceCtorEq, pair_eta, map_idL, natCast_eq, inI64, maxRow]; first | done | with_reducible assumption | omega) | exact map_pair_id _)
                     | ((try dsimp only [countsSpec, countsF, newWriSpec, newRdrSpec, actSpec, closeSpec, tickSpec, ackSpec, rcvSpec, rrdSpec, rackSpec, Ty.T, Ty.dflt, KT.T, getM, putM, delM, inI64, maxRow] at *); first | ((try simp only [natCast_eq] at *) <;> omega) | ((try simp only [lens, natCast_eq] at *) <;> omega))
                     | assumption
                     | (symm; assumption)
                     | (dsimp only; simp only [nrb, *]; done)
                     | (simp; done)
                     | (and_intros <;> first | trivial | with_reducible assumption | omega)
                     | ((try dsimp only [countsSpec, countsF, newWriSpec, newRdrSpec, actSpec, closeSpec, tickSpec, ackSpec, rcvSpec, rrdSpec, rackSpec, Ty.T, Ty.dflt, KT.T, getM, putM, delM, inI64, maxRow] at *) <;> simp [*] <;> done))
                | skip
              skip)
       )
theorem cmw_sound : ConSound Try.prog AI 8 cmwSpec.con := PureSpec.sound Try.call8 (fun x h => cmw_ok x.1 x.2.1 x.2.2.1 x.2.2.2.1 x.2.2.2.2.1 h)
end Go.Proofs.Ytebhcmgfhkjmcaa
