/-
  Layer 50: AccountApart: the plain part and the walk.
-/
import Derived.Test.YtfgfcbncnngniaaDoorBlw
import Derived.Test.YtfgfcbncnngniaaDoorBkb
namespace Go.Proofs.YtfgfcbncnngniaaDoor
set_option linter.all false
set_option linter.unusedVariables false
set_option linter.unusedSimpArgs false
set_option linter.unusedSectionVars false
open Go.RowKit Go.Sx
set_option maxRecDepth 100000
set_option maxHeartbeats 16000000
abbrev isC (c : Int) (e : Fv) : Bool := decide (e.2.1 = c)
theorem balR_own (c a : Int) : ∀ l : List Fv, balR (l.filter (isC c)) c a = balR l c a
  | [] => rfl
  | e :: l => by
    have ih := balR_own c a l
    rw [List.filter_cons]
    by_cases h : e.2.1 = c
    · rw [if_pos (decide_eq_true h)]
      simp only [balR, ih]
    · rw [if_neg (by simpa using h)]
      simp only [balR, ih]
      unfold dE
      rw [if_neg (fun q => h q.1), if_neg (fun q => h q.1)]; omega
/-- The ticks do not decrease. -/
def mono (l : List Fv) : Prop := l.Pairwise fun a b => a.1 ≤ b.1
theorem last_le {l : List Fv} (h : mono l) : ∀ e ∈ l, e.1 ≤ (l.getD ((l.length : Int) - 1).toNat z5).1 := by
  intro e he
  cases l with
  | nil => cases he
  | cons x r =>
    have hne : (x :: r) ≠ [] := by simp
    have e1 : (x :: r).getD (((x :: r).length : Int) - 1).toNat z5 = (x :: r).getLast hne := by
      rw [List.getD_eq_getElem?_getD, List.getLast_eq_getElem, List.getElem?_eq_getElem (by simp only [List.length_cons]; omega)]
      simp
    rw [e1]
    have e2 := List.dropLast_concat_getLast hne
    rw [← e2] at he h
    rcases List.mem_append.1 he with h1 | h1
    · exact (List.pairwise_append.1 h).2.2 e h1 _ (List.mem_singleton.2 rfl)
    · rw [List.mem_singleton.1 h1]; exact Int.le_refl _
theorem refF_mono {l : List Fv} (hm : mono l) {e : Fv} (h : refF l e = 0) : mono (l ++ [e]) := by
  refine List.pairwise_append.2 ⟨hm, List.pairwise_singleton _ _, fun a ha b hb => ?_⟩
  rw [List.mem_singleton.1 hb]
  have h1 := last_le hm a ha
  unfold refF at h
  split at h
  · split at h
    · split at h
      · split at h
        · cases h
        · omega
      · rename_i hn
        cases l with
        | nil => cases ha
        | cons x r => simp only [List.length_cons] at hn; omega
    · cases h
  · cases h
theorem ents_mono : ∀ (l : List Fv) {S : Led}, OkB S → mono S.ents → mono (l.foldl (fun S e => (bookF S e).2) S).ents
  | [], _, _, h => h
  | e :: l, S, hok, h => by
    refine ents_mono l (okB_book hok e) ?_
    show mono (bookF S e).2.ents
    rw [book_ref hok]
    split
    · exact refF_mono h (by assumption)
    · exact h
/-- A booking that was accepted behind l is accepted behind those of l that matter to it. -/
theorem ref_sub {l m : List Fv} {e : Fv} (hm : mono l) (hs : m.length ≤ l.length) (hsub : ∀ x ∈ m, x ∈ l) (hb : ∀ a, balR m e.2.1 a = balR l e.2.1 a) (h : refF l e = 0) : refF m e = 0 := by
  unfold refF at h ⊢
  by_cases c1 : inrB e = true
  · rw [if_pos c1] at h ⊢
    by_cases c2 : prmB e.2.2.1 e.2.2.2.1 = true
    · rw [if_pos c2] at h ⊢
      have key : refR l e = 0 → refR m e = 0 := by
        intro g
        obtain ⟨g1, g2⟩ := ref0R g
        unfold refR
        rw [if_neg (by omega)]
        by_cases c3 : 0 < e.2.2.1
        · rw [if_pos c3, hb, if_neg (by have := g2 c3; omega)]
        · rw [if_neg c3]
      have hr : refR l e = 0 := by
        split at h
        · split at h
          · cases h
          · exact h
        · exact h
      by_cases c4 : 0 < (m.length : Int)
      · rw [if_pos c4, if_neg ?_]
        · exact key hr
        · have hl : 0 < (l.length : Int) := by omega
          rw [if_pos hl] at h
          split at h
          · cases h
          · rename_i hn
            have hlt : ((m.length : Int) - 1).toNat < m.length := by omega
            have hmem : m.getD ((m.length : Int) - 1).toNat z5 ∈ m := by rw [List.getD_eq_getElem?_getD, List.getElem?_eq_getElem hlt]; exact List.getElem_mem hlt
            have := last_le hm _ (hsub _ hmem)
            omega
      · rw [if_neg c4]; exact key hr
    · rw [if_neg c2] at h; cases h
  · rw [if_neg c1] at h; cases h
/-- The own bookings of a connection, booked anew, are all accepted. -/
theorem own_all (c : Int) : ∀ (l : List Fv) {S T : Led}, OkB S → OkB T → mono S.ents → T.ents = S.ents.filter (isC c) →
    ∀ S', S' = l.foldl (fun S e => (bookF S e).2) S → ∃ r, S'.ents = S.ents ++ r ∧ ((r.filter (isC c)).foldl (fun S e => (bookF S e).2) T).ents = S'.ents.filter (isC c)
  | [], S, T, _, _, _, hT, S', hS' => ⟨[], by rw [hS']; simp, by rw [hS']; exact hT⟩
  | e :: l, S, T, hS, hTo, hm, hT, S', hS' => by
    have hS' : S' = l.foldl (fun S e => (bookF S e).2) (bookF S e).2 := hS'
    by_cases h : refF S.ents e = 0
    · have e1 : (bookF S e).2 = (bkD S e).2 := by rw [book_ref hS, if_pos h]
      rw [e1] at hS'
      by_cases hc : e.2.1 = c
      · have h2 : refF T.ents e = 0 := by
          refine ref_sub hm ?_ ?_ ?_ h
          · rw [hT]; exact List.length_filter_le _ _
          · rw [hT]; exact fun x hx => (List.mem_filter.1 hx).1
          · intro a; rw [hT, hc]; exact balR_own c a _
        obtain ⟨r, h3, h4⟩ := own_all c l (S := (bkD S e).2) (T := (bkD T e).2) (okB_step hS h) (okB_step hTo h2) (refF_mono hm h) (by show T.ents ++ [e] = (S.ents ++ [e]).filter _; rw [List.filter_append, hT]; congr 1; rw [List.filter_cons, if_pos (decide_eq_true hc)]; rfl) S' hS'
        refine ⟨e :: r, by rw [h3]; show S.ents ++ [e] ++ r = _; rw [List.append_assoc]; rfl, ?_⟩
        rw [List.filter_cons, if_pos (decide_eq_true hc)]
        show ((r.filter (isC c)).foldl (fun S e => (bookF S e).2) (bookF T e).2).ents = _
        rw [book_ref hTo, if_pos h2]; exact h4
      · obtain ⟨r, h3, h4⟩ := own_all c l (S := (bkD S e).2) (T := T) (okB_step hS h) hTo (refF_mono hm h) (by show T.ents = (S.ents ++ [e]).filter _; rw [List.filter_append, hT, List.filter_cons, if_neg (by simpa using hc)]; simp) S' hS'
        refine ⟨e :: r, by rw [h3]; show S.ents ++ [e] ++ r = _; rw [List.append_assoc]; rfl, ?_⟩
        rw [List.filter_cons, if_neg (by simpa using hc)]
        exact h4
    · have e1 : (bookF S e).2 = S := by rw [book_ref hS, if_neg h]
      rw [e1] at hS'
      exact own_all c l hS hTo hm hT S' hS'
theorem own_book (L : List Fv) (c : Int) : (bookAll ((bookAll L).ents.filter (isC c))).ents = (bookAll L).ents.filter (isC c) := by
  obtain ⟨r, h1, h2⟩ := own_all c L okB_0 okB_0 .nil rfl (bookAll L) rfl
  have h1 : (bookAll L).ents = r := h1
  rw [h1]
  rw [h1] at h2
  exact h2
theorem apt_bal {L : List Fv} {c a : Int} (h0 : 0 ≤ a) (h5 : a < 5) : (balF (bookAll L) c a).1 = (balF (bookAll ((bookAll L).ents.filter (isC c))) c a).1 := by
  rw [bal5 (okB_all _) h0 h5, bal5 (okB_all _) h0 h5, own_book, balR_own]
structure LO (l : List Fv) (c : Int) where
  i : Int
  o : List Fv
  lo : 0 ≤ i
  hi : i ≤ (l.length : Int)
  eq : o = (l.take i.toNat).filter (isC c)
theorem LO.len {l : List Fv} {c : Int} (x : LO l c) : x.o.length ≤ l.length := by
  rw [x.eq]
  refine Nat.le_trans (List.length_filter_le _ _) ?_
  rw [List.length_take]; omega
theorem LO.step {l : List Fv} {c : Int} (x : LO l c) (h : x.i < (l.length : Int)) : ∃ (e : Fv) (y : LO l c), l.getD x.i.toNat (0, 0, 0, 0, 0) = e ∧ y.i = x.i + 1 ∧ (e.2.1 = c → y.o = x.o ++ [e]) ∧ (¬ e.2.1 = c → y.o = x.o) := by
  obtain ⟨e, he⟩ : ∃ e, l.getD x.i.toNat z5 = e := ⟨_, rfl⟩
  have h1 := take_next x.lo h
  rw [he] at h1
  refine ⟨e, ⟨x.i + 1, _, by have := x.lo; omega, by omega, rfl⟩, he, rfl, fun hc => ?_, fun hc => ?_⟩
  · show (l.take (x.i + 1).toNat).filter _ = _
    rw [h1, List.filter_append, ← x.eq, List.filter_cons, if_pos (decide_eq_true hc)]; rfl
  · show (l.take (x.i + 1).toNat).filter _ = _
    rw [h1, List.filter_append, ← x.eq, List.filter_cons, if_neg (by simpa using hc)]; simp
theorem LO.done {l : List Fv} {c : Int} (x : LO l c) (h : ¬ x.i < (l.length : Int)) : x.o = l.filter (isC c) := by
  rw [x.eq, List.take_of_length_le (by have := x.hi; omega)]
noncomputable abbrev Eap : Env Ab := ⟨tis, [(14, balSpec.con), (13, orCon bkaSpec.con bkrSpec.con), (12, awakeSpec.con)] ++ E0.con⟩
theorem eapOk : EnvOk Tryd.prog AI Eap := (((e0Ok.add awake_sound).add (orCon_sound bka_sound bkr_sound)).add bal_sound)
def aptF (_ : List Fv) (_ : Int) : Tup [DT.cell .bool] := (true, ())
def aptSpec : PureSpec := ⟨[.lst fvE, .cell (.int .i64)], fun (x : (List Fv) × Int × Unit) => x.1.length ≤ maxLen ∧ ∀ e ∈ x.1, fvE.ok e, [.cell .bool], fun (x : (List Fv) × Int × Unit) => aptF x.1 x.2.1⟩
theorem apt_ok (L : List Fv) (cn : Int) (h : aptSpec.pre (L, cn, ())) : TmplOk Tryd.prog AI 6 (argS aptSpec.ds (fun _ => (L, cn, ()))) [] (resOf (svs aptSpec.rs (fun _ => aptSpec.f (L, cn, ())))) [] := by
  dsimp only [aptSpec] at h ⊢
  generalize hr : aptF L cn = r
  obtain ⟨hL0, hL⟩ := h
  dsimp only [aptF] at hr
  refine tmpl_of_body eapOk mixed (fn := Tryd.f6) (c := bodyOf Tryd.f6) (by kernel_rfl) (by kernel_rfl) (by kernel_rfl) (Nat.le_of_ble_eq_true (by kernel_rfl)) ?_
  (try (conv in (LoopInv.inv _ _) => dsimp only)); (try (conv in (SS.mk _ _) => cbv; (try dsimp only [bkaSpec, bkrSpec, balSpec, Ty.T, Ty.dflt, KT.T]); (try simp only [natCast_eq])))
  (with_reducible refine (?_ : T1 _ ?_) ?_; rotate_left 1; (conv => lhs; cbv; (try cbv); (try cbv)); intro hT; clear hT; with_reducible refine Sh.mk (by kernel_rfl) ?_)
  repeat' (first
    | with_reducible refine Ck.mk (C := tt) tt_intro ?_
    | with_reducible refine Ck.mk (show drawOk _ _ = true by kernel_rfl) ?_
    | with_reducible refine Ck.all_cons ?_
    | with_reducible refine Ck.all_nil ?_
    | with_reducible refine Ck.mk (by assumption) ?_
    | with_reducible refine Ck.mk (decide_eq_true (by assumption)) ?_
    | with_reducible refine Ck.mk (decide_eq_false (by assumption)) ?_
    | with_reducible refine Ck.mk ?_ ?_
    | (with_reducible refine Both.mk (fun h => ?_) (fun h => ?_) <;> (have hk := h) <;> (try simp only [decide_eq_true_eq, decide_eq_false_iff_not, Bool.not_eq_true', Bool.not_eq_false', Bool.not_eq_true, Bool.not_eq_false, Bool.not_true, Bool.not_false, ne_eq, Bool.false_eq_true, Bool.true_eq_false, reduceCtorEq, beq_iff_eq, beq_eq_false_iff_ne, not_true_eq_false, not_false_eq_true, pair_eta, map_idL] at h) <;> (try dsimp only [bkaSpec, bkrSpec, balSpec, Ty.T, Ty.dflt, KT.T, getM, putM, delM] at h) <;> (try simp only [natCast_eq] at h) <;> (try (refine Exists.elim (x.step h) ?_; rintro e ⟨y, e1, hy0, hy1, hy2⟩)) <;> (try (have hD := x.done h)) <;> (try (have hB := hbal z.lo h)) <;> (try simp only [pair_eta, map_idL, e1] at h) <;> (try simp only [pair_eta, map_idL, hD, hT, hTe, not_true_eq_false] at h) <;> (try simp only [hB, not_true_eq_false] at h) <;> (try first | rw [if_pos h] at hr | rw [if_neg h] at hr | rw [ifF h] at hr | rw [ifN h] at hr) <;> (try (have hb : (_ : Bool) = _ := h; clear h; subst hb; (try first | rw [if_pos rfl] at hr | rw [if_neg Bool.false_ne_true] at hr))) <;> first | (exfalso; omega) | exact absurd (h.symm.trans (by assumption) : true = false) Bool.noConfusion | exact absurd (h.symm.trans (by assumption) : false = true) Bool.noConfusion | (with_reducible refine (?_ : T1 _ ?_) ?_; rotate_left 1; (conv => lhs; cbv; (try cbv); (try cbv)); intro hT; clear hT; with_reducible refine Sh.mk (by kernel_rfl) ?_))
    | (with_reducible refine Alt.mk (fun h => ?_) (fun h => ?_) <;> (have hk := h) <;> (try simp only [decide_eq_true_eq, decide_eq_false_iff_not, Bool.not_eq_true', Bool.not_eq_false', Bool.not_eq_true, Bool.not_eq_false, Bool.not_true, Bool.not_false, ne_eq, Bool.false_eq_true, Bool.true_eq_false, reduceCtorEq, beq_iff_eq, beq_eq_false_iff_ne, not_true_eq_false, not_false_eq_true, pair_eta, map_idL] at h) <;> (try dsimp only [bkaSpec, bkrSpec, balSpec, Ty.T, Ty.dflt, KT.T, getM, putM, delM] at h) <;> (try simp only [natCast_eq] at h) <;> (try (refine Exists.elim (x.step h) ?_; rintro e ⟨y, e1, hy0, hy1, hy2⟩)) <;> (try (have hD := x.done h)) <;> (try (have hB := hbal z.lo h)) <;> (try simp only [pair_eta, map_idL, e1] at h) <;> (try simp only [pair_eta, map_idL, hD, hT, hTe, not_true_eq_false] at h) <;> (try simp only [hB, not_true_eq_false] at h) <;> (try first | rw [if_pos h] at hr | rw [if_neg h] at hr | rw [ifF h] at hr | rw [ifN h] at hr) <;> (try (have hb : (_ : Bool) = _ := h; clear h; subst hb; (try first | rw [if_pos rfl] at hr | rw [if_neg Bool.false_ne_true] at hr))) <;> first | (exfalso; omega) | exact absurd (h.symm.trans (by assumption) : true = false) Bool.noConfusion | exact absurd (h.symm.trans (by assumption) : false = true) Bool.noConfusion | (with_reducible refine (?_ : T1 _ ?_) ?_; rotate_left 1; (conv => lhs; cbv; (try cbv); (try cbv)); intro hT; clear hT; with_reducible refine Sh.mk (by kernel_rfl) ?_))
    | (with_reducible refine Pick.mk (fun h => ?_) (fun l1 x l2 h => ?_) <;> (with_reducible refine (?_ : T1 _ ?_) ?_; rotate_left 1; (conv => lhs; cbv; (try cbv); (try cbv)); intro hT; clear hT; with_reducible refine Sh.mk (by kernel_rfl) ?_))
    | ((with_reducible refine End.mk ?_); (try ((repeat (first | rw [if_pos (by first | assumption | omega)] at hr | rw [if_neg (by first | assumption | omega | (simp only [Bool.false_eq_true, Bool.true_eq_false, reduceCtorEq, not_false_eq_true]; done) | (simp only [Bool.not_eq_true]; assumption) | (simp only [Bool.not_eq_false]; assumption))] at hr | rw [if_pos rfl] at hr)); subst hr)))
    | with_reducible exact True.intro)
  all_goals first
    | (fail_if_success (with_reducible refine Exists.intro ?_ ?_)
       first
         | with_reducible rfl
         | with_reducible assumption
         | (dsimp only [bkaSpec, bkrSpec, balSpec, Ty.T, Ty.dflt, KT.T, getM, putM, delM, inI64, maxRow]; done)
         | (symm; with_reducible assumption)
         | (dsimp only [bkaSpec, bkrSpec, balSpec, Ty.T, Ty.dflt, KT.T, getM, putM, delM, inI64, maxRow]; first | with_reducible rfl | with_reducible assumption | (symm; with_reducible assumption) | (simp only [natCast_eq]; with_reducible rfl) | omega)
         | omega
         | (dsimp only [bkaSpec, bkrSpec, balSpec, Ty.T, Ty.dflt, KT.T, getM, putM, delM, inI64, maxRow]; (try simp only [natCast_eq, List.nil_append]); first | with_reducible rfl | exact take_cg (by omega) | exact drop_cg (by omega) | exact take_drop_cg (by omega) (by omega) | exact take_all (by omega) | exact take_drop_all (by omega) (by omega) | exact drop_take_cg (by omega) (by omega) (by omega))
         | ((try dsimp only [bkaSpec, bkrSpec, balSpec, Ty.T, Ty.dflt, KT.T, getM, putM, delM, inI64, maxRow]); simp only [decide_eq_true_eq, decide_eq_false_iff_not, Bool.not_eq_true', Bool.not_eq_false', Bool.not_eq_true, Bool.not_eq_false, Bool.not_true, Bool.not_false, ne_eq, Bool.false_eq_true, Bool.true_eq_false, reduceCtorEq, beq_iff_eq, beq_eq_false_iff_ne, not_true_eq_false, not_false_eq_true, pair_eta, map_idL, natCast_eq, inI64, maxRow]; first | done | with_reducible assumption | omega)
         | exact map_pair_id _
         | ((try dsimp only [bkaSpec, bkrSpec, balSpec, Ty.T, Ty.dflt, KT.T, getM, putM, delM, inI64, maxRow]) <;> (try simp only [natCast_eq]) <;> omega)
         | ((try dsimp only [bkaSpec, bkrSpec, balSpec, Ty.T, Ty.dflt, KT.T, getM, putM, delM, inI64, maxRow] at *) <;> (try simp only [natCast_eq] at *) <;> omega)
         | ((try dsimp only [bkaSpec, bkrSpec, balSpec, Ty.T, Ty.dflt, KT.T, getM, putM, delM, inI64, maxRow] at *) <;> (try simp only [List.length_append, List.length_cons, List.length_nil, List.length_replicate, List.length_take, List.length_drop, natCast_eq] at *) <;> omega)
         | assumption
         | (symm; assumption)
         | (dsimp only; simp only [Bool.or_true, Bool.true_or, Bool.or_false, Bool.false_or, Bool.and_true, Bool.true_and, Bool.and_false, Bool.false_and, Bool.not_true, Bool.not_false, *]; done)
         | (simp; done)
         | (and_intros <;> first | trivial | with_reducible assumption | omega)
         | ((try dsimp only [bkaSpec, bkrSpec, balSpec, Ty.T, Ty.dflt, KT.T, getM, putM, delM, inI64, maxRow] at *) <;> simp [*] <;> done))
    | skip
  obtain ⟨S, hS⟩ : ∃ S, bookAll L = S := ⟨_, rfl⟩
  obtain ⟨T, hT⟩ : ∃ T, bookAll (S.ents.filter (isC cn)) = T := ⟨_, rfl⟩
  have hok : OkB S := hS ▸ okB_all L
  have hTe : T.ents = S.ents.filter (isC cn) := by rw [← hT, ← hS]; exact own_book L cn
  have hbal : ∀ {a : Int}, 0 ≤ a → a < 5 → (balF S cn a).1 = (balF T cn a).1 := fun h0 h5 => by rw [← hT, ← hS]; exact apt_bal h0 h5
  have hln := hok.len
  obtain ⟨x0, hx0, hx1⟩ : ∃ x : LO S.ents cn, x.i = 0 ∧ x.o = [] := ⟨⟨0, [], Int.le_refl _, by omega, rfl⟩, rfl, rfl⟩
  refine ⟨⟨LO S.ents cn, fun x => ⟨[(1, Sx.one (.int .i64 (fun _ => cn))), (5, Sx.one (.ptr 0 0)), (6, Sx.one (.ro fvE (fun _ => S.ents))), (7, Sx.one (.hd 1 0)), (23, Sx.one (.ro fvE (fun _ => S.ents))), (24, Sx.one (.int .i64 (fun _ => S.ents.length))), (25, Sx.one (.int .i64 (fun _ => x.i)))], [.abs (.led (fun _ => S)), .row 28 fvE 0 (fun _ => x.o)]⟩, fun x => (S.ents.length - x.i).toNat, x0⟩, ?_, fun (x : LO S.ents cn) => ?_⟩
  · (try (conv in (LoopInv.inv _ _) => dsimp only)); (try (conv in (SS.mk _ _) => cbv; (try dsimp only [bkaSpec, bkrSpec, balSpec, Ty.T, Ty.dflt, KT.T]); (try simp only [natCast_eq])))
    (with_reducible refine (?_ : T1 _ ?_) ?_; rotate_left 1; (conv => lhs; cbv; (try cbv); (try cbv)); intro hT; clear hT; with_reducible refine Sh.mk (by kernel_rfl) ?_)
    repeat' (first
      | with_reducible refine Ck.mk (C := tt) tt_intro ?_
      | with_reducible refine Ck.mk (show drawOk _ _ = true by kernel_rfl) ?_
      | with_reducible refine Ck.all_cons ?_
      | with_reducible refine Ck.all_nil ?_
      | with_reducible refine Ck.mk (by assumption) ?_
      | with_reducible refine Ck.mk (decide_eq_true (by assumption)) ?_
      | with_reducible refine Ck.mk (decide_eq_false (by assumption)) ?_
      | with_reducible refine Ck.mk ?_ ?_
      | (with_reducible refine Both.mk (fun h => ?_) (fun h => ?_) <;> (have hk := h) <;> (try simp only [decide_eq_true_eq, decide_eq_false_iff_not, Bool.not_eq_true', Bool.not_eq_false', Bool.not_eq_true, Bool.not_eq_false, Bool.not_true, Bool.not_false, ne_eq, Bool.false_eq_true, Bool.true_eq_false, reduceCtorEq, beq_iff_eq, beq_eq_false_iff_ne, not_true_eq_false, not_false_eq_true, pair_eta, map_idL] at h) <;> (try dsimp only [bkaSpec, bkrSpec, balSpec, Ty.T, Ty.dflt, KT.T, getM, putM, delM] at h) <;> (try simp only [natCast_eq] at h) <;> (try (refine Exists.elim (x.step h) ?_; rintro e ⟨y, e1, hy0, hy1, hy2⟩)) <;> (try (have hD := x.done h)) <;> (try (have hB := hbal z.lo h)) <;> (try simp only [pair_eta, map_idL, e1] at h) <;> (try simp only [pair_eta, map_idL, hD, hT, hTe, not_true_eq_false] at h) <;> (try simp only [hB, not_true_eq_false] at h) <;> (try first | rw [if_pos h] at hr | rw [if_neg h] at hr | rw [ifF h] at hr | rw [ifN h] at hr) <;> (try (have hb : (_ : Bool) = _ := h; clear h; subst hb; (try first | rw [if_pos rfl] at hr | rw [if_neg Bool.false_ne_true] at hr))) <;> first | (exfalso; omega) | exact absurd (h.symm.trans (by assumption) : true = false) Bool.noConfusion | exact absurd (h.symm.trans (by assumption) : false = true) Bool.noConfusion | (with_reducible refine (?_ : T1 _ ?_) ?_; rotate_left 1; (conv => lhs; cbv; (try cbv); (try cbv)); intro hT; clear hT; with_reducible refine Sh.mk (by kernel_rfl) ?_))
      | (with_reducible refine Alt.mk (fun h => ?_) (fun h => ?_) <;> (have hk := h) <;> (try simp only [decide_eq_true_eq, decide_eq_false_iff_not, Bool.not_eq_true', Bool.not_eq_false', Bool.not_eq_true, Bool.not_eq_false, Bool.not_true, Bool.not_false, ne_eq, Bool.false_eq_true, Bool.true_eq_false, reduceCtorEq, beq_iff_eq, beq_eq_false_iff_ne, not_true_eq_false, not_false_eq_true, pair_eta, map_idL] at h) <;> (try dsimp only [bkaSpec, bkrSpec, balSpec, Ty.T, Ty.dflt, KT.T, getM, putM, delM] at h) <;> (try simp only [natCast_eq] at h) <;> (try (refine Exists.elim (x.step h) ?_; rintro e ⟨y, e1, hy0, hy1, hy2⟩)) <;> (try (have hD := x.done h)) <;> (try (have hB := hbal z.lo h)) <;> (try simp only [pair_eta, map_idL, e1] at h) <;> (try simp only [pair_eta, map_idL, hD, hT, hTe, not_true_eq_false] at h) <;> (try simp only [hB, not_true_eq_false] at h) <;> (try first | rw [if_pos h] at hr | rw [if_neg h] at hr | rw [ifF h] at hr | rw [ifN h] at hr) <;> (try (have hb : (_ : Bool) = _ := h; clear h; subst hb; (try first | rw [if_pos rfl] at hr | rw [if_neg Bool.false_ne_true] at hr))) <;> first | (exfalso; omega) | exact absurd (h.symm.trans (by assumption) : true = false) Bool.noConfusion | exact absurd (h.symm.trans (by assumption) : false = true) Bool.noConfusion | (with_reducible refine (?_ : T1 _ ?_) ?_; rotate_left 1; (conv => lhs; cbv; (try cbv); (try cbv)); intro hT; clear hT; with_reducible refine Sh.mk (by kernel_rfl) ?_))
      | (with_reducible refine Pick.mk (fun h => ?_) (fun l1 x l2 h => ?_) <;> (with_reducible refine (?_ : T1 _ ?_) ?_; rotate_left 1; (conv => lhs; cbv; (try cbv); (try cbv)); intro hT; clear hT; with_reducible refine Sh.mk (by kernel_rfl) ?_))
      | ((with_reducible refine End.mk ?_); skip)
      | with_reducible exact True.intro)
    all_goals first
      | (fail_if_success (with_reducible refine Exists.intro ?_ ?_)
         first
           | with_reducible rfl
           | with_reducible assumption
           | (dsimp only [bkaSpec, bkrSpec, balSpec, Ty.T, Ty.dflt, KT.T, getM, putM, delM, inI64, maxRow]; done)
           | (symm; with_reducible assumption)
           | (dsimp only [bkaSpec, bkrSpec, balSpec, Ty.T, Ty.dflt, KT.T, getM, putM, delM, inI64, maxRow]; first | with_reducible rfl | with_reducible assumption | (symm; with_reducible assumption) | (simp only [natCast_eq]; with_reducible rfl) | omega)
           | omega
           | (dsimp only [bkaSpec, bkrSpec, balSpec, Ty.T, Ty.dflt, KT.T, getM, putM, delM, inI64, maxRow]; (try simp only [natCast_eq, List.nil_append]); first | with_reducible rfl | exact take_cg (by omega) | exact drop_cg (by omega) | exact take_drop_cg (by omega) (by omega) | exact take_all (by omega) | exact take_drop_all (by omega) (by omega) | exact drop_take_cg (by omega) (by omega) (by omega))
           | first | exact hx0.symm | exact hx1.symm | (rw [hx1]; done) | ((try dsimp only [bkaSpec, bkrSpec, balSpec, Ty.T, Ty.dflt, KT.T]); simp only [pair_eta, map_idL, hS]; done)
           | ((try dsimp only [bkaSpec, bkrSpec, balSpec, Ty.T, Ty.dflt, KT.T, getM, putM, delM, inI64, maxRow]); simp only [decide_eq_true_eq, decide_eq_false_iff_not, Bool.not_eq_true', Bool.not_eq_false', Bool.not_eq_true, Bool.not_eq_false, Bool.not_true, Bool.not_false, ne_eq, Bool.false_eq_true, Bool.true_eq_false, reduceCtorEq, beq_iff_eq, beq_eq_false_iff_ne, not_true_eq_false, not_false_eq_true, pair_eta, map_idL, natCast_eq, inI64, maxRow]; first | done | with_reducible assumption | omega)
           | exact map_pair_id _
           | ((try dsimp only [bkaSpec, bkrSpec, balSpec, Ty.T, Ty.dflt, KT.T, getM, putM, delM, inI64, maxRow]) <;> (try simp only [natCast_eq]) <;> omega)
           | ((try dsimp only [bkaSpec, bkrSpec, balSpec, Ty.T, Ty.dflt, KT.T, getM, putM, delM, inI64, maxRow] at *) <;> (try simp only [natCast_eq] at *) <;> omega)
           | ((try dsimp only [bkaSpec, bkrSpec, balSpec, Ty.T, Ty.dflt, KT.T, getM, putM, delM, inI64, maxRow] at *) <;> (try simp only [List.length_append, List.length_cons, List.length_nil, List.length_replicate, List.length_take, List.length_drop, natCast_eq] at *) <;> omega)
           | assumption
           | (symm; assumption)
           | (dsimp only; simp only [Bool.or_true, Bool.true_or, Bool.or_false, Bool.false_or, Bool.and_true, Bool.true_and, Bool.and_false, Bool.false_and, Bool.not_true, Bool.not_false, *]; done)
           | (simp; done)
           | (and_intros <;> first | trivial | with_reducible assumption | omega)
           | ((try dsimp only [bkaSpec, bkrSpec, balSpec, Ty.T, Ty.dflt, KT.T, getM, putM, delM, inI64, maxRow] at *) <;> simp [*] <;> done))
      | skip
  have hlo := x.lo
  have hhi := x.hi
  have hle := x.len
  (try (conv in (LoopInv.inv _ _) => dsimp only)); (try (conv in (SS.mk _ _) => cbv; (try dsimp only [bkaSpec, bkrSpec, balSpec, Ty.T, Ty.dflt, KT.T]); (try simp only [natCast_eq])))
  (with_reducible refine (?_ : T1 _ ?_) ?_; rotate_left 1; (conv => lhs; cbv; (try cbv); (try cbv)); intro hT; clear hT; with_reducible refine Sh.mk (by kernel_rfl) ?_)
  repeat' (first
    | with_reducible refine Ck.mk (C := tt) tt_intro ?_
    | with_reducible refine Ck.mk (show drawOk _ _ = true by kernel_rfl) ?_
    | with_reducible refine Ck.all_cons ?_
    | with_reducible refine Ck.all_nil ?_
    | with_reducible refine Ck.mk (by assumption) ?_
    | with_reducible refine Ck.mk (decide_eq_true (by assumption)) ?_
    | with_reducible refine Ck.mk (decide_eq_false (by assumption)) ?_
    | with_reducible refine Ck.mk ?_ ?_
    | (with_reducible refine Both.mk (fun h => ?_) (fun h => ?_) <;> (have hk := h) <;> (try simp only [decide_eq_true_eq, decide_eq_false_iff_not, Bool.not_eq_true', Bool.not_eq_false', Bool.not_eq_true, Bool.not_eq_false, Bool.not_true, Bool.not_false, ne_eq, Bool.false_eq_true, Bool.true_eq_false, reduceCtorEq, beq_iff_eq, beq_eq_false_iff_ne, not_true_eq_false, not_false_eq_true, pair_eta, map_idL] at h) <;> (try dsimp only [bkaSpec, bkrSpec, balSpec, Ty.T, Ty.dflt, KT.T, getM, putM, delM] at h) <;> (try simp only [natCast_eq] at h) <;> (try (refine Exists.elim (x.step h) ?_; rintro e ⟨y, e1, hy0, hy1, hy2⟩)) <;> (try (have hD := x.done h)) <;> (try (have hB := hbal z.lo h)) <;> (try simp only [pair_eta, map_idL, e1] at h) <;> (try simp only [pair_eta, map_idL, hD, hT, hTe, not_true_eq_false] at h) <;> (try simp only [hB, not_true_eq_false] at h) <;> (try first | rw [if_pos h] at hr | rw [if_neg h] at hr | rw [ifF h] at hr | rw [ifN h] at hr) <;> (try (have hb : (_ : Bool) = _ := h; clear h; subst hb; (try first | rw [if_pos rfl] at hr | rw [if_neg Bool.false_ne_true] at hr))) <;> first | (exfalso; omega) | exact absurd (h.symm.trans (by assumption) : true = false) Bool.noConfusion | exact absurd (h.symm.trans (by assumption) : false = true) Bool.noConfusion | (with_reducible refine (?_ : T1 _ ?_) ?_; rotate_left 1; (conv => lhs; cbv; (try cbv); (try cbv)); intro hT; clear hT; with_reducible refine Sh.mk (by kernel_rfl) ?_))
    | (with_reducible refine Alt.mk (fun h => ?_) (fun h => ?_) <;> (have hk := h) <;> (try simp only [decide_eq_true_eq, decide_eq_false_iff_not, Bool.not_eq_true', Bool.not_eq_false', Bool.not_eq_true, Bool.not_eq_false, Bool.not_true, Bool.not_false, ne_eq, Bool.false_eq_true, Bool.true_eq_false, reduceCtorEq, beq_iff_eq, beq_eq_false_iff_ne, not_true_eq_false, not_false_eq_true, pair_eta, map_idL] at h) <;> (try dsimp only [bkaSpec, bkrSpec, balSpec, Ty.T, Ty.dflt, KT.T, getM, putM, delM] at h) <;> (try simp only [natCast_eq] at h) <;> (try (refine Exists.elim (x.step h) ?_; rintro e ⟨y, e1, hy0, hy1, hy2⟩)) <;> (try (have hD := x.done h)) <;> (try (have hB := hbal z.lo h)) <;> (try simp only [pair_eta, map_idL, e1] at h) <;> (try simp only [pair_eta, map_idL, hD, hT, hTe, not_true_eq_false] at h) <;> (try simp only [hB, not_true_eq_false] at h) <;> (try first | rw [if_pos h] at hr | rw [if_neg h] at hr | rw [ifF h] at hr | rw [ifN h] at hr) <;> (try (have hb : (_ : Bool) = _ := h; clear h; subst hb; (try first | rw [if_pos rfl] at hr | rw [if_neg Bool.false_ne_true] at hr))) <;> first | (exfalso; omega) | exact absurd (h.symm.trans (by assumption) : true = false) Bool.noConfusion | exact absurd (h.symm.trans (by assumption) : false = true) Bool.noConfusion | (with_reducible refine (?_ : T1 _ ?_) ?_; rotate_left 1; (conv => lhs; cbv; (try cbv); (try cbv)); intro hT; clear hT; with_reducible refine Sh.mk (by kernel_rfl) ?_))
    | (with_reducible refine Pick.mk (fun h => ?_) (fun l1 x l2 h => ?_) <;> (with_reducible refine (?_ : T1 _ ?_) ?_; rotate_left 1; (conv => lhs; cbv; (try cbv); (try cbv)); intro hT; clear hT; with_reducible refine Sh.mk (by kernel_rfl) ?_))
    | ((with_reducible refine End.mk ?_); skip)
    | with_reducible exact True.intro)
  all_goals first
    | (fail_if_success (with_reducible refine Exists.intro ?_ ?_)
       first
         | with_reducible rfl
         | with_reducible assumption
         | (dsimp only [bkaSpec, bkrSpec, balSpec, Ty.T, Ty.dflt, KT.T, getM, putM, delM, inI64, maxRow]; done)
         | (symm; with_reducible assumption)
         | (dsimp only [bkaSpec, bkrSpec, balSpec, Ty.T, Ty.dflt, KT.T, getM, putM, delM, inI64, maxRow]; first | with_reducible rfl | with_reducible assumption | (symm; with_reducible assumption) | (simp only [natCast_eq]; with_reducible rfl) | omega)
         | omega
         | (dsimp only [bkaSpec, bkrSpec, balSpec, Ty.T, Ty.dflt, KT.T, getM, putM, delM, inI64, maxRow]; (try simp only [natCast_eq, List.nil_append]); first | with_reducible rfl | exact take_cg (by omega) | exact drop_cg (by omega) | exact take_drop_cg (by omega) (by omega) | exact take_all (by omega) | exact take_drop_all (by omega) (by omega) | exact drop_take_cg (by omega) (by omega) (by omega))
         | first | (dsimp only; simp only [List.length_map, List.length_cons, List.length_nil, maxRow]; omega) | exact congrArg Prod.fst hr
         | ((try dsimp only [bkaSpec, bkrSpec, balSpec, Ty.T, Ty.dflt, KT.T, getM, putM, delM, inI64, maxRow]); simp only [decide_eq_true_eq, decide_eq_false_iff_not, Bool.not_eq_true', Bool.not_eq_false', Bool.not_eq_true, Bool.not_eq_false, Bool.not_true, Bool.not_false, ne_eq, Bool.false_eq_true, Bool.true_eq_false, reduceCtorEq, beq_iff_eq, beq_eq_false_iff_ne, not_true_eq_false, not_false_eq_true, pair_eta, map_idL, natCast_eq, inI64, maxRow]; first | done | with_reducible assumption | omega)
         | exact map_pair_id _
         | ((try dsimp only [bkaSpec, bkrSpec, balSpec, Ty.T, Ty.dflt, KT.T, getM, putM, delM, inI64, maxRow]) <;> (try simp only [natCast_eq]) <;> omega)
         | ((try dsimp only [bkaSpec, bkrSpec, balSpec, Ty.T, Ty.dflt, KT.T, getM, putM, delM, inI64, maxRow] at *) <;> (try simp only [natCast_eq] at *) <;> omega)
         | ((try dsimp only [bkaSpec, bkrSpec, balSpec, Ty.T, Ty.dflt, KT.T, getM, putM, delM, inI64, maxRow] at *) <;> (try simp only [List.length_append, List.length_cons, List.length_nil, List.length_replicate, List.length_take, List.length_drop, natCast_eq] at *) <;> omega)
         | assumption
         | (symm; assumption)
         | (dsimp only; simp only [Bool.or_true, Bool.true_or, Bool.or_false, Bool.false_or, Bool.and_true, Bool.true_and, Bool.and_false, Bool.false_and, Bool.not_true, Bool.not_false, *]; done)
         | (simp; done)
         | (and_intros <;> first | trivial | with_reducible assumption | omega)
         | ((try dsimp only [bkaSpec, bkrSpec, balSpec, Ty.T, Ty.dflt, KT.T, getM, putM, delM, inI64, maxRow] at *) <;> simp [*] <;> done))
    | skip
  all_goals
    (first
      | (refine ⟨y, by (try dsimp only); (try simp only [natCast_eq]); omega, ?_⟩
         (try (conv in (LoopInv.inv _ _) => dsimp only)); (try (conv in (SS.mk _ _) => cbv; (try dsimp only [bkaSpec, bkrSpec, balSpec, Ty.T, Ty.dflt, KT.T]); (try simp only [natCast_eq])))
         (with_reducible refine (?_ : T1 _ ?_) ?_; rotate_left 1; (conv => lhs; cbv; (try cbv); (try cbv)); intro hT; clear hT; with_reducible refine Sh.mk (by kernel_rfl) ?_)
         repeat' (first
           | with_reducible refine Ck.mk (C := tt) tt_intro ?_
           | with_reducible refine Ck.mk (show drawOk _ _ = true by kernel_rfl) ?_
           | with_reducible refine Ck.all_cons ?_
           | with_reducible refine Ck.all_nil ?_
           | with_reducible refine Ck.mk (by assumption) ?_
           | with_reducible refine Ck.mk (decide_eq_true (by assumption)) ?_
           | with_reducible refine Ck.mk (decide_eq_false (by assumption)) ?_
           | with_reducible refine Ck.mk ?_ ?_
           | (with_reducible refine Both.mk (fun h => ?_) (fun h => ?_) <;> (have hk := h) <;> (try simp only [decide_eq_true_eq, decide_eq_false_iff_not, Bool.not_eq_true', Bool.not_eq_false', Bool.not_eq_true, Bool.not_eq_false, Bool.not_true, Bool.not_false, ne_eq, Bool.false_eq_true, Bool.true_eq_false, reduceCtorEq, beq_iff_eq, beq_eq_false_iff_ne, not_true_eq_false, not_false_eq_true, pair_eta, map_idL] at h) <;> (try dsimp only [bkaSpec, bkrSpec, balSpec, Ty.T, Ty.dflt, KT.T, getM, putM, delM] at h) <;> (try simp only [natCast_eq] at h) <;> (try (refine Exists.elim (x.step h) ?_; rintro e ⟨y, e1, hy0, hy1, hy2⟩)) <;> (try (have hD := x.done h)) <;> (try (have hB := hbal z.lo h)) <;> (try simp only [pair_eta, map_idL, e1] at h) <;> (try simp only [pair_eta, map_idL, hD, hT, hTe, not_true_eq_false] at h) <;> (try simp only [hB, not_true_eq_false] at h) <;> (try first | rw [if_pos h] at hr | rw [if_neg h] at hr | rw [ifF h] at hr | rw [ifN h] at hr) <;> (try (have hb : (_ : Bool) = _ := h; clear h; subst hb; (try first | rw [if_pos rfl] at hr | rw [if_neg Bool.false_ne_true] at hr))) <;> first | (exfalso; omega) | exact absurd (h.symm.trans (by assumption) : true = false) Bool.noConfusion | exact absurd (h.symm.trans (by assumption) : false = true) Bool.noConfusion | (with_reducible refine (?_ : T1 _ ?_) ?_; rotate_left 1; (conv => lhs; cbv; (try cbv); (try cbv)); intro hT; clear hT; with_reducible refine Sh.mk (by kernel_rfl) ?_))
           | (with_reducible refine Alt.mk (fun h => ?_) (fun h => ?_) <;> (have hk := h) <;> (try simp only [decide_eq_true_eq, decide_eq_false_iff_not, Bool.not_eq_true', Bool.not_eq_false', Bool.not_eq_true, Bool.not_eq_false, Bool.not_true, Bool.not_false, ne_eq, Bool.false_eq_true, Bool.true_eq_false, reduceCtorEq, beq_iff_eq, beq_eq_false_iff_ne, not_true_eq_false, not_false_eq_true, pair_eta, map_idL] at h) <;> (try dsimp only [bkaSpec, bkrSpec, balSpec, Ty.T, Ty.dflt, KT.T, getM, putM, delM] at h) <;> (try simp only [natCast_eq] at h) <;> (try (refine Exists.elim (x.step h) ?_; rintro e ⟨y, e1, hy0, hy1, hy2⟩)) <;> (try (have hD := x.done h)) <;> (try (have hB := hbal z.lo h)) <;> (try simp only [pair_eta, map_idL, e1] at h) <;> (try simp only [pair_eta, map_idL, hD, hT, hTe, not_true_eq_false] at h) <;> (try simp only [hB, not_true_eq_false] at h) <;> (try first | rw [if_pos h] at hr | rw [if_neg h] at hr | rw [ifF h] at hr | rw [ifN h] at hr) <;> (try (have hb : (_ : Bool) = _ := h; clear h; subst hb; (try first | rw [if_pos rfl] at hr | rw [if_neg Bool.false_ne_true] at hr))) <;> first | (exfalso; omega) | exact absurd (h.symm.trans (by assumption) : true = false) Bool.noConfusion | exact absurd (h.symm.trans (by assumption) : false = true) Bool.noConfusion | (with_reducible refine (?_ : T1 _ ?_) ?_; rotate_left 1; (conv => lhs; cbv; (try cbv); (try cbv)); intro hT; clear hT; with_reducible refine Sh.mk (by kernel_rfl) ?_))
           | (with_reducible refine Pick.mk (fun h => ?_) (fun l1 x l2 h => ?_) <;> (with_reducible refine (?_ : T1 _ ?_) ?_; rotate_left 1; (conv => lhs; cbv; (try cbv); (try cbv)); intro hT; clear hT; with_reducible refine Sh.mk (by kernel_rfl) ?_))
           | ((with_reducible refine End.mk ?_); skip)
           | with_reducible exact True.intro)
         all_goals first
           | (fail_if_success (with_reducible refine Exists.intro ?_ ?_)
              first
                | with_reducible rfl
                | with_reducible assumption
                | (dsimp only [bkaSpec, bkrSpec, balSpec, Ty.T, Ty.dflt, KT.T, getM, putM, delM, inI64, maxRow]; done)
                | (symm; with_reducible assumption)
                | (dsimp only [bkaSpec, bkrSpec, balSpec, Ty.T, Ty.dflt, KT.T, getM, putM, delM, inI64, maxRow]; first | with_reducible rfl | with_reducible assumption | (symm; with_reducible assumption) | (simp only [natCast_eq]; with_reducible rfl) | omega)
                | omega
                | (dsimp only [bkaSpec, bkrSpec, balSpec, Ty.T, Ty.dflt, KT.T, getM, putM, delM, inI64, maxRow]; (try simp only [natCast_eq, List.nil_append]); first | with_reducible rfl | exact take_cg (by omega) | exact drop_cg (by omega) | exact take_drop_cg (by omega) (by omega) | exact take_all (by omega) | exact take_drop_all (by omega) (by omega) | exact drop_take_cg (by omega) (by omega) (by omega))
                | first | exact hy0.symm | ((try dsimp only [bkaSpec, bkrSpec, balSpec, Ty.T, Ty.dflt, KT.T]); (try simp only [pair_eta, map_idL, e1]); exact (hy1 (by assumption)).symm) | ((try dsimp only [bkaSpec, bkrSpec, balSpec, Ty.T, Ty.dflt, KT.T]); (try simp only [pair_eta, map_idL, e1]); exact (hy2 (by assumption)).symm)
                | ((try dsimp only [bkaSpec, bkrSpec, balSpec, Ty.T, Ty.dflt, KT.T, getM, putM, delM, inI64, maxRow]); simp only [decide_eq_true_eq, decide_eq_false_iff_not, Bool.not_eq_true', Bool.not_eq_false', Bool.not_eq_true, Bool.not_eq_false, Bool.not_true, Bool.not_false, ne_eq, Bool.false_eq_true, Bool.true_eq_false, reduceCtorEq, beq_iff_eq, beq_eq_false_iff_ne, not_true_eq_false, not_false_eq_true, pair_eta, map_idL, natCast_eq, inI64, maxRow]; first | done | with_reducible assumption | omega)
                | exact map_pair_id _
                | ((try dsimp only [bkaSpec, bkrSpec, balSpec, Ty.T, Ty.dflt, KT.T, getM, putM, delM, inI64, maxRow]) <;> (try simp only [natCast_eq]) <;> omega)
                | ((try dsimp only [bkaSpec, bkrSpec, balSpec, Ty.T, Ty.dflt, KT.T, getM, putM, delM, inI64, maxRow] at *) <;> (try simp only [natCast_eq] at *) <;> omega)
                | ((try dsimp only [bkaSpec, bkrSpec, balSpec, Ty.T, Ty.dflt, KT.T, getM, putM, delM, inI64, maxRow] at *) <;> (try simp only [List.length_append, List.length_cons, List.length_nil, List.length_replicate, List.length_take, List.length_drop, natCast_eq] at *) <;> omega)
                | assumption
                | (symm; assumption)
                | (dsimp only; simp only [Bool.or_true, Bool.true_or, Bool.or_false, Bool.false_or, Bool.and_true, Bool.true_and, Bool.and_false, Bool.false_and, Bool.not_true, Bool.not_false, *]; done)
                | (simp; done)
                | (and_intros <;> first | trivial | with_reducible assumption | omega)
                | ((try dsimp only [bkaSpec, bkrSpec, balSpec, Ty.T, Ty.dflt, KT.T, getM, putM, delM, inI64, maxRow] at *) <;> simp [*] <;> done))
           | skip
         skip)
      | skip)
  all_goals try (with_reducible exact congrArg Prod.fst hr)
  all_goals
    (obtain ⟨z0, hz0⟩ := ix0 (n := 5) (by omega)
     dsimp only
     refine ⟨⟨Ix 5, fun z => ⟨[(1, Sx.one (.int .i64 (fun _ => cn))), (5, Sx.one (.ptr 0 0)), (10, Sx.one (.ptr 2 0)), (48, Sx.one (.int .i64 (fun _ => z.i)))], [.abs (.led (fun _ => S)), .gone, .abs (.led (fun _ => T))]⟩, fun z => (5 - z.i).toNat, z0⟩, ?_, fun (z : Ix 5) => ?_⟩
     · (try (conv in (LoopInv.inv _ _) => dsimp only)); (try (conv in (SS.mk _ _) => cbv; (try dsimp only [bkaSpec, bkrSpec, balSpec, Ty.T, Ty.dflt, KT.T]); (try simp only [natCast_eq])))
       (with_reducible refine (?_ : T1 _ ?_) ?_; rotate_left 1; (conv => lhs; cbv; (try cbv); (try cbv)); intro hT; clear hT; with_reducible refine Sh.mk (by kernel_rfl) ?_)
       repeat' (first
         | with_reducible refine Ck.mk (C := tt) tt_intro ?_
         | with_reducible refine Ck.mk (show drawOk _ _ = true by kernel_rfl) ?_
         | with_reducible refine Ck.all_cons ?_
         | with_reducible refine Ck.all_nil ?_
         | with_reducible refine Ck.mk (by assumption) ?_
         | with_reducible refine Ck.mk (decide_eq_true (by assumption)) ?_
         | with_reducible refine Ck.mk (decide_eq_false (by assumption)) ?_
         | with_reducible refine Ck.mk ?_ ?_
         | (with_reducible refine Both.mk (fun h => ?_) (fun h => ?_) <;> (have hk := h) <;> (try simp only [decide_eq_true_eq, decide_eq_false_iff_not, Bool.not_eq_true', Bool.not_eq_false', Bool.not_eq_true, Bool.not_eq_false, Bool.not_true, Bool.not_false, ne_eq, Bool.false_eq_true, Bool.true_eq_false, reduceCtorEq, beq_iff_eq, beq_eq_false_iff_ne, not_true_eq_false, not_false_eq_true, pair_eta, map_idL] at h) <;> (try dsimp only [bkaSpec, bkrSpec, balSpec, Ty.T, Ty.dflt, KT.T, getM, putM, delM] at h) <;> (try simp only [natCast_eq] at h) <;> (try (refine Exists.elim (x.step h) ?_; rintro e ⟨y, e1, hy0, hy1, hy2⟩)) <;> (try (have hD := x.done h)) <;> (try (have hB := hbal z.lo h)) <;> (try simp only [pair_eta, map_idL, e1] at h) <;> (try simp only [pair_eta, map_idL, hD, hT, hTe, not_true_eq_false] at h) <;> (try simp only [hB, not_true_eq_false] at h) <;> (try first | rw [if_pos h] at hr | rw [if_neg h] at hr | rw [ifF h] at hr | rw [ifN h] at hr) <;> (try (have hb : (_ : Bool) = _ := h; clear h; subst hb; (try first | rw [if_pos rfl] at hr | rw [if_neg Bool.false_ne_true] at hr))) <;> first | (exfalso; omega) | exact absurd (h.symm.trans (by assumption) : true = false) Bool.noConfusion | exact absurd (h.symm.trans (by assumption) : false = true) Bool.noConfusion | (with_reducible refine (?_ : T1 _ ?_) ?_; rotate_left 1; (conv => lhs; cbv; (try cbv); (try cbv)); intro hT; clear hT; with_reducible refine Sh.mk (by kernel_rfl) ?_))
         | (with_reducible refine Alt.mk (fun h => ?_) (fun h => ?_) <;> (have hk := h) <;> (try simp only [decide_eq_true_eq, decide_eq_false_iff_not, Bool.not_eq_true', Bool.not_eq_false', Bool.not_eq_true, Bool.not_eq_false, Bool.not_true, Bool.not_false, ne_eq, Bool.false_eq_true, Bool.true_eq_false, reduceCtorEq, beq_iff_eq, beq_eq_false_iff_ne, not_true_eq_false, not_false_eq_true, pair_eta, map_idL] at h) <;> (try dsimp only [bkaSpec, bkrSpec, balSpec, Ty.T, Ty.dflt, KT.T, getM, putM, delM] at h) <;> (try simp only [natCast_eq] at h) <;> (try (refine Exists.elim (x.step h) ?_; rintro e ⟨y, e1, hy0, hy1, hy2⟩)) <;> (try (have hD := x.done h)) <;> (try (have hB := hbal z.lo h)) <;> (try simp only [pair_eta, map_idL, e1] at h) <;> (try simp only [pair_eta, map_idL, hD, hT, hTe, not_true_eq_false] at h) <;> (try simp only [hB, not_true_eq_false] at h) <;> (try first | rw [if_pos h] at hr | rw [if_neg h] at hr | rw [ifF h] at hr | rw [ifN h] at hr) <;> (try (have hb : (_ : Bool) = _ := h; clear h; subst hb; (try first | rw [if_pos rfl] at hr | rw [if_neg Bool.false_ne_true] at hr))) <;> first | (exfalso; omega) | exact absurd (h.symm.trans (by assumption) : true = false) Bool.noConfusion | exact absurd (h.symm.trans (by assumption) : false = true) Bool.noConfusion | (with_reducible refine (?_ : T1 _ ?_) ?_; rotate_left 1; (conv => lhs; cbv; (try cbv); (try cbv)); intro hT; clear hT; with_reducible refine Sh.mk (by kernel_rfl) ?_))
         | (with_reducible refine Pick.mk (fun h => ?_) (fun l1 x l2 h => ?_) <;> (with_reducible refine (?_ : T1 _ ?_) ?_; rotate_left 1; (conv => lhs; cbv; (try cbv); (try cbv)); intro hT; clear hT; with_reducible refine Sh.mk (by kernel_rfl) ?_))
         | ((with_reducible refine End.mk ?_); skip)
         | with_reducible exact True.intro)
       all_goals first
         | (fail_if_success (with_reducible refine Exists.intro ?_ ?_)
            first
              | with_reducible rfl
              | with_reducible assumption
              | (dsimp only [bkaSpec, bkrSpec, balSpec, Ty.T, Ty.dflt, KT.T, getM, putM, delM, inI64, maxRow]; done)
              | (symm; with_reducible assumption)
              | (dsimp only [bkaSpec, bkrSpec, balSpec, Ty.T, Ty.dflt, KT.T, getM, putM, delM, inI64, maxRow]; first | with_reducible rfl | with_reducible assumption | (symm; with_reducible assumption) | (simp only [natCast_eq]; with_reducible rfl) | omega)
              | omega
              | (dsimp only [bkaSpec, bkrSpec, balSpec, Ty.T, Ty.dflt, KT.T, getM, putM, delM, inI64, maxRow]; (try simp only [natCast_eq, List.nil_append]); first | with_reducible rfl | exact take_cg (by omega) | exact drop_cg (by omega) | exact take_drop_cg (by omega) (by omega) | exact take_all (by omega) | exact take_drop_all (by omega) (by omega) | exact drop_take_cg (by omega) (by omega) (by omega))
              | first | exact hz0.symm | ((try dsimp only [bkaSpec, bkrSpec, balSpec, Ty.T, Ty.dflt, KT.T]); (try simp only [pair_eta, map_idL, hD, hT]); done)
              | ((try dsimp only [bkaSpec, bkrSpec, balSpec, Ty.T, Ty.dflt, KT.T, getM, putM, delM, inI64, maxRow]); simp only [decide_eq_true_eq, decide_eq_false_iff_not, Bool.not_eq_true', Bool.not_eq_false', Bool.not_eq_true, Bool.not_eq_false, Bool.not_true, Bool.not_false, ne_eq, Bool.false_eq_true, Bool.true_eq_false, reduceCtorEq, beq_iff_eq, beq_eq_false_iff_ne, not_true_eq_false, not_false_eq_true, pair_eta, map_idL, natCast_eq, inI64, maxRow]; first | done | with_reducible assumption | omega)
              | exact map_pair_id _
              | ((try dsimp only [bkaSpec, bkrSpec, balSpec, Ty.T, Ty.dflt, KT.T, getM, putM, delM, inI64, maxRow]) <;> (try simp only [natCast_eq]) <;> omega)
              | ((try dsimp only [bkaSpec, bkrSpec, balSpec, Ty.T, Ty.dflt, KT.T, getM, putM, delM, inI64, maxRow] at *) <;> (try simp only [natCast_eq] at *) <;> omega)
              | ((try dsimp only [bkaSpec, bkrSpec, balSpec, Ty.T, Ty.dflt, KT.T, getM, putM, delM, inI64, maxRow] at *) <;> (try simp only [List.length_append, List.length_cons, List.length_nil, List.length_replicate, List.length_take, List.length_drop, natCast_eq] at *) <;> omega)
              | assumption
              | (symm; assumption)
              | (dsimp only; simp only [Bool.or_true, Bool.true_or, Bool.or_false, Bool.false_or, Bool.and_true, Bool.true_and, Bool.and_false, Bool.false_and, Bool.not_true, Bool.not_false, *]; done)
              | (simp; done)
              | (and_intros <;> first | trivial | with_reducible assumption | omega)
              | ((try dsimp only [bkaSpec, bkrSpec, balSpec, Ty.T, Ty.dflt, KT.T, getM, putM, delM, inI64, maxRow] at *) <;> simp [*] <;> done))
         | skip
     have hzlo := z.lo
     have hzhi := z.hi
     (try (conv in (LoopInv.inv _ _) => dsimp only)); (try (conv in (SS.mk _ _) => cbv; (try dsimp only [bkaSpec, bkrSpec, balSpec, Ty.T, Ty.dflt, KT.T]); (try simp only [natCast_eq])))
     (with_reducible refine (?_ : T1 _ ?_) ?_; rotate_left 1; (conv => lhs; cbv; (try cbv); (try cbv)); intro hT; clear hT; with_reducible refine Sh.mk (by kernel_rfl) ?_)
     repeat' (first
       | with_reducible refine Ck.mk (C := tt) tt_intro ?_
       | with_reducible refine Ck.mk (show drawOk _ _ = true by kernel_rfl) ?_
       | with_reducible refine Ck.all_cons ?_
       | with_reducible refine Ck.all_nil ?_
       | with_reducible refine Ck.mk (by assumption) ?_
       | with_reducible refine Ck.mk (decide_eq_true (by assumption)) ?_
       | with_reducible refine Ck.mk (decide_eq_false (by assumption)) ?_
       | with_reducible refine Ck.mk ?_ ?_
       | (with_reducible refine Both.mk (fun h => ?_) (fun h => ?_) <;> (have hk := h) <;> (try simp only [decide_eq_true_eq, decide_eq_false_iff_not, Bool.not_eq_true', Bool.not_eq_false', Bool.not_eq_true, Bool.not_eq_false, Bool.not_true, Bool.not_false, ne_eq, Bool.false_eq_true, Bool.true_eq_false, reduceCtorEq, beq_iff_eq, beq_eq_false_iff_ne, not_true_eq_false, not_false_eq_true, pair_eta, map_idL] at h) <;> (try dsimp only [bkaSpec, bkrSpec, balSpec, Ty.T, Ty.dflt, KT.T, getM, putM, delM] at h) <;> (try simp only [natCast_eq] at h) <;> (try (refine Exists.elim (x.step h) ?_; rintro e ⟨y, e1, hy0, hy1, hy2⟩)) <;> (try (have hD := x.done h)) <;> (try (have hB := hbal z.lo h)) <;> (try simp only [pair_eta, map_idL, e1] at h) <;> (try simp only [pair_eta, map_idL, hD, hT, hTe, not_true_eq_false] at h) <;> (try simp only [hB, not_true_eq_false] at h) <;> (try first | rw [if_pos h] at hr | rw [if_neg h] at hr | rw [ifF h] at hr | rw [ifN h] at hr) <;> (try (have hb : (_ : Bool) = _ := h; clear h; subst hb; (try first | rw [if_pos rfl] at hr | rw [if_neg Bool.false_ne_true] at hr))) <;> first | (exfalso; omega) | exact absurd (h.symm.trans (by assumption) : true = false) Bool.noConfusion | exact absurd (h.symm.trans (by assumption) : false = true) Bool.noConfusion | (with_reducible refine (?_ : T1 _ ?_) ?_; rotate_left 1; (conv => lhs; cbv; (try cbv); (try cbv)); intro hT; clear hT; with_reducible refine Sh.mk (by kernel_rfl) ?_))
       | (with_reducible refine Alt.mk (fun h => ?_) (fun h => ?_) <;> (have hk := h) <;> (try simp only [decide_eq_true_eq, decide_eq_false_iff_not, Bool.not_eq_true', Bool.not_eq_false', Bool.not_eq_true, Bool.not_eq_false, Bool.not_true, Bool.not_false, ne_eq, Bool.false_eq_true, Bool.true_eq_false, reduceCtorEq, beq_iff_eq, beq_eq_false_iff_ne, not_true_eq_false, not_false_eq_true, pair_eta, map_idL] at h) <;> (try dsimp only [bkaSpec, bkrSpec, balSpec, Ty.T, Ty.dflt, KT.T, getM, putM, delM] at h) <;> (try simp only [natCast_eq] at h) <;> (try (refine Exists.elim (x.step h) ?_; rintro e ⟨y, e1, hy0, hy1, hy2⟩)) <;> (try (have hD := x.done h)) <;> (try (have hB := hbal z.lo h)) <;> (try simp only [pair_eta, map_idL, e1] at h) <;> (try simp only [pair_eta, map_idL, hD, hT, hTe, not_true_eq_false] at h) <;> (try simp only [hB, not_true_eq_false] at h) <;> (try first | rw [if_pos h] at hr | rw [if_neg h] at hr | rw [ifF h] at hr | rw [ifN h] at hr) <;> (try (have hb : (_ : Bool) = _ := h; clear h; subst hb; (try first | rw [if_pos rfl] at hr | rw [if_neg Bool.false_ne_true] at hr))) <;> first | (exfalso; omega) | exact absurd (h.symm.trans (by assumption) : true = false) Bool.noConfusion | exact absurd (h.symm.trans (by assumption) : false = true) Bool.noConfusion | (with_reducible refine (?_ : T1 _ ?_) ?_; rotate_left 1; (conv => lhs; cbv; (try cbv); (try cbv)); intro hT; clear hT; with_reducible refine Sh.mk (by kernel_rfl) ?_))
       | (with_reducible refine Pick.mk (fun h => ?_) (fun l1 x l2 h => ?_) <;> (with_reducible refine (?_ : T1 _ ?_) ?_; rotate_left 1; (conv => lhs; cbv; (try cbv); (try cbv)); intro hT; clear hT; with_reducible refine Sh.mk (by kernel_rfl) ?_))
       | ((with_reducible refine End.mk ?_); skip)
       | with_reducible exact True.intro)
     all_goals first
       | (fail_if_success (with_reducible refine Exists.intro ?_ ?_)
          first
            | with_reducible rfl
            | with_reducible assumption
            | (dsimp only [bkaSpec, bkrSpec, balSpec, Ty.T, Ty.dflt, KT.T, getM, putM, delM, inI64, maxRow]; done)
            | (symm; with_reducible assumption)
            | (dsimp only [bkaSpec, bkrSpec, balSpec, Ty.T, Ty.dflt, KT.T, getM, putM, delM, inI64, maxRow]; first | with_reducible rfl | with_reducible assumption | (symm; with_reducible assumption) | (simp only [natCast_eq]; with_reducible rfl) | omega)
            | omega
            | (dsimp only [bkaSpec, bkrSpec, balSpec, Ty.T, Ty.dflt, KT.T, getM, putM, delM, inI64, maxRow]; (try simp only [natCast_eq, List.nil_append]); first | with_reducible rfl | exact take_cg (by omega) | exact drop_cg (by omega) | exact take_drop_cg (by omega) (by omega) | exact take_all (by omega) | exact take_drop_all (by omega) (by omega) | exact drop_take_cg (by omega) (by omega) (by omega))
            | exact congrArg Prod.fst hr
            | ((try dsimp only [bkaSpec, bkrSpec, balSpec, Ty.T, Ty.dflt, KT.T, getM, putM, delM, inI64, maxRow]); simp only [decide_eq_true_eq, decide_eq_false_iff_not, Bool.not_eq_true', Bool.not_eq_false', Bool.not_eq_true, Bool.not_eq_false, Bool.not_true, Bool.not_false, ne_eq, Bool.false_eq_true, Bool.true_eq_false, reduceCtorEq, beq_iff_eq, beq_eq_false_iff_ne, not_true_eq_false, not_false_eq_true, pair_eta, map_idL, natCast_eq, inI64, maxRow]; first | done | with_reducible assumption | omega)
            | exact map_pair_id _
            | ((try dsimp only [bkaSpec, bkrSpec, balSpec, Ty.T, Ty.dflt, KT.T, getM, putM, delM, inI64, maxRow]) <;> (try simp only [natCast_eq]) <;> omega)
            | ((try dsimp only [bkaSpec, bkrSpec, balSpec, Ty.T, Ty.dflt, KT.T, getM, putM, delM, inI64, maxRow] at *) <;> (try simp only [natCast_eq] at *) <;> omega)
            | ((try dsimp only [bkaSpec, bkrSpec, balSpec, Ty.T, Ty.dflt, KT.T, getM, putM, delM, inI64, maxRow] at *) <;> (try simp only [List.length_append, List.length_cons, List.length_nil, List.length_replicate, List.length_take, List.length_drop, natCast_eq] at *) <;> omega)
            | assumption
            | (symm; assumption)
            | (dsimp only; simp only [Bool.or_true, Bool.true_or, Bool.or_false, Bool.false_or, Bool.and_true, Bool.true_and, Bool.and_false, Bool.false_and, Bool.not_true, Bool.not_false, *]; done)
            | (simp; done)
            | (and_intros <;> first | trivial | with_reducible assumption | omega)
            | ((try dsimp only [bkaSpec, bkrSpec, balSpec, Ty.T, Ty.dflt, KT.T, getM, putM, delM, inI64, maxRow] at *) <;> simp [*] <;> done))
       | skip
     all_goals
       (first
         | (refine Exists.elim (z.next (by assumption)) ?_
            intro y hy
            refine ⟨y, by (try dsimp only); (try simp only [natCast_eq]); omega, ?_⟩
            (try (conv in (LoopInv.inv _ _) => dsimp only)); (try (conv in (SS.mk _ _) => cbv; (try dsimp only [bkaSpec, bkrSpec, balSpec, Ty.T, Ty.dflt, KT.T]); (try simp only [natCast_eq])))
            (with_reducible refine (?_ : T1 _ ?_) ?_; rotate_left 1; (conv => lhs; cbv; (try cbv); (try cbv)); intro hT; clear hT; with_reducible refine Sh.mk (by kernel_rfl) ?_)
            repeat' (first
              | with_reducible refine Ck.mk (C := tt) tt_intro ?_
              | with_reducible refine Ck.mk (show drawOk _ _ = true by kernel_rfl) ?_
              | with_reducible refine Ck.all_cons ?_
              | with_reducible refine Ck.all_nil ?_
              | with_reducible refine Ck.mk (by assumption) ?_
              | with_reducible refine Ck.mk (decide_eq_true (by assumption)) ?_
              | with_reducible refine Ck.mk (decide_eq_false (by assumption)) ?_
              | with_reducible refine Ck.mk ?_ ?_
              | (with_reducible refine Both.mk (fun h => ?_) (fun h => ?_) <;> (have hk := h) <;> (try simp only [decide_eq_true_eq, decide_eq_false_iff_not, Bool.not_eq_true', Bool.not_eq_false', Bool.not_eq_true, Bool.not_eq_false, Bool.not_true, Bool.not_false, ne_eq, Bool.false_eq_true, Bool.true_eq_false, reduceCtorEq, beq_iff_eq, beq_eq_false_iff_ne, not_true_eq_false, not_false_eq_true, pair_eta, map_idL] at h) <;> (try dsimp only [bkaSpec, bkrSpec, balSpec, Ty.T, Ty.dflt, KT.T, getM, putM, delM] at h) <;> (try simp only [natCast_eq] at h) <;> (try (refine Exists.elim (x.step h) ?_; rintro e ⟨y, e1, hy0, hy1, hy2⟩)) <;> (try (have hD := x.done h)) <;> (try (have hB := hbal z.lo h)) <;> (try simp only [pair_eta, map_idL, e1] at h) <;> (try simp only [pair_eta, map_idL, hD, hT, hTe, not_true_eq_false] at h) <;> (try simp only [hB, not_true_eq_false] at h) <;> (try first | rw [if_pos h] at hr | rw [if_neg h] at hr | rw [ifF h] at hr | rw [ifN h] at hr) <;> (try (have hb : (_ : Bool) = _ := h; clear h; subst hb; (try first | rw [if_pos rfl] at hr | rw [if_neg Bool.false_ne_true] at hr))) <;> first | (exfalso; omega) | exact absurd (h.symm.trans (by assumption) : true = false) Bool.noConfusion | exact absurd (h.symm.trans (by assumption) : false = true) Bool.noConfusion | (with_reducible refine (?_ : T1 _ ?_) ?_; rotate_left 1; (conv => lhs; cbv; (try cbv); (try cbv)); intro hT; clear hT; with_reducible refine Sh.mk (by kernel_rfl) ?_))
              | (with_reducible refine Alt.mk (fun h => ?_) (fun h => ?_) <;> (have hk := h) <;> (try simp only [decide_eq_true_eq, decide_eq_false_iff_not, Bool.not_eq_true', Bool.not_eq_false', Bool.not_eq_true, Bool.not_eq_false, Bool.not_true, Bool.not_false, ne_eq, Bool.false_eq_true, Bool.true_eq_false, reduceCtorEq, beq_iff_eq, beq_eq_false_iff_ne, not_true_eq_false, not_false_eq_true, pair_eta, map_idL] at h) <;> (try dsimp only [bkaSpec, bkrSpec, balSpec, Ty.T, Ty.dflt, KT.T, getM, putM, delM] at h) <;> (try simp only [natCast_eq] at h) <;> (try (refine Exists.elim (x.step h) ?_; rintro e ⟨y, e1, hy0, hy1, hy2⟩)) <;> (try (have hD := x.done h)) <;> (try (have hB := hbal z.lo h)) <;> (try simp only [pair_eta, map_idL, e1] at h) <;> (try simp only [pair_eta, map_idL, hD, hT, hTe, not_true_eq_false] at h) <;> (try simp only [hB, not_true_eq_false] at h) <;> (try first | rw [if_pos h] at hr | rw [if_neg h] at hr | rw [ifF h] at hr | rw [ifN h] at hr) <;> (try (have hb : (_ : Bool) = _ := h; clear h; subst hb; (try first | rw [if_pos rfl] at hr | rw [if_neg Bool.false_ne_true] at hr))) <;> first | (exfalso; omega) | exact absurd (h.symm.trans (by assumption) : true = false) Bool.noConfusion | exact absurd (h.symm.trans (by assumption) : false = true) Bool.noConfusion | (with_reducible refine (?_ : T1 _ ?_) ?_; rotate_left 1; (conv => lhs; cbv; (try cbv); (try cbv)); intro hT; clear hT; with_reducible refine Sh.mk (by kernel_rfl) ?_))
              | (with_reducible refine Pick.mk (fun h => ?_) (fun l1 x l2 h => ?_) <;> (with_reducible refine (?_ : T1 _ ?_) ?_; rotate_left 1; (conv => lhs; cbv; (try cbv); (try cbv)); intro hT; clear hT; with_reducible refine Sh.mk (by kernel_rfl) ?_))
              | ((with_reducible refine End.mk ?_); skip)
              | with_reducible exact True.intro)
            all_goals first
              | (fail_if_success (with_reducible refine Exists.intro ?_ ?_)
                 first
                   | with_reducible rfl
                   | with_reducible assumption
                   | (dsimp only [bkaSpec, bkrSpec, balSpec, Ty.T, Ty.dflt, KT.T, getM, putM, delM, inI64, maxRow]; done)
                   | (symm; with_reducible assumption)
                   | (dsimp only [bkaSpec, bkrSpec, balSpec, Ty.T, Ty.dflt, KT.T, getM, putM, delM, inI64, maxRow]; first | with_reducible rfl | with_reducible assumption | (symm; with_reducible assumption) | (simp only [natCast_eq]; with_reducible rfl) | omega)
                   | omega
                   | (dsimp only [bkaSpec, bkrSpec, balSpec, Ty.T, Ty.dflt, KT.T, getM, putM, delM, inI64, maxRow]; (try simp only [natCast_eq, List.nil_append]); first | with_reducible rfl | exact take_cg (by omega) | exact drop_cg (by omega) | exact take_drop_cg (by omega) (by omega) | exact take_all (by omega) | exact take_drop_all (by omega) (by omega) | exact drop_take_cg (by omega) (by omega) (by omega))
                   | first | exact hy.symm
                   | ((try dsimp only [bkaSpec, bkrSpec, balSpec, Ty.T, Ty.dflt, KT.T, getM, putM, delM, inI64, maxRow]); simp only [decide_eq_true_eq, decide_eq_false_iff_not, Bool.not_eq_true', Bool.not_eq_false', Bool.not_eq_true, Bool.not_eq_false, Bool.not_true, Bool.not_false, ne_eq, Bool.false_eq_true, Bool.true_eq_false, reduceCtorEq, beq_iff_eq, beq_eq_false_iff_ne, not_true_eq_false, not_false_eq_true, pair_eta, map_idL, natCast_eq, inI64, maxRow]; first | done | with_reducible assumption | omega)
                   | exact map_pair_id _
                   | ((try dsimp only [bkaSpec, bkrSpec, balSpec, Ty.T, Ty.dflt, KT.T, getM, putM, delM, inI64, maxRow]) <;> (try simp only [natCast_eq]) <;> omega)
                   | ((try dsimp only [bkaSpec, bkrSpec, balSpec, Ty.T, Ty.dflt, KT.T, getM, putM, delM, inI64, maxRow] at *) <;> (try simp only [natCast_eq] at *) <;> omega)
                   | ((try dsimp only [bkaSpec, bkrSpec, balSpec, Ty.T, Ty.dflt, KT.T, getM, putM, delM, inI64, maxRow] at *) <;> (try simp only [List.length_append, List.length_cons, List.length_nil, List.length_replicate, List.length_take, List.length_drop, natCast_eq] at *) <;> omega)
                   | assumption
                   | (symm; assumption)
                   | (dsimp only; simp only [Bool.or_true, Bool.true_or, Bool.or_false, Bool.false_or, Bool.and_true, Bool.true_and, Bool.and_false, Bool.false_and, Bool.not_true, Bool.not_false, *]; done)
                   | (simp; done)
                   | (and_intros <;> first | trivial | with_reducible assumption | omega)
                   | ((try dsimp only [bkaSpec, bkrSpec, balSpec, Ty.T, Ty.dflt, KT.T, getM, putM, delM, inI64, maxRow] at *) <;> simp [*] <;> done))
              | skip
            skip)
         | skip))
theorem apt_sound : ConSound Tryd.prog AI 6 aptSpec.con := PureSpec.sound Tryd.call6 (fun x h => apt_ok x.1 x.2.1 h)
end Go.Proofs.YtfgfcbncnngniaaDoor
