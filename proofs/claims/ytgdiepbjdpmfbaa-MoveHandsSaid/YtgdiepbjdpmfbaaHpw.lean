/-
  Layer 48: MoveHands, the walk.
-/
import Derived.Test.YtgdiepbjdpmfbaaNhn
import Derived.Test.YtgdiepbjdpmfbaaPrt
import Derived.Test.YtgdiepbjdpmfbaaHpx
namespace Go.Proofs.Ytgdiepbjdpmfbaa
set_option linter.all false
set_option linter.unusedVariables false
set_option linter.unusedSimpArgs false
set_option linter.unusedSectionVars false
open Go.RowKit Go.Sx
set_option maxRecDepth 100000
set_option maxHeartbeats 16000000
theorem bytes_of {d : List Int} (h : ∀ x ∈ d, (Ty.int .u8).ok x) : inBytes d := fun x hx => by have := inRange_u8 (h x hx); omega
theorem st_i {k : Int} (h : 0 ≤ k ∧ k ≤ 65535) : inI64 k := by unfold inI64; omega
theorem st_m {k m : Int} (h : 0 ≤ k ∧ k ≤ 65535) (hm : 0 < m) : 0 ≤ k ∧ 0 < m ∧ inI64 k := ⟨h.1, hm, st_i h⟩
theorem u16_at {l : List Int} (hl : ∀ y ∈ l, 0 ≤ y ∧ y ≤ 65535) {i : Int} (h0 : 0 ≤ i) (h : i < (l.length : Int)) : 0 ≤ l.getD i.toNat 0 ∧ l.getD i.toNat 0 ≤ 65535 := by
  have hlt : i.toNat < l.length := by omega
  exact hl (l.getD i.toNat 0) (by rw [List.getD_eq_getElem?_getD, List.getElem?_eq_getElem hlt]; exact List.getElem_mem hlt)
structure LM1 (d : List Int) (n : Nat) where
  i : Int
  M : Mov
  lo : 0 ≤ i
  hi : i ≤ n
  fit : FitM M d 80
  ph : M.ph = .old
  z : rdO M = 0
structure R1 (d : List Int) (n : Nat) (M : Mov) (i k : Int) : Prop where
  pre : OkM M ∧ (partS d k).2.1.length ≤ 1048576
  e : ((rcvM M 0 (partS d k)).1.1 : Int) = 0
  nx : ∃ y : LM1 d n, y.i = i + 1 ∧ y.M = (rcvM M 0 (partS d k)).2
theorem lm1_step {d : List Int} {n : Nat} (hd : inBytes d) (h60 : ¬ 60 < (d.length : Int)) {i : Int} {M : Mov} (h0 : 0 ≤ i) (h : i < (n : Int)) (hf : FitM M d 80) (hp : M.ph = .old) (hz : rdO M = 0) {k : Int} (hk : 0 ≤ k) : R1 d n M i k := by
  have hs := partS_part d hk
  obtain ⟨s1, s2, s3⟩ := m_rcv hf hs (by omega) hd (.inl rfl)
  refine ⟨⟨hf.ok, ?_⟩, ?_, ⟨⟨i + 1, (rcvM M 0 (partS d k)).2, by omega, by omega, s1.f, ?_, s1.o.trans hz⟩, rfl, rfl⟩⟩
  · have h1 := hs.o; have h2 := hs.e; omega
  · rw [s2]
    obtain ⟨mw, ph, a, b⟩ := M
    cases hp; rfl
  · obtain ⟨mw, ph, a, b⟩ := M
    cases hp; rfl
theorem tk_le (d : List Int) (n : Nat) : ((d.take n).length : Int) ≤ d.length := by rw [List.length_take]; omega
theorem tk_eq (d : List Int) (n : Nat) : List.drop (Int.toNat 0) (List.take ((((d.take n).length : Nat) : Int)).toNat d) = d.take n := by
  rw [Int.toNat_natCast, List.length_take]
  show List.take _ d = _
  by_cases h : n ≤ d.length
  · rw [Nat.min_eq_left h]
  · rw [Nat.min_eq_right (by omega), List.take_length, List.take_of_length_le (by omega)]
theorem tk_len {d : List Int} {n : Int} (h0 : 0 ≤ n) (h : n ≤ (d.length : Int)) : n = ((d.take n.toNat).length : Int) := by rw [List.length_take]; omega
abbrev hM1 (M : Mov) (m : Int) : Mov := (readM M m).2
abbrev hM2 (M : Mov) (m : Int) : Mov := (startM (readM M m).2).2
abbrev hRd (M : Mov) (m : Int) : List Int := (readM M m).1.1
abbrev hAt (M : Mov) (m : Int) : Int := (startM (readM M m).2).1.1
abbrev hL2 (M : Mov) (m : Int) : List Seg := handL (startM (readM M m).2).2.a
abbrev hL3 (M : Mov) (m : Int) : List Seg := handL (hnnN (startM (readM M m).2).2).a
abbrev hM4 (M : Mov) (m : Int) : Mov := hnnN (hnnN (startM (readM M m).2).2)
abbrev hRe (M : Mov) (m : Int) : List Int := (readM (hM4 M m) 1000).1.1
structure HdF (d : List Int) (M : Mov) (m : Int) : Prop where
  ok0 : OkM M
  pS : OkM (hM1 M m) ∧ ((hM1 M m).ph = .old → (hM1 M m).a.off ≤ 1099511627776)
  se : ((startM (readM M m).2).1.2.1 : Int) = 0
  at_ : hAt M m = ((hRd M m).length : Int)
  pH1 : OkM (hM2 M m) ∧ (hM2 M m).ph = .drain ∧ (hM2 M m).a.off + (hM2 M m).win ≤ 1099511627776 ∧ ((hM2 M m).a.known = true → (hM2 M m).a.fin ≤ 1099512676352)
  pH2 : OkM (hnnN (hM2 M m)) ∧ (hnnN (hM2 M m)).ph = .drain ∧ (hnnN (hM2 M m)).a.off + (hnnN (hM2 M m)).win ≤ 1099511627776 ∧ ((hnnN (hM2 M m)).a.known = true → (hnnN (hM2 M m)).a.fin ≤ 1099512676352)
  n2 : (hL2 M m).length ≤ 1099511627776
  n3 : (hL3 M m).length ≤ 1099511627776
  hs : HsL d (hAt M m) (-1) (hL2 M m)
  y : ∀ s ∈ hL3 M m, s.2.1 = []
  ok4 : OkM (hM4 M m)
  al : (hRd M m).length + (hRe M m).length ≤ 1099511627776
  ab : inBytes (hRd M m ++ hRe M m)
  ac : (0 : Int) ≤ 0 ∧ 0 ≤ (((hRd M m ++ hRe M m).length : Nat) : Int) ∧ (((hRd M m ++ hRe M m).length : Nat) : Int) ≤ d.length
  ae : List.drop (Int.toNat 0) (List.take ((((hRd M m ++ hRe M m).length : Nat) : Int)).toNat d) = hRd M m ++ hRe M m
theorem n_len {N : Mov} (h : OkM N ∧ N.ph = .drain ∧ N.a.off + N.win ≤ 1099511627776 ∧ (N.a.known = true → N.a.fin ≤ 1099512676352)) : (handL N.a).length ≤ 1099511627776 := by
  have ha := h.1.a (by rw [h.2.1]; intro e; cases e)
  have := hn_hl (hnF ⟨ha.1, by rw [ha.2]; exact h.2.2.1⟩ ha.2 h.2.2.2)
  omega
theorem hdF {d : List Int} {M : Mov} (h : FitM M d 80) (hp : M.ph = .old) (hz : rdO M = 0) (hd : inBytes d) (h60 : ¬ 60 < (d.length : Int)) (m : Int) : HdF d M m := by
  have hdl : d.length ≤ 1048576 := by omega
  obtain ⟨r1, r2, r3⟩ := m_read h m
  have hp1 : (hM1 M m).ph = .old := by obtain ⟨mw, ph, a, b⟩ := M; cases hp; rfl
  obtain ⟨s1, s2⟩ := m_start r1 hdl
  have se : ((startM (readM M m).2).1.2.1 : Int) = 0 := by obtain ⟨mw, ph, a, b⟩ := M; cases hp; rfl
  have hp2 : (hM2 M m).ph = .drain := by obtain ⟨mw, ph, a, b⟩ := M; cases hp; rfl
  have hand : ∀ {N : Mov}, FitM N d 80 → N.ph = .drain → StepM N (hnnN N) d 80 ∧ (OkM N ∧ N.ph = .drain ∧ N.a.off + N.win ≤ 1099511627776 ∧ (N.a.known = true → N.a.fin ≤ 1099512676352)) := by
    intro N hN hpN
    have h1 := m_hand hN hdl hd
    have e : (handM N).2 = hnnN N := by obtain ⟨mw, ph, a, b⟩ := N; cases hpN; rfl
    rw [e] at h1
    have h2 := m_preR hN hdl (by rw [hpN]; intro e; cases e)
    exact ⟨h1, hN.ok, hpN, h2.1, h2.2⟩
  obtain ⟨g1, g2⟩ := hand s1.f hp2
  obtain ⟨g3, g4⟩ := hand g1.f rfl
  have hr0 : hRd M m = d.take (rdO (hM1 M m)).toNat := by
    have := r2
    rw [hz] at this
    exact this
  have hle := rdO_le r1
  have hat : hAt M m = rdO (hM1 M m) := s2 se
  have ho4 : rdO (hM4 M m) = rdO (hM1 M m) := g3.o.trans (g1.o.trans s1.o)
  obtain ⟨t1, t2, t3⟩ := m_read g3.f 1000
  have hK : hRd M m ++ hRe M m = d.take (rdO (readM (hM4 M m) 1000).2).toNat := by
    rw [hr0, ← ho4]; exact t2
  have hfa := s1.f.a (by rw [hp2]; intro e; cases e)
  have hP2 : PreR (hM2 M m).a := ⟨hfa.1.ok, by have h5 := g2.2.2.1; rw [s1.f.win] at h5; rw [hfa.2]; exact h5⟩
  refine ⟨h.ok, ⟨r1.ok, fun e => ?_⟩, se, ?_, g2, g4, n_len g2, n_len g4, ?_, ?_, g3.f.ok, ?_, ?_, ?_, ?_⟩
  · have e1 : rdO (hM1 M m) = (hM1 M m).a.off := by obtain ⟨mw, ph, a, b⟩ := M; cases hp; rfl
    have h9 := hle.2
    rw [e1] at h9; omega
  · rw [hat, hr0]; exact tk_len hle.1 hle.2
  · have h1 := hand_hsl hfa.1 hP2
    have e : hAt M m = (hM2 M m).a.off := by obtain ⟨mw, ph, a, b⟩ := M; cases hp; rfl
    rw [e]; exact h1
  · exact hand2_nil (w := (hM2 M m).win) hfa.1 (by rw [s1.f.win]; decide) (by rw [s1.f.win]; decide) hdl hd
  · have h2 : (((hRd M m ++ hRe M m).length : Nat) : Int) ≤ d.length := by rw [hK]; exact tk_le d _
    rw [List.length_append] at h2
    omega
  · rw [hK]; exact fun x hx => hd x (List.mem_of_mem_take hx)
  · rw [hK]; exact ⟨by decide, Int.natCast_nonneg _, tk_le d _⟩
  · rw [hK]; exact tk_eq d _

/-! ### the loops over the segments -/
structure LHx (d : List Int) (a : Int) (n : Nat) where
  i : Int
  E : Int
  X : List Seg
  lo : 0 ≤ i
  hi : i ≤ n
  len : X.length = n
  ok : HsL d a E (X.drop i.toNat)
  eb : -1 ≤ E ∧ E ≤ d.length
abbrev sg (X : List Seg) (i : Int) : Seg := X.getD i.toNat (0, [], false)
structure HxA (d : List Int) (a : Int) (n : Nat) (X : List Seg) (i E : Int) : Prop where
  inl : 0 ≤ i ∧ i < (X.length : Int)
  lo : ¬ ((sg X i).1 < a ∧ 0 < (((sg X i).2.1.length : Nat) : Int))
  tch : ¬ (0 < (((sg X i).2.1.length : Nat) : Int) ∧ (sg X i).1 ≤ E)
  emp : (((sg X i).2.1.length : Nat) : Int) = 0 → ¬ i < (n : Int) - 1
  flg : (((sg X i).2.1.length : Nat) : Int) = 0 → (sg X i).2.2 = true
  o : 0 ≤ (sg X i).1
  e : (sg X i).1 + (((sg X i).2.1.length : Nat) : Int) ≤ d.length
  dat : (sg X i).2.1 = List.drop ((sg X i).1).toNat (List.take ((sg X i).1 + (((sg X i).2.1.length : Nat) : Int)).toNat d)
  byt : inBytes d → inBytes (sg X i).2.1
  n60 : (sg X i).2.1.length ≤ 60
  i1 : inI64 ((sg X i).1 + (((sg X i).2.1.length : Nat) : Int))
  i2 : inI64 ((X.length : Int) - 1)
  bys : inBytes d → inBytes (sg X i).2.1 ∧ inBytes (List.drop ((sg X i).1).toNat (List.take ((sg X i).1 + (((sg X i).2.1.length : Nat) : Int)).toNat d))
  sl : 0 ≤ (sg X i).1 ∧ (sg X i).1 ≤ (sg X i).1 + (((sg X i).2.1.length : Nat) : Int) ∧ (sg X i).1 + (((sg X i).2.1.length : Nat) : Int) ≤ d.length
  nx : ∀ D : List Int, ∃ y : LHx d a n, y.i = i + 1 ∧ y.E = (sg X i).1 + (((sg X i).2.1.length : Nat) : Int) ∧ y.X = X.set i.toNat ((sg X i).1, D, (sg X i).2.2)
theorem hxA {d : List Int} {a : Int} {n : Nat} (hn : n ≤ 1099511627776) (h60 : ¬ 60 < (d.length : Int)) {i E : Int} {X : List Seg} (h0 : 0 ≤ i) (h : i < (n : Int)) (hl : X.length = n) (hok : HsL d a E (X.drop i.toNat)) : HxA d a n X i E := by
  have hlt : i.toNat < X.length := by omega
  have es : sg X i = X[i.toNat] := by rw [sg, List.getD_eq_getElem?_getD, List.getElem?_eq_getElem hlt]; rfl
  rw [List.drop_eq_getElem_cons hlt, ← es] at hok
  obtain ⟨h1, h2, h3, h4⟩ := hok
  have ho := h3.o; have he := h3.e
  have hdat : (sg X i).2.1 = List.drop ((sg X i).1).toNat (List.take ((sg X i).1 + (((sg X i).2.1.length : Nat) : Int)).toNat d) := by
    have hdat := h3.dat
    rw [List.drop_take]
    rw [hdat]
    congr 1
    rw [← hdat]; omega
  refine ⟨by omega, fun q => ?_, fun q => ?_, fun q => ?_, fun q => (h2 (by omega)).2, ho, he, hdat, fun hd => h3.byt hd, by omega, by unfold inI64; omega, by unfold inI64; omega, fun hd => ⟨h3.byt hd, by rw [← hdat]; exact h3.byt hd⟩, ⟨ho, by omega, he⟩, fun D => ?_⟩
  · have := h1 (by omega); omega
  · have := h1 (by omega); omega
  · obtain ⟨q1, q2⟩ := h2 (by omega)
    have q1 := List.drop_eq_nil_iff.1 q1
    omega
  · refine ⟨⟨i + 1, _, X.set i.toNat ((sg X i).1, D, (sg X i).2.2), by omega, by omega, by rw [List.length_set]; exact hl, ?_, by omega⟩, rfl, rfl, rfl⟩
    rw [show (i + 1).toNat = i.toNat + 1 by omega, List.drop_set, if_pos (by omega)]
    exact h4
structure LIn (n : Nat) where
  k : Int
  D : List Int
  lo : 0 ≤ k
  hi : k ≤ n
  len : D.length = n
theorem lin_step {n : Nat} {k : Int} {D : List Int} (lo : 0 ≤ k) (hl : D.length = n) (h : k < (n : Int)) (v : Int) : ∃ y : LIn n, y.k = k + 1 ∧ y.D = D.set k.toNat v := ⟨⟨k + 1, _, by omega, by omega, by rw [List.length_set]; exact hl⟩, rfl, rfl⟩
structure LYx (n : Nat) where
  i : Int
  Y : List Seg
  lo : 0 ≤ i
  hi : i ≤ n
  len : Y.length = n
  ok : ∀ s ∈ Y, s.2.1 = []
structure HyA (n : Nat) (Y : List Seg) (i : Int) : Prop where
  inl : 0 ≤ i ∧ i < (Y.length : Int)
  z : ¬ 0 < (((sg Y i).2.1.length : Nat) : Int)
  nx : ∃ y : LYx n, y.i = i + 1 ∧ y.Y = Y.set i.toNat ((sg Y i).1, (sg Y i).2.1, (sg Y i).2.2)
theorem hyA {n : Nat} {i : Int} {Y : List Seg} (h0 : 0 ≤ i) (h : i < (n : Int)) (hl : Y.length = n) (hok : ∀ s ∈ Y, s.2.1 = []) : HyA n Y i := by
  have hlt : i.toNat < Y.length := by omega
  have es : sg Y i = Y[i.toNat] := by rw [sg, List.getD_eq_getElem?_getD, List.getElem?_eq_getElem hlt]; rfl
  have hm : (sg Y i).2.1 = [] := hok _ (by rw [es]; exact List.getElem_mem hlt)
  refine ⟨by omega, by rw [hm]; simp, ⟨i + 1, _, by omega, by omega, by rw [List.length_set]; exact hl, fun s hs => ?_⟩, rfl, rfl⟩
  rcases List.mem_or_eq_of_mem_set hs with h | rfl
  · exact hok s h
  · exact hm
theorem lhx0 {d : List Int} {a : Int} {L : List Seg} (h : HsL d a (-1) L) : ∃ x : LHx d a L.length, x.i = 0 ∧ x.E = -1 ∧ x.X = L := ⟨⟨0, -1, L, by omega, by omega, rfl, h, by omega⟩, rfl, rfl, rfl⟩
theorem lyx0 {L : List Seg} (h : ∀ s ∈ L, s.2.1 = []) : ∃ x : LYx L.length, x.i = 0 ∧ x.Y = L := ⟨⟨0, L, by omega, by omega, rfl, h⟩, rfl, rfl⟩
theorem beq_inl : ConSound Try.prog AI 18 (inl E0 Try.f18 0) := inl_sound e0Ok mixed (fn := Try.f18) (c := bodyOf Try.f18) Try.call18 (by kernel_rfl) (by kernel_rfl) (by kernel_rfl) 0
noncomputable abbrev Eq1 : Env Ab := ⟨tis, [(18, inl E0 Try.f18 0)] ++ E0.con⟩
theorem eq1Ok : EnvOk Try.prog AI Eq1 := (e0Ok.add beq_inl)
theorem hpf_inl : ConSound Try.prog AI 19 (inl Eq1 Try.f19 0) := inl_sound eq1Ok mixed (fn := Try.f19) (c := bodyOf Try.f19) Try.call19 (by kernel_rfl) (by kernel_rfl) (by kernel_rfl) 0
noncomputable abbrev Ehx : Env Ab := ⟨tis, [(17, mhnnSpec.con), (16, mstartSpec.con), (15, mreadnSpec.con), (13, mrcvSpec.con), (12, newMovSpec.con), (11, awakeSpec.con), (14, partSpec.con), (19, inl Eq1 Try.f19 0), (18, inl E0 Try.f18 0)] ++ E0.con⟩
theorem ehxOk : EnvOk Try.prog AI Ehx := (((((((((e0Ok.add beq_inl).add hpf_inl).add part_sound).add awake_sound).add newMov_sound).add mrcv_sound).add mreadn_sound).add mstart_sound).add mhnn_sound)
noncomputable abbrev Ehxn : Env Ab := ⟨(37, ⟨.slice 32 (some (.pair (.int .i64) (.pair .bytes .bool))), 1, 3, [.nilS]⟩) :: (5, ⟨.int .u8, 1, 0, [.li .u8 0]⟩) :: Ehx.ti, Ehx.con⟩
theorem ehxnOk : EnvOk Try.prog AI Ehxn := ehxOk.nest (t := 37) (i := ⟨.slice 32 (some (.pair (.int .i64) (.pair .bytes .bool))), 1, 0, [.nilS]⟩) (tb := 5) (j := ⟨.int .u8, 1, 0, [.li .u8 0]⟩) rfl rfl
/-- What is left to do behind the two calls of Hand. -/
structure Hp2 (d : List Int) (at0 : Int) (L2 L3 : List Seg) (M4 : Mov) (Rd : List Int) : Prop where
  n2 : L2.length ≤ 1099511627776
  n3 : L3.length ≤ 1099511627776
  hs : HsL d at0 (-1) L2
  y : ∀ s ∈ L3, s.2.1 = []
  ok4 : OkM M4
  al : Rd.length + (readM M4 1000).1.1.length ≤ 1099511627776
  ab : inBytes (Rd ++ (readM M4 1000).1.1)
  ad : inBytes (List.drop (Int.toNat 0) (List.take ((((Rd ++ (readM M4 1000).1.1).length : Nat) : Int)).toNat d)) ∧ inBytes (Rd ++ (readM M4 1000).1.1)
  ac : (0 : Int) ≤ 0 ∧ 0 ≤ (((Rd ++ (readM M4 1000).1.1).length : Nat) : Int) ∧ (((Rd ++ (readM M4 1000).1.1).length : Nat) : Int) ≤ d.length
  ae : List.drop (Int.toNat 0) (List.take ((((Rd ++ (readM M4 1000).1.1).length : Nat) : Int)).toNat d) = Rd ++ (readM M4 1000).1.1
theorem hp2 {d : List Int} {M : Mov} {m : Int} (A : HdF d M m) {at0 : Int} {L2 L3 : List Seg} {M4 : Mov} {Rd : List Int} (e1 : hAt M m = at0) (e2 : hL2 M m = L2) (e3 : hL3 M m = L3) (e4 : hM4 M m = M4) (e5 : hRd M m = Rd) : Hp2 d at0 L2 L3 M4 Rd := by
  subst e1 e2 e3 e4 e5
  exact ⟨A.n2, A.n3, A.hs, A.y, A.ok4, A.al, A.ab, ⟨by rw [A.ae]; exact A.ab, A.ab⟩, A.ac, A.ae⟩
theorem ne_tf {b : Bool} (h : b = true) (h2 : b = false) : False := Bool.noConfusion (h.symm.trans h2)
theorem lin_i {n : Nat} {k : Int} (lo : 0 ≤ k) (h : k < (n : Int)) (hn : n ≤ 60) : inI64 (k + 1) := by unfold inI64; omega
theorem lin_in {n : Nat} {k : Int} {D : List Int} (lo : 0 ≤ k) (h : k < (n : Int)) (hl : D.length = n) : 0 ≤ k ∧ k < (D.length : Int) := by omega
def hnxF (_ _ : List Int) (_ : Int) : Tup [DT.cell .bool] := (true, ())
theorem hi_1 {k : Int} {n : Nat} (h0 : 0 ≤ k) (h : k < (n : Int)) (hn : n ≤ 1099511627776) : inI64 (k + 1) := by unfold inI64; omega
def hnxSpec : PureSpec := ⟨[.lst (.int .u8), .lst (.int .u16), .cell (.int .u8)], fun (x : (List Int) × (List Int) × Int × Unit) => (x.1.length ≤ maxLen ∧ inBytes x.1) ∧ (x.2.1.length ≤ maxLen ∧ ∀ y ∈ x.2.1, 0 ≤ y ∧ y ≤ 65535) ∧ (0 ≤ x.2.2.1 ∧ x.2.2.1 ≤ 255), [.cell .bool], fun (x : (List Int) × (List Int) × Int × Unit) => hnxF x.1 x.2.1 x.2.2.1⟩
theorem hnx_ok (d : List Int) (l : List Int) (m : Int) (h : hnxSpec.pre (d, l, m, ())) : TmplOk Try.prog AI 3 (argS hnxSpec.ds (fun _ => (d, l, m, ()))) [] (resOf (svs hnxSpec.rs (fun _ => hnxSpec.f (d, l, m, ())))) [] := by
  dsimp only [hnxSpec] at h ⊢
  generalize hr : hnxF d l m = r
  obtain ⟨⟨hd0, hd⟩, ⟨hl0, hl⟩, hm0, hm1⟩ := h
  dsimp only [hnxF] at hr
  refine tmpl_of_body ehxnOk mixed (fn := Try.f3) (c := bodyOf Try.f3) (by kernel_rfl) (by kernel_rfl) (by kernel_rfl) (Nat.le_of_ble_eq_true (by kernel_rfl)) ?_
  (try (conv in (LoopInv.inv _ _) => dsimp only)); (try (conv in (SS.mk _ _) => cbv; (try dsimp only [newMovSpec, mrcvSpec, mreadnSpec, mstartSpec, mhnnSpec, partSpec, partF, Ty.T, Ty.dflt, KT.T]); (try simp only [natCast_eq])))
  (with_reducible refine (?_ : T1 _ ?_) ?_; rotate_left 1; (conv => lhs; cbv; (try cbv); (try cbv)); intro hT; clear hT; with_reducible refine Sh.mk (by kernel_rfl) ?_)
  repeat' (first
    | with_reducible (first | refine Ck.mk (C := tt) tt_intro ?_ | refine Ck.mk (show drawOk _ _ = true by kernel_rfl) ?_ | refine Ck.all_cons ?_ | refine Ck.all_nil ?_ | refine Ck.mk (by assumption) ?_ | refine Ck.mk (decide_eq_true (by assumption)) ?_ | refine Ck.mk (decide_eq_false (by assumption)) ?_ | refine Ck.mk ?_ ?_)
    | (with_reducible (first | refine Both.mk (fun h => ?_) (fun h => ?_) | refine Alt.mk (fun h => ?_) (fun h => ?_) | refine Pick.mk (fun h => ?_) (fun l1 x l2 h => ?_)) <;> (have hk := h) <;> (try simp only [nrm, reduceCtorEq, pair_eta, map_idL] at h) <;> (try dsimp only [newMovSpec, mrcvSpec, mreadnSpec, mstartSpec, mhnnSpec, partSpec, partF, Ty.T, Ty.dflt, KT.T, getM, putM, delM] at h) <;> (try simp only [natCast_eq] at h) <;> (try (have lb := u16_at hl hlo h; have F := lm1_step hd h60 hlo h hfit hph hz lb.1; have Fe := F.e)) <;> (try (have G := hxA hnL h60 hlo2 h hlen2 hok2; have G1 := G.lo; have G2 := G.tch; have G3 := G.emp; have G4 := G.o; have G5 := G.e; dsimp only [sg] at G1 G2 G3 G4 G5)) <;> (try (have Y := hyA hlo4 h hlen4 hok4; have Y1 := Y.z; dsimp only [sg] at Y1)) <;> (try (exfalso; exact absurd A.se h)) <;> (try (exfalso; exact absurd A.at_ h)) <;> (try (exfalso; exact absurd G.dat h)) <;> (try (exfalso; exact ne_tf (G.flg (by assumption)) h)) <;> (try (exfalso; exact h (tk_le d _))) <;> (try (exfalso; exact absurd B.ac.2.2 h)) <;> (try (exfalso; exact absurd B.ae h)) <;> (try first | rw [if_pos h] at hr | rw [if_neg h] at hr | rw [ifF h] at hr | rw [ifN h] at hr) <;> (try (have hb : (_ : Bool) = _ := h; clear h; subst hb; (try first | rw [if_pos rfl] at hr | rw [if_neg Bool.false_ne_true] at hr))) <;> first | (exfalso; omega) | exact absurd (h.symm.trans (by assumption) : true = false) Bool.noConfusion | exact absurd (h.symm.trans (by assumption) : false = true) Bool.noConfusion | (with_reducible refine (?_ : T1 _ ?_) ?_; rotate_left 1; (conv => lhs; cbv; (try cbv); (try cbv)); intro hT; clear hT; with_reducible refine Sh.mk (by kernel_rfl) ?_))
    | ((with_reducible refine End.mk ?_); (try ((repeat (first | rw [if_pos (by first | assumption | omega)] at hr | rw [if_neg (by first | assumption | omega | (simp only [Bool.false_eq_true, Bool.true_eq_false, reduceCtorEq, not_false_eq_true]; done) | (simp only [Bool.not_eq_true]; assumption) | (simp only [Bool.not_eq_false]; assumption))] at hr | rw [if_pos rfl] at hr)); subst hr)))
    | with_reducible exact True.intro)
  all_goals first
    | (fail_if_success (with_reducible refine Exists.intro ?_ ?_)
       first
         | with_reducible rfl
         | with_reducible assumption
         | (symm; with_reducible assumption)
         | omega
         | ((try dsimp only [newMovSpec, mrcvSpec, mreadnSpec, mstartSpec, mhnnSpec, partSpec, partF, Ty.T, Ty.dflt, KT.T, getM, putM, delM, inI64, maxRow]); first | done | with_reducible rfl | with_reducible assumption | (symm; with_reducible assumption) | ((try simp only [natCast_eq, List.nil_append]); first | done | with_reducible rfl | omega | exact take_cg (by omega) | exact drop_cg (by omega) | exact take_drop_cg (by omega) (by omega) | exact take_all (by omega) | exact take_drop_all (by omega) (by omega) | exact drop_take_cg (by omega) (by omega) (by omega)))
         | ((try dsimp only [newMovSpec, mrcvSpec, mreadnSpec, mstartSpec, mhnnSpec, partSpec, partF, Ty.T, Ty.dflt, KT.T, getM, putM, delM, inI64, maxRow]); first | (simp only [nrm, reduceCtorEq, pair_eta, map_idL, natCast_eq, inI64, maxRow]; first | done | with_reducible assumption | omega) | exact map_pair_id _)
         | ((try dsimp only [newMovSpec, mrcvSpec, mreadnSpec, mstartSpec, mhnnSpec, partSpec, partF, Ty.T, Ty.dflt, KT.T, getM, putM, delM, inI64, maxRow] at *); first | ((try simp only [natCast_eq] at *) <;> omega) | ((try simp only [lens, natCast_eq] at *) <;> omega))
         | assumption
         | (symm; assumption)
         | (dsimp only; simp only [nrb, *]; done)
         | (simp; done)
         | (and_intros <;> first | trivial | with_reducible assumption | omega)
         | ((try dsimp only [newMovSpec, mrcvSpec, mreadnSpec, mstartSpec, mhnnSpec, partSpec, partF, Ty.T, Ty.dflt, KT.T, getM, putM, delM, inI64, maxRow] at *) <;> simp [*] <;> done))
    | skip
  obtain ⟨x0, hx0, hx1⟩ : ∃ x : LM1 d l.length, x.i = 0 ∧ x.M = newM 80 := ⟨⟨0, newM 80, by omega, by omega, (fitM_new (by omega) (by omega)).1, rfl, rfl⟩, rfl, rfl⟩
  refine ⟨⟨LM1 d l.length, fun x => ⟨[(0, Sx.one (.ro (.int .u8) (fun _ => d))), (2, Sx.one (.int .u8 (fun _ => m))), (7, Sx.one (.ptr 0 0)), (44, Sx.one (.ro (.int .u16) (fun _ => l))), (45, Sx.one (.int .i64 (fun _ => l.length))), (46, Sx.one (.int .i64 (fun _ => x.i)))], [.abs (.mov (fun _ => x.M))]⟩, fun x => (l.length - x.i).toNat, x0⟩, ?_, fun (x : LM1 d l.length) => ?_⟩
  · (try (conv in (LoopInv.inv _ _) => dsimp only)); (try (conv in (SS.mk _ _) => cbv; (try dsimp only [newMovSpec, mrcvSpec, mreadnSpec, mstartSpec, mhnnSpec, partSpec, partF, Ty.T, Ty.dflt, KT.T]); (try simp only [natCast_eq])))
    (with_reducible refine (?_ : T1 _ ?_) ?_; rotate_left 1; (conv => lhs; cbv; (try cbv); (try cbv)); intro hT; clear hT; with_reducible refine Sh.mk (by kernel_rfl) ?_)
    repeat' (first
      | with_reducible (first | refine Ck.mk (C := tt) tt_intro ?_ | refine Ck.mk (show drawOk _ _ = true by kernel_rfl) ?_ | refine Ck.all_cons ?_ | refine Ck.all_nil ?_ | refine Ck.mk (by assumption) ?_ | refine Ck.mk (decide_eq_true (by assumption)) ?_ | refine Ck.mk (decide_eq_false (by assumption)) ?_ | refine Ck.mk ?_ ?_)
      | (with_reducible (first | refine Both.mk (fun h => ?_) (fun h => ?_) | refine Alt.mk (fun h => ?_) (fun h => ?_) | refine Pick.mk (fun h => ?_) (fun l1 x l2 h => ?_)) <;> (have hk := h) <;> (try simp only [nrm, reduceCtorEq, pair_eta, map_idL] at h) <;> (try dsimp only [newMovSpec, mrcvSpec, mreadnSpec, mstartSpec, mhnnSpec, partSpec, partF, Ty.T, Ty.dflt, KT.T, getM, putM, delM] at h) <;> (try simp only [natCast_eq] at h) <;> (try (have lb := u16_at hl hlo h; have F := lm1_step hd h60 hlo h hfit hph hz lb.1; have Fe := F.e)) <;> (try (have G := hxA hnL h60 hlo2 h hlen2 hok2; have G1 := G.lo; have G2 := G.tch; have G3 := G.emp; have G4 := G.o; have G5 := G.e; dsimp only [sg] at G1 G2 G3 G4 G5)) <;> (try (have Y := hyA hlo4 h hlen4 hok4; have Y1 := Y.z; dsimp only [sg] at Y1)) <;> (try (exfalso; exact absurd A.se h)) <;> (try (exfalso; exact absurd A.at_ h)) <;> (try (exfalso; exact absurd G.dat h)) <;> (try (exfalso; exact ne_tf (G.flg (by assumption)) h)) <;> (try (exfalso; exact h (tk_le d _))) <;> (try (exfalso; exact absurd B.ac.2.2 h)) <;> (try (exfalso; exact absurd B.ae h)) <;> (try first | rw [if_pos h] at hr | rw [if_neg h] at hr | rw [ifF h] at hr | rw [ifN h] at hr) <;> (try (have hb : (_ : Bool) = _ := h; clear h; subst hb; (try first | rw [if_pos rfl] at hr | rw [if_neg Bool.false_ne_true] at hr))) <;> first | (exfalso; omega) | exact absurd (h.symm.trans (by assumption) : true = false) Bool.noConfusion | exact absurd (h.symm.trans (by assumption) : false = true) Bool.noConfusion | (with_reducible refine (?_ : T1 _ ?_) ?_; rotate_left 1; (conv => lhs; cbv; (try cbv); (try cbv)); intro hT; clear hT; with_reducible refine Sh.mk (by kernel_rfl) ?_))
      | ((with_reducible refine End.mk ?_); skip)
      | with_reducible exact True.intro)
    all_goals first
      | (fail_if_success (with_reducible refine Exists.intro ?_ ?_)
         first
           | with_reducible rfl
           | with_reducible assumption
           | (symm; with_reducible assumption)
           | omega
           | ((try dsimp only [newMovSpec, mrcvSpec, mreadnSpec, mstartSpec, mhnnSpec, partSpec, partF, Ty.T, Ty.dflt, KT.T, getM, putM, delM, inI64, maxRow]); first | done | with_reducible rfl | with_reducible assumption | (symm; with_reducible assumption) | ((try simp only [natCast_eq, List.nil_append]); first | done | with_reducible rfl | omega | exact take_cg (by omega) | exact drop_cg (by omega) | exact take_drop_cg (by omega) (by omega) | exact take_all (by omega) | exact take_drop_all (by omega) (by omega) | exact drop_take_cg (by omega) (by omega) (by omega)))
           | first | (rw [hx1]; rfl) | (show _ = x0.M; rw [hx1])
           | ((try dsimp only [newMovSpec, mrcvSpec, mreadnSpec, mstartSpec, mhnnSpec, partSpec, partF, Ty.T, Ty.dflt, KT.T, getM, putM, delM, inI64, maxRow]); first | (simp only [nrm, reduceCtorEq, pair_eta, map_idL, natCast_eq, inI64, maxRow]; first | done | with_reducible assumption | omega) | exact map_pair_id _)
           | ((try dsimp only [newMovSpec, mrcvSpec, mreadnSpec, mstartSpec, mhnnSpec, partSpec, partF, Ty.T, Ty.dflt, KT.T, getM, putM, delM, inI64, maxRow] at *); first | ((try simp only [natCast_eq] at *) <;> omega) | ((try simp only [lens, natCast_eq] at *) <;> omega))
           | assumption
           | (symm; assumption)
           | (dsimp only; simp only [nrb, *]; done)
           | (simp; done)
           | (and_intros <;> first | trivial | with_reducible assumption | omega)
           | ((try dsimp only [newMovSpec, mrcvSpec, mreadnSpec, mstartSpec, mhnnSpec, partSpec, partF, Ty.T, Ty.dflt, KT.T, getM, putM, delM, inI64, maxRow] at *) <;> simp [*] <;> done))
      | skip
  obtain ⟨i, M, hlo, hhi, hfit, hph, hz⟩ := x
  have h60 : ¬ 60 < (d.length : Int) := by assumption
  have A := hdF hfit hph hz hd h60 (m % 70)
  (try (conv in (LoopInv.inv _ _) => dsimp only)); (try (conv in (SS.mk _ _) => cbv; (try dsimp only [newMovSpec, mrcvSpec, mreadnSpec, mstartSpec, mhnnSpec, partSpec, partF, Ty.T, Ty.dflt, KT.T]); (try simp only [natCast_eq])))
  (with_reducible refine (?_ : T1 _ ?_) ?_; rotate_left 1; (conv => lhs; cbv; (try cbv); (try cbv)); intro hT; clear hT; with_reducible refine Sh.mk (by kernel_rfl) ?_)
  repeat' (first
    | with_reducible (first | refine Ck.mk (C := tt) tt_intro ?_ | refine Ck.mk (show drawOk _ _ = true by kernel_rfl) ?_ | refine Ck.all_cons ?_ | refine Ck.all_nil ?_ | refine Ck.mk (by assumption) ?_ | refine Ck.mk (decide_eq_true (by assumption)) ?_ | refine Ck.mk (decide_eq_false (by assumption)) ?_ | refine Ck.mk ?_ ?_)
    | (with_reducible (first | refine Both.mk (fun h => ?_) (fun h => ?_) | refine Alt.mk (fun h => ?_) (fun h => ?_) | refine Pick.mk (fun h => ?_) (fun l1 x l2 h => ?_)) <;> (have hk := h) <;> (try simp only [nrm, reduceCtorEq, pair_eta, map_idL] at h) <;> (try dsimp only [newMovSpec, mrcvSpec, mreadnSpec, mstartSpec, mhnnSpec, partSpec, partF, Ty.T, Ty.dflt, KT.T, getM, putM, delM] at h) <;> (try simp only [natCast_eq] at h) <;> (try (have lb := u16_at hl hlo h; have F := lm1_step hd h60 hlo h hfit hph hz lb.1; have Fe := F.e)) <;> (try (have G := hxA hnL h60 hlo2 h hlen2 hok2; have G1 := G.lo; have G2 := G.tch; have G3 := G.emp; have G4 := G.o; have G5 := G.e; dsimp only [sg] at G1 G2 G3 G4 G5)) <;> (try (have Y := hyA hlo4 h hlen4 hok4; have Y1 := Y.z; dsimp only [sg] at Y1)) <;> (try (exfalso; exact absurd A.se h)) <;> (try (exfalso; exact absurd A.at_ h)) <;> (try (exfalso; exact absurd G.dat h)) <;> (try (exfalso; exact ne_tf (G.flg (by assumption)) h)) <;> (try (exfalso; exact h (tk_le d _))) <;> (try (exfalso; exact absurd B.ac.2.2 h)) <;> (try (exfalso; exact absurd B.ae h)) <;> (try first | rw [if_pos h] at hr | rw [if_neg h] at hr | rw [ifF h] at hr | rw [ifN h] at hr) <;> (try (have hb : (_ : Bool) = _ := h; clear h; subst hb; (try first | rw [if_pos rfl] at hr | rw [if_neg Bool.false_ne_true] at hr))) <;> first | (exfalso; omega) | exact absurd (h.symm.trans (by assumption) : true = false) Bool.noConfusion | exact absurd (h.symm.trans (by assumption) : false = true) Bool.noConfusion | (with_reducible refine (?_ : T1 _ ?_) ?_; rotate_left 1; (conv => lhs; cbv; (try cbv); (try cbv)); intro hT; clear hT; with_reducible refine Sh.mk (by kernel_rfl) ?_))
    | ((with_reducible refine End.mk ?_); skip)
    | with_reducible exact True.intro)
  all_goals first
    | (fail_if_success (with_reducible refine Exists.intro ?_ ?_)
       first
         | with_reducible rfl
         | with_reducible assumption
         | (symm; with_reducible assumption)
         | omega
         | ((try dsimp only [newMovSpec, mrcvSpec, mreadnSpec, mstartSpec, mhnnSpec, partSpec, partF, Ty.T, Ty.dflt, KT.T, getM, putM, delM, inI64, maxRow]); first | done | with_reducible rfl | with_reducible assumption | (symm; with_reducible assumption) | ((try simp only [natCast_eq, List.nil_append]); first | done | with_reducible rfl | omega | exact take_cg (by omega) | exact drop_cg (by omega) | exact take_drop_cg (by omega) (by omega) | exact take_all (by omega) | exact take_drop_all (by omega) (by omega) | exact drop_take_cg (by omega) (by omega) (by omega)))
         | first | exact ⟨by omega, lb⟩ | exact F.pre | exact absurd F.e h | exact A.ok0 | exact A.pS | exact A.pH1 | exact A.pH2 | exact absurd A.se h | exact absurd A.at_ h
         | ((try dsimp only [newMovSpec, mrcvSpec, mreadnSpec, mstartSpec, mhnnSpec, partSpec, partF, Ty.T, Ty.dflt, KT.T, getM, putM, delM, inI64, maxRow]); first | (simp only [nrm, reduceCtorEq, pair_eta, map_idL, natCast_eq, inI64, maxRow]; first | done | with_reducible assumption | omega) | exact map_pair_id _)
         | ((try dsimp only [newMovSpec, mrcvSpec, mreadnSpec, mstartSpec, mhnnSpec, partSpec, partF, Ty.T, Ty.dflt, KT.T, getM, putM, delM, inI64, maxRow] at *); first | ((try simp only [natCast_eq] at *) <;> omega) | ((try simp only [lens, natCast_eq] at *) <;> omega))
         | assumption
         | (symm; assumption)
         | (dsimp only; simp only [nrb, *]; done)
         | (simp; done)
         | (and_intros <;> first | trivial | with_reducible assumption | omega)
         | ((try dsimp only [newMovSpec, mrcvSpec, mreadnSpec, mstartSpec, mhnnSpec, partSpec, partF, Ty.T, Ty.dflt, KT.T, getM, putM, delM, inI64, maxRow] at *) <;> simp [*] <;> done))
    | skip
  · obtain ⟨y, hy0, hy1⟩ := F.nx
    refine ⟨y, by dsimp only; (try simp only [natCast_eq]); omega, ?_⟩
    (try (conv in (LoopInv.inv _ _) => dsimp only)); (try (conv in (SS.mk _ _) => cbv; (try dsimp only [newMovSpec, mrcvSpec, mreadnSpec, mstartSpec, mhnnSpec, partSpec, partF, Ty.T, Ty.dflt, KT.T]); (try simp only [natCast_eq])))
    (with_reducible refine (?_ : T1 _ ?_) ?_; rotate_left 1; (conv => lhs; cbv; (try cbv); (try cbv)); intro hT; clear hT; with_reducible refine Sh.mk (by kernel_rfl) ?_)
    repeat' (first
      | with_reducible (first | refine Ck.mk (C := tt) tt_intro ?_ | refine Ck.mk (show drawOk _ _ = true by kernel_rfl) ?_ | refine Ck.all_cons ?_ | refine Ck.all_nil ?_ | refine Ck.mk (by assumption) ?_ | refine Ck.mk (decide_eq_true (by assumption)) ?_ | refine Ck.mk (decide_eq_false (by assumption)) ?_ | refine Ck.mk ?_ ?_)
      | (with_reducible (first | refine Both.mk (fun h => ?_) (fun h => ?_) | refine Alt.mk (fun h => ?_) (fun h => ?_) | refine Pick.mk (fun h => ?_) (fun l1 x l2 h => ?_)) <;> (have hk := h) <;> (try simp only [nrm, reduceCtorEq, pair_eta, map_idL] at h) <;> (try dsimp only [newMovSpec, mrcvSpec, mreadnSpec, mstartSpec, mhnnSpec, partSpec, partF, Ty.T, Ty.dflt, KT.T, getM, putM, delM] at h) <;> (try simp only [natCast_eq] at h) <;> (try (have lb := u16_at hl hlo h; have F := lm1_step hd h60 hlo h hfit hph hz lb.1; have Fe := F.e)) <;> (try (have G := hxA hnL h60 hlo2 h hlen2 hok2; have G1 := G.lo; have G2 := G.tch; have G3 := G.emp; have G4 := G.o; have G5 := G.e; dsimp only [sg] at G1 G2 G3 G4 G5)) <;> (try (have Y := hyA hlo4 h hlen4 hok4; have Y1 := Y.z; dsimp only [sg] at Y1)) <;> (try (exfalso; exact absurd A.se h)) <;> (try (exfalso; exact absurd A.at_ h)) <;> (try (exfalso; exact absurd G.dat h)) <;> (try (exfalso; exact ne_tf (G.flg (by assumption)) h)) <;> (try (exfalso; exact h (tk_le d _))) <;> (try (exfalso; exact absurd B.ac.2.2 h)) <;> (try (exfalso; exact absurd B.ae h)) <;> (try first | rw [if_pos h] at hr | rw [if_neg h] at hr | rw [ifF h] at hr | rw [ifN h] at hr) <;> (try (have hb : (_ : Bool) = _ := h; clear h; subst hb; (try first | rw [if_pos rfl] at hr | rw [if_neg Bool.false_ne_true] at hr))) <;> first | (exfalso; omega) | exact absurd (h.symm.trans (by assumption) : true = false) Bool.noConfusion | exact absurd (h.symm.trans (by assumption) : false = true) Bool.noConfusion | (with_reducible refine (?_ : T1 _ ?_) ?_; rotate_left 1; (conv => lhs; cbv; (try cbv); (try cbv)); intro hT; clear hT; with_reducible refine Sh.mk (by kernel_rfl) ?_))
      | ((with_reducible refine End.mk ?_); skip)
      | with_reducible exact True.intro)
    all_goals first
      | (fail_if_success (with_reducible refine Exists.intro ?_ ?_)
         first
           | with_reducible rfl
           | with_reducible assumption
           | (symm; with_reducible assumption)
           | omega
           | ((try dsimp only [newMovSpec, mrcvSpec, mreadnSpec, mstartSpec, mhnnSpec, partSpec, partF, Ty.T, Ty.dflt, KT.T, getM, putM, delM, inI64, maxRow]); first | done | with_reducible rfl | with_reducible assumption | (symm; with_reducible assumption) | ((try simp only [natCast_eq, List.nil_append]); first | done | with_reducible rfl | omega | exact take_cg (by omega) | exact drop_cg (by omega) | exact take_drop_cg (by omega) (by omega) | exact take_all (by omega) | exact take_drop_all (by omega) (by omega) | exact drop_take_cg (by omega) (by omega) (by omega)))
           | exact hy1.symm
           | ((try dsimp only [newMovSpec, mrcvSpec, mreadnSpec, mstartSpec, mhnnSpec, partSpec, partF, Ty.T, Ty.dflt, KT.T, getM, putM, delM, inI64, maxRow]); first | (simp only [nrm, reduceCtorEq, pair_eta, map_idL, natCast_eq, inI64, maxRow]; first | done | with_reducible assumption | omega) | exact map_pair_id _)
           | ((try dsimp only [newMovSpec, mrcvSpec, mreadnSpec, mstartSpec, mhnnSpec, partSpec, partF, Ty.T, Ty.dflt, KT.T, getM, putM, delM, inI64, maxRow] at *); first | ((try simp only [natCast_eq] at *) <;> omega) | ((try simp only [lens, natCast_eq] at *) <;> omega))
           | assumption
           | (symm; assumption)
           | (dsimp only; simp only [nrb, *]; done)
           | (simp; done)
           | (and_intros <;> first | trivial | with_reducible assumption | omega)
           | ((try dsimp only [newMovSpec, mrcvSpec, mreadnSpec, mstartSpec, mhnnSpec, partSpec, partF, Ty.T, Ty.dflt, KT.T, getM, putM, delM, inI64, maxRow] at *) <;> simp [*] <;> done))
      | skip
  obtain ⟨at0, ea⟩ : ∃ a, hAt M (m % 70) = a := ⟨_, rfl⟩
  obtain ⟨L2, e2⟩ : ∃ a, hL2 M (m % 70) = a := ⟨_, rfl⟩
  obtain ⟨L3, e3⟩ : ∃ a, hL3 M (m % 70) = a := ⟨_, rfl⟩
  obtain ⟨M4, e4⟩ : ∃ a, hM4 M (m % 70) = a := ⟨_, rfl⟩
  obtain ⟨Rd, e5⟩ : ∃ a, hRd M (m % 70) = a := ⟨_, rfl⟩
  have B := hp2 A ea e2 e3 e4 e5
  obtain ⟨x1, hx2, hx3, hx4⟩ := lhx0 B.hs
  obtain ⟨y1, hy2, hy3⟩ := lyx0 B.y
  refine ⟨⟨LHx d at0 L2.length, fun x => ⟨[(0, Sx.one (.ro (.int .u8) (fun _ => d))), (7, Sx.one (.ptr 0 0)), (11, Sx.one (.hd 1 0)), (12, Sx.one (.int .i64 (fun _ => at0))), (14, Sx.one (.hd 2 0)), (16, Sx.one (.hd 3 0)), (18, Sx.one (.int .i64 (fun _ => x.E))), (93, Sx.one (.hd 2 0)), (94, Sx.one (.int .i64 (fun _ => L2.length))), (95, Sx.one (.int .i64 (fun _ => x.i)))],
     [.abs (.mov (fun _ => M4)), .row 5 (.int .u8) 0 (fun _ => Rd), .nest 32 5 0 (fun _ => x.X) none, .nest 32 5 0 (fun _ => L3) none]⟩, fun x => (L2.length - x.i).toNat, x1⟩, ?_, fun (x : LHx d at0 L2.length) => ?_⟩
  · (try (conv in (LoopInv.inv _ _) => dsimp only)); (try (conv in (SS.mk _ _) => cbv; (try dsimp only [newMovSpec, mrcvSpec, mreadnSpec, mstartSpec, mhnnSpec, partSpec, partF, Ty.T, Ty.dflt, KT.T]); (try simp only [natCast_eq])))
    (with_reducible refine (?_ : T1 _ ?_) ?_; rotate_left 1; (conv => lhs; cbv; (try cbv); (try cbv)); intro hT; clear hT; with_reducible refine Sh.mk (by kernel_rfl) ?_)
    repeat' (first
      | with_reducible (first | refine Ck.mk (C := tt) tt_intro ?_ | refine Ck.mk (show drawOk _ _ = true by kernel_rfl) ?_ | refine Ck.all_cons ?_ | refine Ck.all_nil ?_ | refine Ck.mk (by assumption) ?_ | refine Ck.mk (decide_eq_true (by assumption)) ?_ | refine Ck.mk (decide_eq_false (by assumption)) ?_ | refine Ck.mk ?_ ?_)
      | (with_reducible (first | refine Both.mk (fun h => ?_) (fun h => ?_) | refine Alt.mk (fun h => ?_) (fun h => ?_) | refine Pick.mk (fun h => ?_) (fun l1 x l2 h => ?_)) <;> (have hk := h) <;> (try simp only [nrm, reduceCtorEq, pair_eta, map_idL] at h) <;> (try dsimp only [newMovSpec, mrcvSpec, mreadnSpec, mstartSpec, mhnnSpec, partSpec, partF, Ty.T, Ty.dflt, KT.T, getM, putM, delM] at h) <;> (try simp only [natCast_eq] at h) <;> (try (have lb := u16_at hl hlo h; have F := lm1_step hd h60 hlo h hfit hph hz lb.1; have Fe := F.e)) <;> (try (have G := hxA hnL h60 hlo2 h hlen2 hok2; have G1 := G.lo; have G2 := G.tch; have G3 := G.emp; have G4 := G.o; have G5 := G.e; dsimp only [sg] at G1 G2 G3 G4 G5)) <;> (try (have Y := hyA hlo4 h hlen4 hok4; have Y1 := Y.z; dsimp only [sg] at Y1)) <;> (try (exfalso; exact absurd A.se h)) <;> (try (exfalso; exact absurd A.at_ h)) <;> (try (exfalso; exact absurd G.dat h)) <;> (try (exfalso; exact ne_tf (G.flg (by assumption)) h)) <;> (try (exfalso; exact h (tk_le d _))) <;> (try (exfalso; exact absurd B.ac.2.2 h)) <;> (try (exfalso; exact absurd B.ae h)) <;> (try first | rw [if_pos h] at hr | rw [if_neg h] at hr | rw [ifF h] at hr | rw [ifN h] at hr) <;> (try (have hb : (_ : Bool) = _ := h; clear h; subst hb; (try first | rw [if_pos rfl] at hr | rw [if_neg Bool.false_ne_true] at hr))) <;> first | (exfalso; omega) | exact absurd (h.symm.trans (by assumption) : true = false) Bool.noConfusion | exact absurd (h.symm.trans (by assumption) : false = true) Bool.noConfusion | (with_reducible refine (?_ : T1 _ ?_) ?_; rotate_left 1; (conv => lhs; cbv; (try cbv); (try cbv)); intro hT; clear hT; with_reducible refine Sh.mk (by kernel_rfl) ?_))
      | ((with_reducible refine End.mk ?_); skip)
      | with_reducible exact True.intro)
    all_goals first
      | (fail_if_success (with_reducible refine Exists.intro ?_ ?_)
         first
           | with_reducible rfl
           | with_reducible assumption
           | (symm; with_reducible assumption)
           | omega
           | ((try dsimp only [newMovSpec, mrcvSpec, mreadnSpec, mstartSpec, mhnnSpec, partSpec, partF, Ty.T, Ty.dflt, KT.T, getM, putM, delM, inI64, maxRow]); first | done | with_reducible rfl | with_reducible assumption | (symm; with_reducible assumption) | ((try simp only [natCast_eq, List.nil_append]); first | done | with_reducible rfl | omega | exact take_cg (by omega) | exact drop_cg (by omega) | exact take_drop_cg (by omega) (by omega) | exact take_all (by omega) | exact take_drop_all (by omega) (by omega) | exact drop_take_cg (by omega) (by omega) (by omega)))
           | first | exact ea | exact e4 | exact e5 | exact e3 | exact congrArg (fun l => ((List.length l : Nat) : Int)) e2 | exact e2.trans hx4.symm
           | ((try dsimp only [newMovSpec, mrcvSpec, mreadnSpec, mstartSpec, mhnnSpec, partSpec, partF, Ty.T, Ty.dflt, KT.T, getM, putM, delM, inI64, maxRow]); first | (simp only [nrm, reduceCtorEq, pair_eta, map_idL, natCast_eq, inI64, maxRow]; first | done | with_reducible assumption | omega) | exact map_pair_id _)
           | ((try dsimp only [newMovSpec, mrcvSpec, mreadnSpec, mstartSpec, mhnnSpec, partSpec, partF, Ty.T, Ty.dflt, KT.T, getM, putM, delM, inI64, maxRow] at *); first | ((try simp only [natCast_eq] at *) <;> omega) | ((try simp only [lens, natCast_eq] at *) <;> omega))
           | assumption
           | (symm; assumption)
           | (dsimp only; simp only [nrb, *]; done)
           | (simp; done)
           | (and_intros <;> first | trivial | with_reducible assumption | omega)
           | ((try dsimp only [newMovSpec, mrcvSpec, mreadnSpec, mstartSpec, mhnnSpec, partSpec, partF, Ty.T, Ty.dflt, KT.T, getM, putM, delM, inI64, maxRow] at *) <;> simp [*] <;> done))
      | skip
  clear A
  obtain ⟨i2, E2, X2, hlo2, hhi2, hlen2, hok2, heb2⟩ := x
  have hyE : E2 ≤ 60 := by omega
  have hnL := B.n2
  (try (conv in (LoopInv.inv _ _) => dsimp only)); (try (conv in (SS.mk _ _) => cbv; (try dsimp only [newMovSpec, mrcvSpec, mreadnSpec, mstartSpec, mhnnSpec, partSpec, partF, Ty.T, Ty.dflt, KT.T]); (try simp only [natCast_eq])))
  (with_reducible refine (?_ : T1 _ ?_) ?_; rotate_left 1; (conv => lhs; cbv; (try cbv); (try cbv)); intro hT; clear hT; with_reducible refine Sh.mk (by kernel_rfl) ?_)
  repeat' (first
    | with_reducible (first | refine Ck.mk (C := tt) tt_intro ?_ | refine Ck.mk (show drawOk _ _ = true by kernel_rfl) ?_ | refine Ck.all_cons ?_ | refine Ck.all_nil ?_ | refine Ck.mk (by assumption) ?_ | refine Ck.mk (decide_eq_true (by assumption)) ?_ | refine Ck.mk (decide_eq_false (by assumption)) ?_ | refine Ck.mk ?_ ?_)
    | (with_reducible (first | refine Both.mk (fun h => ?_) (fun h => ?_) | refine Alt.mk (fun h => ?_) (fun h => ?_) | refine Pick.mk (fun h => ?_) (fun l1 x l2 h => ?_)) <;> (have hk := h) <;> (try simp only [nrm, reduceCtorEq, pair_eta, map_idL] at h) <;> (try dsimp only [newMovSpec, mrcvSpec, mreadnSpec, mstartSpec, mhnnSpec, partSpec, partF, Ty.T, Ty.dflt, KT.T, getM, putM, delM] at h) <;> (try simp only [natCast_eq] at h) <;> (try (have lb := u16_at hl hlo h; have F := lm1_step hd h60 hlo h hfit hph hz lb.1; have Fe := F.e)) <;> (try (have G := hxA hnL h60 hlo2 h hlen2 hok2; have G1 := G.lo; have G2 := G.tch; have G3 := G.emp; have G4 := G.o; have G5 := G.e; dsimp only [sg] at G1 G2 G3 G4 G5)) <;> (try (have Y := hyA hlo4 h hlen4 hok4; have Y1 := Y.z; dsimp only [sg] at Y1)) <;> (try (exfalso; exact absurd A.se h)) <;> (try (exfalso; exact absurd A.at_ h)) <;> (try (exfalso; exact absurd G.dat h)) <;> (try (exfalso; exact ne_tf (G.flg (by assumption)) h)) <;> (try (exfalso; exact h (tk_le d _))) <;> (try (exfalso; exact absurd B.ac.2.2 h)) <;> (try (exfalso; exact absurd B.ae h)) <;> (try first | rw [if_pos h] at hr | rw [if_neg h] at hr | rw [ifF h] at hr | rw [ifN h] at hr) <;> (try (have hb : (_ : Bool) = _ := h; clear h; subst hb; (try first | rw [if_pos rfl] at hr | rw [if_neg Bool.false_ne_true] at hr))) <;> first | (exfalso; omega) | exact absurd (h.symm.trans (by assumption) : true = false) Bool.noConfusion | exact absurd (h.symm.trans (by assumption) : false = true) Bool.noConfusion | (with_reducible refine (?_ : T1 _ ?_) ?_; rotate_left 1; (conv => lhs; cbv; (try cbv); (try cbv)); intro hT; clear hT; with_reducible refine Sh.mk (by kernel_rfl) ?_))
    | ((with_reducible refine End.mk ?_); skip)
    | with_reducible exact True.intro)
  all_goals first
    | (fail_if_success (with_reducible refine Exists.intro ?_ ?_)
       first
         | with_reducible rfl
         | with_reducible assumption
         | (symm; with_reducible assumption)
         | omega
         | ((try dsimp only [newMovSpec, mrcvSpec, mreadnSpec, mstartSpec, mhnnSpec, partSpec, partF, Ty.T, Ty.dflt, KT.T, getM, putM, delM, inI64, maxRow]); first | done | with_reducible rfl | with_reducible assumption | (symm; with_reducible assumption) | ((try simp only [natCast_eq, List.nil_append]); first | done | with_reducible rfl | omega | exact take_cg (by omega) | exact drop_cg (by omega) | exact take_drop_cg (by omega) (by omega) | exact take_all (by omega) | exact take_drop_all (by omega) (by omega) | exact drop_take_cg (by omega) (by omega) (by omega)))
         | first | exact G.inl | exact G.i1 | exact G.i2 | exact G.sl | exact G.bys hd | exact B.ok4 | exact B.al | exact B.ab | exact B.ac | exact G.byt hd | exact hd
         | ((try dsimp only [newMovSpec, mrcvSpec, mreadnSpec, mstartSpec, mhnnSpec, partSpec, partF, Ty.T, Ty.dflt, KT.T, getM, putM, delM, inI64, maxRow]); first | (simp only [nrm, reduceCtorEq, pair_eta, map_idL, natCast_eq, inI64, maxRow]; first | done | with_reducible assumption | omega) | exact map_pair_id _)
         | ((try dsimp only [newMovSpec, mrcvSpec, mreadnSpec, mstartSpec, mhnnSpec, partSpec, partF, Ty.T, Ty.dflt, KT.T, getM, putM, delM, inI64, maxRow] at *); first | ((try simp only [natCast_eq] at *) <;> omega) | ((try simp only [lens, natCast_eq] at *) <;> omega))
         | assumption
         | (symm; assumption)
         | (dsimp only; simp only [nrb, *]; done)
         | (simp; done)
         | (and_intros <;> first | trivial | with_reducible assumption | omega)
         | ((try dsimp only [newMovSpec, mrcvSpec, mreadnSpec, mstartSpec, mhnnSpec, partSpec, partF, Ty.T, Ty.dflt, KT.T, getM, putM, delM, inI64, maxRow] at *) <;> simp [*] <;> done))
    | skip
  rotate_left 3
  · refine ⟨⟨LYx L3.length, fun x => ⟨[(0, Sx.one (.ro (.int .u8) (fun _ => d))), (7, Sx.one (.ptr 0 0)), (11, Sx.one (.hd 1 0)), (188, Sx.one (.hd 3 0)), (189, Sx.one (.int .i64 (fun _ => L3.length))), (190, Sx.one (.int .i64 (fun _ => x.i)))],
     [.abs (.mov (fun _ => M4)), .row 5 (.int .u8) 0 (fun _ => Rd), .gone, .nest 32 5 0 (fun _ => x.Y) none]⟩, fun x => (L3.length - x.i).toNat, y1⟩, ?_, fun (x : LYx L3.length) => ?_⟩
    · (try (conv in (LoopInv.inv _ _) => dsimp only)); (try (conv in (SS.mk _ _) => cbv; (try dsimp only [newMovSpec, mrcvSpec, mreadnSpec, mstartSpec, mhnnSpec, partSpec, partF, Ty.T, Ty.dflt, KT.T]); (try simp only [natCast_eq])))
      (with_reducible refine (?_ : T1 _ ?_) ?_; rotate_left 1; (conv => lhs; cbv; (try cbv); (try cbv)); intro hT; clear hT; with_reducible refine Sh.mk (by kernel_rfl) ?_)
      repeat' (first
        | with_reducible (first | refine Ck.mk (C := tt) tt_intro ?_ | refine Ck.mk (show drawOk _ _ = true by kernel_rfl) ?_ | refine Ck.all_cons ?_ | refine Ck.all_nil ?_ | refine Ck.mk (by assumption) ?_ | refine Ck.mk (decide_eq_true (by assumption)) ?_ | refine Ck.mk (decide_eq_false (by assumption)) ?_ | refine Ck.mk ?_ ?_)
        | (with_reducible (first | refine Both.mk (fun h => ?_) (fun h => ?_) | refine Alt.mk (fun h => ?_) (fun h => ?_) | refine Pick.mk (fun h => ?_) (fun l1 x l2 h => ?_)) <;> (have hk := h) <;> (try simp only [nrm, reduceCtorEq, pair_eta, map_idL] at h) <;> (try dsimp only [newMovSpec, mrcvSpec, mreadnSpec, mstartSpec, mhnnSpec, partSpec, partF, Ty.T, Ty.dflt, KT.T, getM, putM, delM] at h) <;> (try simp only [natCast_eq] at h) <;> (try (have lb := u16_at hl hlo h; have F := lm1_step hd h60 hlo h hfit hph hz lb.1; have Fe := F.e)) <;> (try (have G := hxA hnL h60 hlo2 h hlen2 hok2; have G1 := G.lo; have G2 := G.tch; have G3 := G.emp; have G4 := G.o; have G5 := G.e; dsimp only [sg] at G1 G2 G3 G4 G5)) <;> (try (have Y := hyA hlo4 h hlen4 hok4; have Y1 := Y.z; dsimp only [sg] at Y1)) <;> (try (exfalso; exact absurd A.se h)) <;> (try (exfalso; exact absurd A.at_ h)) <;> (try (exfalso; exact absurd G.dat h)) <;> (try (exfalso; exact ne_tf (G.flg (by assumption)) h)) <;> (try (exfalso; exact h (tk_le d _))) <;> (try (exfalso; exact absurd B.ac.2.2 h)) <;> (try (exfalso; exact absurd B.ae h)) <;> (try first | rw [if_pos h] at hr | rw [if_neg h] at hr | rw [ifF h] at hr | rw [ifN h] at hr) <;> (try (have hb : (_ : Bool) = _ := h; clear h; subst hb; (try first | rw [if_pos rfl] at hr | rw [if_neg Bool.false_ne_true] at hr))) <;> first | (exfalso; omega) | exact absurd (h.symm.trans (by assumption) : true = false) Bool.noConfusion | exact absurd (h.symm.trans (by assumption) : false = true) Bool.noConfusion | (with_reducible refine (?_ : T1 _ ?_) ?_; rotate_left 1; (conv => lhs; cbv; (try cbv); (try cbv)); intro hT; clear hT; with_reducible refine Sh.mk (by kernel_rfl) ?_))
        | ((with_reducible refine End.mk ?_); skip)
        | with_reducible exact True.intro)
      all_goals first
        | (fail_if_success (with_reducible refine Exists.intro ?_ ?_)
           first
             | with_reducible rfl
             | with_reducible assumption
             | (symm; with_reducible assumption)
             | omega
             | ((try dsimp only [newMovSpec, mrcvSpec, mreadnSpec, mstartSpec, mhnnSpec, partSpec, partF, Ty.T, Ty.dflt, KT.T, getM, putM, delM, inI64, maxRow]); first | done | with_reducible rfl | with_reducible assumption | (symm; with_reducible assumption) | ((try simp only [natCast_eq, List.nil_append]); first | done | with_reducible rfl | omega | exact take_cg (by omega) | exact drop_cg (by omega) | exact take_drop_cg (by omega) (by omega) | exact take_all (by omega) | exact take_drop_all (by omega) (by omega) | exact drop_take_cg (by omega) (by omega) (by omega)))
             | first | exact hy2.symm | exact hy3.symm
             | ((try dsimp only [newMovSpec, mrcvSpec, mreadnSpec, mstartSpec, mhnnSpec, partSpec, partF, Ty.T, Ty.dflt, KT.T, getM, putM, delM, inI64, maxRow]); first | (simp only [nrm, reduceCtorEq, pair_eta, map_idL, natCast_eq, inI64, maxRow]; first | done | with_reducible assumption | omega) | exact map_pair_id _)
             | ((try dsimp only [newMovSpec, mrcvSpec, mreadnSpec, mstartSpec, mhnnSpec, partSpec, partF, Ty.T, Ty.dflt, KT.T, getM, putM, delM, inI64, maxRow] at *); first | ((try simp only [natCast_eq] at *) <;> omega) | ((try simp only [lens, natCast_eq] at *) <;> omega))
             | assumption
             | (symm; assumption)
             | (dsimp only; simp only [nrb, *]; done)
             | (simp; done)
             | (and_intros <;> first | trivial | with_reducible assumption | omega)
             | ((try dsimp only [newMovSpec, mrcvSpec, mreadnSpec, mstartSpec, mhnnSpec, partSpec, partF, Ty.T, Ty.dflt, KT.T, getM, putM, delM, inI64, maxRow] at *) <;> simp [*] <;> done))
        | skip
    obtain ⟨i4, Y4, hlo4, hhi4, hlen4, hok4⟩ := x
    have hnL3 := B.n3
    (try (conv in (LoopInv.inv _ _) => dsimp only)); (try (conv in (SS.mk _ _) => cbv; (try dsimp only [newMovSpec, mrcvSpec, mreadnSpec, mstartSpec, mhnnSpec, partSpec, partF, Ty.T, Ty.dflt, KT.T]); (try simp only [natCast_eq])))
    (with_reducible refine (?_ : T1 _ ?_) ?_; rotate_left 1; (conv => lhs; cbv; (try cbv); (try cbv)); intro hT; clear hT; with_reducible refine Sh.mk (by kernel_rfl) ?_)
    repeat' (first
      | with_reducible (first | refine Ck.mk (C := tt) tt_intro ?_ | refine Ck.mk (show drawOk _ _ = true by kernel_rfl) ?_ | refine Ck.all_cons ?_ | refine Ck.all_nil ?_ | refine Ck.mk (by assumption) ?_ | refine Ck.mk (decide_eq_true (by assumption)) ?_ | refine Ck.mk (decide_eq_false (by assumption)) ?_ | refine Ck.mk ?_ ?_)
      | (with_reducible (first | refine Both.mk (fun h => ?_) (fun h => ?_) | refine Alt.mk (fun h => ?_) (fun h => ?_) | refine Pick.mk (fun h => ?_) (fun l1 x l2 h => ?_)) <;> (have hk := h) <;> (try simp only [nrm, reduceCtorEq, pair_eta, map_idL] at h) <;> (try dsimp only [newMovSpec, mrcvSpec, mreadnSpec, mstartSpec, mhnnSpec, partSpec, partF, Ty.T, Ty.dflt, KT.T, getM, putM, delM] at h) <;> (try simp only [natCast_eq] at h) <;> (try (have lb := u16_at hl hlo h; have F := lm1_step hd h60 hlo h hfit hph hz lb.1; have Fe := F.e)) <;> (try (have G := hxA hnL h60 hlo2 h hlen2 hok2; have G1 := G.lo; have G2 := G.tch; have G3 := G.emp; have G4 := G.o; have G5 := G.e; dsimp only [sg] at G1 G2 G3 G4 G5)) <;> (try (have Y := hyA hlo4 h hlen4 hok4; have Y1 := Y.z; dsimp only [sg] at Y1)) <;> (try (exfalso; exact absurd A.se h)) <;> (try (exfalso; exact absurd A.at_ h)) <;> (try (exfalso; exact absurd G.dat h)) <;> (try (exfalso; exact ne_tf (G.flg (by assumption)) h)) <;> (try (exfalso; exact h (tk_le d _))) <;> (try (exfalso; exact absurd B.ac.2.2 h)) <;> (try (exfalso; exact absurd B.ae h)) <;> (try first | rw [if_pos h] at hr | rw [if_neg h] at hr | rw [ifF h] at hr | rw [ifN h] at hr) <;> (try (have hb : (_ : Bool) = _ := h; clear h; subst hb; (try first | rw [if_pos rfl] at hr | rw [if_neg Bool.false_ne_true] at hr))) <;> first | (exfalso; omega) | exact absurd (h.symm.trans (by assumption) : true = false) Bool.noConfusion | exact absurd (h.symm.trans (by assumption) : false = true) Bool.noConfusion | (with_reducible refine (?_ : T1 _ ?_) ?_; rotate_left 1; (conv => lhs; cbv; (try cbv); (try cbv)); intro hT; clear hT; with_reducible refine Sh.mk (by kernel_rfl) ?_))
      | ((with_reducible refine End.mk ?_); skip)
      | with_reducible exact True.intro)
    all_goals first
      | (fail_if_success (with_reducible refine Exists.intro ?_ ?_)
         first
           | with_reducible rfl
           | with_reducible assumption
           | (symm; with_reducible assumption)
           | omega
           | ((try dsimp only [newMovSpec, mrcvSpec, mreadnSpec, mstartSpec, mhnnSpec, partSpec, partF, Ty.T, Ty.dflt, KT.T, getM, putM, delM, inI64, maxRow]); first | done | with_reducible rfl | with_reducible assumption | (symm; with_reducible assumption) | ((try simp only [natCast_eq, List.nil_append]); first | done | with_reducible rfl | omega | exact take_cg (by omega) | exact drop_cg (by omega) | exact take_drop_cg (by omega) (by omega) | exact take_all (by omega) | exact take_drop_all (by omega) (by omega) | exact drop_take_cg (by omega) (by omega) (by omega)))
           | first | exact Y.inl | exact B.ok4 | exact B.al | exact B.ab | exact B.ad | exact B.ac | exact absurd Y.z h | exact hi_1 hlo4 (by assumption) hnL3 | (subst hr; exact decide_eq_true B.ae)
           | ((try dsimp only [newMovSpec, mrcvSpec, mreadnSpec, mstartSpec, mhnnSpec, partSpec, partF, Ty.T, Ty.dflt, KT.T, getM, putM, delM, inI64, maxRow]); first | (simp only [nrm, reduceCtorEq, pair_eta, map_idL, natCast_eq, inI64, maxRow]; first | done | with_reducible assumption | omega) | exact map_pair_id _)
           | ((try dsimp only [newMovSpec, mrcvSpec, mreadnSpec, mstartSpec, mhnnSpec, partSpec, partF, Ty.T, Ty.dflt, KT.T, getM, putM, delM, inI64, maxRow] at *); first | ((try simp only [natCast_eq] at *) <;> omega) | ((try simp only [lens, natCast_eq] at *) <;> omega))
           | assumption
           | (symm; assumption)
           | (dsimp only; simp only [nrb, *]; done)
           | (simp; done)
           | (and_intros <;> first | trivial | with_reducible assumption | omega)
           | ((try dsimp only [newMovSpec, mrcvSpec, mreadnSpec, mstartSpec, mhnnSpec, partSpec, partF, Ty.T, Ty.dflt, KT.T, getM, putM, delM, inI64, maxRow] at *) <;> simp [*] <;> done))
      | skip
    obtain ⟨y, q1, q2⟩ := Y.nx
    refine ⟨y, by dsimp only; (try simp only [natCast_eq]); omega, ?_⟩
    (try (conv in (LoopInv.inv _ _) => dsimp only)); (try (conv in (SS.mk _ _) => cbv; (try dsimp only [newMovSpec, mrcvSpec, mreadnSpec, mstartSpec, mhnnSpec, partSpec, partF, Ty.T, Ty.dflt, KT.T]); (try simp only [natCast_eq])))
    (with_reducible refine (?_ : T1 _ ?_) ?_; rotate_left 1; (conv => lhs; cbv; (try cbv); (try cbv)); intro hT; clear hT; with_reducible refine Sh.mk (by kernel_rfl) ?_)
    repeat' (first
      | with_reducible (first | refine Ck.mk (C := tt) tt_intro ?_ | refine Ck.mk (show drawOk _ _ = true by kernel_rfl) ?_ | refine Ck.all_cons ?_ | refine Ck.all_nil ?_ | refine Ck.mk (by assumption) ?_ | refine Ck.mk (decide_eq_true (by assumption)) ?_ | refine Ck.mk (decide_eq_false (by assumption)) ?_ | refine Ck.mk ?_ ?_)
      | (with_reducible (first | refine Both.mk (fun h => ?_) (fun h => ?_) | refine Alt.mk (fun h => ?_) (fun h => ?_) | refine Pick.mk (fun h => ?_) (fun l1 x l2 h => ?_)) <;> (have hk := h) <;> (try simp only [nrm, reduceCtorEq, pair_eta, map_idL] at h) <;> (try dsimp only [newMovSpec, mrcvSpec, mreadnSpec, mstartSpec, mhnnSpec, partSpec, partF, Ty.T, Ty.dflt, KT.T, getM, putM, delM] at h) <;> (try simp only [natCast_eq] at h) <;> (try (have lb := u16_at hl hlo h; have F := lm1_step hd h60 hlo h hfit hph hz lb.1; have Fe := F.e)) <;> (try (have G := hxA hnL h60 hlo2 h hlen2 hok2; have G1 := G.lo; have G2 := G.tch; have G3 := G.emp; have G4 := G.o; have G5 := G.e; dsimp only [sg] at G1 G2 G3 G4 G5)) <;> (try (have Y := hyA hlo4 h hlen4 hok4; have Y1 := Y.z; dsimp only [sg] at Y1)) <;> (try (exfalso; exact absurd A.se h)) <;> (try (exfalso; exact absurd A.at_ h)) <;> (try (exfalso; exact absurd G.dat h)) <;> (try (exfalso; exact ne_tf (G.flg (by assumption)) h)) <;> (try (exfalso; exact h (tk_le d _))) <;> (try (exfalso; exact absurd B.ac.2.2 h)) <;> (try (exfalso; exact absurd B.ae h)) <;> (try first | rw [if_pos h] at hr | rw [if_neg h] at hr | rw [ifF h] at hr | rw [ifN h] at hr) <;> (try (have hb : (_ : Bool) = _ := h; clear h; subst hb; (try first | rw [if_pos rfl] at hr | rw [if_neg Bool.false_ne_true] at hr))) <;> first | (exfalso; omega) | exact absurd (h.symm.trans (by assumption) : true = false) Bool.noConfusion | exact absurd (h.symm.trans (by assumption) : false = true) Bool.noConfusion | (with_reducible refine (?_ : T1 _ ?_) ?_; rotate_left 1; (conv => lhs; cbv; (try cbv); (try cbv)); intro hT; clear hT; with_reducible refine Sh.mk (by kernel_rfl) ?_))
      | ((with_reducible refine End.mk ?_); skip)
      | with_reducible exact True.intro)
    all_goals first
      | (fail_if_success (with_reducible refine Exists.intro ?_ ?_)
         first
           | with_reducible rfl
           | with_reducible assumption
           | (symm; with_reducible assumption)
           | omega
           | ((try dsimp only [newMovSpec, mrcvSpec, mreadnSpec, mstartSpec, mhnnSpec, partSpec, partF, Ty.T, Ty.dflt, KT.T, getM, putM, delM, inI64, maxRow]); first | done | with_reducible rfl | with_reducible assumption | (symm; with_reducible assumption) | ((try simp only [natCast_eq, List.nil_append]); first | done | with_reducible rfl | omega | exact take_cg (by omega) | exact drop_cg (by omega) | exact take_drop_cg (by omega) (by omega) | exact take_all (by omega) | exact take_drop_all (by omega) (by omega) | exact drop_take_cg (by omega) (by omega) (by omega)))
           | exact q2.symm
           | ((try dsimp only [newMovSpec, mrcvSpec, mreadnSpec, mstartSpec, mhnnSpec, partSpec, partF, Ty.T, Ty.dflt, KT.T, getM, putM, delM, inI64, maxRow]); first | (simp only [nrm, reduceCtorEq, pair_eta, map_idL, natCast_eq, inI64, maxRow]; first | done | with_reducible assumption | omega) | exact map_pair_id _)
           | ((try dsimp only [newMovSpec, mrcvSpec, mreadnSpec, mstartSpec, mhnnSpec, partSpec, partF, Ty.T, Ty.dflt, KT.T, getM, putM, delM, inI64, maxRow] at *); first | ((try simp only [natCast_eq] at *) <;> omega) | ((try simp only [lens, natCast_eq] at *) <;> omega))
           | assumption
           | (symm; assumption)
           | (dsimp only; simp only [nrb, *]; done)
           | (simp; done)
           | (and_intros <;> first | trivial | with_reducible assumption | omega)
           | ((try dsimp only [newMovSpec, mrcvSpec, mreadnSpec, mstartSpec, mhnnSpec, partSpec, partF, Ty.T, Ty.dflt, KT.T, getM, putM, delM, inI64, maxRow] at *) <;> simp [*] <;> done))
      | skip
  all_goals
    (refine ⟨⟨LIn (sg X2 i2).2.1.length, fun z => ⟨[(0, Sx.one (.ro (.int .u8) (fun _ => d))), (7, Sx.one (.ptr 0 0)), (11, Sx.one (.hd 1 0)), (12, Sx.one (.int .i64 (fun _ => at0))), (14, Sx.one (.hd 2 0)), (16, Sx.one (.hd 3 0)), (18, Sx.one (.int .i64 (fun _ => (sg X2 i2).1 + ((sg X2 i2).2.1.length : Nat)))), (20, Sx.one (.ptr 5 0)), (93, Sx.one (.hd 2 0)), (94, Sx.one (.int .i64 (fun _ => L2.length))), (95, Sx.one (.int .i64 (fun _ => i2))), (174, Sx.one (.hd 4 0)), (175, Sx.one (.int .i64 (fun _ => ((sg X2 i2).2.1.length : Nat)))), (176, Sx.one (.int .i64 (fun _ => z.k)))],
     [.abs (.mov (fun _ => M4)), .row 5 (.int .u8) 0 (fun _ => Rd), .nest 32 5 0 (fun _ => X2) (some (fun _ => i2, 4)), .nest 32 5 0 (fun _ => L3) none, .row 5 (.int .u8) 0 (fun _ => z.D), .cells 32 [.int .i64 (fun _ => (sg X2 i2).1), .hd 4 0, .sb (fun _ => (sg X2 i2).2.2)]]⟩, fun z => ((sg X2 i2).2.1.length - z.k).toNat, ⟨0, (sg X2 i2).2.1, Int.le_refl _, Int.natCast_nonneg _, rfl⟩⟩, ?_, fun (z : LIn (sg X2 i2).2.1.length) => ?_⟩
     · (try (conv in (LoopInv.inv _ _) => dsimp only)); (try (conv in (SS.mk _ _) => cbv; (try dsimp only [newMovSpec, mrcvSpec, mreadnSpec, mstartSpec, mhnnSpec, partSpec, partF, Ty.T, Ty.dflt, KT.T]); (try simp only [natCast_eq])))
       (with_reducible refine (?_ : T1 _ ?_) ?_; rotate_left 1; (conv => lhs; cbv; (try cbv); (try cbv)); intro hT; clear hT; with_reducible refine Sh.mk (by kernel_rfl) ?_)
       repeat' (first
         | with_reducible (first | refine Ck.mk (C := tt) tt_intro ?_ | refine Ck.mk (show drawOk _ _ = true by kernel_rfl) ?_ | refine Ck.all_cons ?_ | refine Ck.all_nil ?_ | refine Ck.mk (by assumption) ?_ | refine Ck.mk (decide_eq_true (by assumption)) ?_ | refine Ck.mk (decide_eq_false (by assumption)) ?_ | refine Ck.mk ?_ ?_)
         | (with_reducible (first | refine Both.mk (fun h => ?_) (fun h => ?_) | refine Alt.mk (fun h => ?_) (fun h => ?_) | refine Pick.mk (fun h => ?_) (fun l1 x l2 h => ?_)) <;> (have hk := h) <;> (try simp only [nrm, reduceCtorEq, pair_eta, map_idL] at h) <;> (try dsimp only [newMovSpec, mrcvSpec, mreadnSpec, mstartSpec, mhnnSpec, partSpec, partF, Ty.T, Ty.dflt, KT.T, getM, putM, delM] at h) <;> (try simp only [natCast_eq] at h) <;> (try (have lb := u16_at hl hlo h; have F := lm1_step hd h60 hlo h hfit hph hz lb.1; have Fe := F.e)) <;> (try (have G := hxA hnL h60 hlo2 h hlen2 hok2; have G1 := G.lo; have G2 := G.tch; have G3 := G.emp; have G4 := G.o; have G5 := G.e; dsimp only [sg] at G1 G2 G3 G4 G5)) <;> (try (have Y := hyA hlo4 h hlen4 hok4; have Y1 := Y.z; dsimp only [sg] at Y1)) <;> (try (exfalso; exact absurd A.se h)) <;> (try (exfalso; exact absurd A.at_ h)) <;> (try (exfalso; exact absurd G.dat h)) <;> (try (exfalso; exact ne_tf (G.flg (by assumption)) h)) <;> (try (exfalso; exact h (tk_le d _))) <;> (try (exfalso; exact absurd B.ac.2.2 h)) <;> (try (exfalso; exact absurd B.ae h)) <;> (try first | rw [if_pos h] at hr | rw [if_neg h] at hr | rw [ifF h] at hr | rw [ifN h] at hr) <;> (try (have hb : (_ : Bool) = _ := h; clear h; subst hb; (try first | rw [if_pos rfl] at hr | rw [if_neg Bool.false_ne_true] at hr))) <;> first | (exfalso; omega) | exact absurd (h.symm.trans (by assumption) : true = false) Bool.noConfusion | exact absurd (h.symm.trans (by assumption) : false = true) Bool.noConfusion | (with_reducible refine (?_ : T1 _ ?_) ?_; rotate_left 1; (conv => lhs; cbv; (try cbv); (try cbv)); intro hT; clear hT; with_reducible refine Sh.mk (by kernel_rfl) ?_))
         | ((with_reducible refine End.mk ?_); skip)
         | with_reducible exact True.intro)
       all_goals first
         | (fail_if_success (with_reducible refine Exists.intro ?_ ?_)
            first
              | with_reducible rfl
              | with_reducible assumption
              | (symm; with_reducible assumption)
              | omega
              | ((try dsimp only [newMovSpec, mrcvSpec, mreadnSpec, mstartSpec, mhnnSpec, partSpec, partF, Ty.T, Ty.dflt, KT.T, getM, putM, delM, inI64, maxRow]); first | done | with_reducible rfl | with_reducible assumption | (symm; with_reducible assumption) | ((try simp only [natCast_eq, List.nil_append]); first | done | with_reducible rfl | omega | exact take_cg (by omega) | exact drop_cg (by omega) | exact take_drop_cg (by omega) (by omega) | exact take_all (by omega) | exact take_drop_all (by omega) (by omega) | exact drop_take_cg (by omega) (by omega) (by omega)))
              | ((try dsimp only [newMovSpec, mrcvSpec, mreadnSpec, mstartSpec, mhnnSpec, partSpec, partF, Ty.T, Ty.dflt, KT.T, getM, putM, delM, inI64, maxRow]); first | (simp only [nrm, reduceCtorEq, pair_eta, map_idL, natCast_eq, inI64, maxRow]; first | done | with_reducible assumption | omega) | exact map_pair_id _)
              | ((try dsimp only [newMovSpec, mrcvSpec, mreadnSpec, mstartSpec, mhnnSpec, partSpec, partF, Ty.T, Ty.dflt, KT.T, getM, putM, delM, inI64, maxRow] at *); first | ((try simp only [natCast_eq] at *) <;> omega) | ((try simp only [lens, natCast_eq] at *) <;> omega))
              | assumption
              | (symm; assumption)
              | (dsimp only; simp only [nrb, *]; done)
              | (simp; done)
              | (and_intros <;> first | trivial | with_reducible assumption | omega)
              | ((try dsimp only [newMovSpec, mrcvSpec, mreadnSpec, mstartSpec, mhnnSpec, partSpec, partF, Ty.T, Ty.dflt, KT.T, getM, putM, delM, inI64, maxRow] at *) <;> simp [*] <;> done))
         | skip
     obtain ⟨k5, D5, hlo5, hhi5, hlen5⟩ := z
     (try (conv in (LoopInv.inv _ _) => dsimp only)); (try (conv in (SS.mk _ _) => cbv; (try dsimp only [newMovSpec, mrcvSpec, mreadnSpec, mstartSpec, mhnnSpec, partSpec, partF, Ty.T, Ty.dflt, KT.T]); (try simp only [natCast_eq])))
     (with_reducible refine (?_ : T1 _ ?_) ?_; rotate_left 1; (conv => lhs; cbv; (try cbv); (try cbv)); intro hT; clear hT; with_reducible refine Sh.mk (by kernel_rfl) ?_)
     repeat' (first
       | with_reducible (first | refine Ck.mk (C := tt) tt_intro ?_ | refine Ck.mk (show drawOk _ _ = true by kernel_rfl) ?_ | refine Ck.all_cons ?_ | refine Ck.all_nil ?_ | refine Ck.mk (by assumption) ?_ | refine Ck.mk (decide_eq_true (by assumption)) ?_ | refine Ck.mk (decide_eq_false (by assumption)) ?_ | refine Ck.mk ?_ ?_)
       | (with_reducible (first | refine Both.mk (fun h => ?_) (fun h => ?_) | refine Alt.mk (fun h => ?_) (fun h => ?_) | refine Pick.mk (fun h => ?_) (fun l1 x l2 h => ?_)) <;> (have hk := h) <;> (try simp only [nrm, reduceCtorEq, pair_eta, map_idL] at h) <;> (try dsimp only [newMovSpec, mrcvSpec, mreadnSpec, mstartSpec, mhnnSpec, partSpec, partF, Ty.T, Ty.dflt, KT.T, getM, putM, delM] at h) <;> (try simp only [natCast_eq] at h) <;> (try (have lb := u16_at hl hlo h; have F := lm1_step hd h60 hlo h hfit hph hz lb.1; have Fe := F.e)) <;> (try (have G := hxA hnL h60 hlo2 h hlen2 hok2; have G1 := G.lo; have G2 := G.tch; have G3 := G.emp; have G4 := G.o; have G5 := G.e; dsimp only [sg] at G1 G2 G3 G4 G5)) <;> (try (have Y := hyA hlo4 h hlen4 hok4; have Y1 := Y.z; dsimp only [sg] at Y1)) <;> (try (exfalso; exact absurd A.se h)) <;> (try (exfalso; exact absurd A.at_ h)) <;> (try (exfalso; exact absurd G.dat h)) <;> (try (exfalso; exact ne_tf (G.flg (by assumption)) h)) <;> (try (exfalso; exact h (tk_le d _))) <;> (try (exfalso; exact absurd B.ac.2.2 h)) <;> (try (exfalso; exact absurd B.ae h)) <;> (try first | rw [if_pos h] at hr | rw [if_neg h] at hr | rw [ifF h] at hr | rw [ifN h] at hr) <;> (try (have hb : (_ : Bool) = _ := h; clear h; subst hb; (try first | rw [if_pos rfl] at hr | rw [if_neg Bool.false_ne_true] at hr))) <;> first | (exfalso; omega) | exact absurd (h.symm.trans (by assumption) : true = false) Bool.noConfusion | exact absurd (h.symm.trans (by assumption) : false = true) Bool.noConfusion | (with_reducible refine (?_ : T1 _ ?_) ?_; rotate_left 1; (conv => lhs; cbv; (try cbv); (try cbv)); intro hT; clear hT; with_reducible refine Sh.mk (by kernel_rfl) ?_))
       | ((with_reducible refine End.mk ?_); skip)
       | with_reducible exact True.intro)
     all_goals first
       | (fail_if_success (with_reducible refine Exists.intro ?_ ?_)
          first
            | with_reducible rfl
            | with_reducible assumption
            | (symm; with_reducible assumption)
            | omega
            | ((try dsimp only [newMovSpec, mrcvSpec, mreadnSpec, mstartSpec, mhnnSpec, partSpec, partF, Ty.T, Ty.dflt, KT.T, getM, putM, delM, inI64, maxRow]); first | done | with_reducible rfl | with_reducible assumption | (symm; with_reducible assumption) | ((try simp only [natCast_eq, List.nil_append]); first | done | with_reducible rfl | omega | exact take_cg (by omega) | exact drop_cg (by omega) | exact take_drop_cg (by omega) (by omega) | exact take_all (by omega) | exact take_drop_all (by omega) (by omega) | exact drop_take_cg (by omega) (by omega) (by omega)))
            | first | exact lin_i hlo5 h G.n60 | exact lin_in hlo5 h hlen5 | exact hi_1 hlo2 (by assumption) hnL
            | ((try dsimp only [newMovSpec, mrcvSpec, mreadnSpec, mstartSpec, mhnnSpec, partSpec, partF, Ty.T, Ty.dflt, KT.T, getM, putM, delM, inI64, maxRow]); first | (simp only [nrm, reduceCtorEq, pair_eta, map_idL, natCast_eq, inI64, maxRow]; first | done | with_reducible assumption | omega) | exact map_pair_id _)
            | ((try dsimp only [newMovSpec, mrcvSpec, mreadnSpec, mstartSpec, mhnnSpec, partSpec, partF, Ty.T, Ty.dflt, KT.T, getM, putM, delM, inI64, maxRow] at *); first | ((try simp only [natCast_eq] at *) <;> omega) | ((try simp only [lens, natCast_eq] at *) <;> omega))
            | assumption
            | (symm; assumption)
            | (dsimp only; simp only [nrb, *]; done)
            | (simp; done)
            | (and_intros <;> first | trivial | with_reducible assumption | omega)
            | ((try dsimp only [newMovSpec, mrcvSpec, mreadnSpec, mstartSpec, mhnnSpec, partSpec, partF, Ty.T, Ty.dflt, KT.T, getM, putM, delM, inI64, maxRow] at *) <;> simp [*] <;> done))
       | skip
     all_goals
       first
         | (refine Exists.elim (lin_step hlo5 hlen5 h (IntKind.u8.wrap (D5.getD k5.toNat 0 + 1))) ?_
            rintro y ⟨q1, q2⟩
            refine ⟨y, by dsimp only; (try simp only [natCast_eq]); omega, ?_⟩
            (try (conv in (LoopInv.inv _ _) => dsimp only)); (try (conv in (SS.mk _ _) => cbv; (try dsimp only [newMovSpec, mrcvSpec, mreadnSpec, mstartSpec, mhnnSpec, partSpec, partF, Ty.T, Ty.dflt, KT.T]); (try simp only [natCast_eq])))
            (with_reducible refine (?_ : T1 _ ?_) ?_; rotate_left 1; (conv => lhs; cbv; (try cbv); (try cbv)); intro hT; clear hT; with_reducible refine Sh.mk (by kernel_rfl) ?_)
            repeat' (first
              | with_reducible (first | refine Ck.mk (C := tt) tt_intro ?_ | refine Ck.mk (show drawOk _ _ = true by kernel_rfl) ?_ | refine Ck.all_cons ?_ | refine Ck.all_nil ?_ | refine Ck.mk (by assumption) ?_ | refine Ck.mk (decide_eq_true (by assumption)) ?_ | refine Ck.mk (decide_eq_false (by assumption)) ?_ | refine Ck.mk ?_ ?_)
              | (with_reducible (first | refine Both.mk (fun h => ?_) (fun h => ?_) | refine Alt.mk (fun h => ?_) (fun h => ?_) | refine Pick.mk (fun h => ?_) (fun l1 x l2 h => ?_)) <;> (have hk := h) <;> (try simp only [nrm, reduceCtorEq, pair_eta, map_idL] at h) <;> (try dsimp only [newMovSpec, mrcvSpec, mreadnSpec, mstartSpec, mhnnSpec, partSpec, partF, Ty.T, Ty.dflt, KT.T, getM, putM, delM] at h) <;> (try simp only [natCast_eq] at h) <;> (try (have lb := u16_at hl hlo h; have F := lm1_step hd h60 hlo h hfit hph hz lb.1; have Fe := F.e)) <;> (try (have G := hxA hnL h60 hlo2 h hlen2 hok2; have G1 := G.lo; have G2 := G.tch; have G3 := G.emp; have G4 := G.o; have G5 := G.e; dsimp only [sg] at G1 G2 G3 G4 G5)) <;> (try (have Y := hyA hlo4 h hlen4 hok4; have Y1 := Y.z; dsimp only [sg] at Y1)) <;> (try (exfalso; exact absurd A.se h)) <;> (try (exfalso; exact absurd A.at_ h)) <;> (try (exfalso; exact absurd G.dat h)) <;> (try (exfalso; exact ne_tf (G.flg (by assumption)) h)) <;> (try (exfalso; exact h (tk_le d _))) <;> (try (exfalso; exact absurd B.ac.2.2 h)) <;> (try (exfalso; exact absurd B.ae h)) <;> (try first | rw [if_pos h] at hr | rw [if_neg h] at hr | rw [ifF h] at hr | rw [ifN h] at hr) <;> (try (have hb : (_ : Bool) = _ := h; clear h; subst hb; (try first | rw [if_pos rfl] at hr | rw [if_neg Bool.false_ne_true] at hr))) <;> first | (exfalso; omega) | exact absurd (h.symm.trans (by assumption) : true = false) Bool.noConfusion | exact absurd (h.symm.trans (by assumption) : false = true) Bool.noConfusion | (with_reducible refine (?_ : T1 _ ?_) ?_; rotate_left 1; (conv => lhs; cbv; (try cbv); (try cbv)); intro hT; clear hT; with_reducible refine Sh.mk (by kernel_rfl) ?_))
              | ((with_reducible refine End.mk ?_); skip)
              | with_reducible exact True.intro)
            all_goals first
              | (fail_if_success (with_reducible refine Exists.intro ?_ ?_)
                 first
                   | with_reducible rfl
                   | with_reducible assumption
                   | (symm; with_reducible assumption)
                   | omega
                   | ((try dsimp only [newMovSpec, mrcvSpec, mreadnSpec, mstartSpec, mhnnSpec, partSpec, partF, Ty.T, Ty.dflt, KT.T, getM, putM, delM, inI64, maxRow]); first | done | with_reducible rfl | with_reducible assumption | (symm; with_reducible assumption) | ((try simp only [natCast_eq, List.nil_append]); first | done | with_reducible rfl | omega | exact take_cg (by omega) | exact drop_cg (by omega) | exact take_drop_cg (by omega) (by omega) | exact take_all (by omega) | exact take_drop_all (by omega) (by omega) | exact drop_take_cg (by omega) (by omega) (by omega)))
                   | exact q2.symm
                   | ((try dsimp only [newMovSpec, mrcvSpec, mreadnSpec, mstartSpec, mhnnSpec, partSpec, partF, Ty.T, Ty.dflt, KT.T, getM, putM, delM, inI64, maxRow]); first | (simp only [nrm, reduceCtorEq, pair_eta, map_idL, natCast_eq, inI64, maxRow]; first | done | with_reducible assumption | omega) | exact map_pair_id _)
                   | ((try dsimp only [newMovSpec, mrcvSpec, mreadnSpec, mstartSpec, mhnnSpec, partSpec, partF, Ty.T, Ty.dflt, KT.T, getM, putM, delM, inI64, maxRow] at *); first | ((try simp only [natCast_eq] at *) <;> omega) | ((try simp only [lens, natCast_eq] at *) <;> omega))
                   | assumption
                   | (symm; assumption)
                   | (dsimp only; simp only [nrb, *]; done)
                   | (simp; done)
                   | (and_intros <;> first | trivial | with_reducible assumption | omega)
                   | ((try dsimp only [newMovSpec, mrcvSpec, mreadnSpec, mstartSpec, mhnnSpec, partSpec, partF, Ty.T, Ty.dflt, KT.T, getM, putM, delM, inI64, maxRow] at *) <;> simp [*] <;> done))
              | skip)
         | (refine Exists.elim (G.nx D5) ?_
            rintro y ⟨q1, q2, q3⟩
            refine ⟨y, by dsimp only; (try simp only [natCast_eq]); omega, ?_⟩
            (try (conv in (LoopInv.inv _ _) => dsimp only)); (try (conv in (SS.mk _ _) => cbv; (try dsimp only [newMovSpec, mrcvSpec, mreadnSpec, mstartSpec, mhnnSpec, partSpec, partF, Ty.T, Ty.dflt, KT.T]); (try simp only [natCast_eq])))
            (with_reducible refine (?_ : T1 _ ?_) ?_; rotate_left 1; (conv => lhs; cbv; (try cbv); (try cbv)); intro hT; clear hT; with_reducible refine Sh.mk (by kernel_rfl) ?_)
            repeat' (first
              | with_reducible (first | refine Ck.mk (C := tt) tt_intro ?_ | refine Ck.mk (show drawOk _ _ = true by kernel_rfl) ?_ | refine Ck.all_cons ?_ | refine Ck.all_nil ?_ | refine Ck.mk (by assumption) ?_ | refine Ck.mk (decide_eq_true (by assumption)) ?_ | refine Ck.mk (decide_eq_false (by assumption)) ?_ | refine Ck.mk ?_ ?_)
              | (with_reducible (first | refine Both.mk (fun h => ?_) (fun h => ?_) | refine Alt.mk (fun h => ?_) (fun h => ?_) | refine Pick.mk (fun h => ?_) (fun l1 x l2 h => ?_)) <;> (have hk := h) <;> (try simp only [nrm, reduceCtorEq, pair_eta, map_idL] at h) <;> (try dsimp only [newMovSpec, mrcvSpec, mreadnSpec, mstartSpec, mhnnSpec, partSpec, partF, Ty.T, Ty.dflt, KT.T, getM, putM, delM] at h) <;> (try simp only [natCast_eq] at h) <;> (try (have lb := u16_at hl hlo h; have F := lm1_step hd h60 hlo h hfit hph hz lb.1; have Fe := F.e)) <;> (try (have G := hxA hnL h60 hlo2 h hlen2 hok2; have G1 := G.lo; have G2 := G.tch; have G3 := G.emp; have G4 := G.o; have G5 := G.e; dsimp only [sg] at G1 G2 G3 G4 G5)) <;> (try (have Y := hyA hlo4 h hlen4 hok4; have Y1 := Y.z; dsimp only [sg] at Y1)) <;> (try (exfalso; exact absurd A.se h)) <;> (try (exfalso; exact absurd A.at_ h)) <;> (try (exfalso; exact absurd G.dat h)) <;> (try (exfalso; exact ne_tf (G.flg (by assumption)) h)) <;> (try (exfalso; exact h (tk_le d _))) <;> (try (exfalso; exact absurd B.ac.2.2 h)) <;> (try (exfalso; exact absurd B.ae h)) <;> (try first | rw [if_pos h] at hr | rw [if_neg h] at hr | rw [ifF h] at hr | rw [ifN h] at hr) <;> (try (have hb : (_ : Bool) = _ := h; clear h; subst hb; (try first | rw [if_pos rfl] at hr | rw [if_neg Bool.false_ne_true] at hr))) <;> first | (exfalso; omega) | exact absurd (h.symm.trans (by assumption) : true = false) Bool.noConfusion | exact absurd (h.symm.trans (by assumption) : false = true) Bool.noConfusion | (with_reducible refine (?_ : T1 _ ?_) ?_; rotate_left 1; (conv => lhs; cbv; (try cbv); (try cbv)); intro hT; clear hT; with_reducible refine Sh.mk (by kernel_rfl) ?_))
              | ((with_reducible refine End.mk ?_); skip)
              | with_reducible exact True.intro)
            all_goals first
              | (fail_if_success (with_reducible refine Exists.intro ?_ ?_)
                 first
                   | with_reducible rfl
                   | with_reducible assumption
                   | (symm; with_reducible assumption)
                   | omega
                   | ((try dsimp only [newMovSpec, mrcvSpec, mreadnSpec, mstartSpec, mhnnSpec, partSpec, partF, Ty.T, Ty.dflt, KT.T, getM, putM, delM, inI64, maxRow]); first | done | with_reducible rfl | with_reducible assumption | (symm; with_reducible assumption) | ((try simp only [natCast_eq, List.nil_append]); first | done | with_reducible rfl | omega | exact take_cg (by omega) | exact drop_cg (by omega) | exact take_drop_cg (by omega) (by omega) | exact take_all (by omega) | exact take_drop_all (by omega) (by omega) | exact drop_take_cg (by omega) (by omega) (by omega)))
                   | first | exact q1.symm | exact q2.symm | exact q3.symm
                   | ((try dsimp only [newMovSpec, mrcvSpec, mreadnSpec, mstartSpec, mhnnSpec, partSpec, partF, Ty.T, Ty.dflt, KT.T, getM, putM, delM, inI64, maxRow]); first | (simp only [nrm, reduceCtorEq, pair_eta, map_idL, natCast_eq, inI64, maxRow]; first | done | with_reducible assumption | omega) | exact map_pair_id _)
                   | ((try dsimp only [newMovSpec, mrcvSpec, mreadnSpec, mstartSpec, mhnnSpec, partSpec, partF, Ty.T, Ty.dflt, KT.T, getM, putM, delM, inI64, maxRow] at *); first | ((try simp only [natCast_eq] at *) <;> omega) | ((try simp only [lens, natCast_eq] at *) <;> omega))
                   | assumption
                   | (symm; assumption)
                   | (dsimp only; simp only [nrb, *]; done)
                   | (simp; done)
                   | (and_intros <;> first | trivial | with_reducible assumption | omega)
                   | ((try dsimp only [newMovSpec, mrcvSpec, mreadnSpec, mstartSpec, mhnnSpec, partSpec, partF, Ty.T, Ty.dflt, KT.T, getM, putM, delM, inI64, maxRow] at *) <;> simp [*] <;> done))
              | skip)
     skip)
theorem hnx_sound : ConSound Try.prog AI 3 hnxSpec.con := PureSpec.sound Try.call3 (fun x h => hnx_ok x.1 x.2.1 x.2.2.1 h)
end Go.Proofs.Ytgdiepbjdpmfbaa
