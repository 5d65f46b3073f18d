/-
  Layer 48: the bounds of a moving end under any acts (plain).
-/
import Derived.Test.YtgdiepbjdpmfbaaHan
namespace Go.Proofs.Ytgdiepbjdpmfbaa
set_option linter.all false
set_option linter.unusedVariables false
set_option linter.unusedSimpArgs false
set_option linter.unusedSectionVars false
open Go.RowKit Go.Sx

abbrev finB : Int := 1099512676352
structure Szs (S : Sto) (w n : Int) : Prop where
  ok : StO S
  win : S.win = w
  off : S.off ≤ n
  fin : S.known = true → S.fin ≤ finB
theorem Szs.mono {S : Sto} {w n m : Int} (h : Szs S w n) (hm : n ≤ m) : Szs S w m := ⟨h.ok, h.win, Int.le_trans h.off hm, h.fin⟩
theorem szs_eS {w o n : Int} (h1 : 1 ≤ w) (h2 : w ≤ 1048576) (h0 : 0 ≤ o) (h3 : o ≤ n) (hn : n ≤ 1099511627776) : Szs (eS w o) w n :=
  ⟨eS_ok h1 h2 h0 (by omega), rfl, h3, fun h => by cases h⟩
theorem szs_put {S : Sto} {w n o : Int} {d : List Int} (h : Szs S w n) (l : Bool) (hb : inBytes d) (hl : d.length ≤ 1048576) : Szs (putF S o d l).2 w n := by
  have hs := put_sto h.ok (o := o) l hb hl
  rcases put_cases S o d l with ⟨_, e⟩ | ⟨_, _, e⟩ | e
  · rw [e]; exact h
  · rw [e]; exact h
  · rw [put_ok_eq e] at hs ⊢
    refine ⟨hs, h.win, h.off, fun hk => ?_⟩
    show (if l = true then o + (d.length : Int) else S.fin) ≤ finB
    split
    · have := e.o1; dsimp only [finB]; omega
    · rename_i hl2
      have hk : (if l = true then true else S.known) = true := hk
      rw [if_neg hl2] at hk
      exact h.fin hk
theorem szs_read {S : Sto} {w n : Int} (h : Szs S w n) (m : Int) : Szs (readF S m).2 w (n + w) := by
  have hs := read_sto h.ok m
  have hw := h.ok.win; have ho := h.off; have hn := h.ok.nxt; have hwi := h.win
  by_cases hm : m < 1
  · have e : readF S m = (([], ()), S) := by unfold readF; rw [if_pos hm]
    rw [e]; exact h.mono (by omega)
  · have e : (readF S m).2 = { S with kept := rdK S.kept S.off (rdN S m).toNat, off := S.off + rdN S m } := by unfold readF; rw [if_neg hm]
    rw [e] at hs ⊢
    exact ⟨hs, h.win, by show S.off + rdN S m ≤ _; dsimp only [rdN]; omega, h.fin⟩
structure SzM (M : Mov) (w n : Int) : Prop where
  win : M.win = w
  w1 : 1 ≤ w ∧ w ≤ 1000
  n1 : 0 ≤ n ∧ n ≤ 1000000
  a : M.ph ≠ .moved → Szs M.a w n
  b : M.ph ≠ .old → Szs M.b w n
theorem SzM.ok {M : Mov} {w n : Int} (h : SzM M w n) : OkM M := by
  have := h.w1
  refine ⟨by rw [h.win]; omega, fun e => ?_, fun e => ?_⟩
  · rw [h.win]; exact ⟨(h.a e).ok, (h.a e).win⟩
  · rw [h.win]; exact ⟨(h.b e).ok, (h.b e).win⟩
theorem SzM.pS {M : Mov} {w n : Int} (h : SzM M w n) : OkM M ∧ (M.ph = .old → M.a.off ≤ 1099511627776) :=
  ⟨h.ok, fun e => by have := (h.a (fun e2 => by rw [e] at e2; cases e2)).off; have := h.n1; omega⟩
theorem SzM.pH {M : Mov} {w n : Int} (h : SzM M w n) : OkM M ∧ (M.ph = .drain → M.a.off + M.win ≤ 1099511627776 ∧ (M.a.known = true → M.a.fin ≤ 1099512676352)) :=
  ⟨h.ok, fun e => by
    have h1 := h.a (fun e2 => by rw [e] at e2; cases e2)
    have := h1.off; have := h.n1; have := h.w1; have := h.win
    exact ⟨by omega, h1.fin⟩⟩
theorem SzM.mono {M : Mov} {w n m : Int} (h : SzM M w n) (hm : n ≤ m) (hm2 : m ≤ 1000000) : SzM M w m :=
  ⟨h.win, h.w1, ⟨by have := h.n1; omega, hm2⟩, fun e => (h.a e).mono hm, fun e => (h.b e).mono hm⟩
theorem szM_new {w : Int} (h1 : 1 ≤ w) (h2 : w ≤ 1000) : SzM (newM w) w 0 :=
  ⟨rfl, ⟨h1, h2⟩, ⟨Int.le_refl _, by decide⟩, fun _ => ⟨newS_ok h1 (by omega), rfl, Int.le_refl _, fun h => by cases h⟩, fun h => absurd rfl h⟩
theorem puts_szs {w n : Int} : ∀ (L : List Seg) (B : Sto), Szs B w n → (∀ s ∈ L, SegOk s) → Szs (putsL B L) w n
  | [], B, h, _ => h
  | s :: r, B, h, hL => by
    have hs := hL s (List.mem_cons_self ..)
    exact puts_szs r _ (szs_put h s.2.2 hs.byt hs.n) (fun x hx => hL x (List.mem_cons_of_mem _ hx))
theorem sz_rcv {M : Mov} {w n p : Int} {s : Seg} (h : SzM M w n) (hb : inBytes s.2.1) (hl : s.2.1.length ≤ 1048576) : SzM (rcvM M p s).2 w n := by
  obtain ⟨mw, ph, a, b⟩ := M
  have hw := h.win; have h1 := h.w1; have hn := h.n1; have ha := h.a; have hbb := h.b
  cases ph <;> dsimp only [rcvM]
  · have ha := ha (fun e => by cases e)
    split
    · exact ⟨hw, h1, hn, fun _ => szs_put ha s.2.2 hb hl, fun e => absurd rfl e⟩
    · split <;> exact ⟨hw, h1, hn, fun _ => ha, fun e => absurd rfl e⟩
  · have ha := ha (fun e => by cases e); have hbb := hbb (fun e => by cases e)
    split
    · exact ⟨hw, h1, hn, fun _ => szs_put ha s.2.2 hb hl, fun _ => hbb⟩
    · split
      · exact ⟨hw, h1, hn, fun _ => ha, fun _ => szs_put hbb s.2.2 hb hl⟩
      · exact ⟨hw, h1, hn, fun _ => ha, fun _ => hbb⟩
  · have hbb := hbb (fun e => by cases e)
    split
    · exact ⟨hw, h1, hn, fun e => absurd rfl e, fun _ => hbb⟩
    · split
      · exact ⟨hw, h1, hn, fun e => absurd rfl e, fun _ => szs_put hbb s.2.2 hb hl⟩
      · exact ⟨hw, h1, hn, fun e => absurd rfl e, fun _ => hbb⟩
theorem sz_start {M : Mov} {w n : Int} (h : SzM M w n) : SzM (startM M).2 w n := by
  obtain ⟨mw, ph, a, b⟩ := M
  have hw := h.win; have h1 := h.w1; have hn := h.n1; have ha := h.a; have hbb := h.b
  cases ph
  · have ha := ha (fun e => by cases e)
    have hw : mw = w := hw
    subst hw
    have h0 : 0 ≤ a.off := ha.ok.off.1
    have h2 : a.off ≤ n := ha.off
    exact ⟨rfl, h1, hn, fun _ => ha, fun _ => szs_eS h1.1 (by omega) h0 h2 (by omega)⟩
  · exact ⟨hw, h1, hn, ha, hbb⟩
  · exact ⟨hw, h1, hn, ha, hbb⟩
theorem sz_fin {M : Mov} {w n : Int} (h : SzM M w n) : SzM (finM M).2 w n := by
  obtain ⟨mw, ph, a, b⟩ := M
  have hw := h.win; have h1 := h.w1; have hn := h.n1; have ha := h.a; have hbb := h.b
  cases ph
  · exact ⟨hw, h1, hn, ha, hbb⟩
  · exact ⟨hw, h1, hn, fun e => absurd rfl e, fun _ => hbb (fun e => by cases e)⟩
  · exact ⟨hw, h1, hn, ha, hbb⟩
theorem sz_read {M : Mov} {w n : Int} (h : SzM M w n) (hn2 : n + w ≤ 1000000) (m : Int) : SzM (readM M m).2 w (n + w) := by
  obtain ⟨mw, ph, a, b⟩ := M
  have hw := h.win; have h1 := h.w1; have hn := h.n1; have ha := h.a; have hbb := h.b
  have hn3 : 0 ≤ n + w ∧ n + w ≤ 1000000 := by omega
  cases ph
  · exact ⟨hw, h1, hn3, fun _ => szs_read (ha (fun e => by cases e)) m, fun e => absurd rfl e⟩
  · exact ⟨hw, h1, hn3, fun _ => (ha (fun e => by cases e)).mono (by omega), fun _ => szs_read (hbb (fun e => by cases e)) m⟩
  · exact ⟨hw, h1, hn3, fun e => absurd rfl e, fun _ => szs_read (hbb (fun e => by cases e)) m⟩
theorem sz_hand {M : Mov} {w n : Int} (h : SzM M w n) : SzM (handM M).2 w n := by
  have hpH := h.pH
  obtain ⟨mw, ph, a, b⟩ := M
  have hw := h.win; have h1 := h.w1; have hn := h.n1; have ha := h.a; have hbb := h.b
  cases ph
  · exact ⟨hw, h1, hn, ha, hbb⟩
  · have ha := ha (fun e => by cases e); have hbb := hbb (fun e => by cases e)
    obtain ⟨p1, p2⟩ := hpH.2 rfl
    have hw : mw = w := hw
    subst hw
    have haw : a.win = mw := ha.win
    have hP : PreR a := ⟨ha.ok, by rw [haw]; exact p1⟩
    have hF := hnF (w := mw) hP haw p2
    have h0 : 0 ≤ a.off := ha.ok.off.1
    have h2 : a.off ≤ n := ha.off
    have he := szs_eS (w := mw) (o := a.off) (n := n) h1.1 (by omega) h0 h2 (by omega)
    have hA : Szs (handA mw a) mw n := by
      unfold handA
      split
      · exact szs_put he true (zer_byt _) (by
          have hf := hF.f
          rename_i hk
          dsimp only [eF] at hf
          rw [if_pos hk] at hf
          rw [List.length_replicate]; dsimp only [endA]; omega)
      · exact he
    exact ⟨rfl, h1, hn, fun _ => hA, fun _ => puts_szs _ _ hbb (hn_hs hF)⟩
  · exact ⟨hw, h1, hn, ha, hbb⟩
/-- What arrives at a place that does not accept it changes nothing. -/
theorem rcv_refused {M : Mov} {p : Int} {s : Seg} (h : accB M p = false) : (rcvM M p s).2 = M ∧ ((rcvM M p s).1.1 : Int) = if p = 0 ∨ p = 1 then 6 else 2 := by
  obtain ⟨mw, ph, a, b⟩ := M
  cases ph <;> rcases three p with hp | hp | hp
  · exact absurd h (by show ¬ decide (p = 0) = false; rw [decide_eq_true hp]; decide)
  · subst hp; exact ⟨rfl, rfl⟩
  · dsimp only [rcvM]; rw [if_neg hp.1, if_neg hp.2, if_neg (by omega)]; exact ⟨rfl, rfl⟩
  · exact absurd h (by show ¬ decide (p = 0 ∨ p = 1) = false; rw [decide_eq_true (.inl hp)]; decide)
  · exact absurd h (by show ¬ decide (p = 0 ∨ p = 1) = false; rw [decide_eq_true (.inr hp)]; decide)
  · dsimp only [rcvM]; rw [if_neg hp.1, if_neg hp.2, if_neg (by omega)]; exact ⟨rfl, rfl⟩
  · subst hp; exact ⟨rfl, rfl⟩
  · exact absurd h (by show ¬ decide (p = 1) = false; rw [decide_eq_true hp]; decide)
  · dsimp only [rcvM]; rw [if_neg hp.1, if_neg hp.2, if_neg (by omega)]; exact ⟨rfl, rfl⟩
end Go.Proofs.Ytgdiepbjdpmfbaa
