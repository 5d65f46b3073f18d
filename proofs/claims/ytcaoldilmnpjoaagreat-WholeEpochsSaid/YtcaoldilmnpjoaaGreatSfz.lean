/-
  The top: the contract of slices.SortedFunc of the keys of a map of dependencies.
-/
import Derived.Test.YtcaoldilmnpjoaaGreatSfs
import Derived.Test.YtcaoldilmnpjoaaGreatTab
namespace Go.Proofs.YtcaoldilmnpjoaaGreat
set_option linter.all false
open Go.RowKit Go.Sx Go.Maps Go.Sort Go.Shelf Go.WideShapes
set_option maxRecDepth 100000
def sfdCon (i : Nat) : Con Ab := fun args fresh => match args with
  | [.val (.fn f [.ptr k 0]), .val (.fn f2 [])] => (match beqN f 75 && beqN f2 26 && !beqN k i && !beqN k fresh && !beqN i fresh with
    | true => some ⟨[k, i, fresh], 1, true, fun cs _ => match cs with
      | [.cells t [.mp i'], .map (.agg (.pair (.int .i64) (.pair (.int .i64) (.int .i64)))) e L, .emp] => (match beqN i i' with
        | true => .done (fun _ => (keysD (L ())).Nodup ∧ (L ()).length ≤ 4194304) (Sx.one (.hd fresh 0)) [.cells t [.mp i'], .map (.agg DepE) e L, .row 76 DepE 0 (fun _ => sortD (keysD (L ())))]
        | false => .fail)
      | _ => .fail⟩
    | false => none)
  | _ => none
theorem rd_D {x : DepT} {l : Lit} (hx : keyOf Tryz.prog 76 (aggD x) = some l) {m : MapEntry} (hm : m.key = aggD x) : Go.WideElems.rd Tryz.prog 76 noR m = some (l, .nil) := by
  unfold Go.WideElems.rd
  rw [hm, hx]
  rfl
theorem mapD_owns {M : Mem} {w : World} {b : Nat} {es : Array MapEntry} {clock : Nat} {e : Ty} {L : List (DepT × e.T)} (hb : w.heap[b]? = some (.map es clock)) (hm : MapAt M (.agg DepE) e L es.toList clock)
    (hn : (keysD L).Nodup) (hl : L.length ≤ 4194304) :
    ∃ D0 : DataW Unit, w.ownsMap Tryz.prog 76 noR b L.length D0 ∧ (∀ (left : Lit → Bool) ss, (∀ kl, left kl = false) → CollD D0 left ss → ss.Perm (keysD L)) ∧ Maps.size D0 = L.length := by
  obtain ⟨h1, h2, h3⟩ := hm
  have hlen : L.length = es.size := by rw [h1.length]; simp
  have hkeys : ∀ (L : List (DepT × e.T)) (l : List MapEntry), All2 (fun p (m : MapEntry) => m.key = (KT.agg DepE).mk p.1 ∧ (KT.agg DepE).ok p.1 ∧ ValIs M e p.2 m.val) L l → l.map (·.key) = (keysD L).map aggD ∧ ∀ x ∈ keysD L, DepE.keyIn x := by
    intro L l h
    induction h with
    | nil => exact ⟨rfl, fun x hx => by cases hx⟩
    | cons h _ ih =>
      refine ⟨?_, fun x hx => ?_⟩
      · simp only [List.map_cons, keysD] at ih ⊢; rw [ih.1, h.1]; rfl
      · rcases List.mem_cons.1 hx with rfl | hx
        · exact h.2.1.2
        · exact ih.2 x hx
  obtain ⟨hk1, hin⟩ := hkeys L es.toList h1
  have hst : Go.MapKept.Stamped es clock := by
    refine ⟨h3, h2.imp fun h => Nat.ne_of_lt h, ?_⟩
    rw [hk1]
    exact List.pairwise_map.2 (hn.imp fun hne he => hne (aggD_inj he))
  have hrdE : ∀ m ∈ es.toList, ∃ x l, x ∈ keysD L ∧ m.key = aggD x ∧ keyOf Tryz.prog 76 (aggD x) = some l ∧ Go.WideElems.rd Tryz.prog 76 noR m = some (l, .nil) := fun m hm => by
    have : m.key ∈ es.toList.map (·.key) := List.mem_map_of_mem hm
    rw [hk1] at this
    obtain ⟨x, hx1, hx2⟩ := List.mem_map.1 this
    obtain ⟨l, hl⟩ := keyD_some (hin x hx1)
    exact ⟨x, l, hx1, hx2.symm, hl, rd_D hl hx2.symm⟩
  refine ⟨_, ⟨es, clock, hb, ⟨by rw [← hlen]; exact Nat.le_trans hl (by decide), hst, fun x hx => ?_⟩, by omega, rfl⟩, ?_, ?_⟩
  · obtain ⟨_, l, _, _, _, h9⟩ := hrdE x hx
    exact ⟨_, h9⟩
  · intro left ss hleft hC
    refine (List.perm_ext_iff_of_nodup hC.1 hn).2 fun x => ?_
    rw [hC.2 x]
    have hhas : ∀ l : Lit, has (H := Unit) (.map ((es.toList.map (Go.WideElems.rg Tryz.prog 76 noR)).foldr DataW.insert [])) l = true ↔ ∃ m ∈ es.toList, (Go.WideElems.rg Tryz.prog 76 noR m).1.sameKey l = true := fun l => by
      rw [has_eq, List.any_eq_true]
      constructor
      · rintro ⟨p, hp, hs⟩
        obtain ⟨m, hm, rfl⟩ := List.mem_map.1 (mem_sorted.1 hp)
        exact ⟨m, hm, hs⟩
      · rintro ⟨m, hm, hs⟩
        exact ⟨_, mem_sorted.2 (List.mem_map_of_mem hm), hs⟩
    constructor
    · rintro ⟨l, h4, h5, _⟩
      obtain ⟨m, hm, hs⟩ := (hhas l).1 h5
      obtain ⟨y, ly, hy1, hy2, hy3, hy4⟩ := hrdE m hm
      have e : (Go.WideElems.rg Tryz.prog 76 noR m).1 = ly := by unfold Go.WideElems.rg; rw [hy4]; rfl
      rw [e] at hs
      obtain ⟨s1, rfl⟩ := lawD.str hy3
      obtain ⟨s2, rfl⟩ := lawD.str h4
      simp [Lit.sameKey] at hs
      subst hs
      exact aggD_inj (keyedD.inj hy3 h4) ▸ hy1
    · intro hx
      obtain ⟨l, hl⟩ := keyD_some (hin x hx)
      refine ⟨l, hl, (hhas l).2 ?_, hleft l⟩
      have hmk : aggD x ∈ es.toList.map (·.key) := by rw [hk1]; exact List.mem_map_of_mem hx
      obtain ⟨m, hm, hme⟩ := List.mem_map.1 hmk
      refine ⟨m, hm, ?_⟩
      obtain ⟨s, rfl⟩ := lawD.str hl
      unfold Go.WideElems.rg
      rw [rd_D hl hme]
      simp [Lit.sameKey]
  · rw [Maps.size_eq, (sorted_perm _).length_eq, List.length_map]
    simpa using hlen.symm
theorem sfdCon_sound (i : Nat) : ConSound Tryz.prog AI 24 (sfdCon i) := by
  refine ⟨Tryz.call24, fun args fresh p hp hw => ?_, fun G s ρ tmps w args us fresh p d C v cs h hargs hp hfr he hC => ?_⟩
  · unfold sfdCon at hp
    split at hp
    · split at hp <;> cases hp
      cases hw
    · cases hp
  · unfold sfdCon at hp
    split at hp <;> (try (cases hp; done))
    rename_i f' k f2'
    split at hp <;> cases hp
    rename_i hcond
    simp only [Bool.and_eq_true, beqN_iff, Bool.not_eq_true', beqN] at hcond
    obtain ⟨⟨⟨⟨hfg, hfg2⟩, hki⟩, hkf⟩, hif⟩ := hcond
    have hfg : f' = 75 := by simpa using hfg
    have hfg2 : f2' = 26 := by simpa using hfg2
    have hki : k ≠ i := by simpa using hki
    have hkf : k ≠ fresh := by simpa using hkf
    have hif : i ≠ fresh := by simpa using hif
    subst hfg hfg2
    have hemp : getC s.H fresh = .emp := hfr fresh (by simp) (Nat.le_refl _)
    simp only [getCs] at he
    split at he <;> (try (cases he; done))
    rename_i t i' e L hcs
    split at he <;> cases he
    rename_i hii
    have hii : i = i' := beqN_iff.1 hii
    subst hii
    simp only [List.cons.injEq, and_true] at hcs
    obtain ⟨hck, hci, _⟩ := hcs
    obtain ⟨hn, hl⟩ := hC
    have h1 := h.ch k
    have h2 := h.ch i
    rw [hck] at h1
    rw [hci] at h2
    obtain ⟨bk, vs, hr1, hf1, hb1, hd1⟩ := h1
    obtain ⟨b, es, clock, hr2, hf2, hb2, hm2⟩ := h2
    cases hd1 with
    | cons hd hnil =>
    cases hnil
    rename_i v0
    obtain ⟨b', hb', rfl⟩ := hd
    have : b' = b := by
      rw [hr2] at hb'
      simpa using hb'.symm
    subst this
    cases hargs with
    | cons ha hnil =>
    cases hnil with
    | cons ha2 hnil =>
    cases hnil
    obtain ⟨caps, rfl, hcaps⟩ := ha
    cases hcaps with
    | cons hc hnil =>
    cases hnil
    obtain ⟨bk', hbk', rfl⟩ := hc
    obtain ⟨caps2, rfl, hcaps2⟩ := ha2
    cases hcaps2
    have : bk' = bk := by
      rw [hr1] at hbk'
      simpa using hbk'.symm
    subst this
    obtain ⟨D0, hown, hperm, hsize⟩ := mapD_owns hb2 hm2 hn hl
    have hlt : bk' < w.heap.size := (Array.getElem?_eq_some_iff.1 hb1).1
    have hseq : SeqGives Fence.wide 2 Tryz.prog 75 #[.pointer (some ⟨bk', 0, none⟩)] aggD (fun ss => ∃ left : Lit → Bool, (∀ kl, left kl = false) ∧ CollD D0 left ss) (Maps.size D0) w :=
      keys_gives Fence.wide 2 trivial rfl (by omega) bk' b' _ D0 w hlt (by simp [World.cell?, hb1]) hown
    have cS := sorted_in Fence.wide 5 rfl (fun _ => trivial) (fun h => callsIn_wide.2 h) (by omega) 75 #[.pointer (some ⟨bk', 0, none⟩)] Tryz.call75 _ _ (by rw [hsize]; exact Nat.le_trans hl (by decide)) (by rw [hsize]; omega) w hseq
    refine ((callsIn_wide (n := 5)).1 cS).mono ?_
    rintro e1 w' ⟨y, ss, rfl, ⟨left, hleft, hcol⟩, hrow, _, hbel⟩
    have hpm := hperm left ss hleft hcol
    have hsorted : sortD ss = sortD (keysD (L ())) := sortD_congr hpm
    have hlen : ss.length = (sortD (keysD (L ()))).length := by rw [← hsorted]; exact (sortD_perm _).length_eq.symm
    rw [hsorted, hlen] at hrow
    have hc := h.ch fresh
    rw [hemp] at hc
    obtain ⟨hc1, hc2, hc3⟩ := hc
    generalize hT : sortD (keysD (L ())) = T at *
    have hrowAt : ∃ F : List Nat, RowAt 76 ρ.M w' DepE T y F ∧ (∀ x ∈ F, w.heap.size ≤ x ∧ x < w'.heap.size) ∧ ∃ ao l c, y = .slice ao l c := by
      obtain ⟨hr0, hr⟩ := hrow
      rcases hr with ⟨rfl, hz⟩ | ⟨gb, cap, cur, rfl, g1, g2, g3, g4, g5, g6⟩
      · exact ⟨[], .inl ⟨⟨_, rfl⟩, List.eq_nil_of_length_eq_zero hz, rfl⟩, fun x hx => (by cases hx), _, _, _, rfl⟩
      · refine ⟨[gb], .inr ⟨gb, 0, cap, rfl, rfl, g3, g4, fun j x hj => ?_, fun j hj => ?_, fun he => by cases he⟩, fun x hx => ?_, _, _, _, rfl⟩
        · have hjl : j < T.length := (List.getElem?_eq_some_iff.1 hj).1
          have hcell : ∀ c, c < 3 → w'.cell? ⟨gb, 0 + j * 3 + c, none⟩ = (cellsD x)[c]? := fun c hc => by
            have h3 : (cur.toList.take (T.length * 3))[j * 3 + c]? = (cellsD x)[c]? := by
              rw [g6, flat_get T (j * 3 + c) (by omega), show (j * 3 + c) / 3 = j by omega, show (j * 3 + c) % 3 = c by omega, List.getD_eq_getElem?_getD, hj]; rfl
            rw [List.getElem?_take_of_lt (by omega)] at h3
            simp only [World.cell?, g2]
            simpa using h3
          exact ⟨hcell 0 (by omega), hcell 1 (by omega), hcell 2 (by omega)⟩
        · have hjc : j < cur.size := by rw [g5]; exact hj
          simp only [World.cell?, World.frozen?, g2]
          simp [hjc]
        · simp only [List.mem_singleton] at hx
          subst hx
          exact ⟨g1, (Array.getElem?_eq_some_iff.1 g2).1⟩
    obtain ⟨F, hF1, hF2, hF3⟩ := hrowAt
    obtain ⟨h8, h9⟩ := h.upd1 fresh y 0 F (.row 76 DepE 0 (fun _ => T)) w' (by rw [hc2]; simp) (by omega) (by rw [hc2]; simp) (fun b hb => ⟨.inr (hF2 b hb).1, (hF2 b hb).2⟩) (fun b hb _ => hbel.block b hb) hbel.os hbel.tape hbel.output hbel.size
      ⟨by simp [Ev.upd], by
        have e3 : (ρ.upd fresh y 0 F).root fresh = y := by simp [Ev.upd]
        have e4 : (ρ.upd fresh y 0 F).foot fresh = F := by simp [Ev.upd]
        rw [e3, e4]
        exact hF1⟩
    refine ⟨y, _, rfl, h8.congrH fun j => ?_, ⟨hF3, by simp [Ev.upd], fun _ => by simp [Ev.upd]⟩, h9⟩
    simp only [putCs, getC_putC]
    by_cases e1 : j = fresh
    · simp [e1, hT]
    · simp only [e1, if_false]
      by_cases e2 : j = i
      · subst e2; simp [hci]
      · simp only [e2, if_false]
        by_cases e3 : j = k
        · subst e3; simp [hck]
        · simp [e3]
end Go.Proofs.YtcaoldilmnpjoaaGreat
