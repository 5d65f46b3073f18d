/-
  Part Eng4 of the proof.
-/
import Derived.Test.YtcaoldilmnpjoaaGreatEng3
import Derived.Shelf.SlIterI.Sorted
import Derived.Shelf.SlIterI.Nil
namespace Go.Sx
set_option linter.all false
open Go.RowKit Go.Proofs Go.WideShapes Go.Maps
variable {A : Type} {AI : Abs A} {P : Program}
def zs (x : Int) : List Int → List Int
 | [] => [x]
 | y :: r => if x ≤ y then x :: y :: r else y :: zs x r
def cW : List Int → List Int
 | [] => []
 | x :: r => zs x (cW r)
def aa {V : Type} (l : List (Int × V)) : List Int := l.map fun p => p.1
theorem nN (x : Int) : ∀ l : List Int, (zs x l).Perm (x :: l)
 | [] => .refl _
 | y :: r => by
   unfold zs
   split
   · exact .refl _
   · exact ((nN x r).cons y).trans (.swap x y r)
theorem cr : ∀ l : List Int, (cW l).Perm l
 | [] => .refl _
 | x :: r => (nN x _).trans ((cr r).cons x)
theorem vT (x : Int) : ∀ l : List Int, l.Pairwise (· ≤ ·) → (zs x l).Pairwise (· ≤ ·)
 | [], _ => List.pairwise_singleton _ _
 | y :: r, h => by
   obtain ⟨h1, h2⟩ := List.pairwise_cons.1 h
   unfold zs
   split
   · rename_i hxy
     refine List.pairwise_cons.2 ⟨fun z hz => ?_, h⟩
     rcases List.mem_cons.1 hz with rfl | hz
     · exact hxy
     · exact Int.le_trans hxy (h1 z hz)
   · rename_i hxy
     refine List.pairwise_cons.2 ⟨fun z hz => ?_, vT x r h2⟩
     rcases List.mem_cons.1 ((nN x r).subset hz) with rfl | hz
     · omega
     · exact h1 z hz
theorem gQ : ∀ l : List Int, (cW l).Pairwise (· ≤ ·)
 | [] => .nil
 | x :: r => vT x _ (gQ r)
theorem xP : ∀ {l m : List Int}, l.Perm m → l.Pairwise (· ≤ ·) → m.Pairwise (· ≤ ·) → l = m
 | [], m, h, _, _ => (List.Perm.nil_eq h)
 | a :: l, [], h, _, _ => absurd h.length_eq (by simp)
 | a :: l, b :: m, h, h1, h2 => by
   obtain ⟨p1, p2⟩ := List.pairwise_cons.1 h1
   obtain ⟨q1, q2⟩ := List.pairwise_cons.1 h2
   have e : a = b := by
    have ha : a ∈ b :: m := h.subset (List.mem_cons_self ..)
    have hb : b ∈ a :: l := h.symm.subset (List.mem_cons_self ..)
    rcases List.mem_cons.1 ha with e | ha
    · exact e
    rcases List.mem_cons.1 hb with e | hb
    · exact e.symm
    have := p1 b hb; have := q1 a ha; omega
   subst e
   rw [xP ((List.perm_cons _).1 h) p2 q2]
theorem np {l m : List Int} (h : l.Perm m) : cW l = cW m :=
 xP ((cr l).trans (h.trans (cr m).symm)) (gQ l) (gQ m)
theorem lW (l : List Int) : (l.mergeSort fun x y => decide (x ≤ y)) = cW l := by
 have h := List.pairwise_mergeSort (le := fun x y : Int => decide (x ≤ y)) (fun a b c h1 h2 => by simp at h1 h2 ⊢; omega) (fun a b => by simp; omega) l
 exact xP ((List.mergeSort_perm _ _).trans (cr l).symm) (h.imp fun h => by simpa using h) (gQ l)
def gP (g : FuncId) (et : TypeId) (i : Nat) : Con A := fun args fresh => match args with
 | [.val (.fn f [.ptr k 0])] => (match aG f g && !aG k i && !aG k fresh && !aG i fresh with
   | true => some ⟨[k, i, fresh], 1, true, fun cs _ => match cs with
     | [.cells t [.mp i'], .map (.int .i64) e L, .emp] => (match aG i i' with
       | true => .done (fun _ => (aa (L ())).Nodup ∧ (∀ x ∈ aa (L ()), b5 x) ∧ (L ()).length ≤ 4194304) (one (.hd fresh 0)) [.cells t [.mp i'], .map (.int .i64) e L, .row et (.int .i64) 0 (fun _ => cW (aa (L ())))]
       | false => .fail)
     | _ => .fail⟩
   | false => none)
 | _ => none
theorem wf_i64 {n : Int} (hn : b5 n) : (Lit.int .i64 n).wf = true := by
 have h1 : IntKind.i64.min = -9223372036854775808 := by rfl
 have h2 : IntKind.i64.max = 9223372036854775807 := by rfl
 simp only [Lit.wf, h1, h2, Bool.and_eq_true, decide_eq_true_eq]
 exact hn
def noR : Value → Option (DataW Unit × List MemPlace) := fun _ => some (.nil, [])
theorem sr {k : TypeId} (hk : P.underlying k = some (.int .i64)) {n : Int} (hn : b5 n) {x : MapEntry} (hx : x.key = .int .i64 n) : Go.WideElems.rd P k noR x = some (.int .i64 n, .nil) := by
 unfold Go.WideElems.rd
 rw [hx, keyOf_int_mk hk (wf_i64 hn)]
 rfl
theorem wg {M : Mem} {w : World} {b : Nat} {es : Array MapEntry} {clock : Nat} {e : Ty} {L : List (Int × e.T)} (hb : w.heap[b]? = some (.map es clock)) (hm : gm M (.int .i64) e L es.toList clock) {k : TypeId} (hk : P.underlying k = some (.int .i64))
 (hn : (aa L).Nodup) (hi : ∀ x ∈ aa L, b5 x) (hl : L.length ≤ 4194304) :
 ∃ D0 : DataW Unit, w.ownsMap P k noR b L.length D0 ∧ (intKeys D0).Perm (aa L) ∧ Maps.size D0 = L.length := by
 obtain ⟨h1, h2, h3⟩ := hm
 have hlen : L.length = es.size := by rw [h1.length]; simp
 have hkeys : ∀ (L : List (Int × e.T)) (l : List MapEntry), aL (fun p (m : MapEntry) => m.key = (KT.int .i64).mk p.1 ∧ (KT.int .i64).ok p.1 ∧ dz M e p.2 m.val) L l → l.map (·.key) = (aa L).map fun x => Value.int .i64 x := by
  intro L l h
  induction h with
  | nil => rfl
  | cons h _ ih => simp only [List.map_cons, aa] at ih ⊢; rw [ih, h.1]; rfl
 have hk1 := hkeys L es.toList h1
 have hread : ∀ (L : List (Int × e.T)) (l : List MapEntry), aL (fun p (m : MapEntry) => m.key = (KT.int .i64).mk p.1 ∧ (KT.int .i64).ok p.1 ∧ dz M e p.2 m.val) L l → (∀ x ∈ aa L, b5 x) → l.map (Go.WideElems.rg P k noR) = (aa L).map fun x => ((.int .i64 x : Lit), (.nil : DataW Unit)) := by
  intro L l h
  induction h with
  | nil => intro _; rfl
  | cons h _ ih =>
    intro hi
    simp only [List.map_cons, aa] at ih hi ⊢
    rw [ih fun x hx => hi x (List.mem_cons_of_mem _ hx)]
    congr 1
    unfold Go.WideElems.rg
    rw [sr hk (hi _ (List.mem_cons_self ..)) h.1]
    rfl
 have hr1 := hread L es.toList h1 hi
 have hst : Go.MapKept.Stamped es clock := by
  refine ⟨h3, h2.imp fun h => Nat.ne_of_lt h, ?_⟩
  rw [hk1]
  exact List.pairwise_map.2 (hn.imp fun hne he => hne (by simpa using he))
 refine ⟨_, ⟨es, clock, hb, ⟨by rw [← hlen]; exact Nat.le_trans hl (by decide), hst, fun x hx => ?_⟩, by omega, rfl⟩, ?_, ?_⟩
 · have : x.key ∈ es.toList.map (·.key) := List.mem_map_of_mem hx
   rw [hk1] at this
   obtain ⟨n, hn1, hn2⟩ := List.mem_map.1 this
   exact ⟨_, sr hk (hi n hn1) hn2.symm⟩
 · show (((es.toList.map (Go.WideElems.rg P k noR)).foldr DataW.insert []).map fun p => intOf p.1).Perm _
   refine ((sorted_perm _).map _).trans ?_
   rw [hr1, List.map_map]
   exact List.Perm.of_eq (List.map_id' _)
 · rw [Maps.size_eq, (sorted_perm _).length_eq, List.length_map]
   simpa using hlen.symm
theorem oF {ρ1 ρ2 : Shelf.Ren} (L7 : SlLaysZI.n10 P ρ1) (L6 : SlLaysZI.n6 P ρ2) (hsort : AnyZI.SortsIn P ρ2 Fence.wide 4) {f g : FuncId} (hf : ρ2.f 6 = f) (hg : ρ1.f 10 = g) (enf : Enters P f) (eng : Enters P g) (en9 : Enters P (ρ2.f 9)) (et : TypeId) (i : Nat) :
 aE P AI f (gP g et i) := by
 subst hf hg
 refine ⟨enf, fun args fresh p hp hw => ?_, fun G s ρ tmps w args us fresh p d C v cs h hargs hp hfr he hC => ?_⟩
 · unfold gP at hp
   split at hp
   · split at hp <;> cases hp
     cases hw
   · cases hp
 · unfold gP at hp
   split at hp <;> (try (cases hp; done))
   rename_i f' k
   split at hp <;> cases hp
   rename_i hcond
   simp only [Bool.and_eq_true, ad, Bool.not_eq_true', aG] at hcond
   obtain ⟨⟨⟨hfg, hki⟩, hkf⟩, hif⟩ := hcond
   have hfg : f' = ρ1.f 10 := by simpa using hfg
   have hki : k ≠ i := by simpa using hki
   have hkf : k ≠ fresh := by simpa using hkf
   have hif : i ≠ fresh := by simpa using hif
   subst hfg
   have hemp : aC s.H fresh = .emp := hfr fresh (by simp) (Nat.le_refl _)
   simp only [aD] at he
   split at he <;> (try (cases he; done))
   rename_i t i' e L hcs
   split at he <;> cases he
   rename_i hii
   have hii : i = i' := ad.1 hii
   subst hii
   simp only [List.cons.injEq, and_true] at hcs
   obtain ⟨hck, hci, _⟩ := hcs
   obtain ⟨hn, hi, hl⟩ := hC
   have h1 := h.ch k
   have h2 := h.ch i
   rw [hck] at h1
   rw [hci] at h2
   obtain ⟨bk, vs, hr1, hf1, hb1, hd1⟩ := h1
   obtain ⟨b, es, clock, hr2, hf2, hb2, hm2⟩ := h2
   cases hd1 with
   | cons hd hnil =>
   cases hnil
   rename_i v0
   obtain ⟨b', hb', rfl⟩ := hd
   have : b' = b := by
    rw [hr2] at hb'
    simpa using hb'.symm
   subst this
   cases hargs with
   | cons ha hnil =>
   cases hnil
   obtain ⟨caps, rfl, hcaps⟩ := ha
   cases hcaps with
   | cons hc hnil =>
   cases hnil
   obtain ⟨bk', hbk', rfl⟩ := hc
   have : bk' = bk := by
    rw [hr1] at hbk'
    simpa using hbk'.symm
   subst this
   obtain ⟨D0, hown, hperm, hsize⟩ := wg (P := P) (k := ρ1.t 26) hb2 hm2 L7.t26 hn hi hl
   have hlt : bk' < w.heap.size := by
    exact (Array.getElem?_eq_some_iff.1 hb1).1
   have hseq : SeqGives Fence.wide 2 P (ρ1.f 10) #[.pointer (some ⟨bk', 0, none⟩)] encZ (fun ss => ss.Perm (intKeys D0)) (Maps.size D0) w :=
    AnyZI.keys_gives L7 Fence.wide 2 trivial rfl (by omega) bk' b' _ D0 w hlt (by simp [World.cell?, hb1]) hown
   have cS := AnyZI.sorted_in L6 Fence.wide 5 trivial trivial trivial trivial rfl (by omega) hsort en9 (ρ1.f 10) #[.pointer (some ⟨bk', 0, none⟩)] trivial eng _ _ (by rw [hsize]; exact Nat.le_trans hl (by decide)) (by rw [hsize]; omega) w hseq
   refine ((callsIn_wide (n := 5)).1 cS).mono ?_
   rintro e1 w' ⟨y, ss, rfl, hS, hrow, _, hbel⟩
   have hsorted : ss.mergeSort (fun x y => decide (x ≤ y)) = cW (aa (L ())) := (lW ss).trans (np (hS.trans hperm))
   have hlen : ss.length = (cW (aa (L ()))).length := by rw [← hsorted]; exact (List.mergeSort_perm _ _).length_eq.symm
   rw [hsorted, hlen] at hrow
   have hc := h.ch fresh
   rw [hemp] at hc
   obtain ⟨hc1, hc2, hc3⟩ := hc
   have hrowAt : ∃ F : List Nat, bg et ρ.M w' (.int .i64) (cW (aa (L ()))) y F ∧ (∀ x ∈ F, w.heap.size ≤ x ∧ x < w'.heap.size) ∧ ∃ ao l c, y = .slice ao l c := by
    obtain ⟨hr0, hr⟩ := hrow
    rcases hr with ⟨rfl, hz⟩ | ⟨gb, cap, cur, rfl, g1, g2, g3, g4, g5, g6⟩
    · exact ⟨[], .inl ⟨⟨_, rfl⟩, List.eq_nil_of_length_eq_zero hz, rfl⟩, fun x hx => (by cases hx), _, _, _, rfl⟩
    · refine ⟨[gb], .inr ⟨gb, 0, cap, rfl, rfl, g3, g4, fun j x hj => ?_, fun j hj => ?_, fun he => by cases he⟩, fun x hx => ?_, _, _, _, rfl⟩
      · show w'.cell? ⟨gb, 0 + j * 1 + 0, none⟩ = some (.int .i64 x)
        have hjl : j < (cW (aa (L ()))).length := (List.getElem?_eq_some_iff.1 hj).1
        have h3 : (cur.toList.take ((cW (aa (L ()))).length * 1))[j]? = some (encZ x) := by rw [g6, List.getElem?_map, hj]; rfl
        rw [List.getElem?_take_of_lt (by omega)] at h3
        simp only [World.cell?, g2]
        simpa [encZ] using h3
      · have hjc : j < cur.size := by rw [g5]; exact hj
        simp only [World.cell?, World.frozen?, g2]
        simp [hjc]
      · simp only [List.mem_singleton] at hx
        subst hx
        exact ⟨g1, (Array.getElem?_eq_some_iff.1 g2).1⟩
   obtain ⟨F, hF1, hF2, hF3⟩ := hrowAt
   obtain ⟨h8, h9⟩ := h.dx fresh y 0 F (.row et (.int .i64) 0 (fun _ => cW (aa (L ())))) w' (by rw [hc2]; simp) (by omega) (by rw [hc2]; simp) (fun b hb => ⟨.inr (hF2 b hb).1, (hF2 b hb).2⟩) (fun b hb _ => hbel.block b hb) hbel.os hbel.tape hbel.output hbel.size
    ⟨by simp [Ev.upd], by
      have e3 : (ρ.upd fresh y 0 F).root fresh = y := by simp [Ev.upd]
      have e4 : (ρ.upd fresh y 0 F).foot fresh = F := by simp [Ev.upd]
      rw [e3, e4]
      exact hF1⟩
   refine ⟨y, _, rfl, h8.bt fun j => ?_, ⟨hF3, by simp [Ev.upd], fun _ => by simp [Ev.upd]⟩, h9⟩
   simp only [aO, aP]
   by_cases e1 : j = fresh
   · simp [e1]
   · simp only [e1, if_false]
     by_cases e2 : j = i
     · subst e2; simp [hci]
     · simp only [e2, if_false]
       by_cases e3 : j = k
       · subst e3; simp [hck]
       · simp [e3]
end Go.Sx
