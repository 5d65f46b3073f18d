/-
  Part Own25 of the proof.
-/
import Derived.Test.YtcaoldilmnpjoaaGreatOwn24
import Derived.Test.YtcaoldilmnpjoaaGreatOwn1
namespace Go.Proofs.YtcaoldilmnpjoaaGreat
set_option linter.all false
open Go.RowKit Go.Sx Go.Maps Go.Sort Go.Shelf Go.WideShapes
set_option maxRecDepth 100000
def pF (i : Nat) : Con Ab := fun args fresh => match args with
 | [.val (.fn f [.ptr k 0]), .val (.fn f2 [])] => (match aG f 75 && aG f2 26 && !aG k i && !aG k fresh && !aG i fresh with
   | true => some ⟨[k, i, fresh], 1, true, fun cs _ => match cs with
     | [.cells t [.mp i'], .map (.agg (.pair (.int .i64) (.pair (.int .i64) (.int .i64)))) e L, .emp] => (match aG i i' with
       | true => .done (fun _ => (bS (L ())).Nodup ∧ (L ()).length ≤ 4194304) (Sx.one (.hd fresh 0)) [.cells t [.mp i'], .map (.agg br) e L, .row 76 br 0 (fun _ => fD (bS (L ())))]
       | false => .fail)
     | _ => .fail⟩
   | false => none)
 | _ => none
theorem rd_D {x : aT} {l : Lit} (hx : keyOf Tryz.prog 76 (eG x) = some l) {m : MapEntry} (hm : m.key = eG x) : Go.WideElems.rd Tryz.prog 76 noR m = some (l, .nil) := by
 unfold Go.WideElems.rd
 rw [hm, hx]
 rfl
theorem zk {M : Mem} {w : World} {b : Nat} {es : Array MapEntry} {clock : Nat} {e : Ty} {L : List (aT × e.T)} (hb : w.heap[b]? = some (.map es clock)) (hm : gm M (.agg br) e L es.toList clock)
 (hn : (bS L).Nodup) (hl : L.length ≤ 4194304) :
 ∃ D0 : DataW Unit, w.ownsMap Tryz.prog 76 noR b L.length D0 ∧ (∀ (left : Lit → Bool) ss, (∀ kl, left kl = false) → jP D0 left ss → ss.Perm (bS L)) ∧ Maps.size D0 = L.length := by
 obtain ⟨h1, h2, h3⟩ := hm
 have hlen : L.length = es.size := by rw [h1.length]; simp
 have hkeys : ∀ (L : List (aT × e.T)) (l : List MapEntry), aL (fun p (m : MapEntry) => m.key = (KT.agg br).mk p.1 ∧ (KT.agg br).ok p.1 ∧ dz M e p.2 m.val) L l → l.map (·.key) = (bS L).map eG ∧ ∀ x ∈ bS L, br.bW x := by
  intro L l h
  induction h with
  | nil => exact ⟨rfl, fun x hx => by cases hx⟩
  | cons h _ ih =>
    refine ⟨?_, fun x hx => ?_⟩
    · simp only [List.map_cons, bS] at ih ⊢; rw [ih.1, h.1]; rfl
    · rcases List.mem_cons.1 hx with rfl | hx
      · exact h.2.1.2
      · exact ih.2 x hx
 obtain ⟨hk1, hin⟩ := hkeys L es.toList h1
 have hst : Go.MapKept.Stamped es clock := by
  refine ⟨h3, h2.imp fun h => Nat.ne_of_lt h, ?_⟩
  rw [hk1]
  exact List.pairwise_map.2 (hn.imp fun hne he => hne (qm he))
 have hrdE : ∀ m ∈ es.toList, ∃ x l, x ∈ bS L ∧ m.key = eG x ∧ keyOf Tryz.prog 76 (eG x) = some l ∧ Go.WideElems.rd Tryz.prog 76 noR m = some (l, .nil) := fun m hm => by
  have : m.key ∈ es.toList.map (·.key) := List.mem_map_of_mem hm
  rw [hk1] at this
  obtain ⟨x, hx1, hx2⟩ := List.mem_map.1 this
  obtain ⟨l, hl⟩ := s7 (hin x hx1)
  exact ⟨x, l, hx1, hx2.symm, hl, rd_D hl hx2.symm⟩
 refine ⟨_, ⟨es, clock, hb, ⟨by rw [← hlen]; exact Nat.le_trans hl (by decide), hst, fun x hx => ?_⟩, by omega, rfl⟩, ?_, ?_⟩
 · obtain ⟨_, l, _, _, _, h9⟩ := hrdE x hx
   exact ⟨_, h9⟩
 · intro left ss hleft hC
   refine (List.perm_ext_iff_of_nodup hC.1 hn).2 fun x => ?_
   rw [hC.2 x]
   have hhas : ∀ l : Lit, has (H := Unit) (.map ((es.toList.map (Go.WideElems.rg Tryz.prog 76 noR)).foldr DataW.insert [])) l = true ↔ ∃ m ∈ es.toList, (Go.WideElems.rg Tryz.prog 76 noR m).1.sameKey l = true := fun l => by
    rw [has_eq, List.any_eq_true]
    constructor
    · rintro ⟨p, hp, hs⟩
      obtain ⟨m, hm, rfl⟩ := List.mem_map.1 (mem_sorted.1 hp)
      exact ⟨m, hm, hs⟩
    · rintro ⟨m, hm, hs⟩
      exact ⟨_, mem_sorted.2 (List.mem_map_of_mem hm), hs⟩
   constructor
   · rintro ⟨l, h4, h5, _⟩
     obtain ⟨m, hm, hs⟩ := (hhas l).1 h5
     obtain ⟨y, ly, hy1, hy2, hy3, hy4⟩ := hrdE m hm
     have e : (Go.WideElems.rg Tryz.prog 76 noR m).1 = ly := by unfold Go.WideElems.rg; rw [hy4]; rfl
     rw [e] at hs
     obtain ⟨s1, rfl⟩ := zr.str hy3
     obtain ⟨s2, rfl⟩ := zr.str h4
     simp [Lit.sameKey] at hs
     subst hs
     exact qm (tP.inj hy3 h4) ▸ hy1
   · intro hx
     obtain ⟨l, hl⟩ := s7 (hin x hx)
     refine ⟨l, hl, (hhas l).2 ?_, hleft l⟩
     have hmk : eG x ∈ es.toList.map (·.key) := by rw [hk1]; exact List.mem_map_of_mem hx
     obtain ⟨m, hm, hme⟩ := List.mem_map.1 hmk
     refine ⟨m, hm, ?_⟩
     obtain ⟨s, rfl⟩ := zr.str hl
     unfold Go.WideElems.rg
     rw [rd_D hl hme]
     simp [Lit.sameKey]
 · rw [Maps.size_eq, (sorted_perm _).length_eq, List.length_map]
   simpa using hlen.symm
theorem lE (i : Nat) : aE Tryz.prog AI 24 (pF i) := by
 refine ⟨Tryz.call24, fun args fresh p hp hw => ?_, fun G s ρ tmps w args us fresh p d C v cs h hargs hp hfr he hC => ?_⟩
 · unfold pF at hp
   split at hp
   · split at hp <;> cases hp
     cases hw
   · cases hp
 · unfold pF at hp
   split at hp <;> (try (cases hp; done))
   rename_i f' k f2'
   split at hp <;> cases hp
   rename_i hcond
   simp only [Bool.and_eq_true, ad, Bool.not_eq_true', aG] at hcond
   obtain ⟨⟨⟨⟨hfg, hfg2⟩, hki⟩, hkf⟩, hif⟩ := hcond
   have hfg : f' = 75 := by simpa using hfg
   have hfg2 : f2' = 26 := by simpa using hfg2
   have hki : k ≠ i := by simpa using hki
   have hkf : k ≠ fresh := by simpa using hkf
   have hif : i ≠ fresh := by simpa using hif
   subst hfg hfg2
   have hemp : aC s.H fresh = .emp := hfr fresh (by simp) (Nat.le_refl _)
   simp only [aD] at he
   split at he <;> (try (cases he; done))
   rename_i t i' e L hcs
   split at he <;> cases he
   rename_i hii
   have hii : i = i' := ad.1 hii
   subst hii
   simp only [List.cons.injEq, and_true] at hcs
   obtain ⟨hck, hci, _⟩ := hcs
   obtain ⟨hn, hl⟩ := hC
   have h1 := h.ch k
   have h2 := h.ch i
   rw [hck] at h1
   rw [hci] at h2
   obtain ⟨bk, vs, hr1, hf1, hb1, hd1⟩ := h1
   obtain ⟨b, es, clock, hr2, hf2, hb2, hm2⟩ := h2
   cases hd1 with
   | cons hd hnil =>
   cases hnil
   rename_i v0
   obtain ⟨b', hb', rfl⟩ := hd
   have : b' = b := by
    rw [hr2] at hb'
    simpa using hb'.symm
   subst this
   cases hargs with
   | cons ha hnil =>
   cases hnil with
   | cons ha2 hnil =>
   cases hnil
   obtain ⟨caps, rfl, hcaps⟩ := ha
   cases hcaps with
   | cons hc hnil =>
   cases hnil
   obtain ⟨bk', hbk', rfl⟩ := hc
   obtain ⟨caps2, rfl, hcaps2⟩ := ha2
   cases hcaps2
   have : bk' = bk := by
    rw [hr1] at hbk'
    simpa using hbk'.symm
   subst this
   obtain ⟨D0, hown, hperm, hsize⟩ := zk hb2 hm2 hn hl
   have hlt : bk' < w.heap.size := (Array.getElem?_eq_some_iff.1 hb1).1
   have hseq : SeqGives Fence.wide 2 Tryz.prog 75 #[.pointer (some ⟨bk', 0, none⟩)] eG (fun ss => ∃ left : Lit → Bool, (∀ kl, left kl = false) ∧ jP D0 left ss) (Maps.size D0) w :=
    keys_gives Fence.wide 2 trivial rfl (by omega) bk' b' _ D0 w hlt (by simp [World.cell?, hb1]) hown
   have cS := sorted_in Fence.wide 5 rfl (fun _ => trivial) (fun h => callsIn_wide.2 h) (by omega) 75 #[.pointer (some ⟨bk', 0, none⟩)] Tryz.call75 _ _ (by rw [hsize]; exact Nat.le_trans hl (by decide)) (by rw [hsize]; omega) w hseq
   refine ((callsIn_wide (n := 5)).1 cS).mono ?_
   rintro e1 w' ⟨y, ss, rfl, ⟨left, hleft, hcol⟩, hrow, _, hbel⟩
   have hpm := hperm left ss hleft hcol
   have hsorted : fD ss = fD (bS (L ())) := uW hpm
   have hlen : ss.length = (fD (bS (L ()))).length := by rw [← hsorted]; exact (e7 _).length_eq.symm
   rw [hsorted, hlen] at hrow
   have hc := h.ch fresh
   rw [hemp] at hc
   obtain ⟨hc1, hc2, hc3⟩ := hc
   generalize hT : fD (bS (L ())) = T at *
   have hrowAt : ∃ F : List Nat, bg 76 ρ.M w' br T y F ∧ (∀ x ∈ F, w.heap.size ≤ x ∧ x < w'.heap.size) ∧ ∃ ao l c, y = .slice ao l c := by
    obtain ⟨hr0, hr⟩ := hrow
    rcases hr with ⟨rfl, hz⟩ | ⟨gb, cap, cur, rfl, g1, g2, g3, g4, g5, g6⟩
    · exact ⟨[], .inl ⟨⟨_, rfl⟩, List.eq_nil_of_length_eq_zero hz, rfl⟩, fun x hx => (by cases hx), _, _, _, rfl⟩
    · refine ⟨[gb], .inr ⟨gb, 0, cap, rfl, rfl, g3, g4, fun j x hj => ?_, fun j hj => ?_, fun he => by cases he⟩, fun x hx => ?_, _, _, _, rfl⟩
      · have hjl : j < T.length := (List.getElem?_eq_some_iff.1 hj).1
        have hcell : ∀ c, c < 3 → w'.cell? ⟨gb, 0 + j * 3 + c, none⟩ = (cellsD x)[c]? := fun c hc => by
         have h3 : (cur.toList.take (T.length * 3))[j * 3 + c]? = (cellsD x)[c]? := by
          rw [g6, qO T (j * 3 + c) (by omega), show (j * 3 + c) / 3 = j by omega, show (j * 3 + c) % 3 = c by omega, List.getD_eq_getElem?_getD, hj]; rfl
         rw [List.getElem?_take_of_lt (by omega)] at h3
         simp only [World.cell?, g2]
         simpa using h3
        exact ⟨hcell 0 (by omega), hcell 1 (by omega), hcell 2 (by omega)⟩
      · have hjc : j < cur.size := by rw [g5]; exact hj
        simp only [World.cell?, World.frozen?, g2]
        simp [hjc]
      · simp only [List.mem_singleton] at hx
        subst hx
        exact ⟨g1, (Array.getElem?_eq_some_iff.1 g2).1⟩
   obtain ⟨F, hF1, hF2, hF3⟩ := hrowAt
   obtain ⟨h8, h9⟩ := h.dx fresh y 0 F (.row 76 br 0 (fun _ => T)) w' (by rw [hc2]; simp) (by omega) (by rw [hc2]; simp) (fun b hb => ⟨.inr (hF2 b hb).1, (hF2 b hb).2⟩) (fun b hb _ => hbel.block b hb) hbel.os hbel.tape hbel.output hbel.size
    ⟨by simp [Ev.upd], by
      have e3 : (ρ.upd fresh y 0 F).root fresh = y := by simp [Ev.upd]
      have e4 : (ρ.upd fresh y 0 F).foot fresh = F := by simp [Ev.upd]
      rw [e3, e4]
      exact hF1⟩
   refine ⟨y, _, rfl, h8.bt fun j => ?_, ⟨hF3, by simp [Ev.upd], fun _ => by simp [Ev.upd]⟩, h9⟩
   simp only [aO, aP]
   by_cases e1 : j = fresh
   · simp [e1, hT]
   · simp only [e1, if_false]
     by_cases e2 : j = i
     · subst e2; simp [hci]
     · simp only [e2, if_false]
       by_cases e3 : j = k
       · subst e3; simp [hck]
       · simp [e3]
end Go.Proofs.YtcaoldilmnpjoaaGreat
namespace Go.Proofs.YtcaoldilmnpjoaaGreat
set_option linter.all false
open Go.RowKit Go.Sx
set_option maxRecDepth 100000
set_option maxHeartbeats 16000000
abbrev FdT : Type := List (aT × Bool)
def mW (L : FdT) (d : aT) : FdT := eh (.agg br) L d true
def al (L : FdT) (l : List aT) : FdT := l.foldl mW L
theorem uu {K : Type} [DecidableEq K] : ∀ (L : List (K × Bool)) (k : K), (k ∈ L.map (·.1) ∧ (ak L k true).map (·.1) = L.map (·.1)) ∨ (k ∉ L.map (·.1) ∧ (ak L k true).map (·.1) = L.map (·.1) ++ [k])
 | [], k => .inr ⟨by simp, rfl⟩
 | (a, x) :: r, k => by
   unfold ak
   split
   · rename_i e; subst e; exact .inl ⟨by simp, by simp⟩
   · rename_i e
     rw [List.map_cons, List.map_cons]
     rcases uu r k with ⟨h1, h2⟩ | ⟨h1, h2⟩
     · exact .inl ⟨List.mem_cons_of_mem _ h1, by rw [h2]⟩
     · exact .inr ⟨fun h => by rcases List.mem_cons.1 h with h | h; exact e h.symm; exact h1 h, by rw [h2]; rfl⟩
theorem na (L : FdT) (d : aT) : (d ∈ bS L ∧ bS (mW L d) = bS L) ∨ (d ∉ bS L ∧ bS (mW L d) = bS L ++ [d]) := @uu aT br.dec L d
theorem xS {L : FdT} (h : (bS L).Nodup) (d : aT) : (bS (mW L d)).Nodup := by
 rcases na L d with ⟨h1, h2⟩ | ⟨h1, h2⟩
 · rw [h2]; exact h
 · rw [h2]
   exact List.nodup_append.2 ⟨h, by simp, fun a ha b hb => by simp at hb; subst hb; exact fun e => h1 (e ▸ ha)⟩
theorem CH (L : FdT) (d x : aT) : x ∈ bS (mW L d) ↔ x ∈ bS L ∨ x = d := by
 rcases na L d with ⟨h1, h2⟩ | ⟨h1, h2⟩
 · rw [h2]; exact ⟨.inl, fun h3 => h3.elim id fun e => e ▸ h1⟩
 · rw [h2]; simp
theorem gB : ∀ (l : List aT) {L : FdT}, (bS L).Nodup → (bS (al L l)).Nodup
 | [], _, h => h
 | d :: l, L, h => gB l (xS h d)
theorem jv : ∀ (l : List aT) (L : FdT) (x : aT), x ∈ bS (al L l) ↔ x ∈ bS L ∨ x ∈ l
 | [], L, x => by simp [al]
 | d :: l, L, x => by
   show x ∈ bS (al (mW L d) l) ↔ _
   rw [jv l, CH, List.mem_cons, or_assoc]
theorem CI (L : FdT) (d : aT) : (mW L d).length ≤ L.length + 1 := by
 have h : (bS (mW L d)).length ≤ (bS L).length + 1 := by rcases na L d with ⟨_, h2⟩ | ⟨_, h2⟩ <;> rw [h2] <;> simp
 simpa [bS] using h
theorem eH : ∀ (l : List aT) (L : FdT), (al L l).length ≤ L.length + l.length
 | [], L => by simp [al]
 | d :: l, L => by
   have h1 := eH l (mW L d)
   have h2 := CI L d
   show (al (mW L d) l).length ≤ _
   simp only [List.length_cons]; omega
theorem qo (L : FdT) (l : List aT) {i : Nat} (h : i < l.length) : al L (l.take (i + 1)) = mW (al L (l.take i)) (l.getD (i : Int).toNat br.cY) := by
 rw [List.take_succ_eq_append_getElem h]
 unfold al
 rw [List.foldl_append]
 show mW _ _ = _
 rw [List.getD_eq_getElem?_getD, Int.toNat_natCast, List.getElem?_eq_getElem h]; rfl
def OkD (l : List aT) : Prop := l.length ≤ 1000000 ∧ ∀ d ∈ l, br.bW d
theorem OkD.at {l : List aT} (h : OkD l) {i : Nat} (hi : i < l.length) : br.bW (l.getD (i : Int).toNat br.cY) := by
 refine h.2 _ ?_
 rw [List.getD_eq_getElem?_getD, Int.toNat_natCast, List.getElem?_eq_getElem hi]
 exact List.getElem_mem hi
def kI (a b : List aT) : List aT := fD (bS (al (al [] a) b))
def aR (a b : List aT) : Tup [DT.lst br] := (kI a b, ())
theorem rR (a b : List aT) (x : aT) : x ∈ kI a b ↔ x ∈ a ∨ x ∈ b := by
 unfold kI
 rw [(e7 _).mem_iff, jv, jv]
 simp [bS]
theorem rS (a b : List aT) : (kI a b).length ≤ a.length + b.length := by
 unfold kI
 rw [(e7 _).length_eq]
 have h1 := eH b (al [] a)
 have h2 := eH a []
 simp only [bS, List.length_map, List.length_nil] at h1 h2 ⊢
 omega
theorem mky_inl : aE Tryz.prog AI 25 (inl E0 Tryz.f25 1) := cI ai mixed (fn := Tryz.f25) (c := aS Tryz.f25) Tryz.call25 (by kernel_rfl) (by kernel_rfl) (by kernel_rfl) 1
noncomputable abbrev En1 : Env Ab := ⟨tis, [(24, pF 0), (25, inl E0 Tryz.f25 1)] ++ E0.con⟩
theorem en1Ok : aU Tryz.prog AI En1 := ((ai.add mky_inl).add (lE 0))
def jS : aB := ⟨[.lst br, .lst br], fun (x : (List aT) × (List aT) × Unit) => OkD x.1 ∧ OkD x.2.1, [.lst br], fun (x : (List aT) × (List aT) × Unit) => aR x.1 x.2.1⟩
theorem uni_ok (a : List aT) (b : List aT) (h : jS.pre (a, b, ())) : PTk Tryz.prog AI 9 jS (a, b, ()) := by
 dsimp only [PTk, jS] at h ⊢
 generalize hr : aR a b = r
 obtain ⟨ha, hb⟩ := h; have hal := ha.1; have hbl := hb.1
 dsimp only [aR] at hr
 refine Tb en1Ok mixed (fn := Tryz.f9) ?_
 refine Pq ?_
 with_reducible repeat' (first | exact True.intro | refine Ca ?_ | refine Cb ?_ | refine Cd ?_ | (refine Ce ?_; (try ((repeat (first | rw [ifP] at hr | rw [ifM] at hr | rw [if_pos rfl] at hr)); subst hr))) | refine Cm ?_ ?_ | (first | refine Bo (fun hk h => ?_) fun hk h => ?_ | refine Al (fun hk h => ?_) fun hk h => ?_) <;> (try (have hb : (_ : Bool) = _ := h; clear h; subst hb)) <;> (try replace hr := hri hr) <;> first | exact Dd | refine Nx ?_)
 all_goals first | with_reducible refine Ez ?_ | exact Cl1 | exact Cl2 | skip
 refine ⟨⟨{k : Nat // k ≤ a.length}, fun k => ⟨[(1, Sx.one (.ro br (fun _ => b))), (5, Sx.one (.mp 0)), (11, Sx.one (.ro br (fun _ => a))), (12, Sx.one (.int .i64 (fun _ => a.length))), (13, Sx.one (.int .i64 (fun _ => k.1)))],
  [.map (.agg br) .bool (fun _ => al [] (a.take k.1))]⟩, fun k => a.length - k.1, ⟨0, Nat.zero_le _⟩⟩, ?_, fun (k : {k : Nat // k ≤ a.length}) => ?_⟩
 · refine Pq ?_
   with_reducible repeat' first | exact True.intro | refine Ca ?_ | refine Cb ?_ | refine Cd ?_ | refine Ce ?_ | refine Cm ?_ ?_
   all_goals first | with_reducible refine Ez ?_ | exact Cl1 | rfl | exact Cl2 | skip
 obtain ⟨k, hk⟩ := k
 dsimp only
 have hkx := fun (h : ((k : Nat) : Int) < (a.length : Int)) => ha.at (i := k) (by omega)
 have hst := fun (h : ((k : Nat) : Int) < (a.length : Int)) => qo [] a (i := k) (by omega)
 refine Pq ?_
 with_reducible repeat' (first | exact True.intro | refine Ca ?_ | refine Cb ?_ | refine Cd ?_ | refine Ce ?_ | refine Cm ?_ ?_ | (first | refine Bo (fun hk h => ?_) fun hk h => ?_ | refine Al (fun hk h => ?_) fun hk h => ?_) <;> (try (have hb : (_ : Bool) = _ := h; clear h; subst hb)) <;> (try replace hr := hri hr) <;> first | exact Dd | refine Nx ?_)
 all_goals first | with_reducible refine Ez ?_ | exact Cl1 | exact hkx (by assumption) | exact Cl2 | skip
 · refine ⟨⟨k + 1, by omega⟩, (by dsimp only; omega), ?_⟩
   refine Pq ?_
   with_reducible repeat' first | exact True.intro | refine Ca ?_ | refine Cb ?_ | refine Cd ?_ | refine Ce ?_ | refine Cm ?_ ?_
   all_goals first | with_reducible refine Ez ?_ | exact Cl1 | exact (List.map_id _).trans (hst (by assumption)).symm | exact Cl2 | skip
 have hk9 : a.take k = a := List.take_of_length_le (by omega)
 rw [hk9]
 refine ⟨⟨{j : Nat // j ≤ b.length}, fun j => ⟨[(5, Sx.one (.mp 0)), (20, Sx.one (.ro br (fun _ => b))), (21, Sx.one (.int .i64 (fun _ => b.length))), (22, Sx.one (.int .i64 (fun _ => j.1)))],
  [.map (.agg br) .bool (fun _ => al (al [] a) (b.take j.1))]⟩, fun j => b.length - j.1, ⟨0, Nat.zero_le _⟩⟩, ?_, fun (j : {j : Nat // j ≤ b.length}) => ?_⟩
 · refine Pq ?_
   with_reducible repeat' first | exact True.intro | refine Ca ?_ | refine Cb ?_ | refine Cd ?_ | refine Ce ?_ | refine Cm ?_ ?_
   all_goals first | with_reducible refine Ez ?_ | exact Cl1 | rfl | exact Cl2 | skip
 obtain ⟨j, hj⟩ := j
 dsimp only
 have hkx := fun (h : ((j : Nat) : Int) < (b.length : Int)) => hb.at (i := j) (by omega)
 have hst := fun (h : ((j : Nat) : Int) < (b.length : Int)) => qo (al [] a) b (i := j) (by omega)
 have hnd : (bS (al (al [] a) (b.take j))).Nodup := gB _ (gB _ List.nodup_nil)
 have hle : (al (al [] a) (b.take j)).length ≤ 2000000 := by
  have h1 := eH (b.take j) (al [] a)
  have h2 := eH a []
  simp only [List.length_take, List.length_nil] at h1 h2
  omega
 refine Pq ?_
 with_reducible repeat' (first | exact True.intro | refine Ca ?_ | refine Cb ?_ | refine Cd ?_ | refine Ce ?_ | refine Cm ?_ ?_ | (first | refine Bo (fun hk h => ?_) fun hk h => ?_ | refine Al (fun hk h => ?_) fun hk h => ?_) <;> (try (have hb : (_ : Bool) = _ := h; clear h; subst hb)) <;> (try replace hr := hri hr) <;> first | exact Dd | refine Nx ?_)
 all_goals first | with_reducible refine Ez ?_ | exact Cl1 | exact hkx (by assumption) | exact ⟨hnd, Nat.le_trans hle (by decide)⟩ | (subst hr; have hj9 : b.take j = b := List.take_of_length_le (by omega); rw [hj9]; exact List.map_id _) | exact Cl2 | skip
 refine ⟨⟨j + 1, by omega⟩, (by dsimp only; omega), ?_⟩
 refine Pq ?_
 with_reducible repeat' first | exact True.intro | refine Ca ?_ | refine Cb ?_ | refine Cd ?_ | refine Ce ?_ | refine Cm ?_ ?_
 all_goals first | with_reducible refine Ez ?_ | exact Cl1 | exact (List.map_id _).trans (hst (by assumption)).symm | exact Cl2 | skip
theorem rT : aE Tryz.prog AI 9 jS.con := aB.sound Tryz.call9 (fun x h => uni_ok x.1 x.2.1 h)
end Go.Proofs.YtcaoldilmnpjoaaGreat
