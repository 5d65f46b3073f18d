/-
  Part Own28 of the proof.
-/
import Derived.Test.YtcaoldilmnpjoaaGreatOwn3
import Derived.Test.YtcaoldilmnpjoaaGreatOwn24
import Derived.Test.YtcaoldilmnpjoaaGreatOwn8
namespace Go.Proofs.YtcaoldilmnpjoaaGreat
set_option linter.all false
open Go.RowKit Go.Sx Go.Maps Go.Sort Go.Shelf
set_option maxRecDepth 100000
set_option maxHeartbeats 4000000
def or2 (a b : Int) : Int := if a = 0 then b else a
theorem C4 {w : World} {a b : Value} {t : TypeId} {k : Nat} (h : w.heap[k]? = some (.cells #[a, b] t (0, 0))) : w.cell? ⟨k, 0, none⟩ = some a ∧ w.cell? ⟨k, 1, none⟩ = some b := by
 refine ⟨?_, ?_⟩ <;> (simp only [World.cell?, h]; rfl)
theorem or2_in (a b : Int) (blk : Nat) (W : World) (h0 : W.cell? ⟨blk, 0, none⟩ = some (.int .i64 a)) (h1 : W.cell? ⟨blk, 1, none⟩ = some (.int .i64 b)) :
 Calls Tryz.prog 50 #[.slice (some ⟨blk, 0, none⟩) 2 2] W fun e w' => e = .returned (.int .i64 (or2 a b)) ∧ w' = W := by
 by_cases ha : a = 0
 · subst ha
   by_cases hb : b = 0
   · subst hb
     go_enter Tryz.func50, Tryz.ntmps50
     go_wp2
     refine wp_loop_rounds 3 ?_
     rw [rounds_succ]
     go_wp2
     rw [rounds_succ]
     go_wp2
     rw [rounds_succ]
     go_wp2
     go_ret
     exact ⟨rfl, rfl⟩
   · have e : or2 0 b = b := rfl
     rw [e]
     go_enter Tryz.func50, Tryz.ntmps50
     go_wp2
     refine wp_loop_rounds 2 ?_
     rw [rounds_succ]
     go_wp2
     rw [rounds_succ]
     go_wp2
     go_ret
     exact ⟨rfl, rfl⟩
 · have e : or2 a b = a := if_neg ha
   rw [e]
   go_enter Tryz.func50, Tryz.ntmps50
   go_wp2
   refine wp_loop_rounds 1 ?_
   rw [rounds_succ]
   go_wp2
   go_ret
   exact ⟨rfl, rfl⟩
theorem y6 (a b : Int) (w : World) (t : TypeId) : Calls Tryz.prog 50 #[.slice (some ⟨w.heap.size, 0, none⟩) 2 2] (w.alloc (Obj.cells #[.int .i64 a, .int .i64 b] t)).drew fun e w' => e = .returned (.int .i64 (or2 a b)) ∧ w' = (w.alloc (Obj.cells #[.int .i64 a, .int .i64 b] t)).drew :=
 or2_in a b w.heap.size _ (C4 (World.alloc_heap_new _ _)).1 (C4 (World.alloc_heap_new _ _)).2
theorem cmpP_in (x y la lb : Int) (bk b' off n cap : Nat) (W : World) (hx0 : 0 ≤ x) (hx1 : x < (n : Int)) (hy0 : 0 ≤ y) (hy1 : y < (n : Int)) (h0 : W.cell? ⟨bk, 0, none⟩ = some (.slice (some ⟨b', off, none⟩) n cap))
 (h1 : W.cell? ⟨b', off + x.toNat, none⟩ = some (.int .i64 la)) (h2 : W.cell? ⟨b', off + y.toNat, none⟩ = some (.int .i64 lb)) :
 Calls Tryz.prog 84 #[.int .i64 x, .int .i64 y, .pointer (some ⟨bk, 0, none⟩)] W fun e w' => e = .returned (.int .i64 (or2 (Lib.compareInt la lb) (Lib.compareInt x y))) ∧ ∃ q os', w' = grow (W.drewN q) os' := by
 have hc1 := ko la lb
 have hc2 := ko x y
 generalize Lib.compareInt la lb = r1 at hc1 ⊢
 generalize Lib.compareInt x y = r2 at hc2 ⊢
 have hg : ∃ p : GrownBy, W = grow (W.drewN p.n) p.os := ⟨⟨0, #[]⟩, by rw [grow_empty]; rfl⟩
 go_enter Tryz.func84, Tryz.ntmps84
 go_wp2
 go_region_held3 (fun w' => w'.cell? ⟨bk, 0, none⟩ = some (.slice (some ⟨b', off, none⟩) n cap) ∧ w'.cell? ⟨b', off + x.toNat, none⟩ = some (.int .i64 la) ∧ w'.cell? ⟨b', off + y.toNat, none⟩ = some (.int .i64 lb) ∧ ∃ p : GrownBy, w' = grow (W.drewN p.n) p.os)
  (first | assumption | (and_intros <;> first | assumption | exact iW _ (by assumption) | exact bN W (by assumption) _ | exact bZ W _ (by assumption) | exact bN W (by assumption) 1 | exact bN W (bZ W _ (by assumption)) 1))
  (first
    | (go_at_call_of 51 (Value.int IntKind.i64 la); refine (hc1 _).mono ?_; rintro e w' ⟨rfl, rfl⟩)
    | (go_at_call_of 51 (Value.int IntKind.i64 x); refine (hc2 _).mono ?_; rintro e w' ⟨rfl, rfl⟩)
    | (go_at_call 50; refine (y6 r1 r2 _ _).mono ?_; rintro e w' ⟨rfl, rfl⟩))
 obtain ⟨p, hp⟩ := bN W (bZ W (Obj.cells #[.int .i64 r1, .int .i64 r2] 3) hg) 1
 go_wp2
 go_ret
 exact ⟨rfl, p.n, p.os, hp⟩
def ltP (L : List Int) (x y : Int) : Bool := decide (lat L x < lat L y ∨ (lat L x = lat L y ∧ x < y))
def k7 (L D : List Int) : List Int := D.mergeSort fun x y => !ltP L y x
theorem fC (L D : List Int) : (k7 L D).Perm D := List.mergeSort_perm _ _
theorem BY (L : List Int) (a b c : Int) (h1 : (!ltP L b a) = true) (h2 : (!ltP L c b) = true) : (!ltP L c a) = true := by
 simp only [ltP, Bool.not_eq_true', decide_eq_false_iff_not] at *; omega
theorem BZ (L : List Int) (a b : Int) : ((!ltP L b a) || (!ltP L a b)) = true := by
 simp only [ltP, Bool.or_eq_true, Bool.not_eq_true', decide_eq_false_iff_not]; omega
theorem uV (L D : List Int) : (k7 L D).Pairwise fun a b => (!ltP L b a) = true := List.pairwise_mergeSort (BY L) (BZ L) D
def cfP (L : List Int) (m : Nat) (x y : Fin (m + 1)) : Int := or2 (Lib.compareInt (lat L (x.val : Int)) (lat L (y.val : Int))) (Lib.compareInt (x.val : Int) (y.val : Int))
theorem y7 (a b x y : Int) : (or2 (Lib.compareInt a b) (Lib.compareInt x y) < 0) ↔ (a < b ∨ (a = b ∧ x < y)) := by
 unfold or2
 rcases fY a b with ⟨h1, e1⟩ | ⟨h1, e1⟩ | ⟨h1, e1⟩ <;> rcases fY x y with ⟨h2, e2⟩ | ⟨h2, e2⟩ | ⟨h2, e2⟩ <;> rw [e1, e2] <;> simp <;> omega
theorem j6 (L : List Int) (m : Nat) (x y : Fin (m + 1)) : ltOf (cfP L m) x y = ltP L (x.val : Int) (y.val : Int) := by
 unfold ltOf cfP ltP
 rw [decide_eq_decide]
 exact y7 _ _ _ _
theorem swoP (L : List Int) (m : Nat) : SWO (ltOf (cfP L m)) where
 irrefl x := by rw [j6]; simp [ltP]
 trans x y z h1 h2 := by rw [j6] at *; simp only [ltP, decide_eq_true_eq] at *; omega
 ntrans x y z h1 h2 := by rw [j6] at *; simp only [ltP, decide_eq_false_iff_not] at *; omega
theorem totP (L : List Int) (m : Nat) : ∀ x y : Fin (m + 1), ltOf (cfP L m) x y = false → ltOf (cfP L m) y x = false → x = y := fun x y h1 h2 => by
 rw [j6] at *
 simp only [ltP, decide_eq_false_iff_not] at *
 exact Fin.ext (by omega)
def toF (m : Nat) (D : List Int) : List (Fin (m + 1)) := D.map fun x => Fin.ofNat (m + 1) x.toNat
theorem uN {m : Nat} {D : List Int} (hD : ∀ x ∈ D, 0 ≤ x ∧ x < ((m + 1 : Nat) : Int)) : (toF m D).map (fun z => ((z.val : Nat) : Int)) = D := by
 unfold toF
 rw [List.map_map]
 conv => rhs; rw [← List.map_id D]
 refine List.map_congr_left fun x hx => ?_
 have := hD x hx
 show ((x.toNat % (m + 1) : Nat) : Int) = x
 rw [Nat.mod_eq_of_lt (by omega)]; omega
theorem As {L D : List Int} {m : Nat} (hD : ∀ x ∈ D, 0 ≤ x ∧ x < ((m + 1 : Nat) : Int)) : ((toF m D).mergeSort fun x y => !(ltOf (cfP L m)) y x).map (fun z => ((z.val : Nat) : Int)) = k7 L D := by
 have hp : (((toF m D).mergeSort fun x y => !(ltOf (cfP L m)) y x).map (fun z => ((z.val : Nat) : Int))).Perm D := by
  have := (List.mergeSort_perm (toF m D) fun x y => !(ltOf (cfP L m)) y x).map (fun z => ((z.val : Nat) : Int))
  rw [uN hD] at this
  exact this
 refine List.Perm.eq_of_pairwise (le := fun a b => (!ltP L b a) = true) (fun a b _ _ h1 h2 => ?_) ?_ (uV L D) (hp.trans (fC L D).symm)
 · simp only [ltP, Bool.not_eq_true', decide_eq_false_iff_not] at h1 h2; omega
 · refine List.pairwise_map.2 ((List.pairwise_mergeSort (fun a b c h1 h2 => ?_) (fun a b => ?_) (toF m D)).imp fun {a b} h => ?_)
   · rw [j6] at *; exact BY L _ _ _ h1 h2
   · rw [j6, j6]; exact BZ L _ _
   · rw [j6] at h; exact h
section
variable {G : Fr} {s : SS Ab} {ρ : Ev} {w : World}
theorem Holds.sorted {tmps : Array Value} (h : Sx.Holds AI G s ρ tmps w) {i v : Nat} {t : TypeId} {e : Ty} {D : U (List e.T)} (hc : aC s.H i = .row t e v D) {b off cap : Nat} (hr : ρ.root i = .slice (some ⟨b, off, none⟩) (D ()).length cap) (hf : ρ.foot i = [b]) (hcap : (D ()).length ≤ cap ∧ cap ≤ maxLen)
 {S : List e.T} (hl : S.length = (D ()).length) {w' : World} (h1 : ∀ j x, S[j]? = some x → aI ρ.M e x (fun k => w'.cell? ⟨b, off + j * e.size + k, none⟩))
 (h2 : ∀ j, j < cap * e.size → (w'.cell? ⟨b, off + j, none⟩).isSome = true ∧ w'.frozen? ⟨b, off + j, none⟩ = false) (h3 : e ≠ .int .u8)
 (hbl : ∀ k, k < w.heap.size → k ≠ b → w'.heap[k]? = w.heap[k]?) (os : w'.os = w.os) (tape : w'.tape = w.tape) (output : w'.output = w.output) (size : w.heap.size ≤ w'.heap.size) :
 Sx.Holds AI G ⟨s.tm, bX s.H i (.row t e v (fun _ => S))⟩ (ρ.upd i (ρ.root i) v (ρ.foot i)) tmps w' ∧ ρ.Le (ρ.upd i (ρ.root i) v (ρ.foot i)) := by
 have hv : v = ρ.ver i := by have := h.ch i; rw [hc] at this; exact this.1
 refine h.dx i (ρ.root i) v (ρ.foot i) (.row t e v (fun _ => S)) w' (fun _ h => h) (by omega) (fun _ _ => rfl) (fun k hk => ⟨.inl hk, Nat.lt_of_lt_of_le (h.lt i k hk) size⟩) (fun k hk hn => hbl k hk (fun q => hn (by rw [hf, q]; exact List.mem_singleton.2 rfl))) os tape output size ?_
 refine ⟨by simp [Ev.upd], ?_⟩
 have e3 : (ρ.upd i (ρ.root i) v (ρ.foot i)).root i = ρ.root i := by simp [Ev.upd]
 have e4 : (ρ.upd i (ρ.root i) v (ρ.foot i)).foot i = ρ.foot i := by simp [Ev.upd]
 rw [e3, e4, hf, hr]
 exact .inr ⟨b, off, cap, by rw [hl], rfl, by rw [hl]; exact hcap.1, hcap.2, h1, h2, fun q => absurd q h3⟩
theorem Holds.xm {tmps : Array Value} (h : Sx.Holds AI G s ρ tmps w) {i v : Nat} {t : TypeId} {e : Ty} {D : U (List e.T)} (hc : aC s.H i = .row t e v D) (hn : D () = []) :
 Sx.Holds AI G ⟨s.tm, bX s.H i (.row t e v (fun _ => []))⟩ (ρ.upd i (ρ.root i) v (ρ.foot i)) tmps w ∧ ρ.Le (ρ.upd i (ρ.root i) v (ρ.foot i)) := by
 have h0 := h.ch i
 rw [hc] at h0
 obtain ⟨hv, h0⟩ := h0
 refine h.dx i (ρ.root i) v (ρ.foot i) (.row t e v (fun _ => [])) w (fun _ h => h) (by omega) (fun _ _ => rfl) (fun k hk => ⟨.inl hk, h.lt i k hk⟩) (fun k hk hn => rfl) rfl rfl rfl (Nat.le_refl _) ?_
 refine ⟨by simp [Ev.upd], ?_⟩
 have e3 : (ρ.upd i (ρ.root i) v (ρ.foot i)).root i = ρ.root i := by simp [Ev.upd]
 have e4 : (ρ.upd i (ρ.root i) v (ρ.foot i)).foot i = ρ.foot i := by simp [Ev.upd]
 rw [e3, e4]
 rw [hn] at h0
 exact h0
end
theorem qI {α : Type} [Inhabited α] (enc : α → Value) (w : World) (n b off : Nat) (d : Array α) (os : Array Obj) {k : Nat} (hk : k < w.heap.size) (hne : k ≠ b) : (grow (putRow enc (Sort.ahead w n) b off d) os).heap[k]? = w.heap[k]? := by
 rw [heap_grow_old _ _ (by simpa using hk)]
 have : b ≠ k := fun e => hne e.symm
 simp [putRow, mapBlock, Sort.ahead, Array.getElem?_modify, this]
theorem qa {α : Type} [Inhabited α] (enc : α → Value) (w : World) (n b off : Nat) (d d0 : Array α) (os : Array Obj) (hb : b < w.heap.size) (h0 : Sort.Holds enc w b off d0) (hs : d.size = d0.size) {j : Nat} (hj : j < d.size) : (grow (putRow enc (Sort.ahead w n) b off d) os).cell? ⟨b, off + j, none⟩ = some (enc d[j]!) := by
 rw [cell?_grow _ _ _ (by simpa using hb)]
 exact cell?_putRow enc (Sort.ahead w n) b off d0 d h0 hs j hj
theorem sK {α : Type} [Inhabited α] (enc : α → Value) (w : World) (n b off : Nat) (d d0 : Array α) (os : Array Obj) (hb : b < w.heap.size) (h0 : Sort.Holds enc w b off d0) (hs : d.size = d0.size) {j : Nat} (h : (w.cell? ⟨b, off + j, none⟩).isSome = true ∧ w.frozen? ⟨b, off + j, none⟩ = false) :
 ((grow (putRow enc (Sort.ahead w n) b off d) os).cell? ⟨b, off + j, none⟩).isSome = true ∧ (grow (putRow enc (Sort.ahead w n) b off d) os).frozen? ⟨b, off + j, none⟩ = false := by
 refine ⟨?_, ?_⟩
 · by_cases hj : j < d.size
   · rw [qa enc w n b off d d0 os hb h0 hs hj]; rfl
   · rw [cell?_grow _ _ _ (by simpa using hb), cell?_putRow_other _ _ _ _ _ _ (.inr (.inr (by dsimp only; omega)))]
     exact h.1
 · rw [frozen?_grow _ _ _ (by simpa using hb), frozen?_putRow]
   exact h.2
def sa : Con Ab := fun args _ => match args with
 | [.val (.one (.hd i v)), .val (.fn f [.ptr k 0])] => (match aG f 84 && !aG k i with
   | true => some ⟨[k, i], 0, true, fun cs _ => match cs with
     | [.cells t [.ro (.int .i64) L], .row t2 (.int .i64) v' D] => (match aG v v' with
       | true => .done (fun _ => (D ()).length ≤ 1000000 ∧ ∀ x ∈ D (), 0 ≤ x ∧ x < ((L ()).length : Int)) (ag []) [.cells t [.ro (.int .i64) L], .row t2 (.int .i64) v' (fun _ => k7 (L ()) (D ()))]
       | false => .fail)
     | _ => .fail⟩
   | false => none)
 | _ => none
theorem sZ : aE Tryz.prog AI 83 sa := by
 refine ⟨Tryz.call83, fun args fresh p hp hw => ?_, fun G s ρ tmps w args us fresh p d C v cs h hargs hp hfr he hC => ?_⟩
 · unfold sa at hp
   split at hp
   · split at hp <;> cases hp
     cases hw
   · cases hp
 · unfold sa at hp
   split at hp <;> (try (cases hp; done))
   rename_i i vv f' k
   split at hp <;> cases hp
   rename_i hcond
   simp only [Bool.and_eq_true, ad, Bool.not_eq_true', aG] at hcond
   obtain ⟨hfg, hki⟩ := hcond
   have hfg : f' = 84 := by simpa using hfg
   have hki : k ≠ i := by simpa using hki
   subst hfg
   simp only [aD] at he
   split at he <;> (try (cases he; done))
   rename_i t L t2 v' D hcs
   split at he <;> cases he
   rename_i hvv
   have hvv : vv = v' := ad.1 hvv
   subst hvv
   simp only [List.cons.injEq, and_true] at hcs
   obtain ⟨hck, hci⟩ := hcs
   have h1 := h.ch k
   have h2 := h.ch i
   rw [hck] at h1
   rw [hci] at h2
   obtain ⟨bk, vs, hr1, hf1, hb1, hd1⟩ := h1
   obtain ⟨hver, hrow⟩ := h2
   cases hd1 with
   | cons hd hnil =>
   cases hnil
   rename_i v0
   cases hargs with
   | cons ha hnil =>
   cases hnil with
   | cons ha2 hnil =>
   cases hnil
   rename_i u1 u2
   obtain ⟨caps, rfl, hcaps⟩ := ha2
   cases hcaps with
   | cons hc hnil =>
   cases hnil
   obtain ⟨bk', hbk', rfl⟩ := hc
   have : bk' = bk := by
    rw [hr1] at hbk'
    simpa using hbk'.symm
   subst this
   obtain ⟨_, _, ha⟩ := ha
   have hu1 : u1 = ρ.root i := ha hver
   subst hu1
   have hput : ∀ c, aO s.H [k, i] [.cells t [.ro (.int .i64) L], c] = bX (bX s.H k (.cells t [.ro (.int .i64) L])) i c := fun c => rfl
   have hcg : ∀ (c : Chunk Ab) (j : Nat), aC (bX s.H i c) j = aC (bX (bX s.H k (.cells t [.ro (.int .i64) L])) i c) j := fun c j => by
    rw [aP, aP, aP]
    split
    · rfl
    · split
      · rename_i e; subst e; exact hck
      · rfl
   obtain ⟨hmax, hC⟩ := hC
   by_cases hn : D () = []
   · have hlen0 : ∃ ao cap, ρ.root i = .slice ao 0 cap := by
      rcases hrow with ⟨⟨ao, e⟩, _⟩ | ⟨b, off, cap, e, _⟩
      · exact ⟨_, _, e⟩
      · rw [hn] at e; exact ⟨_, _, e⟩
     obtain ⟨ao, cap, hrt⟩ := hlen0
     obtain ⟨h8, h9⟩ := Holds.xm h hci hn
     have cN := AnyF.slices_SortFunc_none { sriL with } ao cap (.func (.func 84) #[] #[.pointer (some ⟨bk', 0, none⟩)]) w
     rw [hrt]
     refine Calls.mono cN ?_
     rintro e1 w' ⟨rfl, rfl⟩
     refine ⟨_, _, rfl, ?_, ⟨[], rfl, .nil⟩, h9⟩
     rw [hput]
     have e5 : k7 (L ()) (D ()) = [] := by rw [hn]; simp [k7]
     refine h8.bt fun j => ?_
     rw [← hcg]
     rw [e5]
   · rcases hrow with ⟨_, hz, _⟩ | ⟨b, off, cap, hrt, hft, hcap1, hcap2, hcells, hown, _⟩
     · exact absurd hz hn
     obtain ⟨x0, hx0⟩ := List.exists_mem_of_ne_nil _ hn
     have hLp : 0 < (L ()).length := by
      have h5 : @LE.le Int _ 0 x0 ∧ @LT.lt Int _ x0 ((L ()).length : Int) := hC x0 hx0
      exact Int.ofNat_lt.1 (Int.lt_of_le_of_lt h5.1 h5.2)
     obtain ⟨m, hm⟩ : ∃ m, (L ()).length = m + 1 := ⟨(L ()).length - 1, by omega⟩
     obtain ⟨ao, capL, hv0, hcapL, hLc⟩ := hd
     obtain ⟨b', off', hao, hLd⟩ := hLc hLp
     subst hao hv0
     have hD : ∀ x : Int, @Membership.mem Int (List Int) _ (D ()) x → 0 ≤ x ∧ x < ((m + 1 : Nat) : Int) := fun x hx => by have := hC x hx; rw [hm] at this; exact this
     have hbl : b < w.heap.size := h.lt i b (by rw [hft]; exact List.mem_singleton.2 rfl)
     have hbk : bk' < w.heap.size := (Array.getElem?_eq_some_iff.1 hb1).1
     have hkb : bk' ≠ b := fun e => h.dis k i bk' hki (by rw [hf1]; exact List.mem_singleton.2 rfl) (by rw [hft, e]; exact List.mem_singleton.2 rfl)
     have hLm : ∀ x : Fin (m + 1), ρ.M b' (off' + x.val) = some (.int .i64 (lat (L ()) (x.val : Int))) := fun x => by
      have h5 := hLd x.val (lat (L ()) (x.val : Int)) (by
       show (L ())[x.val]? = some ((L ()).getD x.val 0)
       rw [List.getD_eq_getElem?_getD, List.getElem?_eq_getElem (by rw [hm]; exact x.isLt)]; rfl)
      have h6 : ρ.M b' (off' + x.val * 1 + 0) = some (.int .i64 (lat (L ()) (x.val : Int))) := h5
      rw [Nat.mul_one, Nat.add_zero] at h6
      exact h6
     have hb'b : b' ≠ b := fun e => (h.im _ _ _ (hLm ⟨0, by omega⟩)).2 i (by rw [hft, e]; exact List.mem_singleton.2 rfl)
     have hb'l : b' < w.heap.size := by
      have h5 := (h.im _ _ _ (hLm ⟨0, by omega⟩)).1
      unfold World.cell? at h5
      split at h5
      · rename_i c _ _ e; exact (Array.getElem?_eq_some_iff.1 e).1
      · cases h5
     let enc : Fin (m + 1) → Value := fun z => .int .i64 (z.val : Int)
     have hDl : (toF m (D ())).length = (D ()).length := by simp [toF]
     have hget : ∀ j, j < (D ()).length → enc (toF m (D ())).toArray[j]! = .int .i64 ((D ()).getD j 0) := fun j hj => by
      have e1 : ((toF m (D ())).map (fun z => ((z.val : Nat) : Int))).getD j 0 = (D ()).getD j 0 := by rw [uN hD]
      rw [← e1, List.getD_eq_getElem?_getD, List.getElem?_map, List.getElem?_eq_getElem (by omega)]
      show Value.int .i64 ((((toF m (D ())).toArray[j]!).val : Nat) : Int) = _
      rw [getElem!_pos _ j (by simpa using (by omega : j < (toF m (D ())).length))]
      rfl
     have hH : Sort.Holds enc w b off (toF m (D ())).toArray := fun j hj => by
      have hj : j < (D ()).length := by simpa [hDl] using hj
      refine ⟨?_, (hown j (by show j < cap * 1; omega)).2⟩
      rw [hget j hj]
      have h5 := hcells j ((D ()).getD j 0) (by rw [List.getD_eq_getElem?_getD, List.getElem?_eq_getElem hj]; rfl)
      have h6 : w.cell? ⟨b, off + j * 1 + 0, none⟩ = some (.int .i64 ((D ()).getD j 0)) := h5
      rw [Nat.mul_one, Nat.add_zero] at h6
      exact h6
     have hcmp : CmpLays1 Tryz.prog 84 #[.pointer (some ⟨bk', 0, none⟩)] enc (cfP (L ()) m) b off (toF m (D ())).toArray.size w := fun q os dk _ x y => by
      have hheap : ∀ a : Addr, a.block < w.heap.size → a.block ≠ b → (sortWorld enc w b off q dk os).cell? a = w.cell? a := fun a ha hne => by
       show (grow (putRow enc (Sort.ahead w q) b off dk) os).cell? a = _
       unfold World.cell?
       rw [qI enc w q b off dk os ha hne]
      refine cmpP_in (x.val : Int) (y.val : Int) (lat (L ()) (x.val : Int)) (lat (L ()) (y.val : Int)) bk' b' off' (L ()).length capL _ (by omega) (by have := x.isLt; omega) (by omega) (by have := y.isLt; omega) ?_ ?_ ?_
      · rw [hheap _ hbk hkb]; simp [World.cell?, hb1]
      · rw [Int.toNat_natCast, hheap _ hb'l hb'b]; exact (h.im _ _ _ (hLm x)).1
      · rw [Int.toNat_natCast, hheap _ hb'l hb'b]; exact (h.im _ _ _ (hLm y)).1
     have cS := Any.slices_SortFunc_total sriL enc (fun _ => rfl) (cfP (L ()) m) (swoP _ _) 84 #[.pointer (some ⟨bk', 0, none⟩)] b off cap (toF m (D ())).toArray w Tryz.call84 hcmp hH hbl (by simp [hDl]; omega) (totP _ _)
     have hsz : (toF m (D ())).toArray.size = (D ()).length := by simp [hDl]
     rw [hsz] at cS
     rw [hrt]
     refine Calls.mono cS ?_
     rintro e1 w' ⟨rfl, nn, os, rfl⟩
     have hSl : (k7 (L ()) (D ())).length = (D ()).length := (fC _ _).length_eq
     have hsz2 : ((toF m (D ())).toArray.toList.mergeSort fun x y => !(ltOf (cfP (L ()) m)) y x).toArray.size = (toF m (D ())).toArray.size := by simp
     generalize hmm : ((toF m (D ())).toArray.toList.mergeSort fun x y => !(ltOf (cfP (L ()) m)) y x) = Q at hsz2 ⊢
     have c1 : ∀ j x, (k7 (L ()) (D ()))[j]? = some x → aI ρ.M (.int .i64) x (fun k => (sortWorld enc w b off nn Q.toArray os).cell? ⟨b, off + j * (Ty.int .i64).size + k, none⟩) := fun j x hx => by
      have hj : j < (D ()).length := by rw [← hSl]; exact (List.getElem?_eq_some_iff.1 hx).1
      show (sortWorld enc w b off nn _ os).cell? ⟨b, off + j * 1 + 0, none⟩ = some (.int .i64 x)
      rw [show off + j * 1 + 0 = off + j by omega]
      refine (qa enc w nn b off _ _ os hbl hH hsz2 (by rw [hsz2, hsz]; exact hj)).trans ?_
      have hQ : Q = (toF m (D ())).mergeSort fun x y => !(ltOf (cfP (L ()) m)) y x := hmm.symm
      rw [← As hD, ← hQ, List.getElem?_map] at hx
      have hj2 : j < Q.length := by rw [hQ, (List.mergeSort_perm _ _).length_eq, hDl]; exact hj
      rw [getElem!_pos _ j (by simpa using hj2)]
      rw [List.getElem?_eq_getElem hj2] at hx
      have hx := Option.some.inj hx
      rw [← hx]
      rfl
     have c2 : ∀ j, j < cap * (Ty.int .i64).size → ((sortWorld enc w b off nn Q.toArray os).cell? ⟨b, off + j, none⟩).isSome = true ∧ (sortWorld enc w b off nn Q.toArray os).frozen? ⟨b, off + j, none⟩ = false := fun j hj => sK enc w nn b off _ _ os hbl hH hsz2 (hown j hj)
     obtain ⟨h8, h9⟩ := Holds.sorted h hci hrt hft ⟨hcap1, hcap2⟩ hSl c1 c2 (by decide) (fun q hq hne => qI enc w nn b off _ os hq hne) rfl rfl rfl (by show w.heap.size ≤ (grow (putRow enc (Sort.ahead w nn) b off _) os).heap.size; simp)
     refine ⟨_, _, rfl, ?_, ⟨[], rfl, .nil⟩, h9⟩
     rw [hput]
     exact h8.bt fun j => (hcg _ j).symm
end Go.Proofs.YtcaoldilmnpjoaaGreat
