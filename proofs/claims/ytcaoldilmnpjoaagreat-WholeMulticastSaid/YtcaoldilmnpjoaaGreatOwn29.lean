/-
  Part Own29 of the proof.
-/
import Derived.Test.YtcaoldilmnpjoaaGreatOwn28
import Derived.Test.YtcaoldilmnpjoaaGreatOwn11
namespace Go.Proofs.YtcaoldilmnpjoaaGreat
set_option linter.all false
open Go.RowKit Go.Sx Go.Maps Go.Sort Go.Shelf
set_option maxRecDepth 100000
set_option maxHeartbeats 4000000
def cfQ (x y : Int × Int) : Int := or2 (Lib.compareInt x.1 y.1) (Lib.compareInt x.2 y.2)
theorem cmpQ_in (x1 x2 x3 y1 y2 y3 : Int) (W : World) : Calls Tryz.prog 49 #[.agg #[.int .i64 x1, .int .i64 x2, .int .i64 x3], .agg #[.int .i64 y1, .int .i64 y2, .int .i64 y3]] W fun e w' => e = .returned (.int .i64 (or2 (Lib.compareInt x1 y1) (Lib.compareInt x2 y2))) ∧ ∃ q os', w' = grow (W.drewN q) os' := by
 have hX := World.alloc_heap_new W (Obj.cells #[.int .i64 x1, .int .i64 x2, .int .i64 x3] 76)
 have hX2 := (Below.heap_alloc (W.alloc (Obj.cells #[.int .i64 x1, .int .i64 x2, .int .i64 x3] 76)) (Obj.cells #[.int .i64 y1, .int .i64 y2, .int .i64 y3] 76) W.heap.size (by simp)).trans hX
 have hY := World.alloc_heap_new (W.alloc (Obj.cells #[.int .i64 x1, .int .i64 x2, .int .i64 x3] 76)) (Obj.cells #[.int .i64 y1, .int .i64 y2, .int .i64 y3] 76)
 rw [World.size_alloc] at hY
 obtain ⟨a1, a2, a3⟩ := kp hX2
 obtain ⟨b1, b2, b3⟩ := kp hY
 have hg : ∃ p : GrownBy, (W.alloc (Obj.cells #[.int .i64 x1, .int .i64 x2, .int .i64 x3] 76)).alloc (Obj.cells #[.int .i64 y1, .int .i64 y2, .int .i64 y3] 76) = grow (W.drewN p.n) p.os := by
  obtain ⟨p, hp⟩ := dv W (Obj.cells #[.int .i64 x1, .int .i64 x2, .int .i64 x3] 76) (w := W) (p := ⟨0, #[]⟩) (by rw [grow_empty]; rfl)
  exact dv W _ hp
 have hc1 := ko x1 y1
 have hc2 := ko x2 y2
 generalize Lib.compareInt x1 y1 = r1 at hc1 ⊢
 generalize Lib.compareInt x2 y2 = r2 at hc2 ⊢
 clear hX hX2 hY
 go_enter Tryz.func49, Tryz.ntmps49
 go_wp2
 generalize hW1 : (W.alloc (Obj.cells #[.int .i64 x1, .int .i64 x2, .int .i64 x3] 76)).alloc (Obj.cells #[.int .i64 y1, .int .i64 y2, .int .i64 y3] 76) = W1 at *
 clear hW1
 generalize W.heap.size = k at *
 go_region_held3 (fun w' => w'.cell? ⟨k, 0, none⟩ = some (.int .i64 x1) ∧ w'.cell? ⟨k, 1, none⟩ = some (.int .i64 x2) ∧ w'.cell? ⟨k + 1, 0, none⟩ = some (.int .i64 y1) ∧ w'.cell? ⟨k + 1, 1, none⟩ = some (.int .i64 y2) ∧ ∃ p : GrownBy, w' = grow (W.drewN p.n) p.os)
  (first | assumption | (and_intros <;> first | assumption | exact iW _ (by assumption) | exact bN W (by assumption) _ | exact bZ W _ (by assumption) | exact bN W (by assumption) 1 | exact bN W (bZ W _ (by assumption)) 1))
  (first
    | (go_at_call_of 51 (Value.int IntKind.i64 x1); refine (hc1 _).mono ?_; rintro e w' ⟨rfl, rfl⟩)
    | (go_at_call_of 51 (Value.int IntKind.i64 x2); refine (hc2 _).mono ?_; rintro e w' ⟨rfl, rfl⟩)
    | (go_at_call 50; refine (y6 r1 r2 _ _).mono ?_; rintro e w' ⟨rfl, rfl⟩))
 obtain ⟨p, hp⟩ := bN W (bZ W (Obj.cells #[.int .i64 r1, .int .i64 r2] 3) hg) 1
 go_wp2
 go_ret
 exact ⟨rfl, p.n, p.os, hp⟩
def ltR (x y : Int × Int) : Bool := decide (x.1 < y.1 ∨ (x.1 = y.1 ∧ x.2 < y.2))
theorem tM (x y : Int × Int) : ltOf cfQ x y = ltR x y := by
 unfold ltOf cfQ ltR
 rw [decide_eq_decide]
 exact y7 _ _ _ _
theorem swoQ : SWO (ltOf cfQ) where
 irrefl x := by rw [tM]; simp [ltR]
 trans x y z h1 h2 := by rw [tM] at *; simp only [ltR, decide_eq_true_eq] at *; omega
 ntrans x y z h1 h2 := by rw [tM] at *; simp only [ltR, decide_eq_false_iff_not] at *; omega
theorem totQ : ∀ x y : Int × Int, ltOf cfQ x y = false → ltOf cfQ y x = false → x = y := fun x y h1 h2 => by
 rw [tM] at *
 simp only [ltR, decide_eq_false_iff_not] at *
 exact Prod.ext (by omega) (by omega)
def ndQ (D : List aT) (c : Int) : Int := ((D.find? fun d => decide (d.1 = c)).map fun d => d.2.2).getD 0
structure SdP (D : List aT) : Prop where
 eq : ∀ x ∈ D, ∀ y ∈ D, x.1 = y.1 → x.2.2 = y.2.2
theorem SdP.nd {D : List aT} (h : SdP D) {d : aT} (hd : d ∈ D) : ndQ D d.1 = d.2.2 := by
 unfold ndQ
 cases e : D.find? fun q => decide (q.1 = d.1) with
 | none => exact absurd (List.find?_eq_none.1 e d hd) (by simp)
 | some q =>
   have h1 := List.find?_some e
   have h2 := List.mem_of_find?_eq_some e
   exact h.eq q h2 d hd (of_decide_eq_true h1)
def toQ (D : List aT) : List (Int × Int) := D.map fun d => (d.1, d.2.1)
def ofQ (D : List aT) (x : Int × Int) : aT := (x.1, x.2, ndQ D x.1)
theorem uM {D : List aT} (h : SdP D) : (toQ D).map (ofQ D) = D := by
 unfold toQ
 rw [List.map_map]
 conv => rhs; rw [← List.map_id D]
 exact List.map_congr_left fun d hd => Prod.ext rfl (Prod.ext rfl (h.nd hd))
def fB (D : List aT) : List aT := ((toQ D).mergeSort fun x y => !(ltOf cfQ) y x).map (ofQ D)
theorem wN {D : List aT} (h : SdP D) : (fB D).Perm D := by
 have := (List.mergeSort_perm (toQ D) fun x y => !(ltOf cfQ) y x).map (ofQ D)
 rw [uM h] at this
 exact this
theorem mg (D : List aT) : (fB D).length = D.length := by unfold fB toQ; rw [List.length_map, (List.mergeSort_perm _ _).length_eq, List.length_map]
def sf : Con Ab := fun args _ => match args with
 | [.val (.one (.hd i v)), .val (.fn f [])] => (match aG f 49 with
   | true => some ⟨[i], 0, true, fun cs _ => match cs with
     | [.row t2 (.pair (.int .i64) (.pair (.int .i64) (.int .i64))) v' D] => (match aG v v' with
       | true => .done (fun _ => (D ()).length ≤ 1000000 ∧ SdP (D ())) (ag []) [.row t2 (.pair (.int .i64) (.pair (.int .i64) (.int .i64))) v' (fun _ => fB (D ()))]
       | false => .fail)
     | _ => .fail⟩
   | false => none)
 | _ => none
theorem se : aE Tryz.prog AI 48 sf := by
 refine ⟨Tryz.call48, fun args fresh p hp hw => ?_, fun G s ρ tmps w args us fresh p d C v cs h hargs hp hfr he hC => ?_⟩
 · unfold sf at hp
   split at hp
   · split at hp <;> cases hp
     cases hw
   · cases hp
 · unfold sf at hp
   split at hp <;> (try (cases hp; done))
   rename_i i vv f'
   split at hp <;> cases hp
   rename_i hfg
   have hfg : f' = 49 := ad.1 hfg
   subst hfg
   simp only [aD] at he
   split at he <;> (try (cases he; done))
   rename_i t2 v' D hcs
   split at he <;> cases he
   rename_i hvv
   have hvv : vv = v' := ad.1 hvv
   subst hvv
   simp only [List.cons.injEq, and_true] at hcs
   have hci := hcs
   have h2 := h.ch i
   rw [hci] at h2
   obtain ⟨hver, hrow⟩ := h2
   cases hargs with
   | cons ha hnil =>
   cases hnil with
   | cons ha2 hnil =>
   cases hnil
   rename_i u1 u2
   obtain ⟨caps, rfl, hcaps⟩ := ha2
   cases hcaps
   obtain ⟨_, _, ha⟩ := ha
   have hu1 : u1 = ρ.root i := ha hver
   subst hu1
   obtain ⟨hmax, hC⟩ := hC
   by_cases hn : D () = []
   · have hlen0 : ∃ ao cap, ρ.root i = .slice ao 0 cap := by
      rcases hrow with ⟨⟨ao, e⟩, _⟩ | ⟨b, off, cap, e, _⟩
      · exact ⟨_, _, e⟩
      · rw [hn] at e; exact ⟨_, _, e⟩
     obtain ⟨ao, cap, hrt⟩ := hlen0
     obtain ⟨h8, h9⟩ := Holds.xm h hci hn
     have cN := AnyF.slices_SortFunc_none srdL ao cap (.func (.func 49) #[] #[]) w
     rw [hrt]
     refine Calls.mono cN ?_
     rintro e1 w' ⟨rfl, rfl⟩
     refine ⟨_, _, rfl, ?_, ⟨[], rfl, .nil⟩, h9⟩
     have e5 : fB (D ()) = [] := by rw [hn]; simp [fB, toQ]
     rw [e5]
     exact h8
   · rcases hrow with ⟨_, hz, _⟩ | ⟨b, off, cap, hrt, hft, hcap1, hcap2, hcells, hown, _⟩
     · exact absurd hz hn
     have hbl : b < w.heap.size := h.lt i b (by rw [hft]; exact List.mem_singleton.2 rfl)
     let enc : Int × Int → List Value := fun x => cellsD (ofQ (D ()) x)
     have hDl : (toQ (D ())).length = (D ()).length := by simp [toQ]
     have hflat : ∀ (Q : List (Int × Int)) (j c : Nat), j < Q.length → c < 3 → (flatK enc 3 Q.toArray)[j * 3 + c]! = (cellsD (ofQ (D ()) (Q.getD j (0, 0))))[c]! := fun Q j c hj hc => by
      rw [get_flatK enc 3 Q.toArray (j * 3 + c) (by simp; omega), show (j * 3 + c) / 3 = j by omega, show (j * 3 + c) % 3 = c by omega]
      have e : Q.toArray[j]! = Q.getD j (0, 0) := by
       rw [getElem!_pos _ _ (by simpa using hj), List.getD_eq_getElem?_getD, List.getElem?_eq_getElem hj]; simp
      rw [e]
     have hcell : ∀ (x : aT) (c : Nat), c < 3 → some ((cellsD x)[c]!) = (cellsD x)[c]? := fun x c hc => by
      have : c = 0 ∨ c = 1 ∨ c = 2 := by omega
      rcases this with rfl | rfl | rfl <;> rfl
     have hH : HoldsK enc 3 w b off (toQ (D ())).toArray := fun j hj => by
      have hj : j < (D ()).length * 3 := by simpa [hDl] using hj
      refine ⟨?_, (hown j (by show j < cap * 3; omega)).2⟩
      have hj3 : j / 3 < (D ()).length := by omega
      have e1 : j = j / 3 * 3 + j % 3 := by omega
      have h5 := hcells (j / 3) ((D ()).getD (j / 3) default) (by rw [List.getD_eq_getElem?_getD, List.getElem?_eq_getElem hj3]; rfl)
      have h7 : ofQ (D ()) ((toQ (D ())).getD (j / 3) (0, 0)) = (D ()).getD (j / 3) default := by
       have e2 : ((toQ (D ())).map (ofQ (D ()))).getD (j / 3) default = (D ()).getD (j / 3) default := by rw [uM hC]
       rw [← e2, List.getD_eq_getElem?_getD, List.getD_eq_getElem?_getD, List.getElem?_map, List.getElem?_eq_getElem (by omega)]; rfl
      generalize (D ()).getD (j / 3) default = x at h5 h7
      have h8 : ∀ c, c < 3 → w.cell? ⟨b, off + j / 3 * 3 + c, none⟩ = (cellsD x)[c]? := fun c hc => by
       have h6 : w.cell? ⟨b, off + j / 3 * 3 + 0, none⟩ = some (.int .i64 x.1) ∧ w.cell? ⟨b, off + j / 3 * 3 + (1 + 0), none⟩ = some (.int .i64 x.2.1) ∧ w.cell? ⟨b, off + j / 3 * 3 + (1 + (1 + 0)), none⟩ = some (.int .i64 x.2.2) := h5
       have : c = 0 ∨ c = 1 ∨ c = 2 := by omega
       rcases this with rfl | rfl | rfl
       · exact h6.1
       · exact h6.2.1
       · exact h6.2.2
      have h9 := hflat (toQ (D ())) (j / 3) (j % 3) (by omega) (by omega)
      rw [← e1, h7] at h9
      show w.cell? ⟨b, off + j, none⟩ = some ((flatK enc 3 (toQ (D ())).toArray)[j]!)
      rw [h9, hcell x _ (by omega), ← h8 (j % 3) (by omega)]
      congr 2
      omega
     have hcmp : CmpLays Tryz.prog 49 #[] enc 3 cfQ b off (toQ (D ())).toArray.size w := fun q os dk _ x y => cmpQ_in x.1 x.2 (ndQ (D ()) x.1) y.1 y.2 (ndQ (D ()) y.1) _
     have cS := AnyQ.slices_SortFunc_total srdL 3 (fun w => Tryz.isAgg76 w) (fun w => Tryz.sizeOf76 w) enc (fun _ => rfl) (fun x v hv => by simp [enc, cellsD] at hv; rcases hv with rfl | rfl | rfl <;> rfl) cfQ swoQ 49 #[] b off cap (toQ (D ())).toArray w Tryz.call49 hcmp hH hbl (by simp [hDl]; omega) totQ
     have hsz : (toQ (D ())).toArray.size = (D ()).length := by simp [hDl]
     rw [hsz] at cS
     rw [hrt]
     refine Calls.mono cS ?_
     rintro e1 w' ⟨rfl, nn, os, hww⟩
     generalize hQ : ((toQ (D ())).mergeSort fun x y => !(ltOf cfQ) y x) = Q
     have hSQ : fB (D ()) = Q.map (ofQ (D ())) := by unfold fB; rw [hQ]
     have hQl : Q.length = (D ()).length := by rw [← hQ, (List.mergeSort_perm _ _).length_eq, hDl]
     have hsz2 : (flatK enc 3 Q.toArray).size = (flatK enc 3 (toQ (D ())).toArray).size := by simp [hQl, hDl]
     have hw : w' = grow (putRow id (Sort.ahead w nn) b off (flatK enc 3 Q.toArray)) os := by
      rw [← hQ]; exact hww
     subst hw
     have c1 : ∀ j x, (fB (D ()))[j]? = some x → aI ρ.M (.pair (.int .i64) (.pair (.int .i64) (.int .i64))) x (fun k => (grow (putRow id (Sort.ahead w nn) b off (flatK enc 3 Q.toArray)) os).cell? ⟨b, off + j * (Ty.pair (.int .i64) (.pair (.int .i64) (.int .i64))).size + k, none⟩) := fun j x hx => by
      have hj : j < (D ()).length := by rw [← mg]; exact (List.getElem?_eq_some_iff.1 hx).1
      have hxq : ofQ (D ()) (Q.getD j (0, 0)) = x := by
       rw [hSQ, List.getElem?_map, List.getElem?_eq_getElem (by omega)] at hx
       rw [List.getD_eq_getElem?_getD, List.getElem?_eq_getElem (by omega)]
       exact Option.some.inj hx
      have hc : ∀ c, c < 3 → (grow (putRow id (Sort.ahead w nn) b off (flatK enc 3 Q.toArray)) os).cell? ⟨b, off + j * 3 + c, none⟩ = (cellsD x)[c]? := fun c hc => by
       have h5 := qa id w nn b off _ _ os hbl hH hsz2 (j := j * 3 + c) (by simp [hQl]; omega)
       rw [show off + j * 3 + c = off + (j * 3 + c) by omega, h5, hflat Q j c (by omega) hc, hxq]
       exact hcell x c hc
      exact ⟨hc 0 (by omega), hc 1 (by omega), hc 2 (by omega)⟩
     have c2 : ∀ j, j < cap * (Ty.pair (.int .i64) (.pair (.int .i64) (.int .i64))).size → ((grow (putRow id (Sort.ahead w nn) b off (flatK enc 3 Q.toArray)) os).cell? ⟨b, off + j, none⟩).isSome = true ∧ (grow (putRow id (Sort.ahead w nn) b off (flatK enc 3 Q.toArray)) os).frozen? ⟨b, off + j, none⟩ = false := fun j hj => sK id w nn b off _ _ os hbl hH hsz2 (hown j hj)
     obtain ⟨h8, h9⟩ := Holds.sorted h hci hrt hft ⟨hcap1, hcap2⟩ (mg _) c1 c2 (by decide) (fun q hq hne => qI id w nn b off _ os hq hne) rfl rfl rfl (by simp)
     exact ⟨_, _, rfl, h8, ⟨[], rfl, .nil⟩, h9⟩
end Go.Proofs.YtcaoldilmnpjoaaGreat
namespace Go.Proofs.YtcaoldilmnpjoaaGreat
set_option linter.all false
open Go.RowKit Go.Sx
set_option maxRecDepth 100000
set_option maxHeartbeats 16000000
def qy (n i : Nat) : List Int := (List.range n).map fun k : Nat => if k < i then -1 else 0
theorem pL (n i : Nat) : (qy n i).length = n := by simp [qy]
theorem zT (n : Nat) : qy n 0 = List.replicate n 0 := by
 refine List.eq_replicate_iff.2 ⟨pL n 0, fun x hx => ?_⟩
 obtain ⟨k, _, rfl⟩ := List.mem_map.1 hx
 rw [if_neg (by omega)]
theorem zU (n i : Nat) : qy n (i + 1) = (qy n i).set i (-1) := by
 refine List.ext_getElem (by simp [qy]) fun k h1 h2 => ?_
 rw [List.getElem_set]
 simp only [qy, List.getElem_map, List.getElem_range]
 by_cases e : i = k
 · subst e; rw [if_pos (by omega), if_pos rfl]
 · rw [if_neg e]
   by_cases e2 : k < i
   · rw [if_pos e2, if_pos (by omega)]
   · rw [if_neg e2, if_neg (by omega)]
theorem BD (n : Nat) : qy n n = List.replicate n (-1) := by
 refine List.eq_replicate_iff.2 ⟨pL n n, fun x hx => ?_⟩
 obtain ⟨k, hk, rfl⟩ := List.mem_map.1 hx
 rw [if_pos (List.mem_range.1 hk)]
def iH (L : List Int) (i : Nat) : List Int := (List.range i).flatMap fun k : Nat => if 0 ≤ L.getD k 0 then [(k : Int)] else []
theorem nE (L : List Int) (i : Nat) : iH L (i + 1) = iH L i ++ (if 0 ≤ L.getD i 0 then [(i : Int)] else []) := by
 unfold iH
 rw [List.range_succ, List.flatMap_append]; simp
theorem vH {L : List Int} {i : Nat} {x : Int} : x ∈ iH L i ↔ 0 ≤ x ∧ x < (i : Int) ∧ 0 ≤ lat L x := by
 unfold iH
 rw [List.mem_flatMap]
 constructor
 · rintro ⟨k, hk, hx⟩
   have hk := List.mem_range.1 hk
   split at hx <;> (try (cases hx; done))
   rename_i h
   rw [List.mem_singleton.1 hx]
   exact ⟨by omega, by omega, h⟩
 · rintro ⟨h1, h2, h3⟩
   refine ⟨x.toNat, List.mem_range.2 (by omega), ?_⟩
   rw [if_pos h3, List.mem_singleton]; omega
theorem wc (L : List Int) (i : Nat) : (iH L i).Nodup := by
 unfold iH
 refine List.pairwise_flatMap.2 ⟨fun c _ => by split <;> simp, List.nodup_range.imp fun {a b} hab x hx y hy hxy => hab ?_⟩
 subst hxy
 split at hx <;> (try (cases hx; done))
 split at hy <;> (try (cases hy; done))
 have e1 := List.mem_singleton.1 hx
 have e2 := List.mem_singleton.1 hy
 omega
theorem pk (L : List Int) : ∀ i : Nat, (iH L i).length ≤ i
 | 0 => Nat.le_refl _
 | i + 1 => by
   have := pk L i
   rw [nE, List.length_append]
   split
   · simp only [List.length_cons, List.length_nil]; omega
   · simp only [List.length_nil]; omega
def srL (L : List Int) : List Int := k7 L (iH L L.length)
def plJ (n : Nat) (S : List Int) : Nat → List Int
 | 0 => List.replicate n (-1)
 | j + 1 => (plJ n S j).set (S.getD j 0).toNat (j : Int)
theorem oX (n : Nat) (S : List Int) : ∀ j, (plJ n S j).length = n
 | 0 => List.length_replicate
 | j + 1 => by show ((plJ n S j).set _ _).length = n; rw [List.length_set]; exact oX n S j
def plL (L : List Int) : List Int := plJ L.length (srL L) (srL L).length
theorem sV {L : List Int} {x : Int} : x ∈ srL L ↔ 0 ≤ x ∧ x < (L.length : Int) ∧ 0 ≤ lat L x := by
 unfold srL
 rw [(fC _ _).mem_iff, vH]
theorem sW (L : List Int) : (srL L).length ≤ L.length := by
 unfold srL
 rw [(fC _ _).length_eq]
 exact pk L _
def fh (o : ab) : Tup [DT.lst Ii] := (plL o.1, ())
noncomputable abbrev Epl : Env Ab := ⟨tis, [(83, sa)] ++ E0.con⟩
theorem eplOk : aU Tryz.prog AI Epl := (ai.add sZ)
def jg : aB := ⟨[.cell iq], fun (x : ab × Unit) => (x.1).1.length ≤ 1000, [.lst Ii], fun (x : ab × Unit) => fh x.1⟩
theorem plc_ok (o : ab) (h : jg.pre (o, ())) : PTk Tryz.prog AI 37 jg (o, ()) := by
 dsimp only [PTk, jg] at h ⊢
 generalize hr : fh o = r
 obtain ⟨L, ou⟩ := o; have hL : L.length ≤ 1000 := h
 dsimp only [fh] at hr
 refine Tb eplOk mixed (fn := Tryz.f37) ?_
 refine Pq ?_
 with_reducible repeat' (first | exact True.intro | refine Ca ?_ | refine Cb ?_ | refine Cd ?_ | (refine Ce ?_; (try ((repeat (first | rw [ifP] at hr | rw [ifM] at hr | rw [if_pos rfl] at hr)); subst hr))) | refine Cm ?_ ?_ | (first | refine Bo (fun hk h => ?_) fun hk h => ?_ | refine Al (fun hk h => ?_) fun hk h => ?_) <;> (try (have hb : (_ : Bool) = _ := h; clear h; subst hb)) <;> (try replace hr := hri hr) <;> first | exact Dd | refine Nx ?_)
 all_goals first | with_reducible refine Ez ?_ | exact Cl1 | exact Cl2 | skip
 refine ⟨⟨{i : Nat // i ≤ L.length}, fun i => ⟨[(1, Sx.one (.ptr 0 0)), (3, Sx.one (.hd 1 0)), (4, Sx.one (.hd 2 0)), (14, Sx.one (.ro Ii (fun _ => L))), (15, Sx.one (.int .i64 (fun _ => L.length))), (16, Sx.one (.int .i64 (fun _ => i.1)))],
  [.cells 32 [.ro Ii (fun _ => L)], .row 3 Ii 0 (fun _ => qy L.length i.1), .row 3 Ii 0 (fun _ => iH L i.1)]⟩, fun i => L.length - i.1, ⟨0, Nat.zero_le _⟩⟩, ?_, fun (i : {i : Nat // i ≤ L.length}) => ?_⟩
 · refine Pq ?_
   with_reducible repeat' first | exact True.intro | refine Ca ?_ | refine Cb ?_ | refine Cd ?_ | refine Ce ?_ | refine Cm ?_ ?_
   all_goals first | with_reducible refine Ez ?_ | exact Cl1 | exact (congrArg (fun n => List.replicate n (0 : Int)) (Int.toNat_natCast L.length)).trans (zT L.length).symm | (rw [List.length_replicate]; omega) | (simp; done) | exact Cl2 | skip
 obtain ⟨i, hi⟩ := i
 dsimp only
 have hl := pL L.length i
 have hnl := pk L i
 have hx := fun (h : (i : Int) < (L.length : Int)) => (⟨by omega, h⟩ : (0 : Int) ≤ (i : Int) ∧ (i : Int) < (L.length : Int))
 have hxp := fun (h : (i : Int) < (L.length : Int)) => (⟨by omega, by omega⟩ : (0 : Int) ≤ (i : Int) ∧ (i : Int) < ((qy L.length i).length : Int))
 have hmx : ∀ v : Int, (iH L i).length + [v].length ≤ bP := fun v => by
  show _ + 1 ≤ 1099511627776
  omega
 have hs1 := zU L.length i
 have hy := fun (h : 0 ≤ L.getD (i : Int).toNat 0) => (by rw [nE, if_pos (show 0 ≤ L.getD i 0 from h)] : iH L (i + 1) = iH L i ++ [(i : Int)])
 have hno := fun (h : ¬ 0 ≤ L.getD (i : Int).toNat 0) => (by rw [nE, if_neg (show ¬ 0 ≤ L.getD i 0 from h), List.append_nil] : iH L (i + 1) = iH L i)
 have hpre : (iH L i).length ≤ 1000000 ∧ ∀ x ∈ iH L i, 0 ≤ x ∧ x < (L.length : Int) := ⟨by omega, fun x hx => by
  have := vH.1 hx
  omega⟩
 refine Pq ?_
 with_reducible repeat' (first | exact True.intro | refine Ca ?_ | refine Cb ?_ | refine Cd ?_ | refine Ce ?_ | refine Cm ?_ ?_ | (first | refine Bo (fun hk h => ?_) fun hk h => ?_ | refine Al (fun hk h => ?_) fun hk h => ?_) <;> (try (have hb : (_ : Bool) = _ := h; clear h; subst hb)) <;> (try replace hr := hri hr) <;> first | exact Dd | refine Nx ?_)
 all_goals first | with_reducible refine Ez ?_ | exact Cl1 | exact hx (by assumption) | exact hxp (by assumption) | exact hmx _ | exact hpre | exact Cl2 | skip
 · refine ⟨⟨i + 1, by omega⟩, (by dsimp only; omega), ?_⟩
   refine Pq ?_
   with_reducible repeat' first | exact True.intro | refine Ca ?_ | refine Cb ?_ | refine Cd ?_ | refine Ce ?_ | refine Cm ?_ ?_
   all_goals first | with_reducible refine Ez ?_ | exact Cl1 | exact hs1.symm | exact (hy (by assumption)).symm | exact Cl2 | skip
 · refine ⟨⟨i + 1, by omega⟩, (by dsimp only; omega), ?_⟩
   refine Pq ?_
   with_reducible repeat' first | exact True.intro | refine Ca ?_ | refine Cb ?_ | refine Cd ?_ | refine Ce ?_ | refine Cm ?_ ?_
   all_goals first | with_reducible refine Ez ?_ | exact Cl1 | exact hs1.symm | exact (hno (by assumption)).symm | exact Cl2 | skip
 have hin : i = L.length := by omega
 subst hin
 clear hx hxp hmx hs1 hy hno hpre
 obtain ⟨S, hS⟩ : ∃ S, k7 L (iH L L.length) = S := ⟨_, rfl⟩
 have hS2 : srL L = S := hS
 have hSm : ∀ x ∈ S, 0 ≤ x ∧ x < (L.length : Int) := fun x hx => by
  rw [← hS2] at hx
  have := sV.1 hx
  omega
 have hSl : S.length ≤ L.length := by rw [← hS2]; exact sW L
 have hpe := BD L.length
 refine ⟨⟨{j : Nat // j ≤ S.length}, fun j => ⟨[(3, Sx.one (.hd 1 0)), (34, Sx.one (.ro Ii (fun _ => S))), (35, Sx.one (.int .i64 (fun _ => S.length))), (36, Sx.one (.int .i64 (fun _ => j.1)))],
  [.cells 32 [.ro Ii (fun _ => L)], .row 3 Ii 0 (fun _ => plJ L.length S j.1)]⟩, fun j => S.length - j.1, ⟨0, Nat.zero_le _⟩⟩, ?_, fun (j : {j : Nat // j ≤ S.length}) => ?_⟩
 · refine Pq ?_
   with_reducible repeat' first | exact True.intro | refine Ca ?_ | refine Cb ?_ | refine Cd ?_ | refine Ce ?_ | refine Cm ?_ ?_
   all_goals first | with_reducible refine Ez ?_ | exact Cl1 | exact hpe | exact hS | exact congrArg (fun l : List Int => (l.length : Int)) hS | (simp only [aH, aJ]; exact hS) | exact Cl2 | skip
 obtain ⟨j, hj⟩ := j
 dsimp only
 have hx := fun (h : (j : Int) < (S.length : Int)) => (⟨by omega, h⟩ : (0 : Int) ≤ (j : Int) ∧ (j : Int) < (S.length : Int))
 have hpl := oX L.length S j
 have hxs := fun (h : (j : Int) < (S.length : Int)) => (by rw [hpl]; exact hSm _ (by rw [List.getD_eq_getElem?_getD, List.getElem?_eq_getElem (show (j : Int).toNat < S.length by omega)]; exact List.getElem_mem _) : 0 ≤ S.getD (j : Int).toNat 0 ∧ S.getD (j : Int).toNat 0 < ((plJ L.length S j).length : Int))
 have hend : ¬ (j : Int) < (S.length : Int) → plJ L.length S j = plL L := fun h => by
  unfold plL
  rw [hS2, show j = S.length by omega]
 refine Pq ?_
 with_reducible repeat' (first | exact True.intro | refine Ca ?_ | refine Cb ?_ | refine Cd ?_ | refine Ce ?_ | refine Cm ?_ ?_ | (first | refine Bo (fun hk h => ?_) fun hk h => ?_ | refine Al (fun hk h => ?_) fun hk h => ?_) <;> (try (have hb : (_ : Bool) = _ := h; clear h; subst hb)) <;> (try replace hr := hri hr) <;> first | exact Dd | refine Nx ?_)
 all_goals first | with_reducible refine Ez ?_ | exact Cl1 | exact hx (by assumption) | exact hxs (by assumption) | (subst hr; exact hend (by assumption)) | exact Cl2 | skip
 refine ⟨⟨j + 1, by omega⟩, (by dsimp only; omega), ?_⟩
 refine Pq ?_
 with_reducible repeat' first | exact True.intro | refine Ca ?_ | refine Cb ?_ | refine Cd ?_ | refine Ce ?_ | refine Cm ?_ ?_
 all_goals first | with_reducible refine Ez ?_ | exact Cl1 | rfl | exact Cl2 | skip
theorem zV : aE Tryz.prog AI 37 jg.con := aB.sound Tryz.call37 (fun x h => plc_ok x.1 h)
attribute [irreducible] plL
end Go.Proofs.YtcaoldilmnpjoaaGreat
