/-
  Layer 40: a full directory (plain), and the names of the law.
-/
import Derived.Test.YtehdhnkkkocffaaSeq
namespace Go.Proofs.Ytehdhnkkkocffaa
set_option linter.all false
set_option linter.unusedVariables false
set_option linter.unusedSimpArgs false
set_option linter.unusedSectionVars false
open Go.RowKit Go.Sx
set_option maxRecDepth 100000
set_option maxHeartbeats 16000000
def nmGo : Nat → Int → List Int → List Int
  | 0, _, s => s
  | n + 1, i, s => nmGo n (i / 10) (s ++ [97 + i % 10])
def nameF (i : Int) : List Int := nmGo 4 i [110]
theorem nameF_eq (i : Int) : nameF i = [110, 97 + i % 10, 97 + i / 10 % 10, 97 + i / 10 / 10 % 10, 97 + i / 10 / 10 / 10 % 10] := rfl
theorem nameF_inj {i j : Int} (hi : 0 ≤ i ∧ i < 1000) (hj : 0 ≤ j ∧ j < 1000) (h : nameF i = nameF j) : i = j := by
  rw [nameF_eq, nameF_eq] at h
  simp only [List.cons.injEq, and_true, true_and] at h
  obtain ⟨h1, h2, h3, h4⟩ := h
  omega
theorem nameF_let {i : Int} (h : 0 ≤ i) : ∀ x ∈ nameF i, 97 ≤ x ∧ x ≤ 122 := by
  intro x hx
  rw [nameF_eq] at hx
  simp only [List.mem_cons, List.mem_nil_iff, or_false] at hx
  omega
theorem nameF_byt {i : Int} (h : 0 ≤ i) : inBytes (nameF i) := fun x hx => by have := nameF_let h x hx; omega
theorem vld_of {l : List Int} (h1 : 1 ≤ l.length) (h2 : l.length ≤ 20) (h : ∀ x ∈ l, 97 ≤ x ∧ x ≤ 122) : vldF l = true := by
  unfold vldF validB
  refine decide_eq_true ⟨?_, ?_, fun j hj => .inl ?_⟩
  · show 1 ≤ (u8s l).toArray.size; simpa using h1
  · show (u8s l).toArray.size ≤ 20; simpa using h2
  · have hj2 : j < l.length := by simpa [ByteArray.size] using hj
    have hx := h l[j] (List.getElem_mem hj2)
    have e : ((⟨(u8s l).toArray⟩ : ByteArray)[j]'hj) = l[j].toNat.toUInt8 := by
      show (u8s l).toArray[j]'_ = _
      simp [u8s]
    rw [e]
    simp only [Nat.toUInt8, UInt8.toNat_ofNat']
    omega
theorem vld_name {i : Int} (h : 0 ≤ i) : vldF (nameF i) = true := vld_of (by rw [nameF_eq]; exact (by decide : 1 ≤ 5)) (by rw [nameF_eq]; exact (by decide : 5 ≤ 20)) (nameF_let h)
theorem getS_put {D : DirL} {a b : List Int} {v : Ent} : getS (putS D a v) b = if b = a then some v else getS D b := by
  induction D with
  | nil =>
    show (if a = b then some v else none) = if b = a then some v else none
    by_cases e : b = a
    · rw [if_pos e, if_pos e.symm]
    · rw [if_neg e, if_neg (Ne.symm e)]
  | cons q D ih =>
    obtain ⟨k, u⟩ := q
    show getS (if k = a then (a, v) :: D else (k, u) :: putA D a v) b = if b = a then some v else (if k = b then some u else getS D b)
    by_cases e : k = a
    · subst e
      rw [if_pos rfl]
      show (if k = b then some v else getS D b) = _
      by_cases e2 : b = k
      · rw [if_pos e2.symm, if_pos e2]
      · rw [if_neg (Ne.symm e2), if_neg e2, if_neg (Ne.symm e2)]
    · rw [if_neg e]
      show (if k = b then some u else getS (putS D a v) b) = _
      by_cases e2 : k = b
      · rw [if_pos e2, if_neg (fun h => e (e2.trans h)), if_pos e2]
      · rw [if_neg e2, if_neg e2, ih]
theorem putS_put {D : DirL} {a : List Int} {u v : Ent} : putS (putS D a u) a v = putS D a v := by
  induction D with
  | nil => show (if a = a then [(a, v)] else _) = _; rw [if_pos rfl]; rfl
  | cons q D ih =>
    obtain ⟨k, x⟩ := q
    show putA (if k = a then (a, u) :: D else (k, x) :: putA D a u) a v = if k = a then (a, v) :: D else (k, x) :: putA D a v
    by_cases e : k = a
    · rw [if_pos e, if_pos e]; show (if a = a then (a, v) :: D else _) = _; rw [if_pos rfl]
    · rw [if_neg e, if_neg e]; show (if k = a then _ else (k, x) :: putA (putA D a u) a v) = _; rw [if_neg e]; exact congrArg _ ih
theorem putS_lenN {D : DirL} {a : List Int} {v : Ent} (h : getS D a = none) : (putS D a v).length = D.length + 1 := by
  induction D with
  | nil => rfl
  | cons q D ih =>
    obtain ⟨k, x⟩ := q
    have h : (if k = a then some x else getS D a) = none := h
    show (if k = a then (a, v) :: D else (k, x) :: putA D a v).length = _
    split at h
    · cases h
    · rename_i e; rw [if_neg e]; simp only [List.length_cons]; have ih2 : (putA D a v).length = D.length + 1 := ih h; omega
theorem putS_lenS {D : DirL} {a : List Int} {u v : Ent} (h : getS D a = some u) : (putS D a v).length = D.length := by
  induction D with
  | nil => cases h
  | cons q D ih =>
    obtain ⟨k, x⟩ := q
    have h : (if k = a then some x else getS D a) = some u := h
    show (if k = a then (a, v) :: D else (k, x) :: putA D a v).length = _
    split at h
    · rename_i e; rw [if_pos e]; rfl
    · rename_i e; rw [if_neg e]; simp only [List.length_cons]; have ih2 : (putA D a v).length = D.length := ih h; omega
theorem putS_mem {D : DirL} {n : List Int} {e : Ent} : ∀ p ∈ putS D n e, p = (n, e) ∨ p ∈ D := by
  induction D with
  | nil => intro p hp; exact .inl (by simpa [putS, putA] using hp)
  | cons q D ih =>
    intro p hp
    obtain ⟨k, u⟩ := q
    have hp : p ∈ (if k = n then (n, e) :: D else (k, u) :: putA D n e) := hp
    split at hp
    · rcases List.mem_cons.1 hp with h | h
      · exact .inl h
      · exact .inr (List.mem_cons_of_mem _ h)
    · rcases List.mem_cons.1 hp with h | h
      · exact .inr (h ▸ List.mem_cons_self ..)
      · rcases ih p h with h | h
        · exact .inl h
        · exact .inr (List.mem_cons_of_mem _ h)
theorem putS_nd {D : DirL} {n : List Int} {e : Ent} (h : (D.map Prod.fst).Nodup) : ((putS D n e).map Prod.fst).Nodup := by
  induction D with
  | nil => simp [putS, putA]
  | cons q D ih =>
    obtain ⟨k, u⟩ := q
    obtain ⟨h1, h2⟩ := List.nodup_cons.1 h
    show ((if k = n then (n, e) :: D else (k, u) :: putA D n e).map Prod.fst).Nodup
    split
    · rename_i hk; subst hk; exact List.nodup_cons.2 ⟨h1, h2⟩
    · rename_i hk
      refine List.nodup_cons.2 ⟨fun hm => ?_, ih h2⟩
      obtain ⟨p, hp, he⟩ := List.mem_map.1 hm
      rcases putS_mem p hp with rfl | hp
      · exact hk he.symm
      · exact h1 (List.mem_map.2 ⟨p, hp, he⟩)
theorem OkD.put {D : DirL} {n : List Int} {e : Ent} (h : OkD D) (hn : inBytes n) (he : EntOk e) (hl : (putS D n e).length ≤ 1048576) : OkD (putS D n e) :=
  ⟨putS_nd h.nd, fun p hp => (putS_mem p hp).elim (fun q => q ▸ ⟨hn, he⟩) (h.el p), hl⟩
abbrev e0 : Ent := ((0, 0, 1), true, 10, 10)
abbrev eD : Ent := ((0, 0, 1), false, 0, 0)
abbrev e2 : Ent := ((1, 0, 2), true, 10, 10)
theorem ent_e0 : EntOk e0 := ⟨by decide, by decide, by decide⟩
theorem ent_eD : EntOk eD := ⟨by decide, by decide, by decide⟩
theorem ent_e2 : EntOk e2 := ⟨by decide, by decide, by decide⟩
def dirTo : Nat → DirL
  | 0 => []
  | n + 1 => putS (dirTo n) (nameF n) e0
theorem dirTo_get : ∀ (n : Nat) {k : Int}, n ≤ 1000 → 0 ≤ k → k < 1000 → getS (dirTo n) (nameF k) = if k < n then some e0 else none
  | 0, k, _, h0, _ => by rw [if_neg (by omega)]; rfl
  | n + 1, k, hn, h0, h1 => by
    rw [dirTo, getS_put]
    by_cases e : k = n
    · rw [e, if_pos rfl, if_pos (by omega)]
    · rw [if_neg (fun h => e (nameF_inj ⟨h0, h1⟩ ⟨by omega, by omega⟩ h)), dirTo_get n (by omega) h0 h1]
      by_cases c : k < n
      · rw [if_pos c, if_pos (by omega)]
      · rw [if_neg c, if_neg (by omega)]
theorem dirTo_len : ∀ n : Nat, n ≤ 1000 → (dirTo n).length = n
  | 0, _ => rfl
  | n + 1, h => by
    rw [dirTo, putS_lenN (by rw [dirTo_get n (by omega) (by omega) (by omega), if_neg (by omega)]), dirTo_len n (by omega)]
theorem dirTo_ok : ∀ n : Nat, n ≤ 1000 → OkD (dirTo n)
  | 0, _ => ⟨List.nodup_nil, fun p hp => (by cases hp), Nat.zero_le _⟩
  | n + 1, h => (dirTo_ok n (by omega)).put (nameF_byt (by omega)) ent_e0 (by have := dirTo_len (n + 1) h; rw [dirTo] at this; omega)
theorem dirTo_mem : ∀ (n : Nat), ∀ p ∈ dirTo n, p.2 = e0
  | 0, p, hp => by cases hp
  | n + 1, p, hp => by
    rcases putS_mem p hp with rfl | hp
    · rfl
    · exact dirTo_mem n p hp
abbrev oth : List Int := [111, 116, 104, 101, 114]
theorem oth_ne (i : Int) : oth ≠ nameF i := by rw [nameF_eq]; intro h; simp at h
theorem dirTo_oth : ∀ n : Nat, getS (dirTo n) oth = none
  | 0 => rfl
  | n + 1 => by rw [dirTo, getS_put, if_neg (oth_ne _)]; exact dirTo_oth n
theorem vld_oth : vldF oth = true := vld_of (by decide) (by decide) (by intro x hx; simp only [List.mem_cons, List.mem_nil_iff, or_false] at hx; omega)
theorem oth_byt : inBytes oth := by intro x hx; simp only [List.mem_cons, List.mem_nil_iff, or_false] at hx; omega
theorem bind_nw {D : DirL} {n : List Int} (hv : vldF n = true) (h : getS D n = none) (hl : (D.length : Int) < 1000) : bindF D n 0 0 0 10 = (((0, 0, 1), 0, ()), putS D n e0) := by
  unfold bindF bindN entAt
  rw [if_pos hv, if_pos (by decide), h]
  show (if false = true then _ else (if false = true then _ else if 1000 ≤ (D.length : Int) then _ else _)) = _
  rw [if_neg (by decide), if_neg (by decide), if_neg (by omega)]
  rfl
theorem bind_fl {D : DirL} {n : List Int} (hv : vldF n = true) (h : getS D n = none) (hl : 1000 ≤ (D.length : Int)) : bindF D n 0 0 0 10 = (((0, 0, 0), 5, ()), D) := by
  unfold bindF bindN entAt
  rw [if_pos hv, if_pos (by decide), h]
  show (if false = true then _ else (if false = true then _ else if 1000 ≤ (D.length : Int) then _ else _)) = _
  rw [if_neg (by decide), if_neg (by decide), if_pos hl]
theorem bind_ag {D : DirL} {n : List Int} (hv : vldF n = true) (h : getS D n = some eD) : bindF D n 1 0 0 10 = (((1, 0, 2), 0, ()), putS D n e2) := by
  unfold bindF bindN entAt
  rw [if_pos hv, if_pos (by decide), h]
  rfl
theorem drop_nm {D : DirL} {n : List Int} (hv : vldF n = true) (h : getS D n = some e0) : dropF D n 1 = ((0, ()), putS D n eD) := by
  unfold dropF entAt
  rw [if_pos hv, h]
  rfl
structure Msf (k : Int) (D2 D3 : DirL) : Prop where
  a : bindF (dirTo 1000) oth 0 0 0 10 = (((0, 0, 0), 5, ()), dirTo 1000)
  b : dropF (dirTo 1000) (nameF k) 1 = ((0, ()), D2)
  c : bindF D2 oth 0 0 0 10 = (((0, 0, 0), 5, ()), D2)
  d : bindF D2 (nameF k) 1 0 0 10 = (((1, 0, 2), 0, ()), D3)
  e : ((namesF D3 5).1.length : Int) = 1000
  f : ((namesF D3 10).1.length : Int) = 0
  o1 : OkD (dirTo 1000)
  o2 : OkD D2
  o3 : OkD D3
theorem msf {k : Int} (h0 : 0 ≤ k) (h1 : k < 1000) : ∃ D2 D3, Msf k D2 D3 := by
  have hg := dirTo_get 1000 (Nat.le_refl _) h0 h1
  rw [if_pos (by omega)] at hg
  have hl := dirTo_len 1000 (Nat.le_refl _)
  have ho := dirTo_ok 1000 (Nat.le_refl _)
  have hv := vld_name h0
  have l2 : (putS (dirTo 1000) (nameF k) eD).length = 1000 := (putS_lenS hg).trans hl
  have l3 : (putS (dirTo 1000) (nameF k) e2).length = 1000 := (putS_lenS hg).trans hl
  have o2 := ho.put (e := eD) (nameF_byt h0) ent_eD (by omega)
  have o3 := ho.put (e := e2) (nameF_byt h0) ent_e2 (by omega)
  have g2 : getS (putS (dirTo 1000) (nameF k) eD) oth = none := by rw [getS_put, if_neg (oth_ne _)]; exact dirTo_oth _
  have lv : ∀ p ∈ putS (dirTo 1000) (nameF k) e2, p.2.2.1 = true ∧ p.2.2.2.2 = 10 := fun p hp => by
    rcases putS_mem p hp with rfl | hp
    · exact ⟨rfl, rfl⟩
    · rw [dirTo_mem _ p hp]; exact ⟨rfl, rfl⟩
  refine ⟨putS (dirTo 1000) (nameF k) eD, putS (dirTo 1000) (nameF k) e2, bind_fl vld_oth (dirTo_oth _) (by omega), drop_nm hv hg, bind_fl vld_oth g2 (by omega), ?_, ?_, ?_, ho, o2, o3⟩
  · rw [bind_ag hv (by rw [getS_put, if_pos rfl]), putS_put]
  · unfold namesF
    rw [if_pos (by decide)]
    show ((sortS (liveK 5 _)).length : Int) = 1000
    rw [sortS_len]
    unfold liveK
    rw [List.length_map, List.filter_eq_self.2 (fun p hp => by obtain ⟨x, y⟩ := lv p hp; show (p.2.2.1 && decide (5 < p.2.2.2.2)) = true; rw [x, y]; rfl), l3]
    rfl
  · unfold namesF
    rw [if_pos (by decide)]
    show ((sortS (liveK 10 _)).length : Int) = 0
    rw [sortS_len]
    unfold liveK
    rw [List.length_map, List.filter_eq_nil_iff.2 (fun p hp => by obtain ⟨x, y⟩ := lv p hp; show ¬ (p.2.2.1 && decide (10 < p.2.2.2.2)) = true; rw [x, y]; decide)]
    rfl
end Go.Proofs.Ytehdhnkkkocffaa
