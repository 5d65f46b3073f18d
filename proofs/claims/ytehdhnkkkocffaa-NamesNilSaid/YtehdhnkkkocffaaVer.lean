/-
  NamesVersions (layer 40): the walk.
-/
import Derived.Test.YtehdhnkkkocffaaAwake
namespace Go.Proofs.Ytehdhnkkkocffaa
set_option linter.unusedSimpArgs false
set_option linter.unusedVariables false
set_option linter.unusedSectionVars false
open Go.RowKit Go.Maps Go.WideMaps

/-- The cells of an act. -/
def AC.cells (a : AC) : List Value := [.int .i64 a.kind, .string a.name, .int .i64 a.node, .int .i64 a.port, .int .i64 a.ver, .int .i64 a.tick, .int .i64 a.long]
/-- A slice of acts that came in. -/
structure IsActs (w : World) (a : Option Addr) (len : Nat) (l : List AC) : Prop where
  hlen : l.length = len
  hmax : len ≤ maxLen
  small : ∀ x ∈ l, x.name.size ≤ maxLen
  cells : len = 0 ∨ ∃ b off, a = some ⟨b, off, none⟩ ∧ b < w.heap.size ∧ ∀ i (h : i < l.length), ∀ j v, (AC.cells l[i])[j]? = some v → w.cell? ⟨b, off + i * 7 + j, none⟩ = some v

structure RepL (f : List UInt8 → Int) (D : DataW Value) : Prop where
  isMap : IsMap D
  at_ : ∀ k, D.atKey (.string k) (.held (.int .i64 0)) = .held (.int .i64 (f k))
theorem repL_empty : RepL (fun _ => 0) (.map []) := ⟨isMap_empty, fun _ => rfl⟩
theorem RepL.put {f : List UInt8 → Int} {D : DataW Value} (h : RepL f D) (k : List UInt8) (x : Int) : RepL (fun k' => if k' = k then x else f k') (D.put (.string k) (.held (.int .i64 x))) := by
  refine ⟨h.isMap.put _ _, fun k' => ?_⟩
  by_cases hk : k' = k
  · subst hk; rw [atKey_put_same h.isMap (by trivial)]; simp
  · rw [atKey_put_other (by simpa using hk), h.at_ k']; simp [hk]
theorem RepL.get {f : List UInt8 → Int} {D : DataW Value} (h : RepL f D) (k : List UInt8) : getV D (.string k) (.int .i64 0) = .int .i64 (f k) := getV_of (h.at_ k)

theorem zeroI (w : World) : (zeroValue 3).run Try.prog w = .ok (.int .i64 0) w := by kernel_rfl

def verF (M : NMap) (k : List UInt8) : Int := (getE M k).ver

structure VRel (w wr : World) (db mb lb : Nat) (k : Nat) (M : NMap) (cnt : Nat) (D : DataW Value) : Prop where
  dir : IsDir wr db mb M cnt
  ok : OkM k M cnt
  own : wr.ownsMap Try.prog 9 RV lb k D
  rep : RepL (verF M) D
  below : Below w.heap.size w wr
  hdb : w.heap.size ≤ db
  hmb : w.heap.size ≤ mb
  hlb : w.heap.size ≤ lb
  ne1 : lb ≠ db
  ne2 : lb ≠ mb

theorem verF_set (M : NMap) (k : List UInt8) (e : Ent) : verF (setE M k e) = fun k' => if k' = k then e.ver else verF M k' := by
  funext k'
  unfold verF
  by_cases h : k' = k
  · subst h; rw [getE_set_same]; simp
  · rw [getE_set_other _ h]; simp [h]
theorem verF_same (M : NMap) (k : List UInt8) (e : Ent) (h : e.ver = verF M k) : verF (setE M k e) = verF M := by
  rw [verF_set]; funext k'; by_cases hk : k' = k
  · subst hk; simp [h]
  · simp [hk]

theorem act_bad (M : NMap) (cnt : Nat) (a : AC) (h : (actF M cnt a).err ≠ 0) : (actF M cnt a).node = 0 ∧ (actF M cnt a).port = 0 ∧ (actF M cnt a).ver = 0 ∧ (actF M cnt a).m = M := by
  unfold actF bindF renewF moveF dropF lookF at h ⊢
  repeat' split at h
  all_goals simp_all

theorem act_02 (M : NMap) (cnt : Nat) (a : AC) (h : (actF M cnt a).err = 0) (hk : a.kind = 0 ∨ a.kind = 2) :
    (actF M cnt a).ver = verF M (key a) + 1 ∧ (actF M cnt a).node = a.node ∧ (actF M cnt a).port = a.port ∧ verF (actF M cnt a).m = fun k' => if k' = key a then (actF M cnt a).ver else verF M k' := by
  rcases hk with hk | hk
  · unfold actF at h ⊢
    rw [if_pos hk] at h ⊢
    unfold bindF at h ⊢
    by_cases h1 : validB a.name = false
    · rw [if_pos h1] at h; simp at h
    rw [if_neg h1] at h ⊢
    by_cases h2 : bindOkB a.node a.port a.tick a.long = false
    · rw [if_pos h2] at h; simp at h
    rw [if_neg h2] at h ⊢
    by_cases h3 : liveE (getE M (key a)) a.tick = true
    · rw [if_pos h3] at h; simp at h
    rw [if_neg h3] at h ⊢
    by_cases h4 : 1000 ≤ cnt ∧ (M (key a)).isSome = false
    · rw [if_pos h4] at h; simp at h
    rw [if_neg h4]
    exact ⟨rfl, rfl, rfl, verF_set _ _ _⟩
  · unfold actF at h ⊢
    rw [if_neg (by omega), if_neg (by omega), if_pos hk] at h ⊢
    unfold moveF at h ⊢
    by_cases hf : findF M a (vPlace a.node a.port) = 0
    · rw [if_pos hf] at h ⊢
      obtain ⟨_, _, _, _, f5⟩ := find_zero _ hf
      change verF M (key a) = a.ver at f5
      exact ⟨by simp [f5], rfl, rfl, verF_set _ _ _⟩
    · rw [if_neg hf] at h
      exact absurd h hf

theorem act_13 (M : NMap) (cnt : Nat) (a : AC) (h : (actF M cnt a).err = 0) (hk : a.kind = 1 ∨ a.kind = 3) : a.ver = verF M (key a) ∧ verF (actF M cnt a).m = verF M := by
  rcases hk with hk | hk
  · unfold actF at h ⊢
    rw [if_neg (by omega), if_pos hk] at h ⊢
    unfold renewF at h ⊢
    by_cases hf : findF M a true = 0
    · rw [if_pos hf]
      obtain ⟨_, _, _, _, f5⟩ := find_zero _ hf
      change verF M (key a) = a.ver at f5
      exact ⟨f5.symm, verF_same _ _ _ rfl⟩
    · rw [if_neg hf] at h
      exact absurd h hf
  · unfold actF at h ⊢
    rw [if_neg (by omega), if_neg (by omega), if_neg (by omega), if_pos hk] at h ⊢
    unfold dropF at h ⊢
    by_cases h1 : validB a.name = false
    · rw [if_pos h1] at h; simp at h
    rw [if_neg h1] at h ⊢
    by_cases h2 : (getE M (key a)).bound = false
    · rw [if_pos h2] at h; simp at h
    rw [if_neg h2] at h ⊢
    by_cases h3 : (getE M (key a)).ver = a.ver
    · rw [if_pos h3]
      exact ⟨h3.symm, verF_same _ _ _ h3.symm⟩
    · rw [if_neg h3] at h; simp at h

theorem act_4 (M : NMap) (cnt : Nat) (a : AC) (h : (actF M cnt a).err = 0) (h0 : a.kind ≠ 0) (h1 : a.kind ≠ 1) (h2 : a.kind ≠ 2) (h3 : a.kind ≠ 3) : (actF M cnt a).ver = verF M (key a) ∧ (actF M cnt a).m = M := by
  unfold actF at h ⊢
  rw [if_neg h0, if_neg h1, if_neg h2, if_neg h3] at h ⊢
  unfold lookF at h ⊢
  repeat' split at h
  all_goals simp_all [verF]

set_option maxRecDepth 100000 in
set_option maxHeartbeats 2000000 in
theorem ver_walk (a : Option Addr) (len cap : Nat) (l : List AC) (w : World) (ha : IsActs w a len l) :
    Calls Try.prog 3 #[.slice a len cap] w fun r w' => r = .returned (.bool true) ∧ Below w.heap.size w w' := by
  have hmm := @run_makeMap Try.prog
  have hm := ha.hmax
  unfold maxLen at hm
  by_cases hl : 40 < len
  · go_enter Try.func3, Try.ntmps3
    go_wp2_with (go_at_call 12; refine (awake_any _).mono ?_; rintro r w1 ⟨rfl, hk1⟩)
    go_ret
    exact ⟨rfl, hk1.below (by simp) (Nat.le_refl _)⟩
  have hl2 : len ≤ 40 := by omega
  go_enter Try.func3, Try.ntmps3
  go_wp2_with fail
  refine (awake_any _).mono ?_
  rintro r w0 ⟨rfl, hk0⟩
  have K0 := Lib.hid hk0; clear hk0
  go_wp2_with fail
  refine (new_any _).mono ?_
  rintro r w1 ⟨rfl, hd1, hk1, hz1⟩
  have HD1 := Lib.hid hd1; clear hd1
  have K1 := Lib.hid hk1; clear hk1
  have Z1 := Lib.hid hz1; clear hz1
  go_wp2
  go_loopw [18] (fun i wr => ∃ k M cnt D, k ≤ len ∧ i = .int .i64 (k : Nat) ∧ VRel w wr (w0.heap.size + 1) w0.heap.size w1.heap.size k M cnt D) (fun i _ => len - (intOf i).toNat)
  case atStart =>
    refine ⟨0, fun _ => none, 0, .map [], Nat.zero_le _, rfl, ?_⟩
    have z := Z1.out
    have s0 := K0.out.size
    exact ⟨HD1.out.kept (S := []) (by repeat (first | exact Kept.refl _ _ | refine Kept.alloc ?_ _ | refine Kept.drew ?_ | refine Kept.setCell ?_ (Or.inr (by first | exact Nat.le_refl _ | (simp; done) | (simp; omega) | omega)) _)) (by simp) (by simp), okM_empty, World.ownsMap_made _ _ _ _, repL_empty, ((K0.out.trans K1.out).alloc _).below (by simp) (Nat.le_refl _), by omega, by omega, by omega, by omega, by omega⟩
  case round =>
    obtain ⟨k, M, cnt, D, hk, rfl, hrel⟩ := hrel
    have HR := Lib.hid hrel; clear hrel
    by_cases hlt : k < len
    · obtain ⟨b, off, rfl, hb, hcs⟩ : ∃ b off, a = some ⟨b, off, none⟩ ∧ b < w.heap.size ∧ ∀ i (h : i < l.length), ∀ j v, (AC.cells l[i])[j]? = some v → w.cell? ⟨b, off + i * 7 + j, none⟩ = some v := by
        rcases ha.cells with h | h
        · omega
        · exact h
      have hkl : k < l.length := by rw [ha.hlen]; exact hlt
      have hcell : ∀ j v, (AC.cells l[k])[j]? = some v → wr.cell? ⟨b, off + k * 7 + j, none⟩ = some v := fun j v h => (HR.out.below.cell hb).trans (hcs k hkl j v h)
      have hns := ha.small _ (List.getElem_mem hkl)
      generalize l[k] = x at hcell hns
      clear hcs
      have e0 := hcell 0 _ rfl
      have e1 := hcell 1 _ rfl
      have e2 := hcell 2 _ rfl
      have e3 := hcell 3 _ rfl
      have e4 := hcell 4 _ rfl
      have e5 := hcell 5 _ rfl
      have e6 := hcell 6 _ rfl
      clear hcell
      simp only [Nat.add_zero] at e0
      have ok2 := HR.out.ok.act (by omega) x
      have A1 := Lib.hid (act_bad M cnt x)
      have A2 := Lib.hid (act_02 M cnt x)
      have A3 := Lib.hid (act_13 M cnt x)
      have A4 := Lib.hid (act_4 M cnt x)
      have DO := fun (w' : World) (h : IsDir w' (w0.heap.size + 1) w0.heap.size M cnt) => do_any h HR.out.ok x hns
      have OK2 := Lib.hid ok2; clear ok2
      have HDO := Lib.hid DO; clear DO
      generalize actF M cnt x = R at *
      have hkey : Hid (keyOf Try.prog 9 (.string x.name) = some (.string (key x))) := keyOf_string_mk Try.underlying9 hns
      have hget := Lib.hid (HR.out.rep.get (key x))
      have hv0 := HR.out.ok.ver0 (key x)
      have hv1 := HR.out.ok.ver1 (key x)
      change 0 ≤ verF M (key x) at hv0
      change verF M (key x) ≤ k at hv1
      have hdl := HR.out.dir.lt
      go_wp2_with fail
      refine (HDO.out _ (HR.out.dir.kept (S := []) (by repeat (first | exact Kept.refl _ _ | refine Kept.alloc ?_ _ | refine Kept.drew ?_ | refine Kept.setCell ?_ (Or.inr (by first | exact Nat.le_refl _ | (simp; done) | (simp; omega) | omega)) _)) (by simp) (by simp))).mono ?_
      rintro r w2 ⟨rfl, hd2, hk2⟩
      have B2 := Lib.hid (hk2.blk (heap_alloc_new wr _) (by simp; omega))
      have O2 := Lib.hid (hk2.ownsMap (HR.out.own.alloc _) (by simp; exact HR.out.ne2))
      have s2 : wr.heap.size < w2.heap.size := by have := hk2.size; simp at this; omega
      have HB2 := Lib.hid (Below.kept (HR.out.below.alloc (HR.out.below.size) _) hk2 (by simp; exact HR.out.hmb) (by simp; have := HR.out.below.size; omega))
      have HD2 := Lib.hid hd2; clear hd2 hk2
      have HDF := fun (o : Obj) => HD2.out.kept ((Kept.refl [] w2).alloc o) (by simp) (by simp)
      have c0 := cell_of_block B2.out 0
      have c1 := cell_of_block B2.out 1
      have c2 := cell_of_block B2.out 2
      have c3 := cell_of_block B2.out 3
      have c4 := cell_of_block B2.out 4
      clear e0 e1 e2 e3 e4 e5 e6 HDF
      simp only [List.getElem?_toArray, List.getElem?_cons_zero, List.getElem?_cons_succ] at c0 c1 c2 c3 c4
      have g0 : ∀ {p : Prop}, p → p := fun h => h
      by_cases herr : R.err = 0
      · have q1 : (R.err == 0) = true := by simpa using herr
        have q2 : (R.err != 0) = false := by simpa using herr
        by_cases hk02 : x.kind = 0 ∨ x.kind = 2
        · obtain ⟨r1, r2, r3, r4⟩ := A2.out herr hk02
          have RV := Lib.hid r4; clear r4 herr
          have REP := Lib.hid (HR.out.rep.put (key x) R.ver)
          have r1' := Lib.hid r1
          have kk : x.kind = 0 ∨ (x.kind == 0) = false ∧ x.kind = 2 := by rcases hk02 with h | h <;> simp [h]
          clear hk02
          rcases kk with h0 | ⟨h0, h2⟩
          all_goals
            go_wp2_with (first
              | (at_lookup; refine wpList_lookupV _ rfl _ _ 26 rfl 9 3 law Try.underlying26 (zeroI _) w1.heap.size k D rfl (O2.out.alloc _) _ _ rfl hkey.out (.int .i64 (verF M (key x))) hget.out ?_)
              | (at_mapUpdate; refine wpList_updateV _ rfl _ _ _ 26 rfl 9 3 law Try.underlying26 w1.heap.size k D rfl (O2.out.alloc _) (by unfold maxLen; omega) _ _ _ rfl rfl hkey.out ?_; intro w3 hown3 hturn3; have O3 := Lib.hid hown3; have T3 := Lib.hid (Kept.of_turned hturn3); clear hown3 hturn3))
            go_roundw
            case rel =>
              refine ⟨k + 1, R.m, R.cnt, _, by omega, by go_num, ⟨(HD2.out.kept (S := []) (by repeat (first | exact Kept.refl _ _ | refine Kept.alloc ?_ _ | refine Kept.drew ?_ | refine Kept.setCell ?_ (Or.inr (by first | exact Nat.le_refl _ | (simp; done) | (simp; omega) | omega)) _)) (by simp) (by simp)).kept T3.out (by simp; exact fun e => HR.out.ne1 e.symm) (by simp; exact fun e => HR.out.ne2 e.symm), OK2.out, O3.out, ?_, Below.kept (HB2.out.alloc (HB2.out.size) _) T3.out (by simp; exact HR.out.hlb) (by have := HB2.out.size; simp; omega), HR.out.hdb, HR.out.hmb, HR.out.hlb, HR.out.ne1, HR.out.ne2⟩⟩
              have e := REP.out
              rw [← RV.out, r1'.out] at e
              exact e
            case measure => simp [intOf]; omega
        have hk0 : (x.kind == 0) = false := by simp; omega
        have hk2 : (x.kind == 2) = false := by simp; omega
        by_cases hk13 : x.kind = 1 ∨ x.kind = 3
        · obtain ⟨r1, r4⟩ := A3.out herr hk13
          have RV := Lib.hid r4; clear r4 herr hk02
          have kk : x.kind = 1 ∨ (x.kind == 1) = false ∧ x.kind = 3 := by rcases hk13 with h | h <;> simp [h]
          clear hk13
          rcases kk with h0 | ⟨h0, h2⟩
          all_goals
            go_wp2_with (first
              | (at_lookup; refine wpList_lookupV _ rfl _ _ 26 rfl 9 3 law Try.underlying26 (zeroI _) w1.heap.size k D rfl (O2.out.alloc _) _ _ rfl hkey.out (.int .i64 (verF M (key x))) hget.out ?_))
            go_roundw
            case rel => exact ⟨k + 1, R.m, R.cnt, D, by omega, by go_num, ⟨HD2.out.kept (S := []) (by repeat (first | exact Kept.refl _ _ | refine Kept.alloc ?_ _ | refine Kept.drew ?_ | refine Kept.setCell ?_ (Or.inr (by first | exact Nat.le_refl _ | (simp; done) | (simp; omega) | omega)) _)) (by simp) (by simp), OK2.out, (O2.out.alloc _).mono (by omega), by rw [RV.out]; exact HR.out.rep, HB2.out.alloc (HB2.out.size) _, HR.out.hdb, HR.out.hmb, HR.out.hlb, HR.out.ne1, HR.out.ne2⟩⟩
            case measure => simp [intOf]; omega
        · have hk1 : (x.kind == 1) = false := by simp; omega
          have hk3 : (x.kind == 3) = false := by simp; omega
          obtain ⟨r1, r4⟩ := A4.out herr (by omega) (by omega) (by omega) (by omega)
          have RV := Lib.hid (congrArg verF r4); clear r4 herr hk02 hk13
          go_wp2_with (first
            | (at_lookup; refine wpList_lookupV _ rfl _ _ 26 rfl 9 3 law Try.underlying26 (zeroI _) w1.heap.size k D rfl (O2.out.alloc _) _ _ rfl hkey.out (.int .i64 (verF M (key x))) hget.out ?_))
          go_roundw
          case rel => exact ⟨k + 1, R.m, R.cnt, D, by omega, by go_num, ⟨HD2.out.kept (S := []) (by repeat (first | exact Kept.refl _ _ | refine Kept.alloc ?_ _ | refine Kept.drew ?_ | refine Kept.setCell ?_ (Or.inr (by first | exact Nat.le_refl _ | (simp; done) | (simp; omega) | omega)) _)) (by simp) (by simp), OK2.out, (O2.out.alloc _).mono (by omega), by rw [RV.out]; exact HR.out.rep, HB2.out.alloc (HB2.out.size) _, HR.out.hdb, HR.out.hmb, HR.out.hlb, HR.out.ne1, HR.out.ne2⟩⟩
          case measure => simp [intOf]; omega
      · obtain ⟨r1, r2, r3, r4⟩ := A1.out herr
        have g1 : (R.err == 0) = false := by simpa using herr
        have g2 : (R.err != 0) = true := by simpa using herr
        have RV := Lib.hid (congrArg verF r4); clear r4 herr
        go_wp2
        go_roundw
        case rel => exact ⟨k + 1, R.m, R.cnt, D, by omega, by go_num, ⟨HD2.out.kept (S := []) (by repeat (first | exact Kept.refl _ _ | refine Kept.alloc ?_ _ | refine Kept.drew ?_ | refine Kept.setCell ?_ (Or.inr (by first | exact Nat.le_refl _ | (simp; done) | (simp; omega) | omega)) _)) (by simp) (by simp), OK2.out, (O2.out.alloc _).mono (by omega), by rw [RV.out]; exact HR.out.rep, HB2.out.alloc (HB2.out.size) _, HR.out.hdb, HR.out.hmb, HR.out.hlb, HR.out.ne1, HR.out.ne2⟩⟩
        case measure => simp [intOf]; omega
    · have hke : k = len := by omega
      go_wp2
      go_ret
      exact ⟨rfl, HR.out.below⟩
end Go.Proofs.Ytehdhnkkkocffaa
