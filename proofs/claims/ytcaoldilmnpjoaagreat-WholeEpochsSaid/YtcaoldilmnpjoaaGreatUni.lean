/-
  The top: channel.Union.
-/
import Derived.Test.YtcaoldilmnpjoaaGreatSfz
namespace Go.Proofs.YtcaoldilmnpjoaaGreat
set_option linter.all false
open Go.RowKit Go.Sx
set_option maxRecDepth 100000
set_option maxHeartbeats 16000000
abbrev FdT : Type := List (DepT × Bool)
def addD (L : FdT) (d : DepT) : FdT := putM (.agg DepE) L d true
def addsD (L : FdT) (l : List DepT) : FdT := l.foldl addD L
theorem put_keys {K : Type} [DecidableEq K] : ∀ (L : List (K × Bool)) (k : K), (k ∈ L.map (·.1) ∧ (putA L k true).map (·.1) = L.map (·.1)) ∨ (k ∉ L.map (·.1) ∧ (putA L k true).map (·.1) = L.map (·.1) ++ [k])
  | [], k => .inr ⟨by simp, rfl⟩
  | (a, x) :: r, k => by
    unfold putA
    split
    · rename_i e; subst e; exact .inl ⟨by simp, by simp⟩
    · rename_i e
      rw [List.map_cons, List.map_cons]
      rcases put_keys r k with ⟨h1, h2⟩ | ⟨h1, h2⟩
      · exact .inl ⟨List.mem_cons_of_mem _ h1, by rw [h2]⟩
      · exact .inr ⟨fun h => by rcases List.mem_cons.1 h with h | h; exact e h.symm; exact h1 h, by rw [h2]; rfl⟩
theorem addD_keys (L : FdT) (d : DepT) : (d ∈ keysD L ∧ keysD (addD L d) = keysD L) ∨ (d ∉ keysD L ∧ keysD (addD L d) = keysD L ++ [d]) := @put_keys DepT DepE.dec L d
theorem addD_nodup {L : FdT} (h : (keysD L).Nodup) (d : DepT) : (keysD (addD L d)).Nodup := by
  rcases addD_keys L d with ⟨h1, h2⟩ | ⟨h1, h2⟩
  · rw [h2]; exact h
  · rw [h2]
    exact List.nodup_append.2 ⟨h, by simp, fun a ha b hb => by simp at hb; subst hb; exact fun e => h1 (e ▸ ha)⟩
theorem addD_mem (L : FdT) (d x : DepT) : x ∈ keysD (addD L d) ↔ x ∈ keysD L ∨ x = d := by
  rcases addD_keys L d with ⟨h1, h2⟩ | ⟨h1, h2⟩
  · rw [h2]; exact ⟨.inl, fun h3 => h3.elim id fun e => e ▸ h1⟩
  · rw [h2]; simp
theorem addsD_nodup : ∀ (l : List DepT) {L : FdT}, (keysD L).Nodup → (keysD (addsD L l)).Nodup
  | [], _, h => h
  | d :: l, L, h => addsD_nodup l (addD_nodup h d)
theorem addsD_mem : ∀ (l : List DepT) (L : FdT) (x : DepT), x ∈ keysD (addsD L l) ↔ x ∈ keysD L ∨ x ∈ l
  | [], L, x => by simp [addsD]
  | d :: l, L, x => by
    show x ∈ keysD (addsD (addD L d) l) ↔ _
    rw [addsD_mem l, addD_mem, List.mem_cons, or_assoc]
theorem addD_len (L : FdT) (d : DepT) : (addD L d).length ≤ L.length + 1 := by
  have h : (keysD (addD L d)).length ≤ (keysD L).length + 1 := by rcases addD_keys L d with ⟨_, h2⟩ | ⟨_, h2⟩ <;> rw [h2] <;> simp
  simpa [keysD] using h
theorem addsD_len : ∀ (l : List DepT) (L : FdT), (addsD L l).length ≤ L.length + l.length
  | [], L => by simp [addsD]
  | d :: l, L => by
    have h1 := addsD_len l (addD L d)
    have h2 := addD_len L d
    show (addsD (addD L d) l).length ≤ _
    simp only [List.length_cons]; omega
theorem addsD_take (L : FdT) (l : List DepT) {i : Nat} (h : i < l.length) : addsD L (l.take (i + 1)) = addD (addsD L (l.take i)) (l.getD (i : Int).toNat DepE.dflt) := by
  rw [List.take_succ_eq_append_getElem h]
  unfold addsD
  rw [List.foldl_append]
  show addD _ _ = _
  rw [List.getD_eq_getElem?_getD, Int.toNat_natCast, List.getElem?_eq_getElem h]; rfl
/-- Dependencies that the program counts with. -/
def OkD (l : List DepT) : Prop := l.length ≤ 1000000 ∧ ∀ d ∈ l, DepE.keyIn d
theorem OkD.at {l : List DepT} (h : OkD l) {i : Nat} (hi : i < l.length) : DepE.keyIn (l.getD (i : Int).toNat DepE.dflt) := by
  refine h.2 _ ?_
  rw [List.getD_eq_getElem?_getD, Int.toNat_natCast, List.getElem?_eq_getElem hi]
  exact List.getElem_mem hi
def unionL (a b : List DepT) : List DepT := sortD (keysD (addsD (addsD [] a) b))
def unionF (a b : List DepT) : Tup [DT.lst DepE] := (unionL a b, ())
theorem union_mem (a b : List DepT) (x : DepT) : x ∈ unionL a b ↔ x ∈ a ∨ x ∈ b := by
  unfold unionL
  rw [(sortD_perm _).mem_iff, addsD_mem, addsD_mem]
  simp [keysD]
theorem union_len (a b : List DepT) : (unionL a b).length ≤ a.length + b.length := by
  unfold unionL
  rw [(sortD_perm _).length_eq]
  have h1 := addsD_len b (addsD [] a)
  have h2 := addsD_len a []
  simp only [keysD, List.length_map, List.length_nil] at h1 h2 ⊢
  omega
theorem mky_inl : ConSound Tryz.prog AI 25 (inl E0 Tryz.f25 1) := inl_sound e0Ok mixed (fn := Tryz.f25) (c := bodyOf Tryz.f25) Tryz.call25 (by kernel_rfl) (by kernel_rfl) (by kernel_rfl) 1
noncomputable abbrev En1 : Env Ab := ⟨tis, [(24, sfdCon 0), (25, inl E0 Tryz.f25 1)] ++ E0.con⟩
theorem en1Ok : EnvOk Tryz.prog AI En1 := ((e0Ok.add mky_inl).add (sfdCon_sound 0))
def uniSpec : PureSpec := ⟨[.lst DepE, .lst DepE], fun (x : (List DepT) × (List DepT) × Unit) => OkD x.1 ∧ OkD x.2.1, [.lst DepE], fun (x : (List DepT) × (List DepT) × Unit) => unionF x.1 x.2.1⟩
theorem uni_ok (a : List DepT) (b : List DepT) (h : uniSpec.pre (a, b, ())) : TmplOk Tryz.prog AI 9 (argS uniSpec.ds (fun _ => (a, b, ()))) [] (resOf (svs uniSpec.rs (fun _ => uniSpec.f (a, b, ())))) [] := by
  dsimp only [uniSpec] at h ⊢
  generalize hr : unionF a b = r
  obtain ⟨ha, hb⟩ := h; have hal := ha.1; have hbl := hb.1
  dsimp only [unionF] at hr
  refine tmpl_of_body en1Ok mixed (fn := Tryz.f9) (c := bodyOf Tryz.f9) (by kernel_rfl) (by kernel_rfl) (by kernel_rfl) (Nat.le_of_ble_eq_true (by kernel_rfl)) ?_
  refine Pr ?_
  refine Nx ?_
  repeat' (first
    | with_reducible (first | refine Ck.au ?_ | refine Ck.all_cons ?_ | refine Ck.all_nil ?_ | refine Ck.mk ?_ ?_)
    | (with_reducible (first | refine Both.mk (fun h => ?_) (fun h => ?_) | refine Alt.mk (fun h => ?_) (fun h => ?_) | refine Pick.mk (fun h => ?_) (fun l1 x l2 h => ?_)) <;> (have hk := h) <;> (try replace h := nh h) <;> (try replace hr := hri hr) <;> (try (have hb : (_ : Bool) = _ := h; clear h; subst hb; (try replace hr := hri hr))) <;> first | exact Dd | refine Nx ?_)
    | ((with_reducible refine End.mk ?_); (try ((repeat (first | rw [ifP] at hr | rw [ifM] at hr | rw [if_pos rfl] at hr)); subst hr)))
    | with_reducible exact True.intro)
  all_goals first
    | (fail_if_success (with_reducible refine Exists.intro ?_ ?_)
       first
       | exact Cl1
       | exact Cl2)
    | skip
  refine ⟨⟨{k : Nat // k ≤ a.length}, fun k => ⟨[(1, Sx.one (.ro DepE (fun _ => b))), (5, Sx.one (.mp 0)), (11, Sx.one (.ro DepE (fun _ => a))), (12, Sx.one (.int .i64 (fun _ => a.length))), (13, Sx.one (.int .i64 (fun _ => k.1)))],
    [.map (.agg DepE) .bool (fun _ => addsD [] (a.take k.1))]⟩, fun k => a.length - k.1, ⟨0, Nat.zero_le _⟩⟩, ?_, fun (k : {k : Nat // k ≤ a.length}) => ?_⟩
  · refine Pr ?_
    refine Nx ?_
    repeat' (first
      | with_reducible (first | refine Ck.au ?_ | refine Ck.all_cons ?_ | refine Ck.all_nil ?_ | refine Ck.mk ?_ ?_)
      | (with_reducible (first | refine Both.mk (fun h => ?_) (fun h => ?_) | refine Alt.mk (fun h => ?_) (fun h => ?_) | refine Pick.mk (fun h => ?_) (fun l1 x l2 h => ?_)) <;> (have hk := h) <;> (try replace h := nh h) <;> (try replace hr := hri hr) <;> (try (have hb : (_ : Bool) = _ := h; clear h; subst hb; (try replace hr := hri hr))) <;> first | exact Dd | refine Nx ?_)
      | with_reducible refine End.mk ?_
      | with_reducible exact True.intro)
    all_goals first
      | (fail_if_success (with_reducible refine Exists.intro ?_ ?_)
         first
         | exact Cl1
         | rfl
         | exact Cl2)
      | skip
  obtain ⟨k, hk⟩ := k
  dsimp only
  have hkx := fun (h : ((k : Nat) : Int) < (a.length : Int)) => ha.at (i := k) (by omega)
  have hst := fun (h : ((k : Nat) : Int) < (a.length : Int)) => addsD_take [] a (i := k) (by omega)
  refine Pr ?_
  refine Nx ?_
  repeat' (first
    | with_reducible (first | refine Ck.au ?_ | refine Ck.all_cons ?_ | refine Ck.all_nil ?_ | refine Ck.mk ?_ ?_)
    | (with_reducible (first | refine Both.mk (fun h => ?_) (fun h => ?_) | refine Alt.mk (fun h => ?_) (fun h => ?_) | refine Pick.mk (fun h => ?_) (fun l1 x l2 h => ?_)) <;> (have hk := h) <;> (try replace h := nh h) <;> (try replace hr := hri hr) <;> (try (have hb : (_ : Bool) = _ := h; clear h; subst hb; (try replace hr := hri hr))) <;> first | exact Dd | refine Nx ?_)
    | with_reducible refine End.mk ?_
    | with_reducible exact True.intro)
  all_goals first
    | (fail_if_success (with_reducible refine Exists.intro ?_ ?_)
       first
       | exact Cl1
       | exact hkx (by assumption)
       | exact Cl2)
    | skip
  · refine ⟨⟨k + 1, by omega⟩, (by dsimp only; omega), ?_⟩
    refine Pr ?_
    refine Nx ?_
    repeat' (first
      | with_reducible (first | refine Ck.au ?_ | refine Ck.all_cons ?_ | refine Ck.all_nil ?_ | refine Ck.mk ?_ ?_)
      | (with_reducible (first | refine Both.mk (fun h => ?_) (fun h => ?_) | refine Alt.mk (fun h => ?_) (fun h => ?_) | refine Pick.mk (fun h => ?_) (fun l1 x l2 h => ?_)) <;> (have hk := h) <;> (try replace h := nh h) <;> (try replace hr := hri hr) <;> (try (have hb : (_ : Bool) = _ := h; clear h; subst hb; (try replace hr := hri hr))) <;> first | exact Dd | refine Nx ?_)
      | with_reducible refine End.mk ?_
      | with_reducible exact True.intro)
    all_goals first
      | (fail_if_success (with_reducible refine Exists.intro ?_ ?_)
         first
         | exact Cl1
         | exact (List.map_id _).trans (hst (by assumption)).symm
         | exact Cl2)
      | skip
  have hk9 : a.take k = a := List.take_of_length_le (by omega)
  rw [hk9]
  refine ⟨⟨{j : Nat // j ≤ b.length}, fun j => ⟨[(5, Sx.one (.mp 0)), (20, Sx.one (.ro DepE (fun _ => b))), (21, Sx.one (.int .i64 (fun _ => b.length))), (22, Sx.one (.int .i64 (fun _ => j.1)))],
    [.map (.agg DepE) .bool (fun _ => addsD (addsD [] a) (b.take j.1))]⟩, fun j => b.length - j.1, ⟨0, Nat.zero_le _⟩⟩, ?_, fun (j : {j : Nat // j ≤ b.length}) => ?_⟩
  · refine Pr ?_
    refine Nx ?_
    repeat' (first
      | with_reducible (first | refine Ck.au ?_ | refine Ck.all_cons ?_ | refine Ck.all_nil ?_ | refine Ck.mk ?_ ?_)
      | (with_reducible (first | refine Both.mk (fun h => ?_) (fun h => ?_) | refine Alt.mk (fun h => ?_) (fun h => ?_) | refine Pick.mk (fun h => ?_) (fun l1 x l2 h => ?_)) <;> (have hk := h) <;> (try replace h := nh h) <;> (try replace hr := hri hr) <;> (try (have hb : (_ : Bool) = _ := h; clear h; subst hb; (try replace hr := hri hr))) <;> first | exact Dd | refine Nx ?_)
      | with_reducible refine End.mk ?_
      | with_reducible exact True.intro)
    all_goals first
      | (fail_if_success (with_reducible refine Exists.intro ?_ ?_)
         first
         | exact Cl1
         | rfl
         | exact Cl2)
      | skip
  obtain ⟨j, hj⟩ := j
  dsimp only
  have hkx := fun (h : ((j : Nat) : Int) < (b.length : Int)) => hb.at (i := j) (by omega)
  have hst := fun (h : ((j : Nat) : Int) < (b.length : Int)) => addsD_take (addsD [] a) b (i := j) (by omega)
  have hnd : (keysD (addsD (addsD [] a) (b.take j))).Nodup := addsD_nodup _ (addsD_nodup _ List.nodup_nil)
  have hle : (addsD (addsD [] a) (b.take j)).length ≤ 2000000 := by
    have h1 := addsD_len (b.take j) (addsD [] a)
    have h2 := addsD_len a []
    simp only [List.length_take, List.length_nil] at h1 h2
    omega
  refine Pr ?_
  refine Nx ?_
  repeat' (first
    | with_reducible (first | refine Ck.au ?_ | refine Ck.all_cons ?_ | refine Ck.all_nil ?_ | refine Ck.mk ?_ ?_)
    | (with_reducible (first | refine Both.mk (fun h => ?_) (fun h => ?_) | refine Alt.mk (fun h => ?_) (fun h => ?_) | refine Pick.mk (fun h => ?_) (fun l1 x l2 h => ?_)) <;> (have hk := h) <;> (try replace h := nh h) <;> (try replace hr := hri hr) <;> (try (have hb : (_ : Bool) = _ := h; clear h; subst hb; (try replace hr := hri hr))) <;> first | exact Dd | refine Nx ?_)
    | with_reducible refine End.mk ?_
    | with_reducible exact True.intro)
  all_goals first
    | (fail_if_success (with_reducible refine Exists.intro ?_ ?_)
       first
       | exact Cl1
       | first | exact hkx (by assumption) | exact ⟨hnd, Nat.le_trans hle (by decide)⟩ | (subst hr; have hj9 : b.take j = b := List.take_of_length_le (by omega); rw [hj9]; exact List.map_id _)
       | exact Cl2)
    | skip
  refine ⟨⟨j + 1, by omega⟩, (by dsimp only; omega), ?_⟩
  refine Pr ?_
  refine Nx ?_
  repeat' (first
    | with_reducible (first | refine Ck.au ?_ | refine Ck.all_cons ?_ | refine Ck.all_nil ?_ | refine Ck.mk ?_ ?_)
    | (with_reducible (first | refine Both.mk (fun h => ?_) (fun h => ?_) | refine Alt.mk (fun h => ?_) (fun h => ?_) | refine Pick.mk (fun h => ?_) (fun l1 x l2 h => ?_)) <;> (have hk := h) <;> (try replace h := nh h) <;> (try replace hr := hri hr) <;> (try (have hb : (_ : Bool) = _ := h; clear h; subst hb; (try replace hr := hri hr))) <;> first | exact Dd | refine Nx ?_)
    | with_reducible refine End.mk ?_
    | with_reducible exact True.intro)
  all_goals first
    | (fail_if_success (with_reducible refine Exists.intro ?_ ?_)
       first
       | exact Cl1
       | exact (List.map_id _).trans (hst (by assumption)).symm
       | exact Cl2)
    | skip
theorem uni_sound : ConSound Tryz.prog AI 9 uniSpec.con := PureSpec.sound Tryz.call9 (fun x h => uni_ok x.1 x.2.1 h)
end Go.Proofs.YtcaoldilmnpjoaaGreat
