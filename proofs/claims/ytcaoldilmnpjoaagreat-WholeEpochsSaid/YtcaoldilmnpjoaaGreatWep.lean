/-
  The top: WholeEpochs.
-/
import Derived.Test.YtcaoldilmnpjoaaGreatEpp
import Derived.Test.YtcaoldilmnpjoaaGreatRaw
import Derived.Test.YtcaoldilmnpjoaaGreatEng3
namespace Go.Proofs.YtcaoldilmnpjoaaGreat
set_option linter.all false
open Go.RowKit Go.Sx
set_option maxRecDepth 100000
set_option maxHeartbeats 16000000
theorem i64_min : IntKind.i64.min = -9223372036854775808 := by rfl
theorem i64_max : IntKind.i64.max = 9223372036854775807 := by rfl
theorem pl_in {p : PlanT} (h : (DT.cell PlanE).ok p) : PlIn p := by
  obtain ⟨⟨_, h1⟩, _, h2⟩ := h
  refine ⟨fun n hn => (h1 n hn).1.2, fun c hc => ?_⟩
  obtain ⟨a, b, c', d, e, f⟩ := h2 c hc
  simp only [Ty.ok, i64_min, i64_max] at a b c' d e f
  exact ⟨a, b, c', d, e, f⟩
theorem u8_in {n : Int} (h : (DT.cell (.int .u8)).ok n) : 0 ≤ n ∧ n ≤ 255 := by
  have h1 : IntKind.u8.min = 0 := by rfl
  have h2 : IntKind.u8.max = 255 := by rfl
  have h3 : IntKind.u8.min ≤ n ∧ n ≤ IntKind.u8.max := h
  rw [h1, h2] at h3
  exact h3
theorem sml_sm {p : PlanT} {up : List Bool} (hi : PlIn p) (h : (smlF p up).1 = true) : SmOk p up ∧ 0 < p.1.length := by
  unfold smlF at h
  split at h <;> (try (cases h; done))
  split at h <;> (try (cases h; done))
  split at h <;> (try (cases h; done))
  split at h <;> (try (cases h; done))
  exact ⟨⟨⟨by omega, by omega, hi.nm, hi.cb⟩, of_decide_eq_true h, by omega⟩, by omega⟩
def wepF (p : PlanT) (a b : List Bool) (x y now : Int) : Tup [DT.cell .bool] := (true, ())
theorem mod_in {x : Int} {n : Nat} (h0 : 0 ≤ x) (hn : 0 < n) : 0 ≤ x % (n : Int) ∧ x % (n : Int) < (n : Int) := ⟨Int.emod_nonneg _ (by omega), Int.emod_lt_of_pos _ (by omega)⟩
noncomputable abbrev Ewe : Env Ab := ⟨tis, [(12, cycSpec.con), (11, mkrSpec.con), (9, uniSpec.con), (10, lftSpec.con), (8, claSpec.con), (7, dpoSpec.con), (6, smlSpec.con), (5, awkSpec.con)] ++ E0.con⟩
theorem eweOk : EnvOk Tryz.prog AI Ewe := ((((((((e0Ok.add awk_sound).add sml_sound).add dpo_sound).add cla_sound).add lft_sound).add uni_sound).add mkr_sound).add cyc_sound)
def wepSpec : PureSpec := ⟨[.cell PlanE, .lst .bool, .lst .bool, .cell (.int .u8), .cell (.int .u8), .cell (.int .u8)], fun (x : PlanT × (List Bool) × (List Bool) × Int × Int × Int × Unit) => (DT.cell PlanE).ok x.1 ∧ (DT.cell (.int .u8)).ok x.2.2.2.1 ∧ (DT.cell (.int .u8)).ok x.2.2.2.2.1 ∧ (DT.cell (.int .u8)).ok x.2.2.2.2.2.1, [.cell .bool], fun (x : PlanT × (List Bool) × (List Bool) × Int × Int × Int × Unit) => wepF x.1 x.2.1 x.2.2.1 x.2.2.2.1 x.2.2.2.2.1 x.2.2.2.2.2.1⟩
theorem wep_ok (p : PlanT) (a : List Bool) (b : List Bool) (x : Int) (y : Int) (now : Int) (h : wepSpec.pre (p, a, b, x, y, now, ())) : TmplOk Tryz.prog AI 3 (argS wepSpec.ds (fun _ => (p, a, b, x, y, now, ()))) [] (resOf (svs wepSpec.rs (fun _ => wepSpec.f (p, a, b, x, y, now, ())))) [] := by
  dsimp only [wepSpec] at h ⊢
  generalize hr : wepF p a b x y now = r
  obtain ⟨h0, h1, h2, h3⟩ := h; have hin := pl_in h0; have hx := u8_in h1; have hy := u8_in h2; have hw := u8_in h3; obtain ⟨p1, p2⟩ := p; have hS1 : ∀ up : List Bool, (smlF (p1, p2) up).1 = true → SmOk (p1, p2) up := fun up h => (sml_sm hin h).1; have hS2 : ∀ up : List Bool, (smlF (p1, p2) up).1 = true → 0 < p1.length := fun up h => (sml_sm hin h).2; clear h0 h1 h2 h3
  dsimp only [wepF] at hr
  refine tmpl_of_body eweOk mixed (fn := Tryz.f3) (c := bodyOf Tryz.f3) (by kernel_rfl) (by kernel_rfl) (by kernel_rfl) (Nat.le_of_ble_eq_true (by kernel_rfl)) ?_
  refine Pr ?_
  (try (conv in (SS.mk _ _) => dsimp only [awkSpec, awkF, smlSpec, dpoSpec, dpoF, claSpec, classF, lftSpec, liftF, uniSpec, unionF, mkrSpec, makeF, cycSpec, cycF]))
  refine Nx ?_
  repeat' (first
    | with_reducible (first | refine Ck.au ?_ | refine Ck.all_cons ?_ | refine Ck.all_nil ?_ | refine Ck.mk ?_ ?_)
    | (with_reducible (first | refine Both.mk (fun h => ?_) (fun h => ?_) | refine Alt.mk (fun h => ?_) (fun h => ?_) | refine Pick.mk (fun h => ?_) (fun l1 x l2 h => ?_)) <;> (have hk := h) <;> (try replace h := nh h) <;> (try dsimp only [awkSpec, awkF, smlSpec, dpoSpec, dpoF, claSpec, classF, lftSpec, liftF, uniSpec, unionF, mkrSpec, makeF, cycSpec, cycF] at h) <;> (try simp only [natCast_eq] at h) <;> (try (have q1 := hS1 _ h)) <;> (try (have q2 := hS2 _ h)) <;> (try replace hr := hri hr) <;> (try (have hb : (_ : Bool) = _ := h; clear h; subst hb; (try replace hr := hri hr))) <;> first | exact Dd | refine Nx ?_)
    | ((with_reducible refine End.mk ?_); (try ((repeat (first | rw [ifP] at hr | rw [ifM] at hr | rw [if_pos rfl] at hr)); subst hr)))
    | with_reducible exact True.intro)
  all_goals first
    | (fail_if_success (with_reducible refine Exists.intro ?_ ?_)
       first
       | exact Cl1
       | (dsimp only [awkSpec, awkF, smlSpec, dpoSpec, dpoF, claSpec, classF, lftSpec, liftF, uniSpec, unionF, mkrSpec, makeF, cycSpec, cycF]; exact Cl1)
       | first | exact hin | exact ⟨hx.1, by omega, by unfold inI64; omega⟩ | exact ⟨hy.1, by omega, by unfold inI64; omega⟩ | (dsimp only; simp only [pair_eta, map_idL]; first | exact ⟨by assumption, mod_in hx.1 (by assumption)⟩ | exact ⟨by assumption, mod_in hy.1 (by assumption)⟩) | (dsimp only; simp only [pair_eta, map_idL]; exact hin)
       | exact Cl2
       | (dsimp only [awkSpec, awkF, smlSpec, dpoSpec, dpoF, claSpec, classF, lftSpec, liftF, uniSpec, unionF, mkrSpec, makeF, cycSpec, cycF]; exact Cl2)
       | (dsimp only [awkSpec, awkF, smlSpec, dpoSpec, dpoF, claSpec, classF, lftSpec, liftF, uniSpec, unionF, mkrSpec, makeF, cycSpec, cycF] at *; exact Cl2))
    | skip
  have hA : SmOk (p1, p2) a := by assumption
  have hB : SmOk (p1, p2) b := by assumption
  have hn0 : 0 < p1.length := by assumption
  have dA := dpo_fine hA (mod_in hx.1 hn0).1 (mod_in hx.1 hn0).2
  have dB := dpo_fine hB (mod_in hy.1 hn0).1 (mod_in hy.1 hn0).2
  obtain ⟨lA, hlA⟩ : ∃ l, dpo (p1, p2) a (x % (p1.length : Int)) = l := ⟨_, rfl⟩
  obtain ⟨lB, hlB⟩ : ∃ l, dpo (p1, p2) b (y % (p1.length : Int)) = l := ⟨_, rfl⟩
  have eA : (dpoF (p1, p2) a (x % (p1.length : Int))).1 = lA := hlA
  have eB : (dpoF (p1, p2) b (y % (p1.length : Int))).1 = lB := hlB
  rw [hlA] at dA
  rw [hlB] at dB
  have hM := fun k hk => (allK_ok (now := now) dA dB (k := k) hk)
  refine ⟨⟨{k : Nat // k ≤ 2}, fun k => ⟨[(5, Sx.one (.int .u8 (fun _ => now))), (14, Sx.one (.ro DepE (fun _ => lA))), (17, Sx.one (.ro DepE (fun _ => lB))), (20, Sx.one (.ro DepE (fun _ => allK lA lB now k.1))), (72, Sx.one (.int .i64 (fun _ => k.1)))], []⟩, fun k => 2 - k.1, ⟨0, Nat.zero_le _⟩⟩, ?_, fun (k : {k : Nat // k ≤ 2}) => ?_⟩
  · refine Pr ?_
    (try (conv in (SS.mk _ _) => dsimp only [awkSpec, awkF, smlSpec, dpoSpec, dpoF, claSpec, classF, lftSpec, liftF, uniSpec, unionF, mkrSpec, makeF, cycSpec, cycF]))
    refine Nx ?_
    repeat' (first
      | with_reducible (first | refine Ck.au ?_ | refine Ck.all_cons ?_ | refine Ck.all_nil ?_ | refine Ck.mk ?_ ?_)
      | (with_reducible (first | refine Both.mk (fun h => ?_) (fun h => ?_) | refine Alt.mk (fun h => ?_) (fun h => ?_) | refine Pick.mk (fun h => ?_) (fun l1 x l2 h => ?_)) <;> (have hk := h) <;> (try replace h := nh h) <;> (try dsimp only [awkSpec, awkF, smlSpec, dpoSpec, dpoF, claSpec, classF, lftSpec, liftF, uniSpec, unionF, mkrSpec, makeF, cycSpec, cycF] at h) <;> (try simp only [natCast_eq] at h) <;> (try (have q1 := hS1 _ h)) <;> (try (have q2 := hS2 _ h)) <;> (try replace hr := hri hr) <;> (try (have hb : (_ : Bool) = _ := h; clear h; subst hb; (try replace hr := hri hr))) <;> first | exact Dd | refine Nx ?_)
      | with_reducible refine End.mk ?_
      | with_reducible exact True.intro)
    all_goals first
      | (fail_if_success (with_reducible refine Exists.intro ?_ ?_)
         first
         | exact Cl1
         | (dsimp only [awkSpec, awkF, smlSpec, dpoSpec, dpoF, claSpec, classF, lftSpec, liftF, uniSpec, unionF, mkrSpec, makeF, cycSpec, cycF]; exact Cl1)
         | first | rfl | (dsimp only; simp only [pair_eta, map_idL]; first | exact hlA | exact hlB)
         | exact Cl2
         | (dsimp only [awkSpec, awkF, smlSpec, dpoSpec, dpoF, claSpec, classF, lftSpec, liftF, uniSpec, unionF, mkrSpec, makeF, cycSpec, cycF]; exact Cl2)
         | (dsimp only [awkSpec, awkF, smlSpec, dpoSpec, dpoF, claSpec, classF, lftSpec, liftF, uniSpec, unionF, mkrSpec, makeF, cycSpec, cycF] at *; exact Cl2))
      | skip
  obtain ⟨k, hk⟩ := k
  dsimp only
  have hm := hM k hk
  have hk2 : ((k : Nat) : Int) < 2 → k < 2 := fun h => by omega
  have hkc : ((k : Nat) : Int) < 2 → (k : Int) = 0 ∨ (k : Int) = 1 := fun h => by omega
  have cA := fun (h : ((k : Nat) : Int) < 2) => clv_rng (e := now) (hkc h)
  have cB := fun (h : ((k : Nat) : Int) < 2) => clv_rng (e := now + 1) (hkc h)
  have pA := fun (h : ((k : Nat) : Int) < 2) => lift_okD dA (cA h).1 (cA h).2.1
  have pB := fun (h : ((k : Nat) : Int) < 2) => lift_okD dB (cB h).1 (cB h).2.1
  have hla := dA.len
  have hlb := dB.len
  have pU := fun (h : ((k : Nat) : Int) < 2) => union_okD (pA h) (pB h) (by rw [lift_len, lift_len]; omega)
  have hkm := hm.okD
  unfold clv at cA cB pA pB pU
  refine Pr ?_
  (try (conv in (SS.mk _ _) => dsimp only [awkSpec, awkF, smlSpec, dpoSpec, dpoF, claSpec, classF, lftSpec, liftF, uniSpec, unionF, mkrSpec, makeF, cycSpec, cycF]))
  refine Nx ?_
  repeat' (first
    | with_reducible (first | refine Ck.au ?_ | refine Ck.all_cons ?_ | refine Ck.all_nil ?_ | refine Ck.mk ?_ ?_)
    | (with_reducible (first | refine Both.mk (fun h => ?_) (fun h => ?_) | refine Alt.mk (fun h => ?_) (fun h => ?_) | refine Pick.mk (fun h => ?_) (fun l1 x l2 h => ?_)) <;> (have hk := h) <;> (try replace h := nh h) <;> (try dsimp only [awkSpec, awkF, smlSpec, dpoSpec, dpoF, claSpec, classF, lftSpec, liftF, uniSpec, unionF, mkrSpec, makeF, cycSpec, cycF] at h) <;> (try simp only [natCast_eq] at h) <;> (try (have q1 := hS1 _ h)) <;> (try (have q2 := hS2 _ h)) <;> (try replace hr := hri hr) <;> (try (have hb : (_ : Bool) = _ := h; clear h; subst hb; (try replace hr := hri hr))) <;> first | exact Dd | refine Nx ?_)
    | with_reducible refine End.mk ?_
    | with_reducible exact True.intro)
  all_goals first
    | (fail_if_success (with_reducible refine Exists.intro ?_ ?_)
       first
       | exact Cl1
       | (dsimp only [awkSpec, awkF, smlSpec, dpoSpec, dpoF, claSpec, classF, lftSpec, liftF, uniSpec, unionF, mkrSpec, makeF, cycSpec, cycF]; exact Cl1)
       | first | (subst hr; rfl) | exact ⟨hw.1, by omega, by decide, by decide, by omega, by omega⟩ | exact ⟨by omega, by omega, by decide, by decide, by omega, by omega⟩ | exact hm.mkP | exact hm.cyP | (dsimp only; simp only [pair_eta, map_idL]; first | exact ⟨dA.ok, (cA (by assumption)).1, (cA (by assumption)).2.1⟩ | exact ⟨dB.ok, (cB (by assumption)).1, (cB (by assumption)).2.1⟩ | exact ⟨pA (by assumption), pB (by assumption)⟩ | exact ⟨hkm, pU (by assumption)⟩ | exact hm.mkP | exact hm.cyP)
       | exact Cl2
       | (dsimp only [awkSpec, awkF, smlSpec, dpoSpec, dpoF, claSpec, classF, lftSpec, liftF, uniSpec, unionF, mkrSpec, makeF, cycSpec, cycF]; exact Cl2)
       | (dsimp only [awkSpec, awkF, smlSpec, dpoSpec, dpoF, claSpec, classF, lftSpec, liftF, uniSpec, unionF, mkrSpec, makeF, cycSpec, cycF] at *; exact Cl2))
    | skip
  refine ⟨⟨k + 1, by omega⟩, (by dsimp only; omega), ?_⟩
  refine Pr ?_
  (try (conv in (SS.mk _ _) => dsimp only [awkSpec, awkF, smlSpec, dpoSpec, dpoF, claSpec, classF, lftSpec, liftF, uniSpec, unionF, mkrSpec, makeF, cycSpec, cycF]))
  refine Nx ?_
  repeat' (first
    | with_reducible (first | refine Ck.au ?_ | refine Ck.all_cons ?_ | refine Ck.all_nil ?_ | refine Ck.mk ?_ ?_)
    | (with_reducible (first | refine Both.mk (fun h => ?_) (fun h => ?_) | refine Alt.mk (fun h => ?_) (fun h => ?_) | refine Pick.mk (fun h => ?_) (fun l1 x l2 h => ?_)) <;> (have hk := h) <;> (try replace h := nh h) <;> (try dsimp only [awkSpec, awkF, smlSpec, dpoSpec, dpoF, claSpec, classF, lftSpec, liftF, uniSpec, unionF, mkrSpec, makeF, cycSpec, cycF] at h) <;> (try simp only [natCast_eq] at h) <;> (try (have q1 := hS1 _ h)) <;> (try (have q2 := hS2 _ h)) <;> (try replace hr := hri hr) <;> (try (have hb : (_ : Bool) = _ := h; clear h; subst hb; (try replace hr := hri hr))) <;> first | exact Dd | refine Nx ?_)
    | with_reducible refine End.mk ?_
    | with_reducible exact True.intro)
  all_goals first
    | (fail_if_success (with_reducible refine Exists.intro ?_ ?_)
       first
       | exact Cl1
       | (dsimp only [awkSpec, awkF, smlSpec, dpoSpec, dpoF, claSpec, classF, lftSpec, liftF, uniSpec, unionF, mkrSpec, makeF, cycSpec, cycF]; exact Cl1)
       | first | (dsimp only; simp only [pair_eta, map_idL]; rfl) | (simp only [pair_eta, map_idL]; rfl)
       | exact Cl2
       | (dsimp only [awkSpec, awkF, smlSpec, dpoSpec, dpoF, claSpec, classF, lftSpec, liftF, uniSpec, unionF, mkrSpec, makeF, cycSpec, cycF]; exact Cl2)
       | (dsimp only [awkSpec, awkF, smlSpec, dpoSpec, dpoF, claSpec, classF, lftSpec, liftF, uniSpec, unionF, mkrSpec, makeF, cycSpec, cycF] at *; exact Cl2))
    | skip
theorem wep_sound : ConSound Tryz.prog AI 3 wepSpec.con := PureSpec.sound Tryz.call3 (fun x h => wep_ok x.1 x.2.1 x.2.2.1 x.2.2.2.1 x.2.2.2.2.1 x.2.2.2.2.2.1 h)
end Go.Proofs.YtcaoldilmnpjoaaGreat
