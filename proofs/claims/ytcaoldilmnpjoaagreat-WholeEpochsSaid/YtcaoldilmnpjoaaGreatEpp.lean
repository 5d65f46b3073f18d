/-
  Plain: two tables' dependencies, lifted for two epochs, rise together.
-/
import Derived.Test.YtcaoldilmnpjoaaGreatRnk
import Derived.Test.YtcaoldilmnpjoaaGreatMkw
import Derived.Test.YtcaoldilmnpjoaaGreatDpo
namespace Go.Proofs.YtcaoldilmnpjoaaGreat
set_option linter.all false
open Go.RowKit Go.Sx
def clv (e c : Int) : Int := c + 2 * (e % 2)
def allK (old fresh : List DepT) (now : Int) : Nat → List DepT
  | 0 => []
  | k + 1 => unionL (allK old fresh now k) (unionL (liftL old (clv now (k : Int))) (liftL fresh (clv (now + 1) (k : Int))))
/-- Dependencies of a table: bounds, and a rank that rises. -/
structure DOk (l : List DepT) : Prop where
  ok : OkC l
  len : l.length ≤ 4096
  up : ∃ r : Int → Nat, (∀ x, r x ≤ 7000) ∧ ∀ d ∈ l, r d.1 < r d.2.1
theorem clv_rng {e c : Int} (hc : c = 0 ∨ c = 1) : 0 ≤ clv e c ∧ clv e c < 8 ∧ clv e c / 2 = e % 2 := by
  unfold clv
  have h1 := Int.emod_nonneg e (show (2 : Int) ≠ 0 by decide)
  have h2 := Int.emod_lt_of_pos e (show (0 : Int) < 2 by decide)
  rcases hc with rfl | rfl <;> omega
theorem lift_mem {l : List DepT} {S : Int} {d : DepT} (h : d ∈ liftL l S) : ∃ a ∈ l, d = (8 * a.1 + S, 8 * a.2.1 + S, a.2.2) := by
  unfold liftL at h
  obtain ⟨a, h1, rfl⟩ := List.mem_map.1 h
  exact ⟨a, h1, rfl⟩
theorem lift_len (l : List DepT) (S : Int) : (liftL l S).length = l.length := by unfold liftL; rw [List.length_map]
theorem allK_mem {old fresh : List DepT} {now : Int} : ∀ {k : Nat} {d : DepT}, k ≤ 2 → d ∈ allK old fresh now k → ∃ c : Int, (c = 0 ∨ c = 1) ∧ ((∃ a ∈ old, d = (8 * a.1 + clv now c, 8 * a.2.1 + clv now c, a.2.2)) ∨ (∃ a ∈ fresh, d = (8 * a.1 + clv (now + 1) c, 8 * a.2.1 + clv (now + 1) c, a.2.2)))
  | 0, d, _, h => by cases h
  | k + 1, d, hk, h => by
    have hc : (k : Int) = 0 ∨ (k : Int) = 1 := by omega
    rcases (union_mem _ _ _).1 h with h | h
    · exact allK_mem (by omega) h
    · rcases (union_mem _ _ _).1 h with h | h
      · exact ⟨_, hc, .inl (lift_mem h)⟩
      · exact ⟨_, hc, .inr (lift_mem h)⟩
theorem allK_len {old fresh : List DepT} {now : Int} (ho : old.length ≤ 4096) (hf : fresh.length ≤ 4096) : ∀ {k : Nat}, (allK old fresh now k).length ≤ k * 8192
  | 0 => by simp [allK]
  | k + 1 => by
    have h1 := union_len (allK old fresh now k) (unionL (liftL old (clv now (k : Int))) (liftL fresh (clv (now + 1) (k : Int))))
    have h2 := union_len (liftL old (clv now (k : Int))) (liftL fresh (clv (now + 1) (k : Int)))
    have h3 := allK_len (now := now) ho hf (k := k)
    rw [lift_len, lift_len] at h2
    show (unionL _ _).length ≤ _
    omega
structure AOk (l : List DepT) : Prop where
  len : l.length ≤ 20000
  rng : ∀ d ∈ l, (0 ≤ d.1 ∧ d.1 < 512) ∧ (0 ≤ d.2.1 ∧ d.2.1 < 512) ∧ (0 ≤ d.2.2 ∧ d.2.2 < 64)
  up : ∃ r : Int → Nat, (∀ x, r x ≤ 50000) ∧ ∀ d ∈ l, r d.1 < r d.2.1
theorem allK_ok {old fresh : List DepT} {now : Int} (ho : DOk old) (hf : DOk fresh) {k : Nat} (hk : k ≤ 2) : AOk (allK old fresh now k) := by
  obtain ⟨ro, ro1, ro2⟩ := ho.up
  obtain ⟨rf, rf1, rf2⟩ := hf.up
  refine ⟨by have := allK_len (now := now) ho.len hf.len (k := k); omega, fun d hd => ?_, fun x => if (x % 8) / 2 = now % 2 then ro (x / 8) else rf (x / 8), fun x => ?_, fun d hd => ?_⟩
  · obtain ⟨c, hc, h⟩ := allK_mem hk hd
    rcases h with ⟨a, ha, rfl⟩ | ⟨a, ha, rfl⟩
    · have h1 := ho.ok.2 a ha; have h2 := clv_rng (e := now) hc
      dsimp only; omega
    · have h1 := hf.ok.2 a ha; have h2 := clv_rng (e := now + 1) hc
      dsimp only; omega
  · dsimp only
    split
    · have := ro1 (x / 8); omega
    · have := rf1 (x / 8); omega
  · obtain ⟨c, hc, h⟩ := allK_mem hk hd
    have e1 : ∀ a cl : Int, 0 ≤ cl → cl < 8 → (8 * a + cl) % 8 = cl ∧ (8 * a + cl) / 8 = a := fun a cl h1 h2 => by omega
    rcases h with ⟨a, ha, rfl⟩ | ⟨a, ha, rfl⟩
    · have h2 := clv_rng (e := now) hc
      dsimp only
      rw [(e1 a.1 _ h2.1 h2.2.1).1, (e1 a.1 _ h2.1 h2.2.1).2, (e1 a.2.1 _ h2.1 h2.2.1).1, (e1 a.2.1 _ h2.1 h2.2.1).2, h2.2.2, if_pos rfl, if_pos rfl]
      exact ro2 a ha
    · have h2 := clv_rng (e := now + 1) hc
      have hne : ¬ (now + 1) % 2 = now % 2 := by omega
      dsimp only
      rw [(e1 a.1 _ h2.1 h2.2.1).1, (e1 a.1 _ h2.1 h2.2.1).2, (e1 a.2.1 _ h2.1 h2.2.1).1, (e1 a.2.1 _ h2.1 h2.2.1).2, h2.2.2, if_neg hne, if_neg hne]
      exact rf2 a ha
theorem AOk.okD {l : List DepT} (h : AOk l) : OkD l := ⟨by have := h.len; omega, fun d hd => by
  obtain ⟨⟨a1, a2⟩, ⟨b1, b2⟩, c1, c2⟩ := h.rng d hd
  exact ⟨show -9223372036854775808 ≤ d.1 ∧ d.1 ≤ 9223372036854775807 by omega, show -9223372036854775808 ≤ d.2.1 ∧ d.2.1 ≤ 9223372036854775807 by omega, show -9223372036854775808 ≤ d.2.2 ∧ d.2.2 ≤ 9223372036854775807 by omega⟩⟩
theorem AOk.mkP {l : List DepT} (h : AOk l) : MkP l 512 := by
  obtain ⟨r, _, hr⟩ := h.up
  exact ⟨h.okD, by decide, by decide, by have := h.len; omega, ⟨by have := h.len; omega, fun d hd => ⟨(h.rng d hd).1, (h.rng d hd).2.1⟩⟩, r, hr⟩
theorem AOk.cyP {l : List DepT} (h : AOk l) : CyP l := ⟨h.okD, h.up⟩
theorem lift_okD {l : List DepT} (h : DOk l) {S : Int} (h0 : 0 ≤ S) (h1 : S < 8) : OkD (liftL l S) := by
  refine ⟨by rw [lift_len]; have := h.len; omega, fun d hd => ?_⟩
  obtain ⟨a, ha, rfl⟩ := lift_mem hd
  obtain ⟨⟨a1, a2⟩, ⟨b1, b2⟩, c1, c2⟩ := h.ok.2 a ha
  exact ⟨show -9223372036854775808 ≤ 8 * a.1 + S ∧ 8 * a.1 + S ≤ 9223372036854775807 by omega, show -9223372036854775808 ≤ 8 * a.2.1 + S ∧ 8 * a.2.1 + S ≤ 9223372036854775807 by omega, show -9223372036854775808 ≤ a.2.2 ∧ a.2.2 ≤ 9223372036854775807 by omega⟩
theorem union_okD {a b : List DepT} (ha : OkD a) (hb : OkD b) (h : a.length + b.length ≤ 1000000) : OkD (unionL a b) := ⟨Nat.le_trans (union_len a b) h, fun d hd => by
  rcases (union_mem _ _ _).1 hd with h1 | h1
  · exact ha.2 d h1
  · exact hb.2 d h1⟩
theorem dpo_fine {p : PlanT} {up : List Bool} (h : SmOk p up) {root : Int} (h0 : 0 ≤ root) (h1 : root < (p.1.length : Int)) : DOk (dpo p up root) := by
  have hD := h.dp h0 h1
  have hc := h.pl.c
  have hn := h.pl.n
  have hl : (dpo p up root).length ≤ 4096 := by
    unfold dpo depsL
    rw [(sortD_perm _).length_eq]
    have h2 := addsD_len (cC p (distL p.2 up p.1.length root, ()) (tabL (entF p (distL p.2 up p.1.length root, ()) up) p.1.length, ()) (2 * p.2.length)) []
    have h3 := cC_len p (distL p.2 up p.1.length root, ()) (tabL (entF p (distL p.2 up p.1.length root, ()) up) p.1.length, ()) (2 * p.2.length)
    have h4 : 2 * p.2.length * (2 * p.1.length) ≤ 64 * 32 := Nat.mul_le_mul (by omega) (by omega)
    simp only [keysD, List.length_map, List.length_nil] at h2 ⊢
    omega
  refine ⟨⟨by omega, fun d hd => ?_⟩, hl, rkC p (distL p.2 up p.1.length root), fun x => rkC_le hD x, fun d hd => (dep_fact hD hd).2.2.2⟩
  have h5 := dep_fact hD hd
  omega
end Go.Proofs.YtcaoldilmnpjoaaGreat
