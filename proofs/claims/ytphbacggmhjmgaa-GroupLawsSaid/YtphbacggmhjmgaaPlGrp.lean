/- Plain numbers: chains that prove a prime; the squares modulo a prime 2 q + 1. -/
import Derived.Test.YtphbacggmhjmgaaPlNum
namespace Go.Proofs.Ytphbacggmhjmgaa.Num

/-- a to the e modulo m, quickly -/
def pm : Nat → Nat → Nat → Nat → Nat
  | 0, _, _, m => 1 % m
  | f + 1, a, e, m => if e = 0 then 1 % m else if e % 2 = 1 then pm f (a * a % m) (e / 2) m * a % m else pm f (a * a % m) (e / 2) m
theorem pm_eq : ∀ (f a e m : Nat), e < 2 ^ f → pm f a e m = a ^ e % m
  | 0, a, e, m, h => by
    have : e = 0 := by simpa using h
    subst this; simp [pm]
  | f + 1, a, e, m, h => by
    rw [pm]
    split
    · rename_i h0; subst h0; simp
    · have ih := pm_eq f (a * a % m) (e / 2) m (by rw [Nat.pow_succ] at h; omega)
      have e1 : (a * a % m) ^ (e / 2) % m = a ^ (2 * (e / 2)) % m := by
        rw [← Nat.pow_mod, Nat.pow_mul, Nat.pow_two]
      rw [ih, e1]
      split
      · rename_i h1
        conv => rhs; rw [show e = 2 * (e / 2) + 1 by omega, Nat.pow_succ]
        rw [Nat.mod_mul_mod]
      · rename_i h1
        conv => rhs; rw [show e = 2 * (e / 2) by omega]

/-- what is amiss with a step of a proof; b32, b64: the bounds on its numbers -/
def stepE (b32 b64 p q a : Nat) : Nat :=
  if b32 ≤ p ∨ b64 ≤ q ∨ b64 ≤ a then 2
  else if p % 2 = 0 ∨ p < 3 then 5
  else if q ≤ 1 ∨ a ≤ 1 ∨ p - 1 < a ∨ q * q ≤ p ∨ (p - 1) % q ≠ 0 ∨ a ^ (p - 1) % p ≠ 1 ∨ Nat.gcd ((a ^ ((p - 1) / q) + (p - 1)) % p) p ≠ 1 then 7
  else 0
/-- is a small number a prime? -/
def smallB (n : Nat) : Bool := 2 ≤ n && n < 65536 && (List.range 256).all fun d => d < 2 || n < d * d || n % d != 0
theorem small_pr {n : Nat} (h : smallB n = true) : Pr n := by
  simp only [smallB, Bool.and_eq_true, decide_eq_true_eq, List.all_eq_true, List.mem_range, Bool.or_eq_true, bne_iff_ne, ne_eq] at h
  obtain ⟨⟨h2, h3⟩, h4⟩ := h
  refine Pr.of_root h2 fun p hp hpn hpp => ?_
  have hp2 := hp.two
  have hlt : p < 256 := by
    rcases Nat.lt_or_ge p 256 with h | h
    · exact h
    · have := Nat.mul_le_mul h h; omega
  rcases h4 p hlt with (h | h) | h
  · omega
  · omega
  · exact h (Nat.mod_eq_zero_of_dvd hpn)

theorem step_pr {b32 b64 p q a : Nat} (hq : Pr q) (h : stepE b32 b64 p q a = 0) : Pr p := by
  unfold stepE at h
  split at h
  · omega
  split at h
  · omega
  split at h
  · omega
  rename_i h1 h2 h3
  have a2 : 1 < a := by omega
  have a3 : a ≤ p - 1 := by omega
  have a4 : p < q * q := by omega
  have a5 : (p - 1) % q = 0 := by
    rcases Nat.decEq ((p - 1) % q) 0 with h | h
    · exact absurd (.inr (.inr (.inr (.inr (.inl h))))) h3
    · exact h
  have a6 : a ^ (p - 1) % p = 1 := by
    rcases Nat.decEq (a ^ (p - 1) % p) 1 with h | h
    · exact absurd (.inr (.inr (.inr (.inr (.inr (.inl h)))))) h3
    · exact h
  have a7 : Nat.gcd ((a ^ ((p - 1) / q) + (p - 1)) % p) p = 1 := by
    rcases Nat.decEq (Nat.gcd ((a ^ ((p - 1) / q) + (p - 1)) % p) p) 1 with h | h
    · exact absurd (.inr (.inr (.inr (.inr (.inr (.inr h)))))) h3
    · exact h
  refine proves hq (by omega) a4 (Nat.dvd_of_mod_eq_zero a5) a6 fun r hr hrp hone => ?_
  have hr2 := hr.two
  have hd : r ∣ (a ^ ((p - 1) / q) + (p - 1)) % p := by
    refine (Nat.dvd_mod_iff hrp).2 ?_
    obtain ⟨c, hc⟩ := hrp
    refine Nat.dvd_of_mod_eq_zero ?_
    have e1 : a ^ ((p - 1) / q) + (p - 1) = a ^ ((p - 1) / q) / r * r + (1 + (p - 1)) := by
      have := Nat.div_add_mod (a ^ ((p - 1) / q)) r
      rw [hone, Nat.mul_comm] at this
      omega
    rw [e1, show 1 + (p - 1) = r * c by omega, Nat.mul_comm _ r, ← Nat.mul_add, Nat.mul_mod_right]
  have := Nat.dvd_gcd hd hrp
  rw [a7] at this
  have := Nat.le_of_dvd (by omega) this
  omega

/-- What is amiss with a chain first, and where. -/
def chainE (b32 b64 : Nat) : List (Nat × Nat × Nat) → Nat → Nat × Nat
  | [], _ => (0, 0)
  | [(p, q, a)], i => if stepE b32 b64 p q a ≠ 0 then (stepE b32 b64 p q a, i) else if smallB q then (0, 0) else (7, i)
  | (p, q, a) :: (p', q', a') :: l, i => if stepE b32 b64 p q a ≠ 0 then (stepE b32 b64 p q a, i) else if q ≠ p' then (7, i) else chainE b32 b64 ((p', q', a') :: l) (i + 1)
theorem chain_pr {b32 b64 : Nat} : ∀ (l : List (Nat × Nat × Nat)) (i p q a : Nat), (chainE b32 b64 ((p, q, a) :: l) i).1 = 0 → Pr p ∧ Pr q
  | [], i, p, q, a, h => by
    unfold chainE at h
    split at h
    · rename_i h1; exact absurd h h1
    · rename_i h1
      have h1' : stepE b32 b64 p q a = 0 := by simpa using h1
      split at h
      · rename_i h2; exact ⟨step_pr (small_pr h2) h1', small_pr h2⟩
      · exact absurd h (by simp)
  | (p', q', a') :: l, i, p, q, a, h => by
    unfold chainE at h
    split at h
    · rename_i h1; exact absurd h h1
    · rename_i h1
      have h1' : stepE b32 b64 p q a = 0 := by simpa using h1
      split at h
      · exact absurd h (by simp)
      · rename_i h2
        have h2' : q = p' := by simpa using h2
        subst h2'
        have := (chain_pr l (i + 1) q q' a' h).1
        exact ⟨step_pr this h1', this⟩
end Go.Proofs.Ytphbacggmhjmgaa.Num
