/- Plain numbers: primes, Fermat's little theorem, what proves a prime. -/
import Derived.Test.YtphbacggmhjmgaaPl
namespace Go.Proofs.Ytphbacggmhjmgaa.Num

structure Pr (p : Nat) : Prop where
  two : 2 ≤ p
  only : ∀ d, d ∣ p → d = 1 ∨ d = p

theorem Pr.pos {p : Nat} (h : Pr p) : 0 < p := by have := h.two; omega
theorem Pr.coprime {p a : Nat} (h : Pr p) (ha : ¬ p ∣ a) : Nat.Coprime p a := by
  rcases h.only _ (Nat.gcd_dvd_left p a) with h1 | h1
  · exact h1
  · exact absurd (h1 ▸ Nat.gcd_dvd_right p a) ha
theorem Pr.mul {p a b : Nat} (h : Pr p) (hab : p ∣ a * b) : p ∣ a ∨ p ∣ b := by
  by_cases ha : p ∣ a
  · exact .inl ha
  · exact .inr ((h.coprime ha).dvd_of_dvd_mul_left hab)
theorem Pr.pow {p a : Nat} (h : Pr p) : ∀ {n : Nat}, p ∣ a ^ n → p ∣ a
  | 0, hn => by have := Nat.le_of_dvd (by simp) hn; have := h.two; simp at *; omega
  | n + 1, hn => by
    rw [Nat.pow_succ] at hn
    exact (h.mul hn).elim h.pow id

/-- how many ways -/
def C : Nat → Nat → Nat
  | _, 0 => 1
  | 0, _ + 1 => 0
  | n + 1, k + 1 => C n k + C n (k + 1)
theorem C_zero (n : Nat) : C n 0 = 1 := by cases n <;> rfl
theorem C_over : ∀ (n k : Nat), n < k → C n k = 0
  | 0, k + 1, _ => rfl
  | n + 1, k + 1, h => by rw [C, C_over n k (by omega), C_over n (k + 1) (by omega)]
theorem C_self : ∀ n : Nat, C n n = 1
  | 0 => rfl
  | n + 1 => by rw [C, C_self n, C_over n (n + 1) (by omega)]
theorem C_step : ∀ n k : Nat, (k + 1) * C (n + 1) (k + 1) = (n + 1) * C n k
  | 0, 0 => rfl
  | 0, k + 1 => by simp [C]
  | n + 1, 0 => by
    have h := C_step n 0
    simp only [C_zero, Nat.zero_add, Nat.one_mul, Nat.mul_one] at h ⊢
    rw [C, h, C_zero]; omega
  | n + 1, k + 1 => by
    have h1 := C_step n k
    have h2 := C_step n (k + 1)
    rw [C, Nat.mul_add, h2, Nat.add_mul (k + 1) 1, h1, C]
    have e : C (n + 1) (k + 1) = C n k + C n (k + 1) := rfl
    rw [show (n + 1 + 1) * (C n k + C n (k + 1)) = (n + 1) * C n k + (n + 1) * C n (k + 1) + (C n k + C n (k + 1)) by rw [Nat.add_mul (n + 1) 1, Nat.mul_add]; omega]
    omega

def Sm (f : Nat → Nat) : Nat → Nat
  | 0 => 0
  | n + 1 => Sm f n + f n
theorem Sm_add (f g : Nat → Nat) : ∀ n, Sm (fun k => f k + g k) n = Sm f n + Sm g n
  | 0 => rfl
  | n + 1 => by simp only [Sm, Sm_add f g n]; omega
theorem Sm_mul (c : Nat) (f : Nat → Nat) : ∀ n, Sm (fun k => c * f k) n = c * Sm f n
  | 0 => rfl
  | n + 1 => by simp only [Sm, Sm_mul c f n, Nat.mul_add]
theorem Sm_head (f : Nat → Nat) : ∀ n, Sm f (n + 1) = f 0 + Sm (fun k => f (k + 1)) n
  | 0 => by simp [Sm]
  | n + 1 => by rw [Sm, Sm_head f n, Sm]; omega
theorem Sm_congr {f g : Nat → Nat} : ∀ n, (∀ k, k < n → f k = g k) → Sm f n = Sm g n
  | 0, _ => rfl
  | n + 1, h => by rw [Sm, Sm, Sm_congr n (fun k hk => h k (by omega)), h n (by omega)]
theorem Sm_dvd {f : Nat → Nat} {p : Nat} : ∀ n, (∀ k, k < n → p ∣ f k) → p ∣ Sm f n
  | 0, _ => Nat.dvd_zero p
  | n + 1, h => Nat.dvd_add (Sm_dvd n fun k hk => h k (by omega)) (h n (by omega))

theorem binom (a : Nat) : ∀ n : Nat, (a + 1) ^ n = Sm (fun k => C n k * a ^ k) (n + 1)
  | 0 => by simp [Sm, C]
  | n + 1 => by
    rw [Sm_head, C_zero, Nat.pow_zero, Nat.pow_succ, binom a n, Nat.mul_add, Nat.mul_one]
    have e1 : Sm (fun k => C (n + 1) (k + 1) * a ^ (k + 1)) (n + 1) = Sm (fun k => C n k * a ^ k) (n + 1) * a + Sm (fun k => C n (k + 1) * a ^ (k + 1)) (n + 1) := by
      rw [Nat.mul_comm, ← Sm_mul, ← Sm_add]
      refine Sm_congr _ fun k _ => ?_
      rw [C, Nat.add_mul, Nat.pow_succ, ← Nat.mul_assoc, Nat.mul_comm a]
    have e2 : Sm (fun k => C n (k + 1) * a ^ (k + 1)) (n + 1) + 1 = Sm (fun k => C n k * a ^ k) (n + 1) := by
      have h := Sm_head (fun k => C n k * a ^ k) (n + 1)
      rw [Sm, C_over n (n + 1) (by omega), C_zero] at h
      simp only [Nat.zero_mul, Nat.add_zero, Nat.pow_zero, Nat.mul_one] at h
      omega
    rw [e1]
    omega

/-- Fermat: a to the p is a. -/
theorem fermat {p : Nat} (hp : Pr p) : ∀ a : Nat, a ^ p % p = a % p
  | 0 => by rw [Nat.zero_pow hp.pos]
  | a + 1 => by
    have ih := fermat hp a
    obtain ⟨m, hm⟩ : ∃ m, p = m + 1 := ⟨p - 1, by have := hp.pos; omega⟩
    have h := binom a p
    rw [Sm, C_self, Nat.one_mul] at h
    have e : Sm (fun k => C p k * a ^ k) p = 1 + Sm (fun k => C p (k + 1) * a ^ (k + 1)) m := by
      conv => lhs; rw [hm]
      rw [Sm_head, C_zero]; simp [← hm]
    have hd : p ∣ Sm (fun k => C p (k + 1) * a ^ (k + 1)) m := by
      refine Sm_dvd m fun k hk => Nat.dvd_mul_right_of_dvd ?_ _
      have h1 := C_step m k
      rw [← hm] at h1
      have h2 : p ∣ (k + 1) * C p (k + 1) := h1 ▸ Nat.dvd_mul_right _ _
      rcases hp.mul h2 with h3 | h3
      · have := Nat.le_of_dvd (by omega) h3; omega
      · exact h3
    obtain ⟨q, hq⟩ := hd
    rw [h, e, hq, show 1 + p * q + a ^ p = a ^ p + 1 + p * q by omega, Nat.add_mul_mod_self_left, Nat.add_mod, ih, ← Nat.add_mod]
theorem fermat_one {p a : Nat} (hp : Pr p) (ha : ¬ p ∣ a) : a ^ (p - 1) % p = 1 := by
  have h := fermat hp a
  obtain ⟨m, hm⟩ : ∃ m, p = m + 1 := ⟨p - 1, by have := hp.pos; omega⟩
  have hle : 1 ≤ a ^ m := Nat.pos_of_ne_zero fun e => ha (by
    have : a = 0 := by
      rcases Nat.eq_zero_or_pos a with h | h
      · exact h
      · exact absurd e (Nat.pos_iff_ne_zero.1 (Nat.pow_pos h))
    subst this; exact Nat.dvd_zero _)
  have hs : p ∣ a * (a ^ m - 1) := by
    rw [Nat.mul_sub, Nat.mul_one, Nat.mul_comm, ← Nat.pow_succ]
    have e : m + 1 = p := hm.symm
    rw [show a ^ (m + 1) = a ^ p by rw [e]]
    exact Nat.dvd_of_mod_eq_zero (Nat.sub_mod_eq_zero_of_mod_eq h)
  have h2 := (hp.mul hs).resolve_left ha
  rw [show p - 1 = m by omega]
  obtain ⟨c, hc⟩ := h2
  rw [show a ^ m = 1 + p * c by omega, Nat.add_mul_mod_self_left, Nat.mod_eq_of_lt (by have := hp.two; omega)]

/-- What 1 is to two powers is 1 to the power of their greatest common divisor. -/
theorem one_gcd {P a : Nat} (hP : 2 ≤ P) : ∀ m n : Nat, a ^ m % P = 1 → a ^ n % P = 1 → a ^ Nat.gcd m n % P = 1 := by
  intro m n
  induction m, n using Nat.gcd.induction with
  | H0 n => intro _ h; rwa [Nat.gcd_zero_left]
  | H1 m n hm ih =>
    intro h1 h2
    rw [Nat.gcd_rec]
    refine ih ?_ h1
    have e : a ^ n = (a ^ m) ^ (n / m) * a ^ (n % m) := by
      rw [← Nat.pow_mul, ← Nat.pow_add, Nat.div_add_mod]
    rw [e, Nat.mul_mod, Nat.pow_mod (a ^ m), h1, Nat.one_pow, Nat.mod_eq_of_lt (show 1 < P by omega), Nat.one_mul, Nat.mod_mod] at h2
    exact h2

theorem Pr.divisor : ∀ (f n : Nat), n ≤ f → 2 ≤ n → ∃ p, Pr p ∧ p ∣ n
  | 0, n, h, h2 => by omega
  | f + 1, n, h, h2 => by
    by_cases hc : ∃ d, d ∣ n ∧ d ≠ 1 ∧ d ≠ n
    · obtain ⟨d, hd, h1, hn⟩ := hc
      have hle := Nat.le_of_dvd (by omega) hd
      have h0 : d ≠ 0 := fun e => by subst e; have := Nat.eq_zero_of_zero_dvd hd; omega
      obtain ⟨p, hp, hpd⟩ := Pr.divisor f d (by omega) (by omega)
      exact ⟨p, hp, Nat.dvd_trans hpd hd⟩
    · refine ⟨n, ⟨h2, fun d hd => ?_⟩, Nat.dvd_refl n⟩
      rcases Nat.decEq d 1 with h1 | h1
      · rcases Nat.decEq d n with h3 | h3
        · exact absurd ⟨d, hd, h1, h3⟩ hc
        · exact .inr h3
      · exact .inl h1
/-- Of what is no prime some prime up to its root is a divisor. -/
theorem Pr.of_root {n : Nat} (h2 : 2 ≤ n) (h : ∀ p, Pr p → p ∣ n → ¬ p * p ≤ n) : Pr n := by
  refine ⟨h2, fun d hd => ?_⟩
  rcases Nat.decEq d 1 with h1 | h1
  · rcases Nat.decEq d n with h3 | h3
    · exfalso
      obtain ⟨e, he⟩ := hd
      have h0 : d ≠ 0 := fun e0 => by subst e0; simp at he; omega
      have he0 : e ≠ 0 := fun e0 => by subst e0; simp at he; omega
      have he1 : e ≠ 1 := fun e0 => by subst e0; simp at he; omega
      rcases Nat.le_total d e with hl | hl
      · obtain ⟨p, hp, hpd⟩ := Pr.divisor d d (Nat.le_refl _) (by omega)
        have hle := Nat.le_of_dvd (by omega) hpd
        exact h p hp (Nat.dvd_trans hpd ⟨e, he⟩) (he ▸ Nat.mul_le_mul hle (Nat.le_trans hle hl))
      · obtain ⟨p, hp, hpd⟩ := Pr.divisor e e (Nat.le_refl _) (by omega)
        have hle := Nat.le_of_dvd (by omega) hpd
        exact h p hp (Nat.dvd_trans hpd ⟨d, by rw [he, Nat.mul_comm]⟩) (he ▸ Nat.mul_le_mul (Nat.le_trans hle hl) hle)
    · exact .inr h3
  · exact .inl h1

theorem mod_of_dvd {p n x y : Nat} (hd : p ∣ n) (h : x % n = y % n) : x % p = y % p := by
  have := congrArg (· % p) h
  simpa [Nat.mod_mod_of_dvd _ hd] using this

/-- What proves that n is a prime, if q is (Pocklington). -/
theorem proves {n q a : Nat} (hq : Pr q) (hn : 3 ≤ n) (hqq : n < q * q) (hd : q ∣ n - 1) (h1 : a ^ (n - 1) % n = 1) (hg : ∀ p, Pr p → p ∣ n → a ^ ((n - 1) / q) % p ≠ 1) : Pr n := by
  refine Pr.of_root (by omega) fun p hp hpn hpp => ?_
  have hp2 := hp.two
  have e1 : a ^ (n - 1) % p = 1 := by
    have := mod_of_dvd hpn (h1.trans (Nat.mod_eq_of_lt (show 1 < n by omega)).symm)
    rwa [Nat.mod_eq_of_lt (show 1 < p by omega)] at this
  have hna : ¬ p ∣ a := fun hpa => by
    have h0 : a % p = 0 := Nat.mod_eq_zero_of_dvd hpa
    rw [Nat.pow_mod, h0, Nat.zero_pow (by omega), Nat.zero_mod] at e1
    omega
  have e2 := fermat_one hp hna
  by_cases hqp : q ∣ p - 1
  · have := Nat.le_of_dvd (by omega) hqp
    have h3 : q * q ≤ (p - 1) * (p - 1) := Nat.mul_le_mul this this
    have h4 : (p - 1) * (p - 1) ≤ p * p := Nat.mul_le_mul (by omega) (by omega)
    omega
  · have hc : Nat.Coprime q (p - 1) := hq.coprime hqp
    obtain ⟨k, hk⟩ := hd
    have hk' : (n - 1) / q = k := by rw [hk, Nat.mul_div_cancel_left _ hq.pos]
    have h3 := one_gcd hp2 (n - 1) (p - 1) e1 e2
    rw [hk, Nat.Coprime.gcd_mul_left_cancel k hc] at h3
    refine hg p hp hpn ?_
    rw [hk']
    obtain ⟨c, hc'⟩ := Nat.gcd_dvd_left k (p - 1)
    conv => lhs; rw [hc']
    rw [Nat.pow_mul, Nat.pow_mod, h3, Nat.one_pow, Nat.mod_eq_of_lt (by omega)]
end Go.Proofs.Ytphbacggmhjmgaa.Num
