/- Plain numbers: the squares modulo a prime 2 q + 1. -/
import Derived.Test.YtphbacggmhjmgaaPlGrp
namespace Go.Proofs.Ytphbacggmhjmgaa.Num

/-- an element -/
structure El (P Q a : Nat) : Prop where
  pos : 0 < a
  lt : a < P
  one : a ^ Q % P = 1
/-- a group's numbers -/
structure Grp (P Q g : Nat) : Prop where
  pp : Pr P
  pq : Pr Q
  tw : P = 2 * Q + 1
  big : 2 < Q
  el : El P Q g
  ne : g ≠ 1

theorem pow_mod_mod (a n P : Nat) : (a % P) ^ n % P = a ^ n % P := (Nat.pow_mod a n P).symm
theorem mod_one {P : Nat} (h : 1 < P) : 1 % P = 1 := Nat.mod_eq_of_lt h
theorem El.of {P Q a : Nat} (hP : 1 < P) (hQ : 0 < Q) (h : a ^ Q % P = 1) : El P Q (a % P) := by
  refine ⟨Nat.pos_of_ne_zero fun h0 => ?_, Nat.mod_lt _ (by omega), by rw [pow_mod_mod]; exact h⟩
  rw [Nat.pow_mod, h0, Nat.zero_pow hQ, Nat.zero_mod] at h
  omega
theorem El.mul {P Q a b : Nat} (hP : 1 < P) (hQ : 0 < Q) (ha : El P Q a) (hb : El P Q b) : El P Q (a * b % P) :=
  El.of hP hQ (by rw [Nat.mul_pow, Nat.mul_mod, ha.one, hb.one, Nat.one_mul, mod_one hP])
theorem El.pow {P Q a : Nat} (hP : 1 < P) (hQ : 0 < Q) (ha : El P Q a) (n : Nat) : El P Q (a ^ n % P) :=
  El.of hP hQ (by rw [← Nat.pow_mul, Nat.mul_comm, Nat.pow_mul, Nat.pow_mod, ha.one, Nat.one_pow, mod_one hP])
/-- scalars count modulo q -/
theorem El.red {P Q a : Nat} (hP : 1 < P) (ha : El P Q a) (n : Nat) : a ^ (n % Q) % P = a ^ n % P := by
  conv => rhs; rw [← Nat.div_add_mod n Q, Nat.pow_add, Nat.pow_mul, Nat.mul_mod, Nat.pow_mod (a ^ Q), ha.one, Nat.one_pow, mod_one hP, Nat.one_mul, Nat.mod_mod]
/-- what makes 1 of an element: its power of q - 1 -/
theorem El.back {P Q a : Nat} (hQ : 0 < Q) (ha : El P Q a) : a * (a ^ (Q - 1) % P) % P = 1 := by
  rw [Nat.mul_mod_mod, ← Nat.pow_succ', Nat.succ_eq_add_one, show Q - 1 + 1 = Q by omega, ha.one]
theorem inv_unique {P a x y : Nat} (hx : x < P) (hy : y < P) (h1 : a * x % P = 1) (h2 : a * y % P = 1) : x = y := by
  have e1 : x * (a * y) % P = x := by rw [Nat.mul_mod, h2, Nat.mul_one, Nat.mod_mod, Nat.mod_eq_of_lt hx]
  have e2 : y * (a * x) % P = y := by rw [Nat.mul_mod, h1, Nat.mul_one, Nat.mod_mod, Nat.mod_eq_of_lt hy]
  have e3 : x * (a * y) = y * (a * x) := by rw [Nat.mul_left_comm, Nat.mul_comm x y, ← Nat.mul_assoc, Nat.mul_comm a y, Nat.mul_assoc]
  rw [← e1, e3, e2]
/-- a power is 1 just where the exponent is a multiple of q -/
theorem El.order {P Q a : Nat} (hP : 1 < P) (hq : Pr Q) (ha : El P Q a) (h1 : a ≠ 1) (n : Nat) : a ^ n % P = 1 ↔ n % Q = 0 := by
  constructor
  · intro h
    have h3 := one_gcd (show 2 ≤ P by omega) n Q h ha.one
    rcases hq.only _ (Nat.gcd_dvd_right n Q) with h4 | h4
    · rw [h4, Nat.pow_one, Nat.mod_eq_of_lt ha.lt] at h3
      exact absurd h3 h1
    · exact Nat.mod_eq_zero_of_dvd (h4 ▸ Nat.gcd_dvd_left n Q)
  · intro h
    rw [← ha.red hP, h, Nat.pow_zero, mod_one hP]
theorem one_pow_mod {P : Nat} (hP : 1 < P) (n : Nat) : 1 ^ n % P = 1 := by rw [Nat.one_pow, mod_one hP]

/-- of odd powers: the sum of what makes p is a multiple of p -/
theorem odd_sum {P a b : Nat} (h : a + b = P) : ∀ j : Nat, P ∣ a ^ (2 * j + 1) + b ^ (2 * j + 1)
  | 0 => by simp [h]
  | j + 1 => by
    have ih := odd_sum h j
    -- a^(2j+3) + b^(2j+3) = a^2 (a^(2j+1) + b^(2j+1)) + b^(2j+1) (b^2 - a^2), and P divides b^2 - a^2 either way
    have e1 : a ^ (2 * (j + 1) + 1) = a ^ (2 * j + 1) * (a * a) := by rw [show 2 * (j + 1) + 1 = 2 * j + 1 + 1 + 1 by omega, Nat.pow_succ, Nat.pow_succ, Nat.mul_assoc]
    have e2 : b ^ (2 * (j + 1) + 1) = b ^ (2 * j + 1) * (b * b) := by rw [show 2 * (j + 1) + 1 = 2 * j + 1 + 1 + 1 by omega, Nat.pow_succ, Nat.pow_succ, Nat.mul_assoc]
    have e3 : a ^ (2 * (j + 1) + 1) + b ^ (2 * (j + 1) + 1) + (a ^ (2 * j + 1) + b ^ (2 * j + 1)) * (a * b) = (a + b) * (a ^ (2 * j + 1) * a + b ^ (2 * j + 1) * b) := by
      rw [e1, e2]
      generalize a ^ (2 * j + 1) = x
      generalize b ^ (2 * j + 1) = y
      simp only [Nat.add_mul, Nat.mul_add]
      rw [show x * (a * a) = a * (x * a) by rw [← Nat.mul_assoc, Nat.mul_comm], show y * (b * b) = b * (y * b) by rw [← Nat.mul_assoc, Nat.mul_comm], show x * (a * b) = b * (x * a) by rw [← Nat.mul_assoc, Nat.mul_comm],
        show y * (a * b) = a * (y * b) by rw [Nat.mul_left_comm]]
      omega
    have h4 : P ∣ a ^ (2 * (j + 1) + 1) + b ^ (2 * (j + 1) + 1) + (a ^ (2 * j + 1) + b ^ (2 * j + 1)) * (a * b) := by
      rw [e3, h]; exact Nat.dvd_mul_right _ _
    exact (Nat.dvd_add_iff_left (Nat.dvd_mul_right_of_dvd ih _)).2 h4

/-- each number's power of q is 1 or p - 1 -/
theorem Grp.sign {P Q g : Nat} (G : Grp P Q g) {a : Nat} (h0 : 0 < a) (h1 : a < P) : a ^ Q % P = 1 ∨ a ^ Q % P = P - 1 := by
  have hp2 := G.pp.two
  have hf := fermat_one G.pp (fun hd => by have := Nat.le_of_dvd h0 hd; omega : ¬ P ∣ a)
  rw [show P - 1 = Q + Q by have := G.tw; omega, Nat.pow_add, Nat.mul_mod] at hf
  have hy : a ^ Q % P < P := Nat.mod_lt _ (by omega)
  generalize a ^ Q % P = y at hf hy
  have hy0 : y ≠ 0 := fun e => by subst e; simp at hf
  have hd : P ∣ (y + 1) * (y - 1) := by
    refine Nat.dvd_of_mod_eq_zero ?_
    obtain ⟨z, rfl⟩ : ∃ z, y = z + 1 := ⟨y - 1, by omega⟩
    have e : (z + 1) * (z + 1) % P = 1 % P := by rw [hf, mod_one (by omega)]
    have := Nat.sub_mod_eq_zero_of_mod_eq e
    rw [show (z + 1) * (z + 1) - 1 = (z + 1 + 1) * (z + 1 - 1) by simp only [Nat.add_mul, Nat.mul_add, Nat.add_sub_cancel]; omega] at this
    exact this
  rcases G.pp.mul hd with h | h
  · have := Nat.le_of_dvd (by omega) h; omega
  · rcases Nat.eq_zero_or_pos (y - 1) with h3 | h3
    · omega
    · have := Nat.le_of_dvd h3 h; omega
/-- just one of a and p - a is an element -/
theorem Grp.halves {P Q g : Nat} (G : Grp P Q g) {a : Nat} (h0 : 0 < a) (h1 : a < P) : El P Q (P - a) ↔ ¬ El P Q a := by
  have hp2 := G.pp.two
  have hb := G.big
  have ht := G.tw
  have hodd : Q % 2 = 1 := by
    rcases Nat.mod_two_eq_zero_or_one Q with h | h
    · rcases G.pq.only 2 (Nat.dvd_of_mod_eq_zero h) with h | h <;> omega
    · exact h
  have hs := odd_sum (show P - a + a = P by omega) (Q / 2)
  rw [show 2 * (Q / 2) + 1 = Q by omega] at hs
  have hz := Nat.mod_eq_zero_of_dvd hs
  rw [Nat.add_mod] at hz
  have s1 := G.sign (a := P - a) (by omega) (by omega)
  have s2 := G.sign h0 h1
  constructor
  · intro h k
    rw [h.one, k.one, Nat.mod_eq_of_lt (by omega)] at hz
    omega
  · intro h
    have h3 : a ^ Q % P = P - 1 := by
      rcases s2 with h2 | h2
      · exact absurd ⟨h0, h1, h2⟩ h
      · exact h2
    rcases s1 with h4 | h4
    · exact ⟨by omega, by omega, h4⟩
    · rw [h4, h3] at hz
      have : (P - 1 + (P - 1)) % P = P - 2 := by
        rw [show P - 1 + (P - 1) = P - 2 + P by omega, Nat.add_mod_right, Nat.mod_eq_of_lt (by omega)]
      omega
end Go.Proofs.Ytphbacggmhjmgaa.Num
