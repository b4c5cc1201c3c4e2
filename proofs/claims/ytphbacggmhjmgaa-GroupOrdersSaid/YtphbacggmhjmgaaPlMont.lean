/- Plain arithmetic: Montgomery's way of reckoning modulo an odd number. No program in sight. -/
import Derived.Test.YtphbacggmhjmgaaPl
namespace Go.Proofs.Ytphbacggmhjmgaa.Pl

theorem val_pos_take {B n : Nat} {t : List Nat} (ht : t.length = n + 2) : val B t = val B (t.take (n + 1)) + B ^ (n + 1) * t[n + 1] := by
  have := val_take_succ B t (n + 1) (by omega)
  rwa [show n + 1 + 1 = t.length by omega, List.take_length] at this

/-- the first inner loop: a digit -/
theorem mont_one {B n j c lo hi x y T : Nat} {t : List Nat} {a : List Nat} (ht : t.length = n + 2) (hj : j < n) (hja : j < a.length) (hx : a[j] = x) (hs : lo + B * hi = x * y + t[j]'(by omega) + c)
    (h : val B (t.take (n + 1)) + B ^ j * c = T + val B (a.take j) * y) : val B ((t.set j lo).take (n + 1)) + B ^ (j + 1) * hi = T + val B (a.take (j + 1)) * y := by
  have h1 := val_set B (t.take (n + 1)) j lo (by rw [List.length_take]; omega)
  rw [List.getElem_take] at h1
  rw [List.take_set, val_take_succ B a j hja, hx, Nat.add_mul, ← Nat.add_assoc, ← h, Nat.pow_succ]
  have e := congrArg (B ^ j * ·) hs
  simp only [Nat.mul_add] at e
  rw [Nat.mul_assoc, Nat.mul_assoc]
  omega

/-- the top digit and the carry -/
theorem mont_top {B n c lo hi T : Nat} {t : List Nat} (ht : t.length = n + 2) (hs : lo + B * hi = t[n]'(by omega) + c) (h : val B (t.take (n + 1)) + B ^ n * c = T) :
    val B ((t.set n lo).set (n + 1) hi) = T := by
  have h1 := val_set B (t.take (n + 1)) n lo (by rw [List.length_take]; omega)
  rw [List.getElem_take] at h1
  rw [val_pos_take (t := (t.set n lo).set (n + 1) hi) (n := n) (by simpa using ht), List.getElem_set_self, List.take_set_of_le (by omega), List.take_set, ← h, Nat.pow_succ]
  have e := congrArg (B ^ n * ·) hs
  simp only [Nat.mul_add] at e
  rw [Nat.mul_assoc]
  omega

/-- the second inner loop begins -/
theorem mont_start {B n q m0 c T : Nat} {t ms : List Nat} (ht : t.length = n + 2) (hm : 0 < ms.length) (hm0 : ms[0] = m0) (hs : B * c = q * m0 + t[0]'(by omega)) (hT : val B t = T) :
    B * val B (t.take 0) + B ^ 1 * (c + val B (t.drop 1)) = T + q * val B (ms.take 1) := by
  have h1 := val_drop B t 0 (by omega)
  rw [List.drop_zero, hT] at h1
  rw [val_take_succ B ms 0 hm, hm0, List.take_zero, List.take_zero, val_nil, Nat.pow_one, Nat.mul_add, hs, h1]
  simp
  omega

/-- the second inner loop: a digit, j + 1 the place that is read -/
theorem mont_two {B j q mj c lo hi T : Nat} {t ms : List Nat} (hj : j + 1 < t.length) (hjm : j + 1 < ms.length) (hm : ms[j + 1] = mj) (hs : lo + B * hi = q * mj + t[j + 1] + c)
    (h : B * val B (t.take j) + B ^ (j + 1) * (c + val B (t.drop (j + 1))) = T + q * val B (ms.take (j + 1))) :
    B * val B ((t.set j lo).take (j + 1)) + B ^ (j + 2) * (hi + val B ((t.set j lo).drop (j + 2))) = T + q * val B (ms.take (j + 2)) := by
  have h1 := val_drop B t (j + 1) hj
  rw [h1] at h
  rw [val_take_set B t j lo (by omega), List.drop_set_of_lt (by omega), val_take_succ B ms (j + 1) hjm, hm, Nat.mul_add q, ← Nat.add_assoc, ← h, show j + 2 = j + 1 + 1 from rfl, Nat.pow_succ B (j + 1)]
  have e := congrArg (B ^ (j + 1) * ·) hs
  simp only [Nat.mul_add] at e ⊢
  have e1 : B * (B ^ j * lo) = B ^ (j + 1) * lo := by rw [Nat.pow_succ, Nat.mul_comm (B ^ j) B, Nat.mul_assoc]
  have e2 : q * (B ^ (j + 1) * mj) = B ^ (j + 1) * (q * mj) := by rw [Nat.mul_left_comm]
  have e3 : B ^ (j + 1) * B * hi = B ^ (j + 1) * (B * hi) := Nat.mul_assoc _ _ _
  have e4 : B ^ (j + 1) * B * val B (t.drop (j + 1 + 1)) = B ^ (j + 1) * (B * val B (t.drop (j + 1 + 1))) := Nat.mul_assoc _ _ _
  rw [e1, e2, e3, e4]
  omega

/-- a round's end -/
theorem mont_round {B n q m c lo hi T u : Nat} {t ms : List Nat} (ht : t.length = n + 2) (hn : 0 < n) (hml : ms.length = n) (hm : val B ms = m) (hs : lo + B * hi = t[n]'(by omega) + c) (hu : u = t[n + 1]'(by omega) + hi)
    (h : B * val B (t.take (n - 1)) + B ^ n * (c + val B (t.drop n)) = T + q * val B (ms.take n)) :
    B * val B (((t.set (n - 1) lo).set n u).take (n + 1)) = T + q * m := by
  have h1 := val_drop B t n (by omega)
  have h2 := val_drop B t (n + 1) (by omega)
  rw [List.drop_of_length_le (i := n + 1 + 1) (by omega), val_nil] at h2
  rw [h1, h2] at h
  rw [List.take_of_length_le (l := ms) (by omega), hm] at h
  rw [val_take_succ B _ n (by simp; omega), List.getElem_set_self, List.take_set_of_le (by omega), ← h]
  have h3 : val B ((t.set (n - 1) lo).take n) = val B (t.take (n - 1)) + B ^ (n - 1) * lo := by
    have := val_take_set B t (n - 1) lo (by omega)
    rwa [show n - 1 + 1 = n by omega] at this
  rw [h3, hu]
  have e0 : B ^ n = B ^ (n - 1) * B := by rw [← Nat.pow_succ]; congr 1; omega
  have e := congrArg (B ^ n * ·) hs
  simp only [Nat.mul_add] at e ⊢
  have e1 : B * (B ^ (n - 1) * lo) = B ^ n * lo := by rw [e0, Nat.mul_comm (B ^ (n - 1)) B, Nat.mul_assoc]
  have e2 : B * (B ^ n * t[n + 1]) = B ^ n * (B * t[n + 1]) := Nat.mul_left_comm _ _ _
  have e3 : B * (B ^ n * hi) = B ^ n * (B * hi) := Nat.mul_left_comm _ _ _
  rw [e1, e2, e3]
  simp only [Nat.mul_zero, Nat.add_zero] at *
  omega

/-- the partial product stays small -/
theorem mont_small {B A m T T' y q : Nat} (hy : y < B) (hq : q < B) (hT : T < A + m) (h : B * T' = T + A * y + q * m) : T' < A + m := by
  have h1 : A * y + A ≤ A * B := by rw [← Nat.mul_succ]; exact Nat.mul_le_mul_left _ hy
  have h2 : q * m + m ≤ B * m := by rw [← Nat.succ_mul]; exact Nat.mul_le_mul_right _ hq
  have h3 : B * T' < B * (A + m) := by rw [h, Nat.mul_add, Nat.mul_comm B A]; omega
  exact Nat.lt_of_mul_lt_mul_left h3
theorem mont_part {B A m T T' y q i Q : Nat} {b : List Nat} (hi : i < b.length) (hy : b[i] = y) (h : B * T' = T + A * y + q * m) (hQ : B ^ i * T = A * val B (b.take i) + Q * m) :
    B ^ (i + 1) * T' = A * val B (b.take (i + 1)) + (Q + B ^ i * q) * m := by
  rw [val_take_succ B b i hi, hy, Nat.pow_succ, Nat.mul_assoc, h]
  simp only [Nat.mul_add, Nat.add_mul]
  rw [hQ, Nat.mul_left_comm (B ^ i) A y, Nat.mul_assoc (B ^ i) q m]
  omega

/-- taking the modulus off -/
theorem mont_off {B n j c d c' x : Nat} {t ms : List Nat} {T : Nat} (hj : j < n) (htl : n ≤ t.length) (hjm : j < ms.length) (hx : ms[j] = x) (hs : d + x + c = t[j]'(by omega) + B * c')
    (h : val B (t.take n) + val B (ms.take j) = T + B ^ j * c) : val B ((t.set j d).take n) + val B (ms.take (j + 1)) = T + B ^ (j + 1) * c' := by
  have h1 := val_set B (t.take n) j d (by rw [List.length_take]; omega)
  rw [List.getElem_take] at h1
  rw [List.take_set, val_take_succ B ms j hjm, hx, Nat.pow_succ]
  have e := congrArg (B ^ j * ·) hs
  simp only [Nat.mul_add] at e
  rw [Nat.mul_assoc]
  omega
theorem mont_offEnd {R m T P c t : Nat} (hP : P < R) (hT : T < 2 * m) (hm : m < R) (hge : m ≤ T) {lo : Nat} (hTT : T = lo + R * t) (h : P + m = lo + R * c) : P = T - m := by
  rcases Nat.lt_trichotomy t c with h1 | h1 | h1
  · have : R * (t + 1) ≤ R * c := Nat.mul_le_mul_left _ h1
    rw [Nat.mul_add] at this; omega
  · subst h1; omega
  · have : R * (c + 1) ≤ R * t := Nat.mul_le_mul_left _ h1
    rw [Nat.mul_add] at this; omega

/-- what makes 1 of B^n modulo m, B = 2^64 -/
def rinv (m n : Nat) : Nat := ((m + 1) / 2) ^ (64 * n) % m
theorem rinv_spec {m n : Nat} (hm : m % 2 = 1) (hm1 : 1 < m) : (18446744073709551616 ^ n * rinv m n) % m = 1 := by
  have e : 18446744073709551616 ^ n = 2 ^ (64 * n) := by rw [Nat.pow_mul]
  unfold rinv
  rw [e, Nat.mul_mod, Nat.mod_mod, ← Nat.mul_mod, ← Nat.mul_pow, show 2 * ((m + 1) / 2) = m + 1 by omega, Nat.pow_mod, Nat.add_mod_left, Nat.mod_eq_of_lt hm1, Nat.one_pow, Nat.mod_eq_of_lt hm1]
/-- the product's rest -/
theorem mont_rest {m n P X : Nat} (hm : m % 2 = 1) (hm1 : 1 < m) (hP : P < m) (h : 18446744073709551616 ^ n * P % m = X % m) : P = X * rinv m n % m := by
  have h1 := rinv_spec (n := n) hm hm1
  have h2 : X * rinv m n % m = P * (18446744073709551616 ^ n * rinv m n) % m := by
    rw [Nat.mul_mod, ← h, ← Nat.mul_mod, ← Nat.mul_assoc, Nat.mul_comm P]
  rw [h2, Nat.mul_mod, h1, Nat.mul_one, Nat.mod_mod, Nat.mod_eq_of_lt hP]
theorem mont_cong {m R T X Q : Nat} (h : R * T = X + Q * m) : R * T % m = X % m := by rw [h, Nat.add_mul_mod_self_right]
theorem mont_congSub {m R T P X Q : Nat} (hT : T = P + m) (h : R * T = X + Q * m) : R * P % m = X % m := by
  rw [← mont_cong h, hT, Nat.mul_add, Nat.add_mul_mod_self_right]

/-- Newton's way to what makes -1 of an odd digit -/
theorem newton_step {x a K : Nat} {M : Nat} (hM : M = K * K) (h : a * x % K = 1 % K) {y : Nat} (hy : (y + x * (a * x)) % M = 2 * x % M) : a * y % M = 1 % M := by
  obtain ⟨d, hd⟩ : ∃ d : Int, (a : Int) * x = 1 + K * d := by
    refine ⟨((a * x : Nat) : Int) / K - (1 : Int) / K, ?_⟩
    have e1 := Int.emod_add_mul_ediv ((a * x : Nat) : Int) K
    have e2 := Int.emod_add_mul_ediv (1 : Int) K
    have e3 : ((a * x : Nat) : Int) % K = (1 : Int) % K := by exact_mod_cast h
    rw [Int.mul_sub]
    push_cast at *
    omega
  obtain ⟨f, hf⟩ : ∃ f : Int, (y : Int) + x * (a * x) = 2 * x + M * f := by
    refine ⟨((y + x * (a * x) : Nat) : Int) / M - ((2 * x : Nat) : Int) / M, ?_⟩
    have e1 := Int.emod_add_mul_ediv ((y + x * (a * x) : Nat) : Int) M
    have e2 := Int.emod_add_mul_ediv ((2 * x : Nat) : Int) M
    have e3 : ((y + x * (a * x) : Nat) : Int) % M = ((2 * x : Nat) : Int) % M := by exact_mod_cast hy
    rw [Int.mul_sub]
    push_cast at *
    omega
  have e : (a : Int) * y = 1 + M * (a * f - d * d) := by
    have h1 : (a : Int) * y = a * (2 * x + M * f - x * (a * x)) := by rw [← hf]; congr 1; omega
    have h2 : (a : Int) * (2 * x + M * f - x * (a * x)) = 2 * (a * x) - (a * x) * (a * x) + M * (a * f) := by
      simp only [Int.mul_sub, Int.mul_add]
      simp only [Int.mul_comm, Int.mul_left_comm, Int.mul_assoc]
      omega
    have hpp : ((K : Int) * K) * (d * d) = (K * d) * (K * d) := by simp only [Int.mul_comm, Int.mul_left_comm, Int.mul_assoc]
    rw [h1, h2, hd, hM]
    push_cast
    rw [Int.mul_sub, hpp]
    generalize (K : Int) * d = p
    simp only [Int.mul_add, Int.add_mul, Int.one_mul, Int.mul_one]
    omega
  have : ((a * y : Nat) : Int) % M = (1 : Int) % M := by
    push_cast
    rw [e, Int.add_mul_emod_self_left]
  exact_mod_cast this

theorem ri_cancel {R ri m : Nat} (h : R * ri % m = 1) (z : Nat) : z * R * ri % m = z % m := by
  rw [Nat.mul_assoc, Nat.mul_mod, h, Nat.mul_one, Nat.mod_mod]
theorem mod_mul_mid (x y z m : Nat) : x * (y % m) * z % m = x * y * z % m := by
  rw [Nat.mul_mod, Nat.mul_mod x, Nat.mod_mod, ← Nat.mul_mod x, ← Nat.mul_mod]
theorem mod_mul_left' (x y z m : Nat) : x % m * y * z % m = x * y * z % m := by
  rw [Nat.mul_mod, Nat.mul_mod (x % m), Nat.mod_mod, ← Nat.mul_mod x, ← Nat.mul_mod]
/-- into Montgomery's form -/
theorem mont_in {R ri m : Nat} (h : R * ri % m = 1) (x : Nat) : x * (R * R % m) * ri % m = x * R % m := by
  rw [mod_mul_mid, ← Nat.mul_assoc, ri_cancel h]
theorem mont_mid {R ri m : Nat} (h : R * ri % m = 1) (x y : Nat) : (x * R % m) * (y * R % m) * ri % m = x * y * R % m := by
  rw [mod_mul_mid, mod_mul_left', ← Nat.mul_assoc, ri_cancel h, Nat.mul_right_comm]
theorem mont_out {R ri m : Nat} (h : R * ri % m = 1) (x y : Nat) : (x * R % m) * y * ri % m = x * y % m := by
  rw [mod_mul_left', Nat.mul_right_comm x, ri_cancel h]
theorem mont_all {R ri m : Nat} (h : R * ri % m = 1) (a b : Nat) : (a % m * (R * R % m) * ri % m) * (b % m) * ri % m = a * b % m := by
  rw [mont_in h, mont_out h, ← Nat.mul_mod]

end Go.Proofs.Ytphbacggmhjmgaa.Pl
