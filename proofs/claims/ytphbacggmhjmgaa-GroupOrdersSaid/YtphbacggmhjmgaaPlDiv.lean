/- Plain arithmetic: two digits by one, in half digits. -/
namespace Go.Proofs.Ytphbacggmhjmgaa.Pl

/-- the guess of a half digit: not too small; not far off -/
structure DInv (a b u v q r : Nat) : Prop where
  sum : q * a + r = u
  rest : r < 4294967296
  over : u * 4294967296 + v < (q + 1) * (a * 4294967296 + b)
  near : q ≤ 4294967297
/-- the half digit -/
structure DRes (a b u v q : Nat) : Prop where
  low : q * (a * 4294967296 + b) ≤ u * 4294967296 + v
  over : u * 4294967296 + v < (q + 1) * (a * 4294967296 + b)

theorem dinv_init {a b u v : Nat} (ha : 2147483648 ≤ a) (ha' : a < 4294967296) (hb : b < 4294967296) (hv : v < 4294967296) (hu : u < a * 4294967296 + b) : DInv a b u v (u / a) (u - u / a * a) := by
  have h1 := Nat.div_add_mod u a
  have h2 := Nat.mod_lt u (show 0 < a by omega)
  have h3 : u / a * a = a * (u / a) := Nat.mul_comm _ _
  have h4 : (u / a + 1) * (a * 4294967296 + b) = a * (u / a) * 4294967296 + a * 4294967296 + (u / a + 1) * b := by grind
  refine ⟨by omega, by omega, by omega, ?_⟩
  have h5 : u / a < 4294967298 := by
    rw [Nat.div_lt_iff_lt_mul (by omega)]
    omega
  omega

theorem dinv_step {a b u v q r : Nat} (h : DInv a b u v q r) (hv : v < 4294967296) (hu : u < a * 4294967296 + b) (hc : 4294967296 ≤ q ∨ 4294967296 * r + v < q * b) :
    0 < q ∧ (q - 1) * a + (r + a) = u ∧ u * 4294967296 + v < (q - 1 + 1) * (a * 4294967296 + b) := by
  obtain ⟨h1, h2, h3, h4⟩ := h
  have hq : 0 < q := by
    rcases hc with h | h
    · omega
    · rcases Nat.eq_zero_or_pos q with h0 | h0
      · subst h0; omega
      · exact h0
  obtain ⟨p, rfl⟩ : ∃ p, q = p + 1 := ⟨q - 1, by omega⟩
  simp only [Nat.add_sub_cancel]
  refine ⟨hq, by grind, ?_⟩
  have e : (p + 1) * (a * 4294967296 + b) = ((p + 1) * a) * 4294967296 + (p + 1) * b := by grind
  rcases hc with h | h
  · have : 4294967296 * (a * 4294967296 + b) ≤ (p + 1) * (a * 4294967296 + b) := Nat.mul_le_mul_right _ h
    omega
  · rw [e]; omega

theorem dinv_next {a b u v q r : Nat} (h : DInv a b u v q r) (hv : v < 4294967296) (hu : u < a * 4294967296 + b) (hc : 4294967296 ≤ q ∨ 4294967296 * r + v < q * b) (hr : r + a < 4294967296) : DInv a b u v (q - 1) (r + a) := by
  obtain ⟨h1, h2, h3⟩ := dinv_step h hv hu hc
  have := h.near
  exact ⟨h2, hr, h3, by omega⟩

theorem dinv_break {a b u v q r : Nat} (h : DInv a b u v q r) (hb : b < 4294967296) (hv : v < 4294967296) (hu : u < a * 4294967296 + b) (hc : 4294967296 ≤ q ∨ 4294967296 * r + v < q * b) (hr : 4294967296 ≤ r + a) : DRes a b u v (q - 1) := by
  obtain ⟨h1, h2, h3⟩ := dinv_step h hv hu hc
  have hn := h.near
  refine ⟨?_, h3⟩
  have e : (q - 1) * (a * 4294967296 + b) = ((q - 1) * a) * 4294967296 + (q - 1) * b := by grind
  have h4 : (q - 1) * b ≤ 4294967296 * 4294967295 := Nat.mul_le_mul (by omega) (by omega)
  rw [e]; omega

theorem dinv_done {a b u v q r : Nat} (h : DInv a b u v q r) (hc : q * b ≤ 4294967296 * r + v) : DRes a b u v q := by
  obtain ⟨h1, h2, h3, h4⟩ := h
  refine ⟨?_, h3⟩
  have e : q * (a * 4294967296 + b) = (q * a) * 4294967296 + q * b := by grind
  rw [e]; omega

theorem dres_lt {a b u v q : Nat} (h : DRes a b u v q) (hv : v < 4294967296) (hu : u < a * 4294967296 + b) : q < 4294967296 := by
  rcases Nat.lt_or_ge q 4294967296 with h' | h'
  · exact h'
  · have := Nat.mul_le_mul_right (a * 4294967296 + b) h'
    have := h.low
    omega

/-- both half digits, put together -/
theorem div_join0 {Y R q0 v0 r : Nat} (hr : r = R * 4294967296 + v0 - q0 * Y) (l0 : q0 * Y ≤ R * 4294967296 + v0) : R * 4294967296 + v0 = q0 * Y + r := by omega
theorem div_join1 {D N P q1 q0 Y R r v0 : Nat} (hN : N * P = (q1 * Y + R) * D + v0) (e2 : R * D + v0 = q0 * Y + r) : N * P = (q1 * D + q0) * Y + r := by
  have e : (q1 * Y + R) * D = q1 * D * Y + R * D := by grind
  rw [hN, Nat.add_mul (q1 * D), e]; omega
theorem div_join {N y Y P a b U v1 v0 q1 q0 : Nat} (hy : 0 < y) (hP : 0 < P) (hY : Y = y * P) (hYab : Y = a * 4294967296 + b) (hN : N * P = (U * 4294967296 + v1) * 4294967296 + v0)
    (h1 : DRes a b U v1 q1) (h0 : DRes a b (U * 4294967296 + v1 - q1 * Y) v0 q0) :
    N / y = q1 * 4294967296 + q0 ∧ N % y = ((U * 4294967296 + v1 - q1 * Y) * 4294967296 + v0 - q0 * Y) / P := by
  have l1 := h1.low
  have l0 := h0.low
  have o0 := h0.over
  rw [← hYab] at l1 l0 o0
  obtain ⟨R, hR⟩ : ∃ R, R = U * 4294967296 + v1 - q1 * Y := ⟨_, rfl⟩
  rw [← hR] at l0 o0 ⊢
  have e1 : U * 4294967296 + v1 = q1 * Y + R := by omega
  obtain ⟨r, hr⟩ : ∃ r, r = R * 4294967296 + v0 - q0 * Y := ⟨_, rfl⟩
  rw [← hr]
  have e2 : R * 4294967296 + v0 = q0 * Y + r := div_join0 hr l0
  have hrY : r < Y := by
    rw [Nat.add_mul, Nat.one_mul] at o0
    omega
  have e3 : N * P = (q1 * 4294967296 + q0) * Y + r := div_join1 (by rw [hN, e1]) e2
  have hYP : (q1 * 4294967296 + q0) * Y = ((q1 * 4294967296 + q0) * y) * P := by
    rw [hY, Nat.mul_assoc]
  have hle : (q1 * 4294967296 + q0) * y ≤ N := by
    apply Nat.le_of_mul_le_mul_right _ hP
    omega
  have e4 : r = (N - (q1 * 4294967296 + q0) * y) * P := by
    rw [Nat.sub_mul]; omega
  have hlt : N - (q1 * 4294967296 + q0) * y < y := by
    apply Nat.lt_of_mul_lt_mul_right (a := P)
    rw [← e4, ← hY]; exact hrY
  have e5 : N = y * (q1 * 4294967296 + q0) + (N - (q1 * 4294967296 + q0) * y) := by
    rw [Nat.mul_comm y]; omega
  constructor
  · rw [e5, Nat.mul_add_div hy, Nat.div_eq_of_lt hlt, Nat.add_zero]
  · rw [e4, Nat.mul_div_cancel _ hP]
    conv => lhs; rw [e5]
    rw [Nat.mul_add_mod, Nat.mod_eq_of_lt hlt]


/-- The first two digits' quotient is not too small: 'hi' are the digits of u from place n - 2 on, 'v' those of the divisor. -/
theorem guess_over {B q r u2 u1 u0 v1 v0 U V lu lv P : Nat} (hsum : q * v1 + r = u2 * B + u1) (hlu : lu < P) (hU : U = lu + P * (u0 + B * (u1 + B * u2))) (hV : V = lv + P * (v0 + B * v1))
    (hc : r * B + u0 < q * v0) : U < q * V := by
  have h1 : q * V = q * lv + P * (q * v0 + B * (q * v1)) := by rw [hV]; grind
  have h2 : q * v0 + B * (q * v1) = q * v0 + B * (u2 * B + u1 - r) := by
    rw [show q * v1 = u2 * B + u1 - r by omega]
  have h3 : B * r + B * (u2 * B + u1 - r) = B * (u2 * B + u1) := by
    rw [← Nat.mul_add]; congr 1; omega
  have h4 : u0 + B * (u1 + B * u2) + 1 ≤ q * v0 + B * (q * v1) := by
    rw [h2]
    have e1 : B * (u1 + B * u2) = B * (u2 * B + u1) := by grind
    have e2 : r * B = B * r := Nat.mul_comm _ _
    omega
  have h5 := Nat.mul_le_mul_left P h4
  rw [h1, hU]
  rw [Nat.mul_add P _ 1, Nat.mul_one] at h5
  omega

/-- The first guess. -/
theorem guess_first {B q r u2 u1 u0 v1 v0 U V lu lv P : Nat} (hr : r < v1) (hsum : q * v1 + r = u2 * B + u1) (hu0 : u0 < B) (hlu : lu < P) (hU : U = lu + P * (u0 + B * (u1 + B * u2))) (hV : V = lv + P * (v0 + B * v1)) : U < (q + 1) * V := by
  have h1 : (q + 1) * v1 = u2 * B + u1 + (v1 - r) := by rw [Nat.add_mul, Nat.one_mul]; omega
  have h2 : P * (B * ((q + 1) * v1)) ≤ (q + 1) * V := by
    rw [hV]
    have : (q + 1) * (lv + P * (v0 + B * v1)) = P * (B * ((q + 1) * v1)) + (q + 1) * lv + P * ((q + 1) * v0) := by grind
    omega
  have h3 : u0 + B * (u1 + B * u2) + 1 ≤ B * ((q + 1) * v1) := by
    have e3 : B * (u2 * B + u1 + (v1 - r)) = B * (u2 * B + u1) + B * (v1 - r) := Nat.mul_add _ _ _
    rw [h1, e3]
    have e1 : B * (u1 + B * u2) = B * (u2 * B + u1) := by grind
    have e2 : B * 1 ≤ B * (v1 - r) := Nat.mul_le_mul_left B (by omega)
    omega
  have h5 := Nat.mul_le_mul_left P h3
  rw [Nat.mul_add P _ 1, Nat.mul_one] at h5
  omega

end Go.Proofs.Ytphbacggmhjmgaa.Pl
