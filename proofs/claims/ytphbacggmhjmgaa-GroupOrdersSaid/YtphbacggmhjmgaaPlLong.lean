/- Plain arithmetic: long division digit by digit; shifting a number down. No program in sight. -/
import Derived.Test.YtphbacggmhjmgaaPl
namespace Go.Proofs.Ytphbacggmhjmgaa.Pl

theorem val_drop_zero {B V n : Nat} {xs : List Nat} (hV : V ≤ B ^ n) (h : val B xs < V) : val B (xs.drop n) = 0 := by
  rcases Nat.lt_or_ge n xs.length with hl | hl
  · rw [val_take_drop B xs n (by omega)] at h
    rcases Nat.eq_zero_or_pos (val B (xs.drop n)) with h0 | h0
    · exact h0
    · have : B ^ n * 1 ≤ B ^ n * val B (xs.drop n) := Nat.mul_le_mul_left _ h0
      omega
  · rw [List.drop_of_length_le hl]; rfl

/-- The partial rest at place j+1 is below V: so the n+1 digits from j on are below B times V, and what is above them is nought. -/
theorem long_pick {B V n j : Nat} {U : List Nat} (hd : Dig B U) (hj : j < U.length) (hV : V ≤ B ^ n) (h : val B (U.drop (j + 1)) < V) :
    val B ((U.drop j).take (n + 1)) < B * V ∧ val B ((U.drop j).take (n + 1)) = val B (U.drop j) ∧ val B (U.drop (j + n + 1)) = 0 := by
  have h0 := val_drop_zero hV h
  rw [List.drop_drop, show j + 1 + n = j + n + 1 by omega] at h0
  have h1 := val_drop B U j hj
  have h2 := hd.at j hj
  have h3 : B * (val B (U.drop (j + 1)) + 1) ≤ B * V := Nat.mul_le_mul_left _ h
  rw [Nat.mul_add] at h3
  have h4 : val B ((U.drop j).take (n + 1)) = val B (U.drop j) := by
    rcases Nat.lt_or_ge (U.drop j).length (n + 1) with hl | hl
    · rw [List.take_of_length_le (by omega)]
    · rw [val_take_drop B (U.drop j) (n + 1) hl, List.drop_drop, show j + (n + 1) = j + n + 1 by omega, h0]; simp
  exact ⟨by omega, h4, h0⟩

/-- One digit more of the quotient. -/
theorem long_step {B V T j : Nat} {pre us us' post q : List Nat} {Q : Nat} (hp : pre.length = j) (hj : j < q.length) (hpost : val B post = 0) (hQ : val B us = Q * V + val B us')
    (h : val B (pre ++ us ++ post) + B ^ (j + 1) * (val B (q.drop (j + 1)) * V) = T) :
    val B (pre ++ us' ++ post) + B ^ j * (val B ((q.set j Q).drop j) * V) = T := by
  have e1 : ∀ xs : List Nat, val B (pre ++ xs ++ post) = val B pre + B ^ j * val B xs := by
    intro xs; rw [val_append, val_append, hpost, hp]; simp
  have e2 : val B ((q.set j Q).drop j) = Q + B * val B (q.drop (j + 1)) := by
    rw [val_drop B _ j (by simpa using hj), List.getElem_set_self, List.drop_set_of_lt (by omega)]
  rw [e1, hQ, Nat.pow_succ] at h
  rw [e1, e2, ← h]
  simp only [Nat.mul_add, Nat.add_mul, Nat.mul_assoc]
  omega

theorem long_rest {B j : Nat} {pre us' post : List Nat} (hp : pre.length = j) (hpost : val B post = 0) : val B ((pre ++ us' ++ post).drop j) = val B us' := by
  rw [List.append_assoc, List.drop_append_of_le_length (by omega), List.drop_of_length_le (by omega), List.nil_append, val_append, hpost]; simp

/-- the first partial rest is below the divisor -/
theorem long_first {B a b n m s : Nat} {U : List Nat} (hU : val B U = a * s) (ha : a < B ^ m) (hb : B ^ (n - 1) ≤ b) (hn : 1 ≤ n) (hnm : n ≤ m) (hs : 0 < s) (hl : m - n + 1 ≤ U.length) :
    val B (U.drop (m - n + 1)) < b * s := by
  have h1 := val_take_drop B U (m - n + 1) hl
  have h2 : a * s < B ^ m * s := Nat.mul_lt_mul_of_pos_right ha hs
  have h3 : B ^ m = B ^ (m - n + 1) * B ^ (n - 1) := by rw [← Nat.pow_add]; congr 1; omega
  have h4 : B ^ (m - n + 1) * val B (U.drop (m - n + 1)) < B ^ (m - n + 1) * (B ^ (n - 1) * s) := by
    rw [← Nat.mul_assoc, ← h3]; omega
  have h5 := Nat.lt_of_mul_lt_mul_left h4
  have h6 : B ^ (n - 1) * s ≤ b * s := Nat.mul_le_mul_right _ hb
  omega

/-- the end: quotient and rest -/
theorem long_end {B a b s : Nat} {U q : List Nat} (hs : 0 < s) (hb : 0 < b) (hr : val B U < b * s) (h : val B U + B ^ 0 * (val B (q.drop 0) * (b * s)) = a * s) : val B q = a / b ∧ val B U = a % b * s := by
  simp only [Nat.pow_zero, Nat.one_mul, List.drop_zero] at h
  have hbs : 0 < b * s := Nat.mul_pos hb hs
  have h1 : a * s / (b * s) = val B q := by
    rw [← h, Nat.add_mul_div_right _ _ hbs, Nat.div_eq_of_lt hr, Nat.zero_add]
  have h2 : a * s % (b * s) = val B U := by
    rw [← h, Nat.add_mul_mod_self_right, Nat.mod_eq_of_lt hr]
  rw [Nat.mul_div_mul_right _ _ hs] at h1
  rw [Nat.mul_mod_mul_right] at h2
  exact ⟨h1.symm, h2.symm⟩

/-- shifting down: one digit -/
theorem down_step {D E B : Nat} {xs : List Nat} {i : Nat} (hDE : B = D * E) (hD : 0 < D) (hi : i < xs.length) :
    val B (xs.drop i) / D = xs[i] / D + E * (val B (xs.drop (i + 1)) % D) + B * (val B (xs.drop (i + 1)) / D) := by
  rw [val_drop B xs i hi]
  generalize val B (xs.drop (i + 1)) = X
  have e : xs[i] + B * X = xs[i] + D * (E * X) := by rw [hDE, Nat.mul_assoc]
  rw [e, Nat.add_mul_div_left _ _ hD]
  have h := Nat.mod_add_div X D
  have e2 : E * X = E * (X % D) + B * (X / D) := by
    rw [hDE, Nat.mul_comm D E, Nat.mul_assoc, ← Nat.mul_add, h]
  omega
theorem down_mod {D E B : Nat} {xs : List Nat} {i : Nat} (hDE : B = D * E) (hi : i < xs.length) : val B (xs.drop i) % D = xs[i] % D := by
  rw [val_drop B xs i hi, hDE, Nat.mul_assoc, Nat.add_mul_mod_self_left]
theorem down_mod_end {D B : Nat} {xs : List Nat} {i : Nat} (hi : xs.length ≤ i) : val B (xs.drop i) % D = 0 := by
  rw [List.drop_of_length_le hi]; simp [val]

theorem down_inv {D E B T i d : Nat} {xs outs : List Nat} (hDE : B = D * E) (hD : 0 < D) (hi : i < xs.length) (hio : i < outs.length) (hd : d = xs[i] / D + E * (val B (xs.drop (i + 1)) % D))
    (h : val B (outs.take i) + B ^ i * (val B (xs.drop i) / D) = T) : val B ((outs.set i d).take (i + 1)) + B ^ (i + 1) * (val B (xs.drop (i + 1)) / D) = T := by
  rw [down_step hDE hD hi, ← hd] at h
  rw [val_take_set B outs i d hio, Nat.pow_succ, Nat.mul_assoc, Nat.add_assoc, ← Nat.mul_add]
  exact h
theorem down_lt {D E B x X : Nat} (hDE : B = D * E) (hD : 0 < D) (hx : x < B) : x / D + E * (X % D) < B := by
  have h1 : x / D < E := by rw [Nat.div_lt_iff_lt_mul hD, Nat.mul_comm, ← hDE]; exact hx
  have h2 : X % D + 1 ≤ D := Nat.mod_lt _ hD
  have h3 : E * (X % D + 1) ≤ E * D := Nat.mul_le_mul_left _ h2
  rw [Nat.mul_comm E D, ← hDE, Nat.mul_add] at h3
  omega

end Go.Proofs.Ytphbacggmhjmgaa.Pl
