/- Plain numbers: lists of digits; bytes; long division; powers modulo a number; primes, and what proves them; the squares modulo a prime. -/


/- Plain arithmetic: numbers as lists of digits of any base. No program in sight. -/
namespace Go.Proofs.Ytphbacggmhjmgaa.Pl

/-- the number that digits say, the lowest first -/
def val (B : Nat) : List Nat → Nat
  | [] => 0
  | d :: ds => d + B * val B ds

/-- all digits are digits -/
def Dig (B : Nat) (xs : List Nat) : Prop := ∀ x ∈ xs, x < B

/-- no nought at the end -/
def Canon (xs : List Nat) : Prop := xs.getLast? ≠ some 0

theorem val_nil (B : Nat) : val B [] = 0 := rfl
theorem val_cons (B d : Nat) (ds : List Nat) : val B (d :: ds) = d + B * val B ds := rfl
theorem val_one (B d : Nat) : val B [d] = d := by simp [val]

theorem val_append (B : Nat) (xs ys : List Nat) : val B (xs ++ ys) = val B xs + B ^ xs.length * val B ys := by
  induction xs with
  | nil => simp [val]
  | cons x xs ih =>
    simp only [List.cons_append, val, ih, List.length_cons, Nat.pow_succ, Nat.mul_add]
    rw [Nat.mul_comm (B ^ xs.length) B, Nat.mul_assoc]; omega

theorem val_snoc (B : Nat) (xs : List Nat) (y : Nat) : val B (xs ++ [y]) = val B xs + B ^ xs.length * y := by
  rw [val_append, val_one]

theorem Dig.nil (B : Nat) : Dig B [] := by intro x h; cases h
theorem Dig.append {B : Nat} {xs ys : List Nat} (h : Dig B xs) (k : Dig B ys) : Dig B (xs ++ ys) := by
  intro x hx; rcases List.mem_append.1 hx with hx | hx
  · exact h x hx
  · exact k x hx
theorem Dig.take {B : Nat} {xs : List Nat} (h : Dig B xs) (n : Nat) : Dig B (xs.take n) := fun x hx => h x (List.mem_of_mem_take hx)
theorem Dig.drop {B : Nat} {xs : List Nat} (h : Dig B xs) (n : Nat) : Dig B (xs.drop n) := fun x hx => h x (List.mem_of_mem_drop hx)
theorem Dig.tail {B x : Nat} {xs : List Nat} (h : Dig B (x :: xs)) : Dig B xs := fun y hy => h y (List.mem_cons_of_mem _ hy)
theorem Dig.head {B x : Nat} {xs : List Nat} (h : Dig B (x :: xs)) : x < B := h x List.mem_cons_self
theorem Dig.one {B x : Nat} (h : x < B) : Dig B [x] := by intro y hy; simp at hy; omega
theorem Dig.set {B : Nat} {xs : List Nat} (h : Dig B xs) (i : Nat) {d : Nat} (hd : d < B) : Dig B (xs.set i d) := by
  intro x hx
  rcases List.mem_or_eq_of_mem_set hx with hx | hx
  · exact h x hx
  · omega
theorem Dig.replicate {B : Nat} (h : 0 < B) (n : Nat) : Dig B (List.replicate n 0) := by
  intro x hx; have := List.eq_of_mem_replicate hx; omega
theorem Dig.at {B : Nat} {xs : List Nat} (h : Dig B xs) (i : Nat) (hi : i < xs.length) : xs[i] < B := h _ (List.getElem_mem hi)

theorem val_replicate (B n : Nat) : val B (List.replicate n 0) = 0 := by
  induction n with
  | zero => rfl
  | succ n ih => simp [List.replicate_succ, val, ih]

theorem val_lt {B : Nat} {xs : List Nat} (h : Dig B xs) : val B xs < B ^ xs.length := by
  induction xs with
  | nil => simp [val]
  | cons x xs ih =>
    have h1 := h.head
    have h2 := ih h.tail
    simp only [val, List.length_cons, Nat.pow_succ]
    have : B * (val B xs + 1) ≤ B * B ^ xs.length := Nat.mul_le_mul_left B h2
    rw [Nat.mul_add] at this
    rw [Nat.mul_comm (B ^ xs.length) B]; omega

theorem val_take_drop (B : Nat) (xs : List Nat) (i : Nat) (hi : i ≤ xs.length) : val B xs = val B (xs.take i) + B ^ i * val B (xs.drop i) := by
  have h := val_append B (xs.take i) (xs.drop i)
  rw [List.take_append_drop, List.length_take, Nat.min_eq_left hi] at h
  exact h

theorem val_take_succ (B : Nat) (xs : List Nat) (i : Nat) (hi : i < xs.length) : val B (xs.take (i + 1)) = val B (xs.take i) + B ^ i * xs[i] := by
  rw [List.take_succ_eq_append_getElem hi, val_snoc, List.length_take, Nat.min_eq_left (Nat.le_of_lt hi)]

theorem val_drop (B : Nat) (xs : List Nat) (i : Nat) (hi : i < xs.length) : val B (xs.drop i) = xs[i] + B * val B (xs.drop (i + 1)) := by
  rw [List.drop_eq_getElem_cons hi, val_cons]

theorem val_take_all (B : Nat) (xs : List Nat) (i : Nat) (hi : xs.length ≤ i) : val B (xs.take i) = val B xs := by
  rw [List.take_of_length_le hi]

theorem val_set (B : Nat) (xs : List Nat) (i d : Nat) (hi : i < xs.length) : val B (xs.set i d) + B ^ i * xs[i] = val B xs + B ^ i * d := by
  induction xs generalizing i with
  | nil => simp at hi
  | cons x xs ih =>
    cases i with
    | zero => simp [val]; omega
    | succ i =>
      have h := ih i (by simpa using hi)
      simp only [List.set_cons_succ, val_cons, List.getElem_cons_succ, Nat.pow_succ]
      have e := congrArg (B * ·) h
      simp only [Nat.mul_add] at e
      rw [Nat.mul_comm (B ^ i) B, Nat.mul_assoc, Nat.mul_assoc]; omega

theorem take_set_eq {α : Type} (xs : List α) (i : Nat) (d : α) : (xs.set i d).take i = xs.take i := by
  rw [List.take_set_of_le (Nat.le_refl i)]

theorem val_take_set (B : Nat) (xs : List Nat) (i d : Nat) (hi : i < xs.length) : val B ((xs.set i d).take (i + 1)) = val B (xs.take i) + B ^ i * d := by
  rw [val_take_succ B _ i (by simpa using hi), take_set_eq, List.getElem_set_self]

/-- two lists of digits of one length that say the same are the same -/
theorem dig_ext {B : Nat} {xs ys : List Nat} (hx : Dig B xs) (hy : Dig B ys) (hl : xs.length = ys.length) (hv : val B xs = val B ys) : xs = ys := by
  induction xs generalizing ys with
  | nil => cases ys with
    | nil => rfl
    | cons y ys => simp at hl
  | cons x xs ih => cases ys with
    | nil => simp at hl
    | cons y ys =>
      have h1 := hx.head
      have h2 := hy.head
      simp only [val_cons] at hv
      have e1 : x = y := by
        have := congrArg (· % B) hv
        simpa [Nat.add_mul_mod_self_left, Nat.mod_eq_of_lt h1, Nat.mod_eq_of_lt h2] using this
      subst e1
      have e2 : val B xs = val B ys := Nat.eq_of_mul_eq_mul_left (show 0 < B by omega) (by omega)
      rw [ih hx.tail hy.tail (by simpa using hl) e2]

theorem canon_nil : Canon [] := by simp [Canon]

theorem Canon.last {xs : List Nat} (h : Canon xs) (hn : 0 < xs.length) : xs[xs.length - 1] ≠ 0 := by
  intro e
  apply h
  rw [List.getLast?_eq_getElem?, List.getElem?_eq_getElem (by omega), e]

theorem canon_of_last {xs : List Nat} (h : ∀ hn : 0 < xs.length, xs[xs.length - 1]'(by omega) ≠ 0) : Canon xs := by
  intro e
  rw [List.getLast?_eq_getElem?] at e
  obtain ⟨hn, he⟩ := List.getElem?_eq_some_iff.1 e
  exact h (by omega) he

/-- a number without noughts at its end has a least size -/
theorem Canon.ge {B : Nat} {xs : List Nat} (h : Canon xs) (hn : 0 < xs.length) : B ^ (xs.length - 1) ≤ val B xs := by
  have h1 := h.last hn
  have h2 := val_take_succ B xs (xs.length - 1) (by omega)
  rw [show xs.length - 1 + 1 = xs.length by omega, List.take_length] at h2
  rw [h2]
  have : B ^ (xs.length - 1) * 1 ≤ B ^ (xs.length - 1) * xs[xs.length - 1] := Nat.mul_le_mul_left _ (by omega)
  omega

theorem Canon.val_pos {B : Nat} (hB : 0 < B) {xs : List Nat} (h : Canon xs) (hn : 0 < xs.length) : 0 < val B xs :=
  Nat.lt_of_lt_of_le (Nat.pow_pos hB) (h.ge hn)

theorem pow_lt_of_lt {B a b : Nat} (hB : 0 < B) (h : B ^ a < B ^ b) : a < b := by
  rcases Nat.lt_or_ge a b with h' | h'
  · exact h'
  · have := Nat.pow_le_pow_right hB h'
    omega

theorem canon_len {B : Nat} (hB : 0 < B) {xs ys : List Nat} (hy : Dig B ys) (cx : Canon xs) (hv : val B xs ≤ val B ys) : xs.length ≤ ys.length := by
  rcases Nat.eq_zero_or_pos xs.length with h0 | h0
  · omega
  · have h1 := cx.ge (B := B) h0
    have h2 := val_lt hy
    have := pow_lt_of_lt hB (show B ^ (xs.length - 1) < B ^ ys.length by omega)
    omega

theorem canon_ext {B : Nat} (hB : 0 < B) {xs ys : List Nat} (hx : Dig B xs) (hy : Dig B ys) (cx : Canon xs) (cy : Canon ys) (hv : val B xs = val B ys) : xs = ys :=
  dig_ext hx hy (Nat.le_antisymm (canon_len hB hy cx (Nat.le_of_eq hv)) (canon_len hB hx cy (Nat.le_of_eq hv.symm))) hv

/-- limbs that count: at most n of them just where the number is below B to the n -/
theorem canon_len_le {B n : Nat} (hB : 1 < B) {xs : List Nat} (hx : Dig B xs) (cx : Canon xs) : xs.length ≤ n ↔ val B xs < B ^ n := by
  constructor
  · intro h
    exact Nat.lt_of_lt_of_le (val_lt hx) (Nat.pow_le_pow_right (by omega) h)
  · intro h
    rcases Nat.eq_zero_or_pos xs.length with h0 | h0
    · omega
    · have := pow_lt_of_lt (B := B) (by omega) (Nat.lt_of_le_of_lt (cx.ge h0) h)
      omega

/-- how many digits count -/
def trimN (xs : List Nat) : Nat → Nat
  | 0 => 0
  | n + 1 => if xs.getD n 0 = 0 then trimN xs n else n + 1

theorem trimN_le (xs : List Nat) (n : Nat) : trimN xs n ≤ n := by
  induction n with
  | zero => exact Nat.le_refl _
  | succ n ih => unfold trimN; split <;> omega

/-- without noughts at the end -/
def trim (xs : List Nat) : List Nat := xs.take (trimN xs xs.length)

theorem trimN_canon (xs : List Nat) (n : Nat) (h : n ≤ xs.length) : Canon (xs.take (trimN xs n)) := by
  induction n with
  | zero => simp [trimN, Canon]
  | succ n ih =>
    unfold trimN
    split
    · exact ih (by omega)
    · rename_i hz
      refine canon_of_last fun hn => ?_
      have hl : (xs.take (n + 1)).length = n + 1 := by rw [List.length_take]; omega
      simp only [hl, Nat.add_sub_cancel, List.getElem_take]
      simpa [List.getD_eq_getElem?_getD, List.getElem?_eq_getElem (show n < xs.length by omega)] using hz

theorem trimN_val (B : Nat) (xs : List Nat) (n : Nat) (h : n ≤ xs.length) : val B (xs.take (trimN xs n)) = val B (xs.take n) := by
  induction n with
  | zero => simp [trimN]
  | succ n ih =>
    unfold trimN
    split
    · rename_i hz
      rw [ih (by omega), val_take_succ B xs n (by omega)]
      have : xs[n] = 0 := by simpa [List.getD_eq_getElem?_getD, List.getElem?_eq_getElem (show n < xs.length by omega)] using hz
      rw [this]; simp
    · rfl

theorem trim_canon (xs : List Nat) : Canon (trim xs) := trimN_canon xs _ (Nat.le_refl _)
theorem trim_val (B : Nat) (xs : List Nat) : val B (trim xs) = val B xs := by
  unfold trim; rw [trimN_val B xs _ (Nat.le_refl _), List.take_length]
theorem trim_length (xs : List Nat) : (trim xs).length = trimN xs xs.length := by
  unfold trim; rw [List.length_take]; have := trimN_le xs xs.length; omega
theorem trim_dig {B : Nat} {xs : List Nat} (h : Dig B xs) : Dig B (trim xs) := h.take _


/-- how two numbers stand to one another -/
def cmp (a b : Nat) : Int := if a < b then -1 else if b < a then 1 else 0

theorem cmp_lt {a b : Nat} (h : a < b) : cmp a b = -1 := by unfold cmp; rw [if_pos h]
theorem cmp_gt {a b : Nat} (h : b < a) : cmp a b = 1 := by unfold cmp; rw [if_neg (by omega), if_pos h]
theorem cmp_eq (a : Nat) : cmp a a = 0 := by unfold cmp; rw [if_neg (by omega), if_neg (by omega)]
theorem cmp_neg {a b : Nat} : cmp a b < 0 ↔ a < b := by unfold cmp; split <;> (try split) <;> omega
theorem cmp_zero {a b : Nat} : cmp a b = 0 ↔ a = b := by unfold cmp; split <;> (try split) <;> omega
theorem cmp_pos {a b : Nat} : 0 < cmp a b ↔ b < a := by unfold cmp; split <;> (try split) <;> omega

theorem val_lt_of_len {B : Nat} (hB : 0 < B) {xs ys : List Nat} (hx : Dig B xs) (cy : Canon ys) (h : xs.length < ys.length) : val B xs < val B ys := by
  have h1 := val_lt hx
  have h2 := cy.ge (B := B) (by omega)
  have h3 : B ^ xs.length ≤ B ^ (ys.length - 1) := Nat.pow_le_pow_right hB (by omega)
  omega

theorem val_lt_at {B : Nat} {xs ys : List Nat} (hx : Dig B xs) (k : Nat) (hk : k < xs.length) (hk' : k < ys.length) (hd : val B (xs.drop (k + 1)) = val B (ys.drop (k + 1))) (h : xs[k] < ys[k]) : val B xs < val B ys := by
  rw [val_take_drop B xs k (by omega), val_take_drop B ys k (by omega), val_drop B xs k hk, val_drop B ys k hk', hd]
  have h1 := val_lt (hx.take k)
  rw [List.length_take, Nat.min_eq_left (by omega)] at h1
  have h2 : B ^ k * (xs[k] + 1 + B * val B (ys.drop (k + 1))) ≤ B ^ k * (ys[k] + B * val B (ys.drop (k + 1))) := Nat.mul_le_mul_left _ (by omega)
  have h3 : B ^ k * (xs[k] + 1 + B * val B (ys.drop (k + 1))) = B ^ k * (xs[k] + B * val B (ys.drop (k + 1))) + B ^ k := by
    rw [show xs[k] + 1 + B * val B (ys.drop (k + 1)) = (xs[k] + B * val B (ys.drop (k + 1))) + 1 by omega, Nat.mul_add, Nat.mul_one]
  omega

end Go.Proofs.Ytphbacggmhjmgaa.Pl

/- Plain arithmetic: two digits by one, in half digits. -/
namespace Go.Proofs.Ytphbacggmhjmgaa.Pl

/-- the guess of a half digit: not too small; not far off -/
structure DInv (a b u v q r : Nat) : Prop where
  sum : q * a + r = u
  rest : r < 4294967296
  over : u * 4294967296 + v < (q + 1) * (a * 4294967296 + b)
  near : q ≤ 4294967297
/-- the half digit -/
structure DRes (a b u v q : Nat) : Prop where
  low : q * (a * 4294967296 + b) ≤ u * 4294967296 + v
  over : u * 4294967296 + v < (q + 1) * (a * 4294967296 + b)

theorem dinv_init {a b u v : Nat} (ha : 2147483648 ≤ a) (ha' : a < 4294967296) (hb : b < 4294967296) (hv : v < 4294967296) (hu : u < a * 4294967296 + b) : DInv a b u v (u / a) (u - u / a * a) := by
  have h1 := Nat.div_add_mod u a
  have h2 := Nat.mod_lt u (show 0 < a by omega)
  have h3 : u / a * a = a * (u / a) := Nat.mul_comm _ _
  have h4 : (u / a + 1) * (a * 4294967296 + b) = a * (u / a) * 4294967296 + a * 4294967296 + (u / a + 1) * b := by grind
  refine ⟨by omega, by omega, by omega, ?_⟩
  have h5 : u / a < 4294967298 := by
    rw [Nat.div_lt_iff_lt_mul (by omega)]
    omega
  omega

theorem dinv_step {a b u v q r : Nat} (h : DInv a b u v q r) (hv : v < 4294967296) (hu : u < a * 4294967296 + b) (hc : 4294967296 ≤ q ∨ 4294967296 * r + v < q * b) :
    0 < q ∧ (q - 1) * a + (r + a) = u ∧ u * 4294967296 + v < (q - 1 + 1) * (a * 4294967296 + b) := by
  obtain ⟨h1, h2, h3, h4⟩ := h
  have hq : 0 < q := by
    rcases hc with h | h
    · omega
    · rcases Nat.eq_zero_or_pos q with h0 | h0
      · subst h0; omega
      · exact h0
  obtain ⟨p, rfl⟩ : ∃ p, q = p + 1 := ⟨q - 1, by omega⟩
  simp only [Nat.add_sub_cancel]
  refine ⟨hq, by grind, ?_⟩
  have e : (p + 1) * (a * 4294967296 + b) = ((p + 1) * a) * 4294967296 + (p + 1) * b := by grind
  rcases hc with h | h
  · have : 4294967296 * (a * 4294967296 + b) ≤ (p + 1) * (a * 4294967296 + b) := Nat.mul_le_mul_right _ h
    omega
  · rw [e]; omega

theorem dinv_next {a b u v q r : Nat} (h : DInv a b u v q r) (hv : v < 4294967296) (hu : u < a * 4294967296 + b) (hc : 4294967296 ≤ q ∨ 4294967296 * r + v < q * b) (hr : r + a < 4294967296) : DInv a b u v (q - 1) (r + a) := by
  obtain ⟨h1, h2, h3⟩ := dinv_step h hv hu hc
  have := h.near
  exact ⟨h2, hr, h3, by omega⟩

theorem dinv_break {a b u v q r : Nat} (h : DInv a b u v q r) (hb : b < 4294967296) (hv : v < 4294967296) (hu : u < a * 4294967296 + b) (hc : 4294967296 ≤ q ∨ 4294967296 * r + v < q * b) (hr : 4294967296 ≤ r + a) : DRes a b u v (q - 1) := by
  obtain ⟨h1, h2, h3⟩ := dinv_step h hv hu hc
  have hn := h.near
  refine ⟨?_, h3⟩
  have e : (q - 1) * (a * 4294967296 + b) = ((q - 1) * a) * 4294967296 + (q - 1) * b := by grind
  have h4 : (q - 1) * b ≤ 4294967296 * 4294967295 := Nat.mul_le_mul (by omega) (by omega)
  rw [e]; omega

theorem dinv_done {a b u v q r : Nat} (h : DInv a b u v q r) (hc : q * b ≤ 4294967296 * r + v) : DRes a b u v q := by
  obtain ⟨h1, h2, h3, h4⟩ := h
  refine ⟨?_, h3⟩
  have e : q * (a * 4294967296 + b) = (q * a) * 4294967296 + q * b := by grind
  rw [e]; omega

theorem dres_lt {a b u v q : Nat} (h : DRes a b u v q) (hv : v < 4294967296) (hu : u < a * 4294967296 + b) : q < 4294967296 := by
  rcases Nat.lt_or_ge q 4294967296 with h' | h'
  · exact h'
  · have := Nat.mul_le_mul_right (a * 4294967296 + b) h'
    have := h.low
    omega

/-- both half digits, put together -/
theorem div_join0 {Y R q0 v0 r : Nat} (hr : r = R * 4294967296 + v0 - q0 * Y) (l0 : q0 * Y ≤ R * 4294967296 + v0) : R * 4294967296 + v0 = q0 * Y + r := by omega
theorem div_join1 {D N P q1 q0 Y R r v0 : Nat} (hN : N * P = (q1 * Y + R) * D + v0) (e2 : R * D + v0 = q0 * Y + r) : N * P = (q1 * D + q0) * Y + r := by
  have e : (q1 * Y + R) * D = q1 * D * Y + R * D := by grind
  rw [hN, Nat.add_mul (q1 * D), e]; omega
theorem div_join {N y Y P a b U v1 v0 q1 q0 : Nat} (hy : 0 < y) (hP : 0 < P) (hY : Y = y * P) (hYab : Y = a * 4294967296 + b) (hN : N * P = (U * 4294967296 + v1) * 4294967296 + v0)
    (h1 : DRes a b U v1 q1) (h0 : DRes a b (U * 4294967296 + v1 - q1 * Y) v0 q0) :
    N / y = q1 * 4294967296 + q0 ∧ N % y = ((U * 4294967296 + v1 - q1 * Y) * 4294967296 + v0 - q0 * Y) / P := by
  have l1 := h1.low
  have l0 := h0.low
  have o0 := h0.over
  rw [← hYab] at l1 l0 o0
  obtain ⟨R, hR⟩ : ∃ R, R = U * 4294967296 + v1 - q1 * Y := ⟨_, rfl⟩
  rw [← hR] at l0 o0 ⊢
  have e1 : U * 4294967296 + v1 = q1 * Y + R := by omega
  obtain ⟨r, hr⟩ : ∃ r, r = R * 4294967296 + v0 - q0 * Y := ⟨_, rfl⟩
  rw [← hr]
  have e2 : R * 4294967296 + v0 = q0 * Y + r := div_join0 hr l0
  have hrY : r < Y := by
    rw [Nat.add_mul, Nat.one_mul] at o0
    omega
  have e3 : N * P = (q1 * 4294967296 + q0) * Y + r := div_join1 (by rw [hN, e1]) e2
  have hYP : (q1 * 4294967296 + q0) * Y = ((q1 * 4294967296 + q0) * y) * P := by
    rw [hY, Nat.mul_assoc]
  have hle : (q1 * 4294967296 + q0) * y ≤ N := by
    apply Nat.le_of_mul_le_mul_right _ hP
    omega
  have e4 : r = (N - (q1 * 4294967296 + q0) * y) * P := by
    rw [Nat.sub_mul]; omega
  have hlt : N - (q1 * 4294967296 + q0) * y < y := by
    apply Nat.lt_of_mul_lt_mul_right (a := P)
    rw [← e4, ← hY]; exact hrY
  have e5 : N = y * (q1 * 4294967296 + q0) + (N - (q1 * 4294967296 + q0) * y) := by
    rw [Nat.mul_comm y]; omega
  constructor
  · rw [e5, Nat.mul_add_div hy, Nat.div_eq_of_lt hlt, Nat.add_zero]
  · rw [e4, Nat.mul_div_cancel _ hP]
    conv => lhs; rw [e5]
    rw [Nat.mul_add_mod, Nat.mod_eq_of_lt hlt]


/-- The first two digits' quotient is not too small: 'hi' are the digits of u from place n - 2 on, 'v' those of the divisor. -/
theorem guess_over {B q r u2 u1 u0 v1 v0 U V lu lv P : Nat} (hsum : q * v1 + r = u2 * B + u1) (hlu : lu < P) (hU : U = lu + P * (u0 + B * (u1 + B * u2))) (hV : V = lv + P * (v0 + B * v1))
    (hc : r * B + u0 < q * v0) : U < q * V := by
  have h1 : q * V = q * lv + P * (q * v0 + B * (q * v1)) := by rw [hV]; grind
  have h2 : q * v0 + B * (q * v1) = q * v0 + B * (u2 * B + u1 - r) := by
    rw [show q * v1 = u2 * B + u1 - r by omega]
  have h3 : B * r + B * (u2 * B + u1 - r) = B * (u2 * B + u1) := by
    rw [← Nat.mul_add]; congr 1; omega
  have h4 : u0 + B * (u1 + B * u2) + 1 ≤ q * v0 + B * (q * v1) := by
    rw [h2]
    have e1 : B * (u1 + B * u2) = B * (u2 * B + u1) := by grind
    have e2 : r * B = B * r := Nat.mul_comm _ _
    omega
  have h5 := Nat.mul_le_mul_left P h4
  rw [h1, hU]
  rw [Nat.mul_add P _ 1, Nat.mul_one] at h5
  omega

/-- The first guess. -/
theorem guess_first {B q r u2 u1 u0 v1 v0 U V lu lv P : Nat} (hr : r < v1) (hsum : q * v1 + r = u2 * B + u1) (hu0 : u0 < B) (hlu : lu < P) (hU : U = lu + P * (u0 + B * (u1 + B * u2))) (hV : V = lv + P * (v0 + B * v1)) : U < (q + 1) * V := by
  have h1 : (q + 1) * v1 = u2 * B + u1 + (v1 - r) := by rw [Nat.add_mul, Nat.one_mul]; omega
  have h2 : P * (B * ((q + 1) * v1)) ≤ (q + 1) * V := by
    rw [hV]
    have : (q + 1) * (lv + P * (v0 + B * v1)) = P * (B * ((q + 1) * v1)) + (q + 1) * lv + P * ((q + 1) * v0) := by grind
    omega
  have h3 : u0 + B * (u1 + B * u2) + 1 ≤ B * ((q + 1) * v1) := by
    have e3 : B * (u2 * B + u1 + (v1 - r)) = B * (u2 * B + u1) + B * (v1 - r) := Nat.mul_add _ _ _
    rw [h1, e3]
    have e1 : B * (u1 + B * u2) = B * (u2 * B + u1) := by grind
    have e2 : B * 1 ≤ B * (v1 - r) := Nat.mul_le_mul_left B (by omega)
    omega
  have h5 := Nat.mul_le_mul_left P h3
  rw [Nat.mul_add P _ 1, Nat.mul_one] at h5
  omega

end Go.Proofs.Ytphbacggmhjmgaa.Pl

/- Plain arithmetic: long division digit by digit; shifting a number down. No program in sight. -/
namespace Go.Proofs.Ytphbacggmhjmgaa.Pl

theorem val_drop_zero {B V n : Nat} {xs : List Nat} (hV : V ≤ B ^ n) (h : val B xs < V) : val B (xs.drop n) = 0 := by
  rcases Nat.lt_or_ge n xs.length with hl | hl
  · rw [val_take_drop B xs n (by omega)] at h
    rcases Nat.eq_zero_or_pos (val B (xs.drop n)) with h0 | h0
    · exact h0
    · have : B ^ n * 1 ≤ B ^ n * val B (xs.drop n) := Nat.mul_le_mul_left _ h0
      omega
  · rw [List.drop_of_length_le hl]; rfl

/-- The partial rest at place j+1 is below V: so the n+1 digits from j on are below B times V, and what is above them is nought. -/
theorem long_pick {B V n j : Nat} {U : List Nat} (hd : Dig B U) (hj : j < U.length) (hV : V ≤ B ^ n) (h : val B (U.drop (j + 1)) < V) :
    val B ((U.drop j).take (n + 1)) < B * V ∧ val B ((U.drop j).take (n + 1)) = val B (U.drop j) ∧ val B (U.drop (j + n + 1)) = 0 := by
  have h0 := val_drop_zero hV h
  rw [List.drop_drop, show j + 1 + n = j + n + 1 by omega] at h0
  have h1 := val_drop B U j hj
  have h2 := hd.at j hj
  have h3 : B * (val B (U.drop (j + 1)) + 1) ≤ B * V := Nat.mul_le_mul_left _ h
  rw [Nat.mul_add] at h3
  have h4 : val B ((U.drop j).take (n + 1)) = val B (U.drop j) := by
    rcases Nat.lt_or_ge (U.drop j).length (n + 1) with hl | hl
    · rw [List.take_of_length_le (by omega)]
    · rw [val_take_drop B (U.drop j) (n + 1) hl, List.drop_drop, show j + (n + 1) = j + n + 1 by omega, h0]; simp
  exact ⟨by omega, h4, h0⟩

/-- One digit more of the quotient. -/
theorem long_step {B V T j : Nat} {pre us us' post q : List Nat} {Q : Nat} (hp : pre.length = j) (hj : j < q.length) (hpost : val B post = 0) (hQ : val B us = Q * V + val B us')
    (h : val B (pre ++ us ++ post) + B ^ (j + 1) * (val B (q.drop (j + 1)) * V) = T) :
    val B (pre ++ us' ++ post) + B ^ j * (val B ((q.set j Q).drop j) * V) = T := by
  have e1 : ∀ xs : List Nat, val B (pre ++ xs ++ post) = val B pre + B ^ j * val B xs := by
    intro xs; rw [val_append, val_append, hpost, hp]; simp
  have e2 : val B ((q.set j Q).drop j) = Q + B * val B (q.drop (j + 1)) := by
    rw [val_drop B _ j (by simpa using hj), List.getElem_set_self, List.drop_set_of_lt (by omega)]
  rw [e1, hQ, Nat.pow_succ] at h
  rw [e1, e2, ← h]
  simp only [Nat.mul_add, Nat.add_mul, Nat.mul_assoc]
  omega

theorem long_rest {B j : Nat} {pre us' post : List Nat} (hp : pre.length = j) (hpost : val B post = 0) : val B ((pre ++ us' ++ post).drop j) = val B us' := by
  rw [List.append_assoc, List.drop_append_of_le_length (by omega), List.drop_of_length_le (by omega), List.nil_append, val_append, hpost]; simp

/-- the first partial rest is below the divisor -/
theorem long_first {B a b n m s : Nat} {U : List Nat} (hU : val B U = a * s) (ha : a < B ^ m) (hb : B ^ (n - 1) ≤ b) (hn : 1 ≤ n) (hnm : n ≤ m) (hs : 0 < s) (hl : m - n + 1 ≤ U.length) :
    val B (U.drop (m - n + 1)) < b * s := by
  have h1 := val_take_drop B U (m - n + 1) hl
  have h2 : a * s < B ^ m * s := Nat.mul_lt_mul_of_pos_right ha hs
  have h3 : B ^ m = B ^ (m - n + 1) * B ^ (n - 1) := by rw [← Nat.pow_add]; congr 1; omega
  have h4 : B ^ (m - n + 1) * val B (U.drop (m - n + 1)) < B ^ (m - n + 1) * (B ^ (n - 1) * s) := by
    rw [← Nat.mul_assoc, ← h3]; omega
  have h5 := Nat.lt_of_mul_lt_mul_left h4
  have h6 : B ^ (n - 1) * s ≤ b * s := Nat.mul_le_mul_right _ hb
  omega

/-- the end: quotient and rest -/
theorem long_end {B a b s : Nat} {U q : List Nat} (hs : 0 < s) (hb : 0 < b) (hr : val B U < b * s) (h : val B U + B ^ 0 * (val B (q.drop 0) * (b * s)) = a * s) : val B q = a / b ∧ val B U = a % b * s := by
  simp only [Nat.pow_zero, Nat.one_mul, List.drop_zero] at h
  have hbs : 0 < b * s := Nat.mul_pos hb hs
  have h1 : a * s / (b * s) = val B q := by
    rw [← h, Nat.add_mul_div_right _ _ hbs, Nat.div_eq_of_lt hr, Nat.zero_add]
  have h2 : a * s % (b * s) = val B U := by
    rw [← h, Nat.add_mul_mod_self_right, Nat.mod_eq_of_lt hr]
  rw [Nat.mul_div_mul_right _ _ hs] at h1
  rw [Nat.mul_mod_mul_right] at h2
  exact ⟨h1.symm, h2.symm⟩

/-- shifting down: one digit -/
theorem down_step {D E B : Nat} {xs : List Nat} {i : Nat} (hDE : B = D * E) (hD : 0 < D) (hi : i < xs.length) :
    val B (xs.drop i) / D = xs[i] / D + E * (val B (xs.drop (i + 1)) % D) + B * (val B (xs.drop (i + 1)) / D) := by
  rw [val_drop B xs i hi]
  generalize val B (xs.drop (i + 1)) = X
  have e : xs[i] + B * X = xs[i] + D * (E * X) := by rw [hDE, Nat.mul_assoc]
  rw [e, Nat.add_mul_div_left _ _ hD]
  have h := Nat.mod_add_div X D
  have e2 : E * X = E * (X % D) + B * (X / D) := by
    rw [hDE, Nat.mul_comm D E, Nat.mul_assoc, ← Nat.mul_add, h]
  omega
theorem down_mod {D E B : Nat} {xs : List Nat} {i : Nat} (hDE : B = D * E) (hi : i < xs.length) : val B (xs.drop i) % D = xs[i] % D := by
  rw [val_drop B xs i hi, hDE, Nat.mul_assoc, Nat.add_mul_mod_self_left]
theorem down_mod_end {D B : Nat} {xs : List Nat} {i : Nat} (hi : xs.length ≤ i) : val B (xs.drop i) % D = 0 := by
  rw [List.drop_of_length_le hi]; simp [val]

theorem down_inv {D E B T i d : Nat} {xs outs : List Nat} (hDE : B = D * E) (hD : 0 < D) (hi : i < xs.length) (hio : i < outs.length) (hd : d = xs[i] / D + E * (val B (xs.drop (i + 1)) % D))
    (h : val B (outs.take i) + B ^ i * (val B (xs.drop i) / D) = T) : val B ((outs.set i d).take (i + 1)) + B ^ (i + 1) * (val B (xs.drop (i + 1)) / D) = T := by
  rw [down_step hDE hD hi, ← hd] at h
  rw [val_take_set B outs i d hio, Nat.pow_succ, Nat.mul_assoc, Nat.add_assoc, ← Nat.mul_add]
  exact h
theorem down_lt {D E B x X : Nat} (hDE : B = D * E) (hD : 0 < D) (hx : x < B) : x / D + E * (X % D) < B := by
  have h1 : x / D < E := by rw [Nat.div_lt_iff_lt_mul hD, Nat.mul_comm, ← hDE]; exact hx
  have h2 : X % D + 1 ≤ D := Nat.mod_lt _ hD
  have h3 : E * (X % D + 1) ≤ E * D := Nat.mul_le_mul_left _ h2
  rw [Nat.mul_comm E D, ← hDE, Nat.mul_add] at h3
  omega

end Go.Proofs.Ytphbacggmhjmgaa.Pl

/- Plain arithmetic: Montgomery's way of reckoning modulo an odd number. No program in sight. -/
namespace Go.Proofs.Ytphbacggmhjmgaa.Pl

theorem val_pos_take {B n : Nat} {t : List Nat} (ht : t.length = n + 2) : val B t = val B (t.take (n + 1)) + B ^ (n + 1) * t[n + 1] := by
  have := val_take_succ B t (n + 1) (by omega)
  rwa [show n + 1 + 1 = t.length by omega, List.take_length] at this

/-- the first inner loop: a digit -/
theorem mont_one {B n j c lo hi x y T : Nat} {t : List Nat} {a : List Nat} (ht : t.length = n + 2) (hj : j < n) (hja : j < a.length) (hx : a[j] = x) (hs : lo + B * hi = x * y + t[j]'(by omega) + c)
    (h : val B (t.take (n + 1)) + B ^ j * c = T + val B (a.take j) * y) : val B ((t.set j lo).take (n + 1)) + B ^ (j + 1) * hi = T + val B (a.take (j + 1)) * y := by
  have h1 := val_set B (t.take (n + 1)) j lo (by rw [List.length_take]; omega)
  rw [List.getElem_take] at h1
  rw [List.take_set, val_take_succ B a j hja, hx, Nat.add_mul, ← Nat.add_assoc, ← h, Nat.pow_succ]
  have e := congrArg (B ^ j * ·) hs
  simp only [Nat.mul_add] at e
  rw [Nat.mul_assoc, Nat.mul_assoc]
  omega

/-- the top digit and the carry -/
theorem mont_top {B n c lo hi T : Nat} {t : List Nat} (ht : t.length = n + 2) (hs : lo + B * hi = t[n]'(by omega) + c) (h : val B (t.take (n + 1)) + B ^ n * c = T) :
    val B ((t.set n lo).set (n + 1) hi) = T := by
  have h1 := val_set B (t.take (n + 1)) n lo (by rw [List.length_take]; omega)
  rw [List.getElem_take] at h1
  rw [val_pos_take (t := (t.set n lo).set (n + 1) hi) (n := n) (by simpa using ht), List.getElem_set_self, List.take_set_of_le (by omega), List.take_set, ← h, Nat.pow_succ]
  have e := congrArg (B ^ n * ·) hs
  simp only [Nat.mul_add] at e
  rw [Nat.mul_assoc]
  omega

/-- the second inner loop begins -/
theorem mont_start {B n q m0 c T : Nat} {t ms : List Nat} (ht : t.length = n + 2) (hm : 0 < ms.length) (hm0 : ms[0] = m0) (hs : B * c = q * m0 + t[0]'(by omega)) (hT : val B t = T) :
    B * val B (t.take 0) + B ^ 1 * (c + val B (t.drop 1)) = T + q * val B (ms.take 1) := by
  have h1 := val_drop B t 0 (by omega)
  rw [List.drop_zero, hT] at h1
  rw [val_take_succ B ms 0 hm, hm0, List.take_zero, List.take_zero, val_nil, Nat.pow_one, Nat.mul_add, hs, h1]
  simp
  omega

/-- the second inner loop: a digit, j + 1 the place that is read -/
theorem mont_two {B j q mj c lo hi T : Nat} {t ms : List Nat} (hj : j + 1 < t.length) (hjm : j + 1 < ms.length) (hm : ms[j + 1] = mj) (hs : lo + B * hi = q * mj + t[j + 1] + c)
    (h : B * val B (t.take j) + B ^ (j + 1) * (c + val B (t.drop (j + 1))) = T + q * val B (ms.take (j + 1))) :
    B * val B ((t.set j lo).take (j + 1)) + B ^ (j + 2) * (hi + val B ((t.set j lo).drop (j + 2))) = T + q * val B (ms.take (j + 2)) := by
  have h1 := val_drop B t (j + 1) hj
  rw [h1] at h
  rw [val_take_set B t j lo (by omega), List.drop_set_of_lt (by omega), val_take_succ B ms (j + 1) hjm, hm, Nat.mul_add q, ← Nat.add_assoc, ← h, show j + 2 = j + 1 + 1 from rfl, Nat.pow_succ B (j + 1)]
  have e := congrArg (B ^ (j + 1) * ·) hs
  simp only [Nat.mul_add] at e ⊢
  have e1 : B * (B ^ j * lo) = B ^ (j + 1) * lo := by rw [Nat.pow_succ, Nat.mul_comm (B ^ j) B, Nat.mul_assoc]
  have e2 : q * (B ^ (j + 1) * mj) = B ^ (j + 1) * (q * mj) := by rw [Nat.mul_left_comm]
  have e3 : B ^ (j + 1) * B * hi = B ^ (j + 1) * (B * hi) := Nat.mul_assoc _ _ _
  have e4 : B ^ (j + 1) * B * val B (t.drop (j + 1 + 1)) = B ^ (j + 1) * (B * val B (t.drop (j + 1 + 1))) := Nat.mul_assoc _ _ _
  rw [e1, e2, e3, e4]
  omega

/-- a round's end -/
theorem mont_round {B n q m c lo hi T u : Nat} {t ms : List Nat} (ht : t.length = n + 2) (hn : 0 < n) (hml : ms.length = n) (hm : val B ms = m) (hs : lo + B * hi = t[n]'(by omega) + c) (hu : u = t[n + 1]'(by omega) + hi)
    (h : B * val B (t.take (n - 1)) + B ^ n * (c + val B (t.drop n)) = T + q * val B (ms.take n)) :
    B * val B (((t.set (n - 1) lo).set n u).take (n + 1)) = T + q * m := by
  have h1 := val_drop B t n (by omega)
  have h2 := val_drop B t (n + 1) (by omega)
  rw [List.drop_of_length_le (i := n + 1 + 1) (by omega), val_nil] at h2
  rw [h1, h2] at h
  rw [List.take_of_length_le (l := ms) (by omega), hm] at h
  rw [val_take_succ B _ n (by simp; omega), List.getElem_set_self, List.take_set_of_le (by omega), ← h]
  have h3 : val B ((t.set (n - 1) lo).take n) = val B (t.take (n - 1)) + B ^ (n - 1) * lo := by
    have := val_take_set B t (n - 1) lo (by omega)
    rwa [show n - 1 + 1 = n by omega] at this
  rw [h3, hu]
  have e0 : B ^ n = B ^ (n - 1) * B := by rw [← Nat.pow_succ]; congr 1; omega
  have e := congrArg (B ^ n * ·) hs
  simp only [Nat.mul_add] at e ⊢
  have e1 : B * (B ^ (n - 1) * lo) = B ^ n * lo := by rw [e0, Nat.mul_comm (B ^ (n - 1)) B, Nat.mul_assoc]
  have e2 : B * (B ^ n * t[n + 1]) = B ^ n * (B * t[n + 1]) := Nat.mul_left_comm _ _ _
  have e3 : B * (B ^ n * hi) = B ^ n * (B * hi) := Nat.mul_left_comm _ _ _
  rw [e1, e2, e3]
  simp only [Nat.mul_zero, Nat.add_zero] at *
  omega

/-- the partial product stays small -/
theorem mont_small {B A m T T' y q : Nat} (hy : y < B) (hq : q < B) (hT : T < A + m) (h : B * T' = T + A * y + q * m) : T' < A + m := by
  have h1 : A * y + A ≤ A * B := by rw [← Nat.mul_succ]; exact Nat.mul_le_mul_left _ hy
  have h2 : q * m + m ≤ B * m := by rw [← Nat.succ_mul]; exact Nat.mul_le_mul_right _ hq
  have h3 : B * T' < B * (A + m) := by rw [h, Nat.mul_add, Nat.mul_comm B A]; omega
  exact Nat.lt_of_mul_lt_mul_left h3
theorem mont_part {B A m T T' y q i Q : Nat} {b : List Nat} (hi : i < b.length) (hy : b[i] = y) (h : B * T' = T + A * y + q * m) (hQ : B ^ i * T = A * val B (b.take i) + Q * m) :
    B ^ (i + 1) * T' = A * val B (b.take (i + 1)) + (Q + B ^ i * q) * m := by
  rw [val_take_succ B b i hi, hy, Nat.pow_succ, Nat.mul_assoc, h]
  simp only [Nat.mul_add, Nat.add_mul]
  rw [hQ, Nat.mul_left_comm (B ^ i) A y, Nat.mul_assoc (B ^ i) q m]
  omega

/-- taking the modulus off -/
theorem mont_off {B n j c d c' x : Nat} {t ms : List Nat} {T : Nat} (hj : j < n) (htl : n ≤ t.length) (hjm : j < ms.length) (hx : ms[j] = x) (hs : d + x + c = t[j]'(by omega) + B * c')
    (h : val B (t.take n) + val B (ms.take j) = T + B ^ j * c) : val B ((t.set j d).take n) + val B (ms.take (j + 1)) = T + B ^ (j + 1) * c' := by
  have h1 := val_set B (t.take n) j d (by rw [List.length_take]; omega)
  rw [List.getElem_take] at h1
  rw [List.take_set, val_take_succ B ms j hjm, hx, Nat.pow_succ]
  have e := congrArg (B ^ j * ·) hs
  simp only [Nat.mul_add] at e
  rw [Nat.mul_assoc]
  omega
theorem mont_offEnd {R m T P c t : Nat} (hP : P < R) (hT : T < 2 * m) (hm : m < R) (hge : m ≤ T) {lo : Nat} (hTT : T = lo + R * t) (h : P + m = lo + R * c) : P = T - m := by
  rcases Nat.lt_trichotomy t c with h1 | h1 | h1
  · have : R * (t + 1) ≤ R * c := Nat.mul_le_mul_left _ h1
    rw [Nat.mul_add] at this; omega
  · subst h1; omega
  · have : R * (c + 1) ≤ R * t := Nat.mul_le_mul_left _ h1
    rw [Nat.mul_add] at this; omega

/-- what makes 1 of B^n modulo m, B = 2^64 -/
def rinv (m n : Nat) : Nat := ((m + 1) / 2) ^ (64 * n) % m
theorem rinv_spec {m n : Nat} (hm : m % 2 = 1) (hm1 : 1 < m) : (18446744073709551616 ^ n * rinv m n) % m = 1 := by
  have e : 18446744073709551616 ^ n = 2 ^ (64 * n) := by rw [Nat.pow_mul]
  unfold rinv
  rw [e, Nat.mul_mod, Nat.mod_mod, ← Nat.mul_mod, ← Nat.mul_pow, show 2 * ((m + 1) / 2) = m + 1 by omega, Nat.pow_mod, Nat.add_mod_left, Nat.mod_eq_of_lt hm1, Nat.one_pow, Nat.mod_eq_of_lt hm1]
/-- the product's rest -/
theorem mont_rest {m n P X : Nat} (hm : m % 2 = 1) (hm1 : 1 < m) (hP : P < m) (h : 18446744073709551616 ^ n * P % m = X % m) : P = X * rinv m n % m := by
  have h1 := rinv_spec (n := n) hm hm1
  have h2 : X * rinv m n % m = P * (18446744073709551616 ^ n * rinv m n) % m := by
    rw [Nat.mul_mod, ← h, ← Nat.mul_mod, ← Nat.mul_assoc, Nat.mul_comm P]
  rw [h2, Nat.mul_mod, h1, Nat.mul_one, Nat.mod_mod, Nat.mod_eq_of_lt hP]
theorem mont_cong {m R T X Q : Nat} (h : R * T = X + Q * m) : R * T % m = X % m := by rw [h, Nat.add_mul_mod_self_right]
theorem mont_congSub {m R T P X Q : Nat} (hT : T = P + m) (h : R * T = X + Q * m) : R * P % m = X % m := by
  rw [← mont_cong h, hT, Nat.mul_add, Nat.add_mul_mod_self_right]

/-- Newton's way to what makes -1 of an odd digit -/
theorem newton_step {x a K : Nat} {M : Nat} (hM : M = K * K) (h : a * x % K = 1 % K) {y : Nat} (hy : (y + x * (a * x)) % M = 2 * x % M) : a * y % M = 1 % M := by
  obtain ⟨d, hd⟩ : ∃ d : Int, (a : Int) * x = 1 + K * d := by
    refine ⟨((a * x : Nat) : Int) / K - (1 : Int) / K, ?_⟩
    have e1 := Int.emod_add_mul_ediv ((a * x : Nat) : Int) K
    have e2 := Int.emod_add_mul_ediv (1 : Int) K
    have e3 : ((a * x : Nat) : Int) % K = (1 : Int) % K := by exact_mod_cast h
    rw [Int.mul_sub]
    push_cast at *
    omega
  obtain ⟨f, hf⟩ : ∃ f : Int, (y : Int) + x * (a * x) = 2 * x + M * f := by
    refine ⟨((y + x * (a * x) : Nat) : Int) / M - ((2 * x : Nat) : Int) / M, ?_⟩
    have e1 := Int.emod_add_mul_ediv ((y + x * (a * x) : Nat) : Int) M
    have e2 := Int.emod_add_mul_ediv ((2 * x : Nat) : Int) M
    have e3 : ((y + x * (a * x) : Nat) : Int) % M = ((2 * x : Nat) : Int) % M := by exact_mod_cast hy
    rw [Int.mul_sub]
    push_cast at *
    omega
  have e : (a : Int) * y = 1 + M * (a * f - d * d) := by
    have h1 : (a : Int) * y = a * (2 * x + M * f - x * (a * x)) := by rw [← hf]; congr 1; omega
    have h2 : (a : Int) * (2 * x + M * f - x * (a * x)) = 2 * (a * x) - (a * x) * (a * x) + M * (a * f) := by
      simp only [Int.mul_sub, Int.mul_add]
      simp only [Int.mul_comm, Int.mul_left_comm, Int.mul_assoc]
      omega
    have hpp : ((K : Int) * K) * (d * d) = (K * d) * (K * d) := by simp only [Int.mul_comm, Int.mul_left_comm, Int.mul_assoc]
    rw [h1, h2, hd, hM]
    push_cast
    rw [Int.mul_sub, hpp]
    generalize (K : Int) * d = p
    simp only [Int.mul_add, Int.add_mul, Int.one_mul, Int.mul_one]
    omega
  have : ((a * y : Nat) : Int) % M = (1 : Int) % M := by
    push_cast
    rw [e, Int.add_mul_emod_self_left]
  exact_mod_cast this

theorem ri_cancel {R ri m : Nat} (h : R * ri % m = 1) (z : Nat) : z * R * ri % m = z % m := by
  rw [Nat.mul_assoc, Nat.mul_mod, h, Nat.mul_one, Nat.mod_mod]
theorem mod_mul_mid (x y z m : Nat) : x * (y % m) * z % m = x * y * z % m := by
  rw [Nat.mul_mod, Nat.mul_mod x, Nat.mod_mod, ← Nat.mul_mod x, ← Nat.mul_mod]
theorem mod_mul_left' (x y z m : Nat) : x % m * y * z % m = x * y * z % m := by
  rw [Nat.mul_mod, Nat.mul_mod (x % m), Nat.mod_mod, ← Nat.mul_mod x, ← Nat.mul_mod]
/-- into Montgomery's form -/
theorem mont_in {R ri m : Nat} (h : R * ri % m = 1) (x : Nat) : x * (R * R % m) * ri % m = x * R % m := by
  rw [mod_mul_mid, ← Nat.mul_assoc, ri_cancel h]
theorem mont_mid {R ri m : Nat} (h : R * ri % m = 1) (x y : Nat) : (x * R % m) * (y * R % m) * ri % m = x * y * R % m := by
  rw [mod_mul_mid, mod_mul_left', ← Nat.mul_assoc, ri_cancel h, Nat.mul_right_comm]
theorem mont_out {R ri m : Nat} (h : R * ri % m = 1) (x y : Nat) : (x * R % m) * y * ri % m = x * y % m := by
  rw [mod_mul_left', Nat.mul_right_comm x, ri_cancel h]
theorem mont_all {R ri m : Nat} (h : R * ri % m = 1) (a b : Nat) : (a % m * (R * R % m) * ri % m) * (b % m) * ri % m = a * b % m := by
  rw [mont_in h, mont_out h, ← Nat.mul_mod]

end Go.Proofs.Ytphbacggmhjmgaa.Pl

/- Plain numbers: primes, Fermat's little theorem, what proves a prime. -/
namespace Go.Proofs.Ytphbacggmhjmgaa.Num

structure Pr (p : Nat) : Prop where
  two : 2 ≤ p
  only : ∀ d, d ∣ p → d = 1 ∨ d = p

theorem Pr.pos {p : Nat} (h : Pr p) : 0 < p := by have := h.two; omega
theorem Pr.coprime {p a : Nat} (h : Pr p) (ha : ¬ p ∣ a) : Nat.Coprime p a := by
  rcases h.only _ (Nat.gcd_dvd_left p a) with h1 | h1
  · exact h1
  · exact absurd (h1 ▸ Nat.gcd_dvd_right p a) ha
theorem Pr.mul {p a b : Nat} (h : Pr p) (hab : p ∣ a * b) : p ∣ a ∨ p ∣ b := by
  by_cases ha : p ∣ a
  · exact .inl ha
  · exact .inr ((h.coprime ha).dvd_of_dvd_mul_left hab)
theorem Pr.pow {p a : Nat} (h : Pr p) : ∀ {n : Nat}, p ∣ a ^ n → p ∣ a
  | 0, hn => by have := Nat.le_of_dvd (by simp) hn; have := h.two; simp at *; omega
  | n + 1, hn => by
    rw [Nat.pow_succ] at hn
    exact (h.mul hn).elim h.pow id

/-- how many ways -/
def C : Nat → Nat → Nat
  | _, 0 => 1
  | 0, _ + 1 => 0
  | n + 1, k + 1 => C n k + C n (k + 1)
theorem C_zero (n : Nat) : C n 0 = 1 := by cases n <;> rfl
theorem C_over : ∀ (n k : Nat), n < k → C n k = 0
  | 0, k + 1, _ => rfl
  | n + 1, k + 1, h => by rw [C, C_over n k (by omega), C_over n (k + 1) (by omega)]
theorem C_self : ∀ n : Nat, C n n = 1
  | 0 => rfl
  | n + 1 => by rw [C, C_self n, C_over n (n + 1) (by omega)]
theorem C_step : ∀ n k : Nat, (k + 1) * C (n + 1) (k + 1) = (n + 1) * C n k
  | 0, 0 => rfl
  | 0, k + 1 => by simp [C]
  | n + 1, 0 => by
    have h := C_step n 0
    simp only [C_zero, Nat.zero_add, Nat.one_mul, Nat.mul_one] at h ⊢
    rw [C, h, C_zero]; omega
  | n + 1, k + 1 => by
    have h1 := C_step n k
    have h2 := C_step n (k + 1)
    rw [C, Nat.mul_add, h2, Nat.add_mul (k + 1) 1, h1, C]
    have e : C (n + 1) (k + 1) = C n k + C n (k + 1) := rfl
    rw [show (n + 1 + 1) * (C n k + C n (k + 1)) = (n + 1) * C n k + (n + 1) * C n (k + 1) + (C n k + C n (k + 1)) by rw [Nat.add_mul (n + 1) 1, Nat.mul_add]; omega]
    omega

def Sm (f : Nat → Nat) : Nat → Nat
  | 0 => 0
  | n + 1 => Sm f n + f n
theorem Sm_add (f g : Nat → Nat) : ∀ n, Sm (fun k => f k + g k) n = Sm f n + Sm g n
  | 0 => rfl
  | n + 1 => by simp only [Sm, Sm_add f g n]; omega
theorem Sm_mul (c : Nat) (f : Nat → Nat) : ∀ n, Sm (fun k => c * f k) n = c * Sm f n
  | 0 => rfl
  | n + 1 => by simp only [Sm, Sm_mul c f n, Nat.mul_add]
theorem Sm_head (f : Nat → Nat) : ∀ n, Sm f (n + 1) = f 0 + Sm (fun k => f (k + 1)) n
  | 0 => by simp [Sm]
  | n + 1 => by rw [Sm, Sm_head f n, Sm]; omega
theorem Sm_congr {f g : Nat → Nat} : ∀ n, (∀ k, k < n → f k = g k) → Sm f n = Sm g n
  | 0, _ => rfl
  | n + 1, h => by rw [Sm, Sm, Sm_congr n (fun k hk => h k (by omega)), h n (by omega)]
theorem Sm_dvd {f : Nat → Nat} {p : Nat} : ∀ n, (∀ k, k < n → p ∣ f k) → p ∣ Sm f n
  | 0, _ => Nat.dvd_zero p
  | n + 1, h => Nat.dvd_add (Sm_dvd n fun k hk => h k (by omega)) (h n (by omega))

theorem binom (a : Nat) : ∀ n : Nat, (a + 1) ^ n = Sm (fun k => C n k * a ^ k) (n + 1)
  | 0 => by simp [Sm, C]
  | n + 1 => by
    rw [Sm_head, C_zero, Nat.pow_zero, Nat.pow_succ, binom a n, Nat.mul_add, Nat.mul_one]
    have e1 : Sm (fun k => C (n + 1) (k + 1) * a ^ (k + 1)) (n + 1) = Sm (fun k => C n k * a ^ k) (n + 1) * a + Sm (fun k => C n (k + 1) * a ^ (k + 1)) (n + 1) := by
      rw [Nat.mul_comm, ← Sm_mul, ← Sm_add]
      refine Sm_congr _ fun k _ => ?_
      rw [C, Nat.add_mul, Nat.pow_succ, ← Nat.mul_assoc, Nat.mul_comm a]
    have e2 : Sm (fun k => C n (k + 1) * a ^ (k + 1)) (n + 1) + 1 = Sm (fun k => C n k * a ^ k) (n + 1) := by
      have h := Sm_head (fun k => C n k * a ^ k) (n + 1)
      rw [Sm, C_over n (n + 1) (by omega), C_zero] at h
      simp only [Nat.zero_mul, Nat.add_zero, Nat.pow_zero, Nat.mul_one] at h
      omega
    rw [e1]
    omega

/-- Fermat: a to the p is a. -/
theorem fermat {p : Nat} (hp : Pr p) : ∀ a : Nat, a ^ p % p = a % p
  | 0 => by rw [Nat.zero_pow hp.pos]
  | a + 1 => by
    have ih := fermat hp a
    obtain ⟨m, hm⟩ : ∃ m, p = m + 1 := ⟨p - 1, by have := hp.pos; omega⟩
    have h := binom a p
    rw [Sm, C_self, Nat.one_mul] at h
    have e : Sm (fun k => C p k * a ^ k) p = 1 + Sm (fun k => C p (k + 1) * a ^ (k + 1)) m := by
      conv => lhs; rw [hm]
      rw [Sm_head, C_zero]; simp [← hm]
    have hd : p ∣ Sm (fun k => C p (k + 1) * a ^ (k + 1)) m := by
      refine Sm_dvd m fun k hk => Nat.dvd_mul_right_of_dvd ?_ _
      have h1 := C_step m k
      rw [← hm] at h1
      have h2 : p ∣ (k + 1) * C p (k + 1) := h1 ▸ Nat.dvd_mul_right _ _
      rcases hp.mul h2 with h3 | h3
      · have := Nat.le_of_dvd (by omega) h3; omega
      · exact h3
    obtain ⟨q, hq⟩ := hd
    rw [h, e, hq, show 1 + p * q + a ^ p = a ^ p + 1 + p * q by omega, Nat.add_mul_mod_self_left, Nat.add_mod, ih, ← Nat.add_mod]
theorem fermat_one {p a : Nat} (hp : Pr p) (ha : ¬ p ∣ a) : a ^ (p - 1) % p = 1 := by
  have h := fermat hp a
  obtain ⟨m, hm⟩ : ∃ m, p = m + 1 := ⟨p - 1, by have := hp.pos; omega⟩
  have hle : 1 ≤ a ^ m := Nat.pos_of_ne_zero fun e => ha (by
    have : a = 0 := by
      rcases Nat.eq_zero_or_pos a with h | h
      · exact h
      · exact absurd e (Nat.pos_iff_ne_zero.1 (Nat.pow_pos h))
    subst this; exact Nat.dvd_zero _)
  have hs : p ∣ a * (a ^ m - 1) := by
    rw [Nat.mul_sub, Nat.mul_one, Nat.mul_comm, ← Nat.pow_succ]
    have e : m + 1 = p := hm.symm
    rw [show a ^ (m + 1) = a ^ p by rw [e]]
    exact Nat.dvd_of_mod_eq_zero (Nat.sub_mod_eq_zero_of_mod_eq h)
  have h2 := (hp.mul hs).resolve_left ha
  rw [show p - 1 = m by omega]
  obtain ⟨c, hc⟩ := h2
  rw [show a ^ m = 1 + p * c by omega, Nat.add_mul_mod_self_left, Nat.mod_eq_of_lt (by have := hp.two; omega)]

/-- What 1 is to two powers is 1 to the power of their greatest common divisor. -/
theorem one_gcd {P a : Nat} (hP : 2 ≤ P) : ∀ m n : Nat, a ^ m % P = 1 → a ^ n % P = 1 → a ^ Nat.gcd m n % P = 1 := by
  intro m n
  induction m, n using Nat.gcd.induction with
  | H0 n => intro _ h; rwa [Nat.gcd_zero_left]
  | H1 m n hm ih =>
    intro h1 h2
    rw [Nat.gcd_rec]
    refine ih ?_ h1
    have e : a ^ n = (a ^ m) ^ (n / m) * a ^ (n % m) := by
      rw [← Nat.pow_mul, ← Nat.pow_add, Nat.div_add_mod]
    rw [e, Nat.mul_mod, Nat.pow_mod (a ^ m), h1, Nat.one_pow, Nat.mod_eq_of_lt (show 1 < P by omega), Nat.one_mul, Nat.mod_mod] at h2
    exact h2

theorem Pr.divisor : ∀ (f n : Nat), n ≤ f → 2 ≤ n → ∃ p, Pr p ∧ p ∣ n
  | 0, n, h, h2 => by omega
  | f + 1, n, h, h2 => by
    by_cases hc : ∃ d, d ∣ n ∧ d ≠ 1 ∧ d ≠ n
    · obtain ⟨d, hd, h1, hn⟩ := hc
      have hle := Nat.le_of_dvd (by omega) hd
      have h0 : d ≠ 0 := fun e => by subst e; have := Nat.eq_zero_of_zero_dvd hd; omega
      obtain ⟨p, hp, hpd⟩ := Pr.divisor f d (by omega) (by omega)
      exact ⟨p, hp, Nat.dvd_trans hpd hd⟩
    · refine ⟨n, ⟨h2, fun d hd => ?_⟩, Nat.dvd_refl n⟩
      rcases Nat.decEq d 1 with h1 | h1
      · rcases Nat.decEq d n with h3 | h3
        · exact absurd ⟨d, hd, h1, h3⟩ hc
        · exact .inr h3
      · exact .inl h1
/-- Of what is no prime some prime up to its root is a divisor. -/
theorem Pr.of_root {n : Nat} (h2 : 2 ≤ n) (h : ∀ p, Pr p → p ∣ n → ¬ p * p ≤ n) : Pr n := by
  refine ⟨h2, fun d hd => ?_⟩
  rcases Nat.decEq d 1 with h1 | h1
  · rcases Nat.decEq d n with h3 | h3
    · exfalso
      obtain ⟨e, he⟩ := hd
      have h0 : d ≠ 0 := fun e0 => by subst e0; simp at he; omega
      have he0 : e ≠ 0 := fun e0 => by subst e0; simp at he; omega
      have he1 : e ≠ 1 := fun e0 => by subst e0; simp at he; omega
      rcases Nat.le_total d e with hl | hl
      · obtain ⟨p, hp, hpd⟩ := Pr.divisor d d (Nat.le_refl _) (by omega)
        have hle := Nat.le_of_dvd (by omega) hpd
        exact h p hp (Nat.dvd_trans hpd ⟨e, he⟩) (he ▸ Nat.mul_le_mul hle (Nat.le_trans hle hl))
      · obtain ⟨p, hp, hpd⟩ := Pr.divisor e e (Nat.le_refl _) (by omega)
        have hle := Nat.le_of_dvd (by omega) hpd
        exact h p hp (Nat.dvd_trans hpd ⟨d, by rw [he, Nat.mul_comm]⟩) (he ▸ Nat.mul_le_mul (Nat.le_trans hle hl) hle)
    · exact .inr h3
  · exact .inl h1

theorem mod_of_dvd {p n x y : Nat} (hd : p ∣ n) (h : x % n = y % n) : x % p = y % p := by
  have := congrArg (· % p) h
  simpa [Nat.mod_mod_of_dvd _ hd] using this

/-- What proves that n is a prime, if q is (Pocklington). -/
theorem proves {n q a : Nat} (hq : Pr q) (hn : 3 ≤ n) (hqq : n < q * q) (hd : q ∣ n - 1) (h1 : a ^ (n - 1) % n = 1) (hg : ∀ p, Pr p → p ∣ n → a ^ ((n - 1) / q) % p ≠ 1) : Pr n := by
  refine Pr.of_root (by omega) fun p hp hpn hpp => ?_
  have hp2 := hp.two
  have e1 : a ^ (n - 1) % p = 1 := by
    have := mod_of_dvd hpn (h1.trans (Nat.mod_eq_of_lt (show 1 < n by omega)).symm)
    rwa [Nat.mod_eq_of_lt (show 1 < p by omega)] at this
  have hna : ¬ p ∣ a := fun hpa => by
    have h0 : a % p = 0 := Nat.mod_eq_zero_of_dvd hpa
    rw [Nat.pow_mod, h0, Nat.zero_pow (by omega), Nat.zero_mod] at e1
    omega
  have e2 := fermat_one hp hna
  by_cases hqp : q ∣ p - 1
  · have := Nat.le_of_dvd (by omega) hqp
    have h3 : q * q ≤ (p - 1) * (p - 1) := Nat.mul_le_mul this this
    have h4 : (p - 1) * (p - 1) ≤ p * p := Nat.mul_le_mul (by omega) (by omega)
    omega
  · have hc : Nat.Coprime q (p - 1) := hq.coprime hqp
    obtain ⟨k, hk⟩ := hd
    have hk' : (n - 1) / q = k := by rw [hk, Nat.mul_div_cancel_left _ hq.pos]
    have h3 := one_gcd hp2 (n - 1) (p - 1) e1 e2
    rw [hk, Nat.Coprime.gcd_mul_left_cancel k hc] at h3
    refine hg p hp hpn ?_
    rw [hk']
    obtain ⟨c, hc'⟩ := Nat.gcd_dvd_left k (p - 1)
    conv => lhs; rw [hc']
    rw [Nat.pow_mul, Nat.pow_mod, h3, Nat.one_pow, Nat.mod_eq_of_lt (by omega)]
end Go.Proofs.Ytphbacggmhjmgaa.Num

/- Plain numbers: chains that prove a prime; the squares modulo a prime 2 q + 1. -/
namespace Go.Proofs.Ytphbacggmhjmgaa.Num

/-- a to the e modulo m, quickly -/
def pm : Nat → Nat → Nat → Nat → Nat
  | 0, _, _, m => 1 % m
  | f + 1, a, e, m => if e = 0 then 1 % m else if e % 2 = 1 then pm f (a * a % m) (e / 2) m * a % m else pm f (a * a % m) (e / 2) m
theorem pm_eq : ∀ (f a e m : Nat), e < 2 ^ f → pm f a e m = a ^ e % m
  | 0, a, e, m, h => by
    have : e = 0 := by simpa using h
    subst this; simp [pm]
  | f + 1, a, e, m, h => by
    rw [pm]
    split
    · rename_i h0; subst h0; simp
    · have ih := pm_eq f (a * a % m) (e / 2) m (by rw [Nat.pow_succ] at h; omega)
      have e1 : (a * a % m) ^ (e / 2) % m = a ^ (2 * (e / 2)) % m := by
        rw [← Nat.pow_mod, Nat.pow_mul, Nat.pow_two]
      rw [ih, e1]
      split
      · rename_i h1
        conv => rhs; rw [show e = 2 * (e / 2) + 1 by omega, Nat.pow_succ]
        rw [Nat.mod_mul_mod]
      · rename_i h1
        conv => rhs; rw [show e = 2 * (e / 2) by omega]

/-- what is amiss with a step of a proof; b32, b64: the bounds on its numbers -/
def stepE (b32 b64 p q a : Nat) : Nat :=
  if b32 ≤ p ∨ b64 ≤ q ∨ b64 ≤ a then 2
  else if p % 2 = 0 ∨ p < 3 then 5
  else if q ≤ 1 ∨ a ≤ 1 ∨ p - 1 < a ∨ q * q ≤ p ∨ (p - 1) % q ≠ 0 ∨ a ^ (p - 1) % p ≠ 1 ∨ Nat.gcd ((a ^ ((p - 1) / q) + (p - 1)) % p) p ≠ 1 then 7
  else 0
/-- is a small number a prime? -/
def smallB (n : Nat) : Bool := 2 ≤ n && n < 65536 && (List.range 256).all fun d => d < 2 || n < d * d || n % d != 0
theorem small_pr {n : Nat} (h : smallB n = true) : Pr n := by
  simp only [smallB, Bool.and_eq_true, decide_eq_true_eq, List.all_eq_true, List.mem_range, Bool.or_eq_true, bne_iff_ne, ne_eq] at h
  obtain ⟨⟨h2, h3⟩, h4⟩ := h
  refine Pr.of_root h2 fun p hp hpn hpp => ?_
  have hp2 := hp.two
  have hlt : p < 256 := by
    rcases Nat.lt_or_ge p 256 with h | h
    · exact h
    · have := Nat.mul_le_mul h h; omega
  rcases h4 p hlt with (h | h) | h
  · omega
  · omega
  · exact h (Nat.mod_eq_zero_of_dvd hpn)

theorem step_pr {b32 b64 p q a : Nat} (hq : Pr q) (h : stepE b32 b64 p q a = 0) : Pr p := by
  unfold stepE at h
  split at h
  · omega
  split at h
  · omega
  split at h
  · omega
  rename_i h1 h2 h3
  have a2 : 1 < a := by omega
  have a3 : a ≤ p - 1 := by omega
  have a4 : p < q * q := by omega
  have a5 : (p - 1) % q = 0 := by
    rcases Nat.decEq ((p - 1) % q) 0 with h | h
    · exact absurd (.inr (.inr (.inr (.inr (.inl h))))) h3
    · exact h
  have a6 : a ^ (p - 1) % p = 1 := by
    rcases Nat.decEq (a ^ (p - 1) % p) 1 with h | h
    · exact absurd (.inr (.inr (.inr (.inr (.inr (.inl h)))))) h3
    · exact h
  have a7 : Nat.gcd ((a ^ ((p - 1) / q) + (p - 1)) % p) p = 1 := by
    rcases Nat.decEq (Nat.gcd ((a ^ ((p - 1) / q) + (p - 1)) % p) p) 1 with h | h
    · exact absurd (.inr (.inr (.inr (.inr (.inr (.inr h)))))) h3
    · exact h
  refine proves hq (by omega) a4 (Nat.dvd_of_mod_eq_zero a5) a6 fun r hr hrp hone => ?_
  have hr2 := hr.two
  have hd : r ∣ (a ^ ((p - 1) / q) + (p - 1)) % p := by
    refine (Nat.dvd_mod_iff hrp).2 ?_
    obtain ⟨c, hc⟩ := hrp
    refine Nat.dvd_of_mod_eq_zero ?_
    have e1 : a ^ ((p - 1) / q) + (p - 1) = a ^ ((p - 1) / q) / r * r + (1 + (p - 1)) := by
      have := Nat.div_add_mod (a ^ ((p - 1) / q)) r
      rw [hone, Nat.mul_comm] at this
      omega
    rw [e1, show 1 + (p - 1) = r * c by omega, Nat.mul_comm _ r, ← Nat.mul_add, Nat.mul_mod_right]
  have := Nat.dvd_gcd hd hrp
  rw [a7] at this
  have := Nat.le_of_dvd (by omega) this
  omega

/-- What is amiss with a chain first, and where. -/
def chainE (b32 b64 : Nat) : List (Nat × Nat × Nat) → Nat → Nat × Nat
  | [], _ => (0, 0)
  | [(p, q, a)], i => if stepE b32 b64 p q a ≠ 0 then (stepE b32 b64 p q a, i) else if smallB q then (0, 0) else (7, i)
  | (p, q, a) :: (p', q', a') :: l, i => if stepE b32 b64 p q a ≠ 0 then (stepE b32 b64 p q a, i) else if q ≠ p' then (7, i) else chainE b32 b64 ((p', q', a') :: l) (i + 1)
theorem chain_pr {b32 b64 : Nat} : ∀ (l : List (Nat × Nat × Nat)) (i p q a : Nat), (chainE b32 b64 ((p, q, a) :: l) i).1 = 0 → Pr p ∧ Pr q
  | [], i, p, q, a, h => by
    unfold chainE at h
    split at h
    · rename_i h1; exact absurd h h1
    · rename_i h1
      have h1' : stepE b32 b64 p q a = 0 := by simpa using h1
      split at h
      · rename_i h2; exact ⟨step_pr (small_pr h2) h1', small_pr h2⟩
      · exact absurd h (by simp)
  | (p', q', a') :: l, i, p, q, a, h => by
    unfold chainE at h
    split at h
    · rename_i h1; exact absurd h h1
    · rename_i h1
      have h1' : stepE b32 b64 p q a = 0 := by simpa using h1
      split at h
      · exact absurd h (by simp)
      · rename_i h2
        have h2' : q = p' := by simpa using h2
        subst h2'
        have := (chain_pr l (i + 1) q q' a' h).1
        exact ⟨step_pr this h1', this⟩
end Go.Proofs.Ytphbacggmhjmgaa.Num

/- Plain numbers: the squares modulo a prime 2 q + 1. -/
namespace Go.Proofs.Ytphbacggmhjmgaa.Num

/-- an element -/
structure El (P Q a : Nat) : Prop where
  pos : 0 < a
  lt : a < P
  one : a ^ Q % P = 1
/-- a group's numbers -/
structure Grp (P Q g : Nat) : Prop where
  pp : Pr P
  pq : Pr Q
  tw : P = 2 * Q + 1
  big : 2 < Q
  el : El P Q g
  ne : g ≠ 1

theorem pow_mod_mod (a n P : Nat) : (a % P) ^ n % P = a ^ n % P := (Nat.pow_mod a n P).symm
theorem mod_one {P : Nat} (h : 1 < P) : 1 % P = 1 := Nat.mod_eq_of_lt h
theorem El.of {P Q a : Nat} (hP : 1 < P) (hQ : 0 < Q) (h : a ^ Q % P = 1) : El P Q (a % P) := by
  refine ⟨Nat.pos_of_ne_zero fun h0 => ?_, Nat.mod_lt _ (by omega), by rw [pow_mod_mod]; exact h⟩
  rw [Nat.pow_mod, h0, Nat.zero_pow hQ, Nat.zero_mod] at h
  omega
theorem El.mul {P Q a b : Nat} (hP : 1 < P) (hQ : 0 < Q) (ha : El P Q a) (hb : El P Q b) : El P Q (a * b % P) :=
  El.of hP hQ (by rw [Nat.mul_pow, Nat.mul_mod, ha.one, hb.one, Nat.one_mul, mod_one hP])
theorem El.pow {P Q a : Nat} (hP : 1 < P) (hQ : 0 < Q) (ha : El P Q a) (n : Nat) : El P Q (a ^ n % P) :=
  El.of hP hQ (by rw [← Nat.pow_mul, Nat.mul_comm, Nat.pow_mul, Nat.pow_mod, ha.one, Nat.one_pow, mod_one hP])
/-- scalars count modulo q -/
theorem El.red {P Q a : Nat} (hP : 1 < P) (ha : El P Q a) (n : Nat) : a ^ (n % Q) % P = a ^ n % P := by
  conv => rhs; rw [← Nat.div_add_mod n Q, Nat.pow_add, Nat.pow_mul, Nat.mul_mod, Nat.pow_mod (a ^ Q), ha.one, Nat.one_pow, mod_one hP, Nat.one_mul, Nat.mod_mod]
/-- what makes 1 of an element: its power of q - 1 -/
theorem El.back {P Q a : Nat} (hQ : 0 < Q) (ha : El P Q a) : a * (a ^ (Q - 1) % P) % P = 1 := by
  rw [Nat.mul_mod_mod, ← Nat.pow_succ', Nat.succ_eq_add_one, show Q - 1 + 1 = Q by omega, ha.one]
theorem inv_unique {P a x y : Nat} (hx : x < P) (hy : y < P) (h1 : a * x % P = 1) (h2 : a * y % P = 1) : x = y := by
  have e1 : x * (a * y) % P = x := by rw [Nat.mul_mod, h2, Nat.mul_one, Nat.mod_mod, Nat.mod_eq_of_lt hx]
  have e2 : y * (a * x) % P = y := by rw [Nat.mul_mod, h1, Nat.mul_one, Nat.mod_mod, Nat.mod_eq_of_lt hy]
  have e3 : x * (a * y) = y * (a * x) := by rw [Nat.mul_left_comm, Nat.mul_comm x y, ← Nat.mul_assoc, Nat.mul_comm a y, Nat.mul_assoc]
  rw [← e1, e3, e2]
/-- a power is 1 just where the exponent is a multiple of q -/
theorem El.order {P Q a : Nat} (hP : 1 < P) (hq : Pr Q) (ha : El P Q a) (h1 : a ≠ 1) (n : Nat) : a ^ n % P = 1 ↔ n % Q = 0 := by
  constructor
  · intro h
    have h3 := one_gcd (show 2 ≤ P by omega) n Q h ha.one
    rcases hq.only _ (Nat.gcd_dvd_right n Q) with h4 | h4
    · rw [h4, Nat.pow_one, Nat.mod_eq_of_lt ha.lt] at h3
      exact absurd h3 h1
    · exact Nat.mod_eq_zero_of_dvd (h4 ▸ Nat.gcd_dvd_left n Q)
  · intro h
    rw [← ha.red hP, h, Nat.pow_zero, mod_one hP]
theorem one_pow_mod {P : Nat} (hP : 1 < P) (n : Nat) : 1 ^ n % P = 1 := by rw [Nat.one_pow, mod_one hP]

/-- of odd powers: the sum of what makes p is a multiple of p -/
theorem odd_sum {P a b : Nat} (h : a + b = P) : ∀ j : Nat, P ∣ a ^ (2 * j + 1) + b ^ (2 * j + 1)
  | 0 => by simp [h]
  | j + 1 => by
    have ih := odd_sum h j
    -- a^(2j+3) + b^(2j+3) = a^2 (a^(2j+1) + b^(2j+1)) + b^(2j+1) (b^2 - a^2), and P divides b^2 - a^2 either way
    have e1 : a ^ (2 * (j + 1) + 1) = a ^ (2 * j + 1) * (a * a) := by rw [show 2 * (j + 1) + 1 = 2 * j + 1 + 1 + 1 by omega, Nat.pow_succ, Nat.pow_succ, Nat.mul_assoc]
    have e2 : b ^ (2 * (j + 1) + 1) = b ^ (2 * j + 1) * (b * b) := by rw [show 2 * (j + 1) + 1 = 2 * j + 1 + 1 + 1 by omega, Nat.pow_succ, Nat.pow_succ, Nat.mul_assoc]
    have e3 : a ^ (2 * (j + 1) + 1) + b ^ (2 * (j + 1) + 1) + (a ^ (2 * j + 1) + b ^ (2 * j + 1)) * (a * b) = (a + b) * (a ^ (2 * j + 1) * a + b ^ (2 * j + 1) * b) := by
      rw [e1, e2]
      generalize a ^ (2 * j + 1) = x
      generalize b ^ (2 * j + 1) = y
      simp only [Nat.add_mul, Nat.mul_add]
      rw [show x * (a * a) = a * (x * a) by rw [← Nat.mul_assoc, Nat.mul_comm], show y * (b * b) = b * (y * b) by rw [← Nat.mul_assoc, Nat.mul_comm], show x * (a * b) = b * (x * a) by rw [← Nat.mul_assoc, Nat.mul_comm],
        show y * (a * b) = a * (y * b) by rw [Nat.mul_left_comm]]
      omega
    have h4 : P ∣ a ^ (2 * (j + 1) + 1) + b ^ (2 * (j + 1) + 1) + (a ^ (2 * j + 1) + b ^ (2 * j + 1)) * (a * b) := by
      rw [e3, h]; exact Nat.dvd_mul_right _ _
    exact (Nat.dvd_add_iff_left (Nat.dvd_mul_right_of_dvd ih _)).2 h4

/-- each number's power of q is 1 or p - 1 -/
theorem Grp.sign {P Q g : Nat} (G : Grp P Q g) {a : Nat} (h0 : 0 < a) (h1 : a < P) : a ^ Q % P = 1 ∨ a ^ Q % P = P - 1 := by
  have hp2 := G.pp.two
  have hf := fermat_one G.pp (fun hd => by have := Nat.le_of_dvd h0 hd; omega : ¬ P ∣ a)
  rw [show P - 1 = Q + Q by have := G.tw; omega, Nat.pow_add, Nat.mul_mod] at hf
  have hy : a ^ Q % P < P := Nat.mod_lt _ (by omega)
  generalize a ^ Q % P = y at hf hy
  have hy0 : y ≠ 0 := fun e => by subst e; simp at hf
  have hd : P ∣ (y + 1) * (y - 1) := by
    refine Nat.dvd_of_mod_eq_zero ?_
    obtain ⟨z, rfl⟩ : ∃ z, y = z + 1 := ⟨y - 1, by omega⟩
    have e : (z + 1) * (z + 1) % P = 1 % P := by rw [hf, mod_one (by omega)]
    have := Nat.sub_mod_eq_zero_of_mod_eq e
    rw [show (z + 1) * (z + 1) - 1 = (z + 1 + 1) * (z + 1 - 1) by simp only [Nat.add_mul, Nat.mul_add, Nat.add_sub_cancel]; omega] at this
    exact this
  rcases G.pp.mul hd with h | h
  · have := Nat.le_of_dvd (by omega) h; omega
  · rcases Nat.eq_zero_or_pos (y - 1) with h3 | h3
    · omega
    · have := Nat.le_of_dvd h3 h; omega
/-- just one of a and p - a is an element -/
theorem Grp.halves {P Q g : Nat} (G : Grp P Q g) {a : Nat} (h0 : 0 < a) (h1 : a < P) : El P Q (P - a) ↔ ¬ El P Q a := by
  have hp2 := G.pp.two
  have hb := G.big
  have ht := G.tw
  have hodd : Q % 2 = 1 := by
    rcases Nat.mod_two_eq_zero_or_one Q with h | h
    · rcases G.pq.only 2 (Nat.dvd_of_mod_eq_zero h) with h | h <;> omega
    · exact h
  have hs := odd_sum (show P - a + a = P by omega) (Q / 2)
  rw [show 2 * (Q / 2) + 1 = Q by omega] at hs
  have hz := Nat.mod_eq_zero_of_dvd hs
  rw [Nat.add_mod] at hz
  have s1 := G.sign (a := P - a) (by omega) (by omega)
  have s2 := G.sign h0 h1
  constructor
  · intro h k
    rw [h.one, k.one, Nat.mod_eq_of_lt (by omega)] at hz
    omega
  · intro h
    have h3 : a ^ Q % P = P - 1 := by
      rcases s2 with h2 | h2
      · exact absurd ⟨h0, h1, h2⟩ h
      · exact h2
    rcases s1 with h4 | h4
    · exact ⟨by omega, by omega, h4⟩
    · rw [h4, h3] at hz
      have : (P - 1 + (P - 1)) % P = P - 2 := by
        rw [show P - 1 + (P - 1) = P - 2 + P by omega, Nat.add_mod_right, Nat.mod_eq_of_lt (by omega)]
      omega
end Go.Proofs.Ytphbacggmhjmgaa.Num

/- Plain numbers: bytes, the highest first. -/
namespace Go.Proofs.Ytphbacggmhjmgaa.Pl

/-- the number that bytes are, the highest first -/
def be (xs : List Nat) : Nat := val 256 xs.reverse
/-- one byte of a number -/
def byteAt (v i : Nat) : Nat := v / 256 ^ i % 256
/-- n bytes of a number, the highest first; noughts from the k-th on -/
def beP (n k v : Nat) : List Nat := (List.range n).map fun j => if n - 1 - j < k then byteAt v (n - 1 - j) else 0
/-- n bytes of a number, the highest first -/
def beL (n v : Nat) : List Nat := beP n n v

theorem beP_length (n k v : Nat) : (beP n k v).length = n := by simp [beP]
theorem beL_length (n v : Nat) : (beL n v).length = n := beP_length n n v
theorem beP_zero (n v : Nat) : beP n 0 v = List.replicate n 0 := by
  apply List.ext_getElem
  · simp [beP]
  · intro i h1 h2; simp [beP]
theorem beP_step {n k v : Nat} (h : k < n) : (beP n k v).set (n - 1 - k) (byteAt v k) = beP n (k + 1) v := by
  apply List.ext_getElem
  · simp [beP]
  · intro i h1 h2
    simp only [List.length_set, beP_length] at h1
    rw [List.getElem_set]
    split
    · rename_i he
      subst he
      simp only [beP, List.getElem_map, List.getElem_range]
      rw [if_pos (by omega), show n - 1 - (n - 1 - k) = k by omega]
    · rename_i he
      simp only [beP, List.getElem_map, List.getElem_range]
      rcases Nat.lt_or_ge (n - 1 - i) k with h3 | h3
      · rw [if_pos h3, if_pos (by omega)]
      · rw [if_neg (by omega), if_neg (by omega)]
theorem beP_skip {n k v : Nat} (h : k < n) (hz : byteAt v k = 0) : beP n k v = beP n (k + 1) v := by
  rw [← beP_step h, hz]
  apply List.ext_getElem
  · simp
  · intro i h1 h2
    rw [List.getElem_set]
    split
    · rename_i he
      subst he
      simp only [beP, List.getElem_map, List.getElem_range]
      rw [if_neg (by omega)]
    · rfl
theorem byteAt_lt (v i : Nat) : byteAt v i < 256 := Nat.mod_lt _ (by omega)
theorem beP_dig (n k v : Nat) : Dig 256 (beP n k v) := by
  intro x hx
  simp only [beP, List.mem_map, List.mem_range] at hx
  obtain ⟨j, _, rfl⟩ := hx
  split
  · exact byteAt_lt _ _
  · omega
theorem val_range (B : Nat) (n v : Nat) : val B ((List.range n).map fun i => v / B ^ i % B) = v % B ^ n := by
  induction n with
  | zero => simp [val, Nat.mod_one]
  | succ n ih =>
    rw [List.range_succ, List.map_append, List.map_singleton, val_snoc, ih, List.length_map, List.length_range, Nat.mod_pow_succ]
theorem beL_rev (n v : Nat) : (beL n v).reverse = (List.range n).map (byteAt v) := by
  apply List.ext_getElem
  · simp [beL, beP]
  · intro i h1 h2
    simp only [List.length_map, List.length_range] at h2
    simp only [beL, beP, List.getElem_reverse, List.getElem_map, List.getElem_range, List.length_map, List.length_range]
    rw [if_pos (by omega), show n - 1 - (n - 1 - i) = i by omega]
theorem be_beL {n v : Nat} (h : v < 256 ^ n) : be (beL n v) = v := by
  unfold be
  rw [beL_rev]
  have := val_range 256 n v
  rw [Nat.mod_eq_of_lt h] at this
  exact this
theorem dig_rev {B : Nat} {xs : List Nat} (h : Dig B xs) : Dig B xs.reverse := fun x hx => h x (List.mem_reverse.1 hx)
theorem be_lt {xs : List Nat} (h : Dig 256 xs) : be xs < 256 ^ xs.length := by
  have := val_lt (dig_rev h)
  rwa [List.length_reverse] at this
theorem beL_be {xs : List Nat} (h : Dig 256 xs) : beL xs.length (be xs) = xs := by
  have h1 := be_beL (be_lt h)
  have h2 : (beL xs.length (be xs)).reverse = xs.reverse := dig_ext (dig_rev (beP_dig _ _ _)) (dig_rev h) (by simp [beL_length]) h1
  rw [← List.reverse_reverse (beL xs.length (be xs)), h2, List.reverse_reverse]
theorem be_inj {xs ys : List Nat} (hx : Dig 256 xs) (hy : Dig 256 ys) (hl : xs.length = ys.length) (h : be xs = be ys) : xs = ys := by
  rw [← beL_be hx, ← beL_be hy, h, hl]
theorem be_snoc (xs : List Nat) (i : Nat) (hi : i < xs.length) : be (xs.take (i + 1)) = be (xs.take i) * 256 + xs[i] := by
  unfold be
  rw [List.take_succ_eq_append_getElem hi, List.reverse_append, List.reverse_singleton, List.singleton_append, val_cons]
  omega
/-- from the low end on -/
theorem be_low (xs : List Nat) (k : Nat) (hk : k < xs.length) : val 256 (xs.reverse.take (k + 1)) = val 256 (xs.reverse.take k) + 256 ^ k * xs[xs.length - 1 - k] := by
  rw [val_take_succ 256 xs.reverse k (by simpa using hk), List.getElem_reverse]
theorem be_all (xs : List Nat) : val 256 (xs.reverse.take xs.length) = be xs := by
  rw [List.take_of_length_le (by simp)]; rfl
theorem getD_val {B : Nat} {xs : List Nat} (hB : 0 < B) (hd : Dig B xs) (t : Nat) : xs.getD t 0 = val B xs / B ^ t % B := by
  have h2 : val B xs / B ^ t = val B (xs.drop t) := by
    rcases Nat.lt_or_ge xs.length t with h | h
    · rw [List.drop_of_length_le (by omega), Nat.div_eq_of_lt (Nat.lt_of_lt_of_le (val_lt hd) (Nat.pow_le_pow_right hB (by omega)))]; rfl
    · rw [val_take_drop B xs t h, Nat.add_mul_div_left _ _ (Nat.pow_pos hB), Nat.div_eq_of_lt, Nat.zero_add]
      have := val_lt (hd.take t)
      rwa [List.length_take, Nat.min_eq_left h] at this
  rw [h2]
  rcases Nat.lt_or_ge t xs.length with h | h
  · rw [val_drop B xs t h, List.getD_eq_getElem?_getD, List.getElem?_eq_getElem h, Nat.add_mul_mod_self_left, Option.getD_some, Nat.mod_eq_of_lt (hd.at t h)]
  · rw [List.drop_of_length_le h, List.getD_eq_getElem?_getD, List.getElem?_eq_none h]
    simp [val]
end Go.Proofs.Ytphbacggmhjmgaa.Pl
