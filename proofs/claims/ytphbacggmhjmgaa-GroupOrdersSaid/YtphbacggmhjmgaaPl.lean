/- Plain arithmetic: numbers as lists of digits of any base. No program in sight. -/
namespace Go.Proofs.Ytphbacggmhjmgaa.Pl

/-- the number that digits say, the lowest first -/
def val (B : Nat) : List Nat → Nat
  | [] => 0
  | d :: ds => d + B * val B ds

/-- all digits are digits -/
def Dig (B : Nat) (xs : List Nat) : Prop := ∀ x ∈ xs, x < B

/-- no nought at the end -/
def Canon (xs : List Nat) : Prop := xs.getLast? ≠ some 0

theorem val_nil (B : Nat) : val B [] = 0 := rfl
theorem val_cons (B d : Nat) (ds : List Nat) : val B (d :: ds) = d + B * val B ds := rfl
theorem val_one (B d : Nat) : val B [d] = d := by simp [val]

theorem val_append (B : Nat) (xs ys : List Nat) : val B (xs ++ ys) = val B xs + B ^ xs.length * val B ys := by
  induction xs with
  | nil => simp [val]
  | cons x xs ih =>
    simp only [List.cons_append, val, ih, List.length_cons, Nat.pow_succ, Nat.mul_add]
    rw [Nat.mul_comm (B ^ xs.length) B, Nat.mul_assoc]; omega

theorem val_snoc (B : Nat) (xs : List Nat) (y : Nat) : val B (xs ++ [y]) = val B xs + B ^ xs.length * y := by
  rw [val_append, val_one]

theorem Dig.nil (B : Nat) : Dig B [] := by intro x h; cases h
theorem Dig.append {B : Nat} {xs ys : List Nat} (h : Dig B xs) (k : Dig B ys) : Dig B (xs ++ ys) := by
  intro x hx; rcases List.mem_append.1 hx with hx | hx
  · exact h x hx
  · exact k x hx
theorem Dig.take {B : Nat} {xs : List Nat} (h : Dig B xs) (n : Nat) : Dig B (xs.take n) := fun x hx => h x (List.mem_of_mem_take hx)
theorem Dig.drop {B : Nat} {xs : List Nat} (h : Dig B xs) (n : Nat) : Dig B (xs.drop n) := fun x hx => h x (List.mem_of_mem_drop hx)
theorem Dig.tail {B x : Nat} {xs : List Nat} (h : Dig B (x :: xs)) : Dig B xs := fun y hy => h y (List.mem_cons_of_mem _ hy)
theorem Dig.head {B x : Nat} {xs : List Nat} (h : Dig B (x :: xs)) : x < B := h x List.mem_cons_self
theorem Dig.one {B x : Nat} (h : x < B) : Dig B [x] := by intro y hy; simp at hy; omega
theorem Dig.set {B : Nat} {xs : List Nat} (h : Dig B xs) (i : Nat) {d : Nat} (hd : d < B) : Dig B (xs.set i d) := by
  intro x hx
  rcases List.mem_or_eq_of_mem_set hx with hx | hx
  · exact h x hx
  · omega
theorem Dig.replicate {B : Nat} (h : 0 < B) (n : Nat) : Dig B (List.replicate n 0) := by
  intro x hx; have := List.eq_of_mem_replicate hx; omega
theorem Dig.at {B : Nat} {xs : List Nat} (h : Dig B xs) (i : Nat) (hi : i < xs.length) : xs[i] < B := h _ (List.getElem_mem hi)

theorem val_replicate (B n : Nat) : val B (List.replicate n 0) = 0 := by
  induction n with
  | zero => rfl
  | succ n ih => simp [List.replicate_succ, val, ih]

theorem val_lt {B : Nat} {xs : List Nat} (h : Dig B xs) : val B xs < B ^ xs.length := by
  induction xs with
  | nil => simp [val]
  | cons x xs ih =>
    have h1 := h.head
    have h2 := ih h.tail
    simp only [val, List.length_cons, Nat.pow_succ]
    have : B * (val B xs + 1) ≤ B * B ^ xs.length := Nat.mul_le_mul_left B h2
    rw [Nat.mul_add] at this
    rw [Nat.mul_comm (B ^ xs.length) B]; omega

theorem val_take_drop (B : Nat) (xs : List Nat) (i : Nat) (hi : i ≤ xs.length) : val B xs = val B (xs.take i) + B ^ i * val B (xs.drop i) := by
  have h := val_append B (xs.take i) (xs.drop i)
  rw [List.take_append_drop, List.length_take, Nat.min_eq_left hi] at h
  exact h

theorem val_take_succ (B : Nat) (xs : List Nat) (i : Nat) (hi : i < xs.length) : val B (xs.take (i + 1)) = val B (xs.take i) + B ^ i * xs[i] := by
  rw [List.take_succ_eq_append_getElem hi, val_snoc, List.length_take, Nat.min_eq_left (Nat.le_of_lt hi)]

theorem val_drop (B : Nat) (xs : List Nat) (i : Nat) (hi : i < xs.length) : val B (xs.drop i) = xs[i] + B * val B (xs.drop (i + 1)) := by
  rw [List.drop_eq_getElem_cons hi, val_cons]

theorem val_take_all (B : Nat) (xs : List Nat) (i : Nat) (hi : xs.length ≤ i) : val B (xs.take i) = val B xs := by
  rw [List.take_of_length_le hi]

theorem val_set (B : Nat) (xs : List Nat) (i d : Nat) (hi : i < xs.length) : val B (xs.set i d) + B ^ i * xs[i] = val B xs + B ^ i * d := by
  induction xs generalizing i with
  | nil => simp at hi
  | cons x xs ih =>
    cases i with
    | zero => simp [val]; omega
    | succ i =>
      have h := ih i (by simpa using hi)
      simp only [List.set_cons_succ, val_cons, List.getElem_cons_succ, Nat.pow_succ]
      have e := congrArg (B * ·) h
      simp only [Nat.mul_add] at e
      rw [Nat.mul_comm (B ^ i) B, Nat.mul_assoc, Nat.mul_assoc]; omega

theorem take_set_eq {α : Type} (xs : List α) (i : Nat) (d : α) : (xs.set i d).take i = xs.take i := by
  rw [List.take_set_of_le (Nat.le_refl i)]

theorem val_take_set (B : Nat) (xs : List Nat) (i d : Nat) (hi : i < xs.length) : val B ((xs.set i d).take (i + 1)) = val B (xs.take i) + B ^ i * d := by
  rw [val_take_succ B _ i (by simpa using hi), take_set_eq, List.getElem_set_self]

/-- two lists of digits of one length that say the same are the same -/
theorem dig_ext {B : Nat} {xs ys : List Nat} (hx : Dig B xs) (hy : Dig B ys) (hl : xs.length = ys.length) (hv : val B xs = val B ys) : xs = ys := by
  induction xs generalizing ys with
  | nil => cases ys with
    | nil => rfl
    | cons y ys => simp at hl
  | cons x xs ih => cases ys with
    | nil => simp at hl
    | cons y ys =>
      have h1 := hx.head
      have h2 := hy.head
      simp only [val_cons] at hv
      have e1 : x = y := by
        have := congrArg (· % B) hv
        simpa [Nat.add_mul_mod_self_left, Nat.mod_eq_of_lt h1, Nat.mod_eq_of_lt h2] using this
      subst e1
      have e2 : val B xs = val B ys := Nat.eq_of_mul_eq_mul_left (show 0 < B by omega) (by omega)
      rw [ih hx.tail hy.tail (by simpa using hl) e2]

theorem canon_nil : Canon [] := by simp [Canon]

theorem Canon.last {xs : List Nat} (h : Canon xs) (hn : 0 < xs.length) : xs[xs.length - 1] ≠ 0 := by
  intro e
  apply h
  rw [List.getLast?_eq_getElem?, List.getElem?_eq_getElem (by omega), e]

theorem canon_of_last {xs : List Nat} (h : ∀ hn : 0 < xs.length, xs[xs.length - 1]'(by omega) ≠ 0) : Canon xs := by
  intro e
  rw [List.getLast?_eq_getElem?] at e
  obtain ⟨hn, he⟩ := List.getElem?_eq_some_iff.1 e
  exact h (by omega) he

/-- a number without noughts at its end has a least size -/
theorem Canon.ge {B : Nat} {xs : List Nat} (h : Canon xs) (hn : 0 < xs.length) : B ^ (xs.length - 1) ≤ val B xs := by
  have h1 := h.last hn
  have h2 := val_take_succ B xs (xs.length - 1) (by omega)
  rw [show xs.length - 1 + 1 = xs.length by omega, List.take_length] at h2
  rw [h2]
  have : B ^ (xs.length - 1) * 1 ≤ B ^ (xs.length - 1) * xs[xs.length - 1] := Nat.mul_le_mul_left _ (by omega)
  omega

theorem Canon.val_pos {B : Nat} (hB : 0 < B) {xs : List Nat} (h : Canon xs) (hn : 0 < xs.length) : 0 < val B xs :=
  Nat.lt_of_lt_of_le (Nat.pow_pos hB) (h.ge hn)

theorem pow_lt_of_lt {B a b : Nat} (hB : 0 < B) (h : B ^ a < B ^ b) : a < b := by
  rcases Nat.lt_or_ge a b with h' | h'
  · exact h'
  · have := Nat.pow_le_pow_right hB h'
    omega

theorem canon_len {B : Nat} (hB : 0 < B) {xs ys : List Nat} (hy : Dig B ys) (cx : Canon xs) (hv : val B xs ≤ val B ys) : xs.length ≤ ys.length := by
  rcases Nat.eq_zero_or_pos xs.length with h0 | h0
  · omega
  · have h1 := cx.ge (B := B) h0
    have h2 := val_lt hy
    have := pow_lt_of_lt hB (show B ^ (xs.length - 1) < B ^ ys.length by omega)
    omega

theorem canon_ext {B : Nat} (hB : 0 < B) {xs ys : List Nat} (hx : Dig B xs) (hy : Dig B ys) (cx : Canon xs) (cy : Canon ys) (hv : val B xs = val B ys) : xs = ys :=
  dig_ext hx hy (Nat.le_antisymm (canon_len hB hy cx (Nat.le_of_eq hv)) (canon_len hB hx cy (Nat.le_of_eq hv.symm))) hv

/-- limbs that count: at most n of them just where the number is below B to the n -/
theorem canon_len_le {B n : Nat} (hB : 1 < B) {xs : List Nat} (hx : Dig B xs) (cx : Canon xs) : xs.length ≤ n ↔ val B xs < B ^ n := by
  constructor
  · intro h
    exact Nat.lt_of_lt_of_le (val_lt hx) (Nat.pow_le_pow_right (by omega) h)
  · intro h
    rcases Nat.eq_zero_or_pos xs.length with h0 | h0
    · omega
    · have := pow_lt_of_lt (B := B) (by omega) (Nat.lt_of_le_of_lt (cx.ge h0) h)
      omega

/-- how many digits count -/
def trimN (xs : List Nat) : Nat → Nat
  | 0 => 0
  | n + 1 => if xs.getD n 0 = 0 then trimN xs n else n + 1

theorem trimN_le (xs : List Nat) (n : Nat) : trimN xs n ≤ n := by
  induction n with
  | zero => exact Nat.le_refl _
  | succ n ih => unfold trimN; split <;> omega

/-- without noughts at the end -/
def trim (xs : List Nat) : List Nat := xs.take (trimN xs xs.length)

theorem trimN_canon (xs : List Nat) (n : Nat) (h : n ≤ xs.length) : Canon (xs.take (trimN xs n)) := by
  induction n with
  | zero => simp [trimN, Canon]
  | succ n ih =>
    unfold trimN
    split
    · exact ih (by omega)
    · rename_i hz
      refine canon_of_last fun hn => ?_
      have hl : (xs.take (n + 1)).length = n + 1 := by rw [List.length_take]; omega
      simp only [hl, Nat.add_sub_cancel, List.getElem_take]
      simpa [List.getD_eq_getElem?_getD, List.getElem?_eq_getElem (show n < xs.length by omega)] using hz

theorem trimN_val (B : Nat) (xs : List Nat) (n : Nat) (h : n ≤ xs.length) : val B (xs.take (trimN xs n)) = val B (xs.take n) := by
  induction n with
  | zero => simp [trimN]
  | succ n ih =>
    unfold trimN
    split
    · rename_i hz
      rw [ih (by omega), val_take_succ B xs n (by omega)]
      have : xs[n] = 0 := by simpa [List.getD_eq_getElem?_getD, List.getElem?_eq_getElem (show n < xs.length by omega)] using hz
      rw [this]; simp
    · rfl

theorem trim_canon (xs : List Nat) : Canon (trim xs) := trimN_canon xs _ (Nat.le_refl _)
theorem trim_val (B : Nat) (xs : List Nat) : val B (trim xs) = val B xs := by
  unfold trim; rw [trimN_val B xs _ (Nat.le_refl _), List.take_length]
theorem trim_length (xs : List Nat) : (trim xs).length = trimN xs xs.length := by
  unfold trim; rw [List.length_take]; have := trimN_le xs xs.length; omega
theorem trim_dig {B : Nat} {xs : List Nat} (h : Dig B xs) : Dig B (trim xs) := h.take _


/-- how two numbers stand to one another -/
def cmp (a b : Nat) : Int := if a < b then -1 else if b < a then 1 else 0

theorem cmp_lt {a b : Nat} (h : a < b) : cmp a b = -1 := by unfold cmp; rw [if_pos h]
theorem cmp_gt {a b : Nat} (h : b < a) : cmp a b = 1 := by unfold cmp; rw [if_neg (by omega), if_pos h]
theorem cmp_eq (a : Nat) : cmp a a = 0 := by unfold cmp; rw [if_neg (by omega), if_neg (by omega)]
theorem cmp_neg {a b : Nat} : cmp a b < 0 ↔ a < b := by unfold cmp; split <;> (try split) <;> omega
theorem cmp_zero {a b : Nat} : cmp a b = 0 ↔ a = b := by unfold cmp; split <;> (try split) <;> omega
theorem cmp_pos {a b : Nat} : 0 < cmp a b ↔ b < a := by unfold cmp; split <;> (try split) <;> omega

theorem val_lt_of_len {B : Nat} (hB : 0 < B) {xs ys : List Nat} (hx : Dig B xs) (cy : Canon ys) (h : xs.length < ys.length) : val B xs < val B ys := by
  have h1 := val_lt hx
  have h2 := cy.ge (B := B) (by omega)
  have h3 : B ^ xs.length ≤ B ^ (ys.length - 1) := Nat.pow_le_pow_right hB (by omega)
  omega

theorem val_lt_at {B : Nat} {xs ys : List Nat} (hx : Dig B xs) (k : Nat) (hk : k < xs.length) (hk' : k < ys.length) (hd : val B (xs.drop (k + 1)) = val B (ys.drop (k + 1))) (h : xs[k] < ys[k]) : val B xs < val B ys := by
  rw [val_take_drop B xs k (by omega), val_take_drop B ys k (by omega), val_drop B xs k hk, val_drop B ys k hk', hd]
  have h1 := val_lt (hx.take k)
  rw [List.length_take, Nat.min_eq_left (by omega)] at h1
  have h2 : B ^ k * (xs[k] + 1 + B * val B (ys.drop (k + 1))) ≤ B ^ k * (ys[k] + B * val B (ys.drop (k + 1))) := Nat.mul_le_mul_left _ (by omega)
  have h3 : B ^ k * (xs[k] + 1 + B * val B (ys.drop (k + 1))) = B ^ k * (xs[k] + B * val B (ys.drop (k + 1))) + B ^ k := by
    rw [show xs[k] + 1 + B * val B (ys.drop (k + 1)) = (xs[k] + B * val B (ys.drop (k + 1))) + 1 by omega, Nat.mul_add, Nat.mul_one]
  omega

end Go.Proofs.Ytphbacggmhjmgaa.Pl
