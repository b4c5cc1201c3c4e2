/- Plain numbers: bytes, the highest first. -/
import Derived.Test.YtphbacggmhjmgaaPl
namespace Go.Proofs.Ytphbacggmhjmgaa.Pl

/-- the number that bytes are, the highest first -/
def be (xs : List Nat) : Nat := val 256 xs.reverse
/-- one byte of a number -/
def byteAt (v i : Nat) : Nat := v / 256 ^ i % 256
/-- n bytes of a number, the highest first; noughts from the k-th on -/
def beP (n k v : Nat) : List Nat := (List.range n).map fun j => if n - 1 - j < k then byteAt v (n - 1 - j) else 0
/-- n bytes of a number, the highest first -/
def beL (n v : Nat) : List Nat := beP n n v

theorem beP_length (n k v : Nat) : (beP n k v).length = n := by simp [beP]
theorem beL_length (n v : Nat) : (beL n v).length = n := beP_length n n v
theorem beP_zero (n v : Nat) : beP n 0 v = List.replicate n 0 := by
  apply List.ext_getElem
  · simp [beP]
  · intro i h1 h2; simp [beP]
theorem beP_step {n k v : Nat} (h : k < n) : (beP n k v).set (n - 1 - k) (byteAt v k) = beP n (k + 1) v := by
  apply List.ext_getElem
  · simp [beP]
  · intro i h1 h2
    simp only [List.length_set, beP_length] at h1
    rw [List.getElem_set]
    split
    · rename_i he
      subst he
      simp only [beP, List.getElem_map, List.getElem_range]
      rw [if_pos (by omega), show n - 1 - (n - 1 - k) = k by omega]
    · rename_i he
      simp only [beP, List.getElem_map, List.getElem_range]
      rcases Nat.lt_or_ge (n - 1 - i) k with h3 | h3
      · rw [if_pos h3, if_pos (by omega)]
      · rw [if_neg (by omega), if_neg (by omega)]
theorem beP_skip {n k v : Nat} (h : k < n) (hz : byteAt v k = 0) : beP n k v = beP n (k + 1) v := by
  rw [← beP_step h, hz]
  apply List.ext_getElem
  · simp
  · intro i h1 h2
    rw [List.getElem_set]
    split
    · rename_i he
      subst he
      simp only [beP, List.getElem_map, List.getElem_range]
      rw [if_neg (by omega)]
    · rfl
theorem byteAt_lt (v i : Nat) : byteAt v i < 256 := Nat.mod_lt _ (by omega)
theorem beP_dig (n k v : Nat) : Dig 256 (beP n k v) := by
  intro x hx
  simp only [beP, List.mem_map, List.mem_range] at hx
  obtain ⟨j, _, rfl⟩ := hx
  split
  · exact byteAt_lt _ _
  · omega
theorem val_range (B : Nat) (n v : Nat) : val B ((List.range n).map fun i => v / B ^ i % B) = v % B ^ n := by
  induction n with
  | zero => simp [val, Nat.mod_one]
  | succ n ih =>
    rw [List.range_succ, List.map_append, List.map_singleton, val_snoc, ih, List.length_map, List.length_range, Nat.mod_pow_succ]
theorem beL_rev (n v : Nat) : (beL n v).reverse = (List.range n).map (byteAt v) := by
  apply List.ext_getElem
  · simp [beL, beP]
  · intro i h1 h2
    simp only [List.length_map, List.length_range] at h2
    simp only [beL, beP, List.getElem_reverse, List.getElem_map, List.getElem_range, List.length_map, List.length_range]
    rw [if_pos (by omega), show n - 1 - (n - 1 - i) = i by omega]
theorem be_beL {n v : Nat} (h : v < 256 ^ n) : be (beL n v) = v := by
  unfold be
  rw [beL_rev]
  have := val_range 256 n v
  rw [Nat.mod_eq_of_lt h] at this
  exact this
theorem dig_rev {B : Nat} {xs : List Nat} (h : Dig B xs) : Dig B xs.reverse := fun x hx => h x (List.mem_reverse.1 hx)
theorem be_lt {xs : List Nat} (h : Dig 256 xs) : be xs < 256 ^ xs.length := by
  have := val_lt (dig_rev h)
  rwa [List.length_reverse] at this
theorem beL_be {xs : List Nat} (h : Dig 256 xs) : beL xs.length (be xs) = xs := by
  have h1 := be_beL (be_lt h)
  have h2 : (beL xs.length (be xs)).reverse = xs.reverse := dig_ext (dig_rev (beP_dig _ _ _)) (dig_rev h) (by simp [beL_length]) h1
  rw [← List.reverse_reverse (beL xs.length (be xs)), h2, List.reverse_reverse]
theorem be_inj {xs ys : List Nat} (hx : Dig 256 xs) (hy : Dig 256 ys) (hl : xs.length = ys.length) (h : be xs = be ys) : xs = ys := by
  rw [← beL_be hx, ← beL_be hy, h, hl]
theorem be_snoc (xs : List Nat) (i : Nat) (hi : i < xs.length) : be (xs.take (i + 1)) = be (xs.take i) * 256 + xs[i] := by
  unfold be
  rw [List.take_succ_eq_append_getElem hi, List.reverse_append, List.reverse_singleton, List.singleton_append, val_cons]
  omega
/-- from the low end on -/
theorem be_low (xs : List Nat) (k : Nat) (hk : k < xs.length) : val 256 (xs.reverse.take (k + 1)) = val 256 (xs.reverse.take k) + 256 ^ k * xs[xs.length - 1 - k] := by
  rw [val_take_succ 256 xs.reverse k (by simpa using hk), List.getElem_reverse]
theorem be_all (xs : List Nat) : val 256 (xs.reverse.take xs.length) = be xs := by
  rw [List.take_of_length_le (by simp)]; rfl
theorem getD_val {B : Nat} {xs : List Nat} (hB : 0 < B) (hd : Dig B xs) (t : Nat) : xs.getD t 0 = val B xs / B ^ t % B := by
  have h2 : val B xs / B ^ t = val B (xs.drop t) := by
    rcases Nat.lt_or_ge xs.length t with h | h
    · rw [List.drop_of_length_le (by omega), Nat.div_eq_of_lt (Nat.lt_of_lt_of_le (val_lt hd) (Nat.pow_le_pow_right hB (by omega)))]; rfl
    · rw [val_take_drop B xs t h, Nat.add_mul_div_left _ _ (Nat.pow_pos hB), Nat.div_eq_of_lt, Nat.zero_add]
      have := val_lt (hd.take t)
      rwa [List.length_take, Nat.min_eq_left h] at this
  rw [h2]
  rcases Nat.lt_or_ge t xs.length with h | h
  · rw [val_drop B xs t h, List.getD_eq_getElem?_getD, List.getElem?_eq_getElem h, Nat.add_mul_mod_self_left, Option.getD_some, Nat.mod_eq_of_lt (hd.at t h)]
  · rw [List.drop_of_length_le h, List.getD_eq_getElem?_getD, List.getElem?_eq_none h]
    simp [val]
end Go.Proofs.Ytphbacggmhjmgaa.Pl
