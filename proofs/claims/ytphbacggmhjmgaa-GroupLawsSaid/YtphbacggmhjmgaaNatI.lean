/- The layer nat, ninth part: bits. -/
import Derived.Test.YtphbacggmhjmgaaNatH
namespace Go.Proofs.Ytphbacggmhjmgaa
open Go.RowKit

/-- how many bits a number has -/
def bits2 : Nat → Nat → Nat
  | 0, _ => 0
  | f + 1, n => if n = 0 then 0 else bits2 f (n / 2) + 1
theorem bits2_spec : ∀ (f n : Nat), n < 2 ^ f → n < 2 ^ bits2 f n ∧ (n ≠ 0 → 2 ^ bits2 f n ≤ 2 * n)
  | 0, n, h => by
    have : n = 0 := by simpa using h
    subst this; simp [bits2]
  | f + 1, n, h => by
    unfold bits2
    split
    · rename_i h0; subst h0; simp
    · rename_i h0
      have hh : n / 2 < 2 ^ f := by rw [Nat.pow_succ] at h; omega
      obtain ⟨h1, h2⟩ := bits2_spec f (n / 2) hh
      rw [Nat.pow_succ]
      refine ⟨by omega, fun _ => ?_⟩
      by_cases h3 : n / 2 = 0
      · rw [h3] at h1 h2 ⊢
        have : bits2 f 0 = 0 := by cases f <;> simp [bits2]
        rw [this]; omega
      · have := h2 h3; omega
/-- the number of bits: the least l with n below 2 to the l -/
def bitLen (n : Nat) : Nat := bits2 n n
theorem bitLen_spec (n : Nat) : n < 2 ^ bitLen n ∧ (n ≠ 0 → 2 ^ bitLen n ≤ 2 * n) := bits2_spec n n (Nat.lt_two_pow_self)
theorem bitLen_unique {n l : Nat} (h1 : n < 2 ^ l) (h2 : n ≠ 0 → 2 ^ l ≤ 2 * n) (h3 : n = 0 → l = 0) : l = bitLen n := by
  obtain ⟨k1, k2⟩ := bitLen_spec n
  rcases Nat.eq_zero_or_pos n with h | h
  · subst h; rw [h3 rfl]; rfl
  · have a1 := h2 (by omega)
    have a2 := k2 (by omega)
    have b1 : l < bitLen n + 1 := (Nat.pow_lt_pow_iff_right (a := 2) (by omega)).1 (by rw [Nat.pow_succ]; omega)
    have b2 : bitLen n < l + 1 := (Nat.pow_lt_pow_iff_right (a := 2) (by omega)).1 (by rw [Nat.pow_succ]; omega)
    omega
theorem bitLen_le_iff {n l : Nat} : bitLen n ≤ l ↔ n < 2 ^ l := by
  obtain ⟨k1, k2⟩ := bitLen_spec n
  constructor
  · intro h; exact Nat.lt_of_lt_of_le k1 (Nat.pow_le_pow_right (by omega) h)
  · intro h
    rcases Nat.eq_zero_or_pos n with h0 | h0
    · subst h0; exact Nat.zero_le _
    · have a2 := k2 (by omega)
      have : bitLen n < l + 1 := (Nat.pow_lt_pow_iff_right (a := 2) (by omega)).1 (by rw [Nat.pow_succ]; omega)
      omega

theorem bitLen_top {p : List Nat} (hp : 0 < p.length) (hd : Pl.Dig B64 p) (hc : Pl.Canon p) : 64 * (p.length - 1) + Lib.bitLen p[p.length - 1] = bitLen (Pl.val B64 p) := by
  have h1 := Pl.val_take_succ B64 p (p.length - 1) (by omega)
  rw [show p.length - 1 + 1 = p.length by omega, List.take_length] at h1
  have h2 := Pl.val_lt (hd.take (p.length - 1))
  rw [List.length_take, Nat.min_eq_left (by omega)] at h2
  have h3 := hd.at (p.length - 1) (by omega)
  have h4 := bitLen_lt p[p.length - 1] (by unfold B64 at h3; omega)
  have h5 := bitLen_ge p[p.length - 1] (by unfold B64 at h3; omega) (hc.last hp)
  have e : B64 ^ (p.length - 1) = 2 ^ (64 * (p.length - 1)) := by rw [Nat.pow_mul]; rfl
  apply bitLen_unique
  · rw [Nat.pow_add, ← e]
    have : B64 ^ (p.length - 1) * (p[p.length - 1] + 1) ≤ B64 ^ (p.length - 1) * 2 ^ Lib.bitLen p[p.length - 1] := Nat.mul_le_mul_left _ h4
    rw [Nat.mul_add] at this; omega
  · intro _
    rw [Nat.pow_add, ← e]
    have : B64 ^ (p.length - 1) * 2 ^ Lib.bitLen p[p.length - 1] ≤ B64 ^ (p.length - 1) * (2 * p[p.length - 1]) := Nat.mul_le_mul_left _ h5
    rw [Nat.mul_left_comm] at this; omega
  · intro h0
    have := hc.val_pos B64_pos hp
    omega

theorem nbits_calls {w : World} {S : Nat → Prop} {n : Nat} {v : Value} (ha : RawN.rep S w n [v]) (hn : bitLen n ≤ 1000000) :
    Calls Try.prog 45 #[v] w fun e w' => e = .returned (.int .i64 (bitLen n : Int)) ∧ w = w' := by
  obtain ⟨xs, ha, ea⟩ := ha
  rw [← Pl.trim_val] at ea
  have Ea := hid ea
  clear ea
  go_enter Try.func45, Try.ntmps45
  go_wp2_with fail
  refine (trim_calls ha).mono ?_
  rintro e w' ⟨⟨u, rfl, hu⟩, rfl⟩
  have hc := Pl.trim_canon xs
  generalize Pl.trim xs = p at *
  have hd := num_dig hu
  obtain ⟨A, c1, rfl, hc1, hm1⟩ := sl_open hu
  rcases Nat.eq_zero_or_pos p.length with h0 | h0
  · obtain rfl := List.eq_nil_of_length_eq_zero h0
    have e0 := Ea.out
    simp only [List.length_nil]
    go_wp2
    go_ret
    exact ⟨by rw [← e0]; rfl, rfl⟩
  · have ht := bitLen_top h0 hd hc
    rw [Ea.out] at ht
    obtain ⟨b, o, rfl, _, hcell, hbd⟩ := num_at hu (p.length - 1) (by omega)
    have e0 : ((p.length : Int) == 0) = false := by rw [beq_eq_false_iff_ne]; omega
    have hl64 := bitLen_le p[p.length - 1] hbd
    have i1 : IntKind.i64.wrap ((p.length : Int) - 1) = ((p.length - 1 : Nat) : Int) := by
      rw [show (p.length : Int) - 1 = ((p.length - 1 : Nat) : Int) by omega]; exact IntWalk.i64_in _ (by omega)
    have Ht := hid ht
    have hpl : p.length ≤ 1000000 := by omega
    clear ht hn
    go_wp2_with fail
    refine (len64_calls p[p.length - 1] hbd _).mono ?_
    rintro e w' ⟨rfl, rfl⟩
    go_wp2
    go_ret
    exact ⟨ret_int (by have := Ht.out; omega), rfl⟩

theorem and_one (h : Nat) (hh : h < B64) : bits .and .u64 (h : Int) 1 = ((h % 2 : Nat) : Int) := by
  rw [show (1 : Int) = ((1 : Nat) : Int) from rfl, bits_and_u64_nat h 1 hh (by omega), Nat.and_one_is_mod]
theorem val_bit {xs : List Nat} (hd : Pl.Dig B64 xs) (i : Nat) : (Pl.val B64 xs).testBit i = ((xs.getD (i / 64) 0) / 2 ^ (i % 64) % 2 == 1) := by
  have e : Pl.val B64 xs / 2 ^ i % 2 = xs.getD (i / 64) 0 / 2 ^ (i % 64) % 2 := by
    have h1 : 2 ^ i = B64 ^ (i / 64) * 2 ^ (i % 64) := by
      rw [show B64 = 2 ^ 64 from rfl, ← Nat.pow_mul, ← Nat.pow_add]; congr 1; omega
    rw [h1, ← Nat.div_div_eq_div_mul]
    have h2 : Pl.val B64 xs / B64 ^ (i / 64) = Pl.val B64 (xs.drop (i / 64)) := by
      rcases Nat.lt_or_ge xs.length (i / 64) with h | h
      · rw [List.drop_of_length_le (by omega), Nat.div_eq_of_lt (Nat.lt_of_lt_of_le (Pl.val_lt hd) (Nat.pow_le_pow_right B64_pos (by omega)))]; rfl
      · rw [Pl.val_take_drop B64 xs (i / 64) h, Nat.add_mul_div_left _ _ (Nat.pow_pos B64_pos), Nat.div_eq_of_lt, Nat.zero_add]
        have := Pl.val_lt (hd.take (i / 64))
        rwa [List.length_take, Nat.min_eq_left h] at this
    rw [h2]
    rcases Nat.lt_or_ge (i / 64) xs.length with h | h
    · rw [Pl.val_drop B64 xs _ h, dec_at xs _ h]
      generalize Pl.val B64 (xs.drop (i / 64 + 1)) = X
      have h3 : B64 = 2 ^ (i % 64) * (2 * 2 ^ (63 - i % 64)) := by
        rw [← Nat.pow_succ', ← Nat.pow_add, show i % 64 + (63 - i % 64).succ = 64 by omega]; rfl
      rw [h3, Nat.mul_assoc, Nat.add_mul_div_left _ _ (Nat.two_pow_pos _), Nat.mul_assoc, Nat.add_mul_mod_self_left]
    · rw [List.drop_of_length_le h, List.getD_eq_getElem?_getD, List.getElem?_eq_none h]; rfl
  rw [Nat.testBit_eq_decide_div_mod_eq, e]
  rfl

theorem nbit_calls {w : World} {S : Nat → Prop} {n : Nat} {v : Value} (ha : RawN.rep S w n [v]) (i : Nat) (hi : i ≤ 1000000000000) :
    Calls Try.prog 70 #[v, .int .i64 (i : Int)] w fun e w' => e = .returned (.bool (n.testBit i)) ∧ w = w' := by
  obtain ⟨xs, ha, ea⟩ := ha
  have hd := num_dig ha
  have hv := val_bit hd i
  rw [ea] at hv
  obtain ⟨A, c1, rfl, hc1, hm1⟩ := sl_open ha
  obtain ⟨Q, hQ⟩ : ∃ Q, Q = i / 64 := ⟨_, rfl⟩
  obtain ⟨R, hR⟩ : ∃ R, R = i % 64 := ⟨_, rfl⟩
  have e1 : (i : Int) / 64 = (Q : Int) := by omega
  have e2 : (i : Int) % 64 = (R : Int) := by omega
  have hR2 : R ≤ 63 := by omega
  rw [← hQ, ← hR] at hv
  have Ea := hid ea
  have Hv := hid hv
  clear ea hv hQ hR
  by_cases hlt : Q < xs.length
  · obtain ⟨b, o, rfl, _, hcell, hbd⟩ := num_at ha Q hlt
    obtain ⟨H, hH⟩ : ∃ H, H = xs[Q] / 2 ^ R := ⟨_, rfl⟩
    have q3 : (xs[Q] : Int) / 2 ^ R = (H : Int) := by rw [hH]; push_cast; rfl
    have hHb : H < B64 := by rw [hH]; exact Nat.lt_of_le_of_lt (Nat.div_le_self _ _) hbd
    have q4 := and_one H hHb
    have hres : n.testBit i = (((H % 2 : Nat) : Int) == 1) := by
      rw [Hv.out, dec_at xs Q hlt, ← hH, Bool.eq_iff_iff, beq_iff_eq, beq_iff_eq]; omega
    obtain ⟨B2, hB2⟩ : ∃ B2, B2 = H % 2 := ⟨_, rfl⟩
    rw [← hB2] at q4 hres
    rw [hres]
    clear hH hB2 hres
    go_enter Try.func70, Try.ntmps70
    go_wp2
    go_ret
    exact ⟨rfl, rfl⟩
  · have hres : n.testBit i = false := by
      rw [Hv.out, List.getD_eq_getElem?_getD, List.getElem?_eq_none (by omega)]
      simp
    rw [hres]
    clear hres
    go_enter Try.func70, Try.ntmps70
    go_wp2
    go_ret
    exact ⟨rfl, rfl⟩

end Go.Proofs.Ytphbacggmhjmgaa
