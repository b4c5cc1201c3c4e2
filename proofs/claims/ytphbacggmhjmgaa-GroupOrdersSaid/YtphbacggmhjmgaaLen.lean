/- math/bits: how many bits a number has. -/
import Derived.Test.YtphbacggmhjmgaaBits
import Derived.Lib.BitFns
import Derived.Deep.Light
namespace Go.Proofs.Ytphbacggmhjmgaa
open Go.RowKit

theorem wrap_add56 (k a b : Nat) (hk : k ≤ 56) (ha : a ≤ 8) (hb : b = k + a) : wrap64 ((k : Int) + (a : Int)) = (b : Int) := by
  unfold wrap64
  omega

theorem wpList_index_len8 {P : Program} {ops : Array Oper} {rest : List Oper} {o : Oper} {a : Act} {Q : Exit → Act → World → Prop} {w : World} (hgd : o.guard = none) (t : TypeId) (S : ByteArray) (x : Operand)
    (ho : o.op = .index t (.const (.string S)) x) (hS : S = Lib.len8tab) (ht : P.underlying t = some .string) (k : IntKind) (y : Int) (hx : a.eval x = .int k y) (h0 : 0 ≤ y) (h1 : y ≤ 255)
    (h : wpList P ops Q rest (a.put o.dst (.int .u8 (Lib.len8 y))) w) : wpList P ops Q (o :: rest) a w := by
  subst hS
  refine wpList_plain hgd fun K hK => ?_
  unfold Oper.wp execOp
  have e : a.eval (.const (.string Lib.len8tab)) = .string Lib.len8tab := rfl
  simp only [ho, e, hx, Lib.run_index_len8tab w t k y ht h0 h1, Sem.run_bind, Sem.run_pure, Result.andThen_ok]
  exact hK _ _ h

theorem ret_int' {k : IntKind} {a b : Int} (h : a = b) : Ending.returned (.int k a) = .returned (.int k b) := by rw [h]

set_option maxRecDepth 100000 in
theorem len64_000 (x : Nat) (hx : x < 18446744073709551616) (c1 : decide ((4294967296 : Int) ≤ (x : Int)) = false) (c2 : decide ((65536 : Int) ≤ (x : Int)) = false) (c3 : decide ((256 : Int) ≤ (x : Int)) = false) (w : World) :
    Calls Try.prog 67 #[.int .u64 (x : Int)] w fun e w' => e = .returned (.int .i64 (Lib.bitLen x : Int)) ∧ w = w' := by
  have h0 : (0 : Int) ≤ (x : Int) := by omega
  have h1 : (x : Int) ≤ 18446744073709551615 := by omega
  have g0 : (0 : Int) ≤ (x : Int) := by omega
  have g1 : (x : Int) ≤ 255 := by simp at c1 c2 c3; omega
  have e1 := Lib.len8_of (x : Int) g0 g1
  have l1 := Lib.bitLen_le8' (x : Int) g0 g1
  have hfin : (Lib.bitLen x : Int) = 0 + Lib.len8 (x : Int) := by
    have z1 := c1
    have z2 := c2
    have z3 := c3
    simp at z1 z2 z3
    rw [e1]
    rw [show (x : Int).toNat = x by omega]; omega
  have b0 : 0 ≤ Lib.len8 (x : Int) := by rw [e1]; omega
  have b1 : Lib.len8 (x : Int) ≤ 8 := by rw [e1]; omega
  have Hfin := hid hfin
  clear hfin e1 l1
  refine calls_enter Try.func67 rfl 25 Try.ntmps67 #[.int .u64 (x : Int), undef, undef, undef, undef, undef, undef, undef, undef, undef, undef, undef, undef, undef, undef, undef, undef, undef, undef, undef, undef, undef, undef, undef, undef] (by simp [Array.replicate_succ]) ?_
  repeat (first | (refine wpList_index_len8 rfl _ _ _ rfl (by kernel_rfl) Try.underlying9 .u8 (x : Int) (by first | rfl | (dsimp only; rfl)) g0 g1 ?_) | go_step)
  go_ret
  exact ⟨ret_int' (by have := Hfin.out; omega), rfl⟩

set_option maxRecDepth 100000 in
theorem len64_001 (x : Nat) (hx : x < 18446744073709551616) (c1 : decide ((4294967296 : Int) ≤ (x : Int)) = false) (c2 : decide ((65536 : Int) ≤ (x : Int)) = false) (c3 : decide ((256 : Int) ≤ (x : Int)) = true) (w : World) :
    Calls Try.prog 67 #[.int .u64 (x : Int)] w fun e w' => e = .returned (.int .i64 (Lib.bitLen x : Int)) ∧ w = w' := by
  have h0 : (0 : Int) ≤ (x : Int) := by omega
  have h1 : (x : Int) ≤ 18446744073709551615 := by omega
  have g0 : (0 : Int) ≤ ((x : Int) / 256) := by omega
  have g1 : ((x : Int) / 256) ≤ 255 := by simp at c1 c2 c3; omega
  have e1 := Lib.len8_of ((x : Int) / 256) g0 g1
  have l1 := Lib.bitLen_le8' ((x : Int) / 256) g0 g1
  have hfin : (Lib.bitLen x : Int) = 8 + Lib.len8 ((x : Int) / 256) := by
    have z1 := c1
    have z2 := c2
    have z3 := c3
    simp at z1 z2 z3
    rw [e1]
    have s := Lib.bitLen_shift8 x (by omega) (by omega); rw [show ((x : Int) / 256).toNat = x / 256 by omega]; omega
  have b0 : 0 ≤ Lib.len8 ((x : Int) / 256) := by rw [e1]; omega
  have b1 : Lib.len8 ((x : Int) / 256) ≤ 8 := by rw [e1]; omega
  have Hfin := hid hfin
  clear hfin e1 l1
  refine calls_enter Try.func67 rfl 25 Try.ntmps67 #[.int .u64 (x : Int), undef, undef, undef, undef, undef, undef, undef, undef, undef, undef, undef, undef, undef, undef, undef, undef, undef, undef, undef, undef, undef, undef, undef, undef] (by simp [Array.replicate_succ]) ?_
  repeat (first | (refine wpList_index_len8 rfl _ _ _ rfl (by kernel_rfl) Try.underlying9 .u8 ((x : Int) / 256) (by first | rfl | (dsimp only; rfl)) g0 g1 ?_) | go_step)
  go_ret
  exact ⟨ret_int' (by have := Hfin.out; omega), rfl⟩

set_option maxRecDepth 100000 in
theorem len64_010 (x : Nat) (hx : x < 18446744073709551616) (c1 : decide ((4294967296 : Int) ≤ (x : Int)) = false) (c2 : decide ((65536 : Int) ≤ (x : Int)) = true) (c3 : decide ((256 : Int) ≤ ((x : Int) / 65536)) = false) (w : World) :
    Calls Try.prog 67 #[.int .u64 (x : Int)] w fun e w' => e = .returned (.int .i64 (Lib.bitLen x : Int)) ∧ w = w' := by
  have h0 : (0 : Int) ≤ (x : Int) := by omega
  have h1 : (x : Int) ≤ 18446744073709551615 := by omega
  have g0 : (0 : Int) ≤ ((x : Int) / 65536) := by omega
  have g1 : ((x : Int) / 65536) ≤ 255 := by simp at c1 c2 c3; omega
  have e1 := Lib.len8_of ((x : Int) / 65536) g0 g1
  have l1 := Lib.bitLen_le8' ((x : Int) / 65536) g0 g1
  have hfin : (Lib.bitLen x : Int) = 16 + Lib.len8 ((x : Int) / 65536) := by
    have z1 := c1
    have z2 := c2
    have z3 := c3
    simp at z1 z2 z3
    rw [e1]
    have s := Lib.bitLen_shift16 x (by omega) (by omega); rw [show ((x : Int) / 65536).toNat = x / 65536 by omega]; omega
  have b0 : 0 ≤ Lib.len8 ((x : Int) / 65536) := by rw [e1]; omega
  have b1 : Lib.len8 ((x : Int) / 65536) ≤ 8 := by rw [e1]; omega
  have Hfin := hid hfin
  clear hfin e1 l1
  refine calls_enter Try.func67 rfl 25 Try.ntmps67 #[.int .u64 (x : Int), undef, undef, undef, undef, undef, undef, undef, undef, undef, undef, undef, undef, undef, undef, undef, undef, undef, undef, undef, undef, undef, undef, undef, undef] (by simp [Array.replicate_succ]) ?_
  repeat (first | (refine wpList_index_len8 rfl _ _ _ rfl (by kernel_rfl) Try.underlying9 .u8 ((x : Int) / 65536) (by first | rfl | (dsimp only; rfl)) g0 g1 ?_) | go_step)
  go_ret
  exact ⟨ret_int' (by have := Hfin.out; omega), rfl⟩

set_option maxRecDepth 100000 in
theorem len64_011 (x : Nat) (hx : x < 18446744073709551616) (c1 : decide ((4294967296 : Int) ≤ (x : Int)) = false) (c2 : decide ((65536 : Int) ≤ (x : Int)) = true) (c3 : decide ((256 : Int) ≤ ((x : Int) / 65536)) = true) (w : World) :
    Calls Try.prog 67 #[.int .u64 (x : Int)] w fun e w' => e = .returned (.int .i64 (Lib.bitLen x : Int)) ∧ w = w' := by
  have h0 : (0 : Int) ≤ (x : Int) := by omega
  have h1 : (x : Int) ≤ 18446744073709551615 := by omega
  have g0 : (0 : Int) ≤ (((x : Int) / 65536) / 256) := by omega
  have g1 : (((x : Int) / 65536) / 256) ≤ 255 := by simp at c1 c2 c3; omega
  have e1 := Lib.len8_of (((x : Int) / 65536) / 256) g0 g1
  have l1 := Lib.bitLen_le8' (((x : Int) / 65536) / 256) g0 g1
  have hfin : (Lib.bitLen x : Int) = 24 + Lib.len8 (((x : Int) / 65536) / 256) := by
    have z1 := c1
    have z2 := c2
    have z3 := c3
    simp at z1 z2 z3
    rw [e1]
    have s := Lib.bitLen_shift24 x (by omega) (by omega); rw [show (((x : Int) / 65536) / 256).toNat = x / 16777216 by omega]; omega
  have b0 : 0 ≤ Lib.len8 (((x : Int) / 65536) / 256) := by rw [e1]; omega
  have b1 : Lib.len8 (((x : Int) / 65536) / 256) ≤ 8 := by rw [e1]; omega
  have Hfin := hid hfin
  clear hfin e1 l1
  refine calls_enter Try.func67 rfl 25 Try.ntmps67 #[.int .u64 (x : Int), undef, undef, undef, undef, undef, undef, undef, undef, undef, undef, undef, undef, undef, undef, undef, undef, undef, undef, undef, undef, undef, undef, undef, undef] (by simp [Array.replicate_succ]) ?_
  repeat (first | (refine wpList_index_len8 rfl _ _ _ rfl (by kernel_rfl) Try.underlying9 .u8 (((x : Int) / 65536) / 256) (by first | rfl | (dsimp only; rfl)) g0 g1 ?_) | go_step)
  go_ret
  exact ⟨ret_int' (by have := Hfin.out; omega), rfl⟩

set_option maxRecDepth 100000 in
theorem len64_100 (x : Nat) (hx : x < 18446744073709551616) (c1 : decide ((4294967296 : Int) ≤ (x : Int)) = true) (c2 : decide ((65536 : Int) ≤ ((x : Int) / 4294967296)) = false) (c3 : decide ((256 : Int) ≤ ((x : Int) / 4294967296)) = false) (w : World) :
    Calls Try.prog 67 #[.int .u64 (x : Int)] w fun e w' => e = .returned (.int .i64 (Lib.bitLen x : Int)) ∧ w = w' := by
  have h0 : (0 : Int) ≤ (x : Int) := by omega
  have h1 : (x : Int) ≤ 18446744073709551615 := by omega
  have g0 : (0 : Int) ≤ ((x : Int) / 4294967296) := by omega
  have g1 : ((x : Int) / 4294967296) ≤ 255 := by simp at c1 c2 c3; omega
  have e1 := Lib.len8_of ((x : Int) / 4294967296) g0 g1
  have l1 := Lib.bitLen_le8' ((x : Int) / 4294967296) g0 g1
  have hfin : (Lib.bitLen x : Int) = 32 + Lib.len8 ((x : Int) / 4294967296) := by
    have z1 := c1
    have z2 := c2
    have z3 := c3
    simp at z1 z2 z3
    rw [e1]
    have s := Lib.bitLen_shift32 x (by omega) (by omega); rw [show ((x : Int) / 4294967296).toNat = x / 4294967296 by omega]; omega
  have b0 : 0 ≤ Lib.len8 ((x : Int) / 4294967296) := by rw [e1]; omega
  have b1 : Lib.len8 ((x : Int) / 4294967296) ≤ 8 := by rw [e1]; omega
  have Hfin := hid hfin
  clear hfin e1 l1
  refine calls_enter Try.func67 rfl 25 Try.ntmps67 #[.int .u64 (x : Int), undef, undef, undef, undef, undef, undef, undef, undef, undef, undef, undef, undef, undef, undef, undef, undef, undef, undef, undef, undef, undef, undef, undef, undef] (by simp [Array.replicate_succ]) ?_
  repeat (first | (refine wpList_index_len8 rfl _ _ _ rfl (by kernel_rfl) Try.underlying9 .u8 ((x : Int) / 4294967296) (by first | rfl | (dsimp only; rfl)) g0 g1 ?_) | go_step)
  go_ret
  exact ⟨ret_int' (by have := Hfin.out; omega), rfl⟩

set_option maxRecDepth 100000 in
theorem len64_101 (x : Nat) (hx : x < 18446744073709551616) (c1 : decide ((4294967296 : Int) ≤ (x : Int)) = true) (c2 : decide ((65536 : Int) ≤ ((x : Int) / 4294967296)) = false) (c3 : decide ((256 : Int) ≤ ((x : Int) / 4294967296)) = true) (w : World) :
    Calls Try.prog 67 #[.int .u64 (x : Int)] w fun e w' => e = .returned (.int .i64 (Lib.bitLen x : Int)) ∧ w = w' := by
  have h0 : (0 : Int) ≤ (x : Int) := by omega
  have h1 : (x : Int) ≤ 18446744073709551615 := by omega
  have g0 : (0 : Int) ≤ (((x : Int) / 4294967296) / 256) := by omega
  have g1 : (((x : Int) / 4294967296) / 256) ≤ 255 := by simp at c1 c2 c3; omega
  have e1 := Lib.len8_of (((x : Int) / 4294967296) / 256) g0 g1
  have l1 := Lib.bitLen_le8' (((x : Int) / 4294967296) / 256) g0 g1
  have hfin : (Lib.bitLen x : Int) = 40 + Lib.len8 (((x : Int) / 4294967296) / 256) := by
    have z1 := c1
    have z2 := c2
    have z3 := c3
    simp at z1 z2 z3
    rw [e1]
    have s := Lib.bitLen_shift40 x (by omega) (by omega); rw [show (((x : Int) / 4294967296) / 256).toNat = x / 1099511627776 by omega]; omega
  have b0 : 0 ≤ Lib.len8 (((x : Int) / 4294967296) / 256) := by rw [e1]; omega
  have b1 : Lib.len8 (((x : Int) / 4294967296) / 256) ≤ 8 := by rw [e1]; omega
  have Hfin := hid hfin
  clear hfin e1 l1
  refine calls_enter Try.func67 rfl 25 Try.ntmps67 #[.int .u64 (x : Int), undef, undef, undef, undef, undef, undef, undef, undef, undef, undef, undef, undef, undef, undef, undef, undef, undef, undef, undef, undef, undef, undef, undef, undef] (by simp [Array.replicate_succ]) ?_
  repeat (first | (refine wpList_index_len8 rfl _ _ _ rfl (by kernel_rfl) Try.underlying9 .u8 (((x : Int) / 4294967296) / 256) (by first | rfl | (dsimp only; rfl)) g0 g1 ?_) | go_step)
  go_ret
  exact ⟨ret_int' (by have := Hfin.out; omega), rfl⟩

set_option maxRecDepth 100000 in
theorem len64_110 (x : Nat) (hx : x < 18446744073709551616) (c1 : decide ((4294967296 : Int) ≤ (x : Int)) = true) (c2 : decide ((65536 : Int) ≤ ((x : Int) / 4294967296)) = true) (c3 : decide ((256 : Int) ≤ (((x : Int) / 4294967296) / 65536)) = false) (w : World) :
    Calls Try.prog 67 #[.int .u64 (x : Int)] w fun e w' => e = .returned (.int .i64 (Lib.bitLen x : Int)) ∧ w = w' := by
  have h0 : (0 : Int) ≤ (x : Int) := by omega
  have h1 : (x : Int) ≤ 18446744073709551615 := by omega
  have g0 : (0 : Int) ≤ (((x : Int) / 4294967296) / 65536) := by omega
  have g1 : (((x : Int) / 4294967296) / 65536) ≤ 255 := by simp at c1 c2 c3; omega
  have e1 := Lib.len8_of (((x : Int) / 4294967296) / 65536) g0 g1
  have l1 := Lib.bitLen_le8' (((x : Int) / 4294967296) / 65536) g0 g1
  have hfin : (Lib.bitLen x : Int) = 48 + Lib.len8 (((x : Int) / 4294967296) / 65536) := by
    have z1 := c1
    have z2 := c2
    have z3 := c3
    simp at z1 z2 z3
    rw [e1]
    have s := Lib.bitLen_shift48 x (by omega) (by omega); rw [show (((x : Int) / 4294967296) / 65536).toNat = x / 281474976710656 by omega]; omega
  have b0 : 0 ≤ Lib.len8 (((x : Int) / 4294967296) / 65536) := by rw [e1]; omega
  have b1 : Lib.len8 (((x : Int) / 4294967296) / 65536) ≤ 8 := by rw [e1]; omega
  have Hfin := hid hfin
  clear hfin e1 l1
  refine calls_enter Try.func67 rfl 25 Try.ntmps67 #[.int .u64 (x : Int), undef, undef, undef, undef, undef, undef, undef, undef, undef, undef, undef, undef, undef, undef, undef, undef, undef, undef, undef, undef, undef, undef, undef, undef] (by simp [Array.replicate_succ]) ?_
  repeat (first | (refine wpList_index_len8 rfl _ _ _ rfl (by kernel_rfl) Try.underlying9 .u8 (((x : Int) / 4294967296) / 65536) (by first | rfl | (dsimp only; rfl)) g0 g1 ?_) | go_step)
  go_ret
  exact ⟨ret_int' (by have := Hfin.out; omega), rfl⟩

set_option maxRecDepth 100000 in
theorem len64_111 (x : Nat) (hx : x < 18446744073709551616) (c1 : decide ((4294967296 : Int) ≤ (x : Int)) = true) (c2 : decide ((65536 : Int) ≤ ((x : Int) / 4294967296)) = true) (c3 : decide ((256 : Int) ≤ (((x : Int) / 4294967296) / 65536)) = true) (w : World) :
    Calls Try.prog 67 #[.int .u64 (x : Int)] w fun e w' => e = .returned (.int .i64 (Lib.bitLen x : Int)) ∧ w = w' := by
  have h0 : (0 : Int) ≤ (x : Int) := by omega
  have h1 : (x : Int) ≤ 18446744073709551615 := by omega
  have g0 : (0 : Int) ≤ ((((x : Int) / 4294967296) / 65536) / 256) := by omega
  have g1 : ((((x : Int) / 4294967296) / 65536) / 256) ≤ 255 := by simp at c1 c2 c3; omega
  have e1 := Lib.len8_of ((((x : Int) / 4294967296) / 65536) / 256) g0 g1
  have l1 := Lib.bitLen_le8' ((((x : Int) / 4294967296) / 65536) / 256) g0 g1
  have hfin : (Lib.bitLen x : Int) = 56 + Lib.len8 ((((x : Int) / 4294967296) / 65536) / 256) := by
    have z1 := c1
    have z2 := c2
    have z3 := c3
    simp at z1 z2 z3
    rw [e1]
    have s := Lib.bitLen_shift56 x (by omega) (by omega); rw [show ((((x : Int) / 4294967296) / 65536) / 256).toNat = x / 72057594037927936 by omega]; omega
  have b0 : 0 ≤ Lib.len8 ((((x : Int) / 4294967296) / 65536) / 256) := by rw [e1]; omega
  have b1 : Lib.len8 ((((x : Int) / 4294967296) / 65536) / 256) ≤ 8 := by rw [e1]; omega
  have Hfin := hid hfin
  clear hfin e1 l1
  refine calls_enter Try.func67 rfl 25 Try.ntmps67 #[.int .u64 (x : Int), undef, undef, undef, undef, undef, undef, undef, undef, undef, undef, undef, undef, undef, undef, undef, undef, undef, undef, undef, undef, undef, undef, undef, undef] (by simp [Array.replicate_succ]) ?_
  repeat (first | (refine wpList_index_len8 rfl _ _ _ rfl (by kernel_rfl) Try.underlying9 .u8 ((((x : Int) / 4294967296) / 65536) / 256) (by first | rfl | (dsimp only; rfl)) g0 g1 ?_) | go_step)
  go_ret
  exact ⟨ret_int' (by have := Hfin.out; omega), rfl⟩

theorem len64_calls (x : Nat) (hx : x < B64) (w : World) :
    Calls Try.prog 67 #[.int .u64 (x : Int)] w fun e w' => e = .returned (.int .i64 (Lib.bitLen x : Int)) ∧ w = w' := by
  unfold B64 at hx
  cases c1 : decide ((4294967296 : Int) ≤ (x : Int)) <;> cases c2 : decide ((65536 : Int) ≤ (if (4294967296 : Int) ≤ (x : Int) then (x : Int) / 4294967296 else (x : Int))) <;>
    cases c3 : decide ((256 : Int) ≤ (if (65536 : Int) ≤ (if (4294967296 : Int) ≤ (x : Int) then (x : Int) / 4294967296 else (x : Int)) then (if (4294967296 : Int) ≤ (x : Int) then (x : Int) / 4294967296 else (x : Int)) / 65536 else (if (4294967296 : Int) ≤ (x : Int) then (x : Int) / 4294967296 else (x : Int))))
  all_goals (
    have d1 := c1
    simp only [decide_eq_true_eq, decide_eq_false_iff_not] at d1
    simp only [d1, if_true, if_false] at c2 c3
    have d2 := c2
    simp only [decide_eq_true_eq, decide_eq_false_iff_not] at d2
    simp only [d2, if_true, if_false] at c3)
  · exact len64_000 x hx c1 c2 c3 w
  · exact len64_001 x hx c1 c2 c3 w
  · exact len64_010 x hx c1 c2 c3 w
  · exact len64_011 x hx c1 c2 c3 w
  · exact len64_100 x hx c1 c2 c3 w
  · exact len64_101 x hx c1 c2 c3 w
  · exact len64_110 x hx c1 c2 c3 w
  · exact len64_111 x hx c1 c2 c3 w

theorem bitLen_zero : Lib.bitLen 0 = 0 := by decide
theorem bitLen_lt (x : Nat) (h : x < 2 ^ 64) : x < 2 ^ Lib.bitLen x := by
  induction x using Nat.strongRecOn with
  | _ x ih =>
    by_cases h0 : x = 0
    · subst h0; rw [bitLen_zero]; decide
    · have := ih (x / 2) (by omega) (by omega)
      rw [Lib.bitLen_half x h0 h, Nat.pow_add]
      omega
theorem bitLen_ge (x : Nat) (h : x < 2 ^ 64) (h0 : x ≠ 0) : 2 ^ Lib.bitLen x ≤ 2 * x := by
  induction x using Nat.strongRecOn with
  | _ x ih =>
    rw [Lib.bitLen_half x h0 h, Nat.pow_add]
    by_cases h1 : x / 2 = 0
    · rw [h1, bitLen_zero]; simp; omega
    · have := ih (x / 2) (by omega) (by omega) h1
      omega
theorem bitLen_le (x : Nat) (h : x < 2 ^ 64) : Lib.bitLen x ≤ 64 := Lib.bitLenAux_le 64 x 64 h

theorem ret_int'' {k : IntKind} {a b : Int} (h : a = b) : Ending.returned (.int k a) = .returned (.int k b) := by rw [h]

theorem lz64_calls (x : Nat) (hx : x < B64) (w : World) :
    Calls Try.prog 76 #[.int .u64 (x : Int)] w fun e w' => e = .returned (.int .i64 ((64 - Lib.bitLen x : Nat) : Int)) ∧ w = w' := by
  have hl := bitLen_le x hx
  go_enter Try.func76, Try.ntmps76
  go_wp2_with fail
  refine (len64_calls x hx _).mono ?_
  rintro e w' ⟨rfl, rfl⟩
  go_wp2
  go_ret
  exact ⟨ret_int'' (by omega), rfl⟩

end Go.Proofs.Ytphbacggmhjmgaa
