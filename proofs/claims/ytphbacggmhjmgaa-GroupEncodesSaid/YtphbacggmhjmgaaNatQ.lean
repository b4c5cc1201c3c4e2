/- The layer nat, second part: lengths, quotients of two digits by one, short division, shifts, less. -/
import Derived.Test.YtphbacggmhjmgaaNatP
import Derived.Lib.BitFns
import Derived.Deep.Light
import Derived.Test.YtphbacggmhjmgaaPlA
import Derived.Deep.QuietTactic
import Derived.Deep.DeepCutAuto
import Derived.Deep.CutBlock
import Derived.RegionTactic
import Derived.BigRegion

/- math/bits: how many bits a number has. -/
namespace Go.Proofs.Ytphbacggmhjmgaa
open Go.RowKit

theorem wrap_add56 (k a b : Nat) (hk : k ≤ 56) (ha : a ≤ 8) (hb : b = k + a) : wrap64 ((k : Int) + (a : Int)) = (b : Int) := by
  unfold wrap64
  omega

theorem wpList_index_len8 {P : Program} {ops : Array Oper} {rest : List Oper} {o : Oper} {a : Act} {Q : Exit → Act → World → Prop} {w : World} (hgd : o.guard = none) (t : TypeId) (S : ByteArray) (x : Operand)
    (ho : o.op = .index t (.const (.string S)) x) (hS : S = Lib.len8tab) (ht : P.underlying t = some .string) (k : IntKind) (y : Int) (hx : a.eval x = .int k y) (h0 : 0 ≤ y) (h1 : y ≤ 255)
    (h : wpList P ops Q rest (a.put o.dst (.int .u8 (Lib.len8 y))) w) : wpList P ops Q (o :: rest) a w := by
  subst hS
  refine wpList_plain hgd fun K hK => ?_
  unfold Oper.wp execOp
  have e : a.eval (.const (.string Lib.len8tab)) = .string Lib.len8tab := rfl
  simp only [ho, e, hx, Lib.run_index_len8tab w t k y ht h0 h1, Sem.run_bind, Sem.run_pure, Result.andThen_ok]
  exact hK _ _ h

theorem ret_int' {k : IntKind} {a b : Int} (h : a = b) : Ending.returned (.int k a) = .returned (.int k b) := by rw [h]

set_option maxRecDepth 100000 in
theorem len64_000 (x : Nat) (hx : x < 18446744073709551616) (c1 : decide ((4294967296 : Int) ≤ (x : Int)) = false) (c2 : decide ((65536 : Int) ≤ (x : Int)) = false) (c3 : decide ((256 : Int) ≤ (x : Int)) = false) (w : World) :
    Calls Try.prog 67 #[.int .u64 (x : Int)] w fun e w' => e = .returned (.int .i64 (Lib.bitLen x : Int)) ∧ w = w' := by
  have h0 : (0 : Int) ≤ (x : Int) := by omega
  have h1 : (x : Int) ≤ 18446744073709551615 := by omega
  have g0 : (0 : Int) ≤ (x : Int) := by omega
  have g1 : (x : Int) ≤ 255 := by simp at c1 c2 c3; omega
  have e1 := Lib.len8_of (x : Int) g0 g1
  have l1 := Lib.bitLen_le8' (x : Int) g0 g1
  have hfin : (Lib.bitLen x : Int) = 0 + Lib.len8 (x : Int) := by
    have z1 := c1
    have z2 := c2
    have z3 := c3
    simp at z1 z2 z3
    rw [e1]
    rw [show (x : Int).toNat = x by omega]; omega
  have b0 : 0 ≤ Lib.len8 (x : Int) := by rw [e1]; omega
  have b1 : Lib.len8 (x : Int) ≤ 8 := by rw [e1]; omega
  have Hfin := hid hfin
  clear hfin e1 l1
  refine calls_enter Try.func67 rfl 25 Try.ntmps67 #[.int .u64 (x : Int), undef, undef, undef, undef, undef, undef, undef, undef, undef, undef, undef, undef, undef, undef, undef, undef, undef, undef, undef, undef, undef, undef, undef, undef] (by simp [Array.replicate_succ]) ?_
  repeat (first | (refine wpList_index_len8 rfl _ _ _ rfl (by kernel_rfl) Try.underlying9 .u8 (x : Int) (by first | rfl | (dsimp only; rfl)) g0 g1 ?_) | go_step)
  go_ret
  exact ⟨ret_int' (by have := Hfin.out; omega), rfl⟩

set_option maxRecDepth 100000 in
theorem len64_001 (x : Nat) (hx : x < 18446744073709551616) (c1 : decide ((4294967296 : Int) ≤ (x : Int)) = false) (c2 : decide ((65536 : Int) ≤ (x : Int)) = false) (c3 : decide ((256 : Int) ≤ (x : Int)) = true) (w : World) :
    Calls Try.prog 67 #[.int .u64 (x : Int)] w fun e w' => e = .returned (.int .i64 (Lib.bitLen x : Int)) ∧ w = w' := by
  have h0 : (0 : Int) ≤ (x : Int) := by omega
  have h1 : (x : Int) ≤ 18446744073709551615 := by omega
  have g0 : (0 : Int) ≤ ((x : Int) / 256) := by omega
  have g1 : ((x : Int) / 256) ≤ 255 := by simp at c1 c2 c3; omega
  have e1 := Lib.len8_of ((x : Int) / 256) g0 g1
  have l1 := Lib.bitLen_le8' ((x : Int) / 256) g0 g1
  have hfin : (Lib.bitLen x : Int) = 8 + Lib.len8 ((x : Int) / 256) := by
    have z1 := c1
    have z2 := c2
    have z3 := c3
    simp at z1 z2 z3
    rw [e1]
    have s := Lib.bitLen_shift8 x (by omega) (by omega); rw [show ((x : Int) / 256).toNat = x / 256 by omega]; omega
  have b0 : 0 ≤ Lib.len8 ((x : Int) / 256) := by rw [e1]; omega
  have b1 : Lib.len8 ((x : Int) / 256) ≤ 8 := by rw [e1]; omega
  have Hfin := hid hfin
  clear hfin e1 l1
  refine calls_enter Try.func67 rfl 25 Try.ntmps67 #[.int .u64 (x : Int), undef, undef, undef, undef, undef, undef, undef, undef, undef, undef, undef, undef, undef, undef, undef, undef, undef, undef, undef, undef, undef, undef, undef, undef] (by simp [Array.replicate_succ]) ?_
  repeat (first | (refine wpList_index_len8 rfl _ _ _ rfl (by kernel_rfl) Try.underlying9 .u8 ((x : Int) / 256) (by first | rfl | (dsimp only; rfl)) g0 g1 ?_) | go_step)
  go_ret
  exact ⟨ret_int' (by have := Hfin.out; omega), rfl⟩

set_option maxRecDepth 100000 in
theorem len64_010 (x : Nat) (hx : x < 18446744073709551616) (c1 : decide ((4294967296 : Int) ≤ (x : Int)) = false) (c2 : decide ((65536 : Int) ≤ (x : Int)) = true) (c3 : decide ((256 : Int) ≤ ((x : Int) / 65536)) = false) (w : World) :
    Calls Try.prog 67 #[.int .u64 (x : Int)] w fun e w' => e = .returned (.int .i64 (Lib.bitLen x : Int)) ∧ w = w' := by
  have h0 : (0 : Int) ≤ (x : Int) := by omega
  have h1 : (x : Int) ≤ 18446744073709551615 := by omega
  have g0 : (0 : Int) ≤ ((x : Int) / 65536) := by omega
  have g1 : ((x : Int) / 65536) ≤ 255 := by simp at c1 c2 c3; omega
  have e1 := Lib.len8_of ((x : Int) / 65536) g0 g1
  have l1 := Lib.bitLen_le8' ((x : Int) / 65536) g0 g1
  have hfin : (Lib.bitLen x : Int) = 16 + Lib.len8 ((x : Int) / 65536) := by
    have z1 := c1
    have z2 := c2
    have z3 := c3
    simp at z1 z2 z3
    rw [e1]
    have s := Lib.bitLen_shift16 x (by omega) (by omega); rw [show ((x : Int) / 65536).toNat = x / 65536 by omega]; omega
  have b0 : 0 ≤ Lib.len8 ((x : Int) / 65536) := by rw [e1]; omega
  have b1 : Lib.len8 ((x : Int) / 65536) ≤ 8 := by rw [e1]; omega
  have Hfin := hid hfin
  clear hfin e1 l1
  refine calls_enter Try.func67 rfl 25 Try.ntmps67 #[.int .u64 (x : Int), undef, undef, undef, undef, undef, undef, undef, undef, undef, undef, undef, undef, undef, undef, undef, undef, undef, undef, undef, undef, undef, undef, undef, undef] (by simp [Array.replicate_succ]) ?_
  repeat (first | (refine wpList_index_len8 rfl _ _ _ rfl (by kernel_rfl) Try.underlying9 .u8 ((x : Int) / 65536) (by first | rfl | (dsimp only; rfl)) g0 g1 ?_) | go_step)
  go_ret
  exact ⟨ret_int' (by have := Hfin.out; omega), rfl⟩

set_option maxRecDepth 100000 in
theorem len64_011 (x : Nat) (hx : x < 18446744073709551616) (c1 : decide ((4294967296 : Int) ≤ (x : Int)) = false) (c2 : decide ((65536 : Int) ≤ (x : Int)) = true) (c3 : decide ((256 : Int) ≤ ((x : Int) / 65536)) = true) (w : World) :
    Calls Try.prog 67 #[.int .u64 (x : Int)] w fun e w' => e = .returned (.int .i64 (Lib.bitLen x : Int)) ∧ w = w' := by
  have h0 : (0 : Int) ≤ (x : Int) := by omega
  have h1 : (x : Int) ≤ 18446744073709551615 := by omega
  have g0 : (0 : Int) ≤ (((x : Int) / 65536) / 256) := by omega
  have g1 : (((x : Int) / 65536) / 256) ≤ 255 := by simp at c1 c2 c3; omega
  have e1 := Lib.len8_of (((x : Int) / 65536) / 256) g0 g1
  have l1 := Lib.bitLen_le8' (((x : Int) / 65536) / 256) g0 g1
  have hfin : (Lib.bitLen x : Int) = 24 + Lib.len8 (((x : Int) / 65536) / 256) := by
    have z1 := c1
    have z2 := c2
    have z3 := c3
    simp at z1 z2 z3
    rw [e1]
    have s := Lib.bitLen_shift24 x (by omega) (by omega); rw [show (((x : Int) / 65536) / 256).toNat = x / 16777216 by omega]; omega
  have b0 : 0 ≤ Lib.len8 (((x : Int) / 65536) / 256) := by rw [e1]; omega
  have b1 : Lib.len8 (((x : Int) / 65536) / 256) ≤ 8 := by rw [e1]; omega
  have Hfin := hid hfin
  clear hfin e1 l1
  refine calls_enter Try.func67 rfl 25 Try.ntmps67 #[.int .u64 (x : Int), undef, undef, undef, undef, undef, undef, undef, undef, undef, undef, undef, undef, undef, undef, undef, undef, undef, undef, undef, undef, undef, undef, undef, undef] (by simp [Array.replicate_succ]) ?_
  repeat (first | (refine wpList_index_len8 rfl _ _ _ rfl (by kernel_rfl) Try.underlying9 .u8 (((x : Int) / 65536) / 256) (by first | rfl | (dsimp only; rfl)) g0 g1 ?_) | go_step)
  go_ret
  exact ⟨ret_int' (by have := Hfin.out; omega), rfl⟩

set_option maxRecDepth 100000 in
theorem len64_100 (x : Nat) (hx : x < 18446744073709551616) (c1 : decide ((4294967296 : Int) ≤ (x : Int)) = true) (c2 : decide ((65536 : Int) ≤ ((x : Int) / 4294967296)) = false) (c3 : decide ((256 : Int) ≤ ((x : Int) / 4294967296)) = false) (w : World) :
    Calls Try.prog 67 #[.int .u64 (x : Int)] w fun e w' => e = .returned (.int .i64 (Lib.bitLen x : Int)) ∧ w = w' := by
  have h0 : (0 : Int) ≤ (x : Int) := by omega
  have h1 : (x : Int) ≤ 18446744073709551615 := by omega
  have g0 : (0 : Int) ≤ ((x : Int) / 4294967296) := by omega
  have g1 : ((x : Int) / 4294967296) ≤ 255 := by simp at c1 c2 c3; omega
  have e1 := Lib.len8_of ((x : Int) / 4294967296) g0 g1
  have l1 := Lib.bitLen_le8' ((x : Int) / 4294967296) g0 g1
  have hfin : (Lib.bitLen x : Int) = 32 + Lib.len8 ((x : Int) / 4294967296) := by
    have z1 := c1
    have z2 := c2
    have z3 := c3
    simp at z1 z2 z3
    rw [e1]
    have s := Lib.bitLen_shift32 x (by omega) (by omega); rw [show ((x : Int) / 4294967296).toNat = x / 4294967296 by omega]; omega
  have b0 : 0 ≤ Lib.len8 ((x : Int) / 4294967296) := by rw [e1]; omega
  have b1 : Lib.len8 ((x : Int) / 4294967296) ≤ 8 := by rw [e1]; omega
  have Hfin := hid hfin
  clear hfin e1 l1
  refine calls_enter Try.func67 rfl 25 Try.ntmps67 #[.int .u64 (x : Int), undef, undef, undef, undef, undef, undef, undef, undef, undef, undef, undef, undef, undef, undef, undef, undef, undef, undef, undef, undef, undef, undef, undef, undef] (by simp [Array.replicate_succ]) ?_
  repeat (first | (refine wpList_index_len8 rfl _ _ _ rfl (by kernel_rfl) Try.underlying9 .u8 ((x : Int) / 4294967296) (by first | rfl | (dsimp only; rfl)) g0 g1 ?_) | go_step)
  go_ret
  exact ⟨ret_int' (by have := Hfin.out; omega), rfl⟩

set_option maxRecDepth 100000 in
theorem len64_101 (x : Nat) (hx : x < 18446744073709551616) (c1 : decide ((4294967296 : Int) ≤ (x : Int)) = true) (c2 : decide ((65536 : Int) ≤ ((x : Int) / 4294967296)) = false) (c3 : decide ((256 : Int) ≤ ((x : Int) / 4294967296)) = true) (w : World) :
    Calls Try.prog 67 #[.int .u64 (x : Int)] w fun e w' => e = .returned (.int .i64 (Lib.bitLen x : Int)) ∧ w = w' := by
  have h0 : (0 : Int) ≤ (x : Int) := by omega
  have h1 : (x : Int) ≤ 18446744073709551615 := by omega
  have g0 : (0 : Int) ≤ (((x : Int) / 4294967296) / 256) := by omega
  have g1 : (((x : Int) / 4294967296) / 256) ≤ 255 := by simp at c1 c2 c3; omega
  have e1 := Lib.len8_of (((x : Int) / 4294967296) / 256) g0 g1
  have l1 := Lib.bitLen_le8' (((x : Int) / 4294967296) / 256) g0 g1
  have hfin : (Lib.bitLen x : Int) = 40 + Lib.len8 (((x : Int) / 4294967296) / 256) := by
    have z1 := c1
    have z2 := c2
    have z3 := c3
    simp at z1 z2 z3
    rw [e1]
    have s := Lib.bitLen_shift40 x (by omega) (by omega); rw [show (((x : Int) / 4294967296) / 256).toNat = x / 1099511627776 by omega]; omega
  have b0 : 0 ≤ Lib.len8 (((x : Int) / 4294967296) / 256) := by rw [e1]; omega
  have b1 : Lib.len8 (((x : Int) / 4294967296) / 256) ≤ 8 := by rw [e1]; omega
  have Hfin := hid hfin
  clear hfin e1 l1
  refine calls_enter Try.func67 rfl 25 Try.ntmps67 #[.int .u64 (x : Int), undef, undef, undef, undef, undef, undef, undef, undef, undef, undef, undef, undef, undef, undef, undef, undef, undef, undef, undef, undef, undef, undef, undef, undef] (by simp [Array.replicate_succ]) ?_
  repeat (first | (refine wpList_index_len8 rfl _ _ _ rfl (by kernel_rfl) Try.underlying9 .u8 (((x : Int) / 4294967296) / 256) (by first | rfl | (dsimp only; rfl)) g0 g1 ?_) | go_step)
  go_ret
  exact ⟨ret_int' (by have := Hfin.out; omega), rfl⟩

set_option maxRecDepth 100000 in
theorem len64_110 (x : Nat) (hx : x < 18446744073709551616) (c1 : decide ((4294967296 : Int) ≤ (x : Int)) = true) (c2 : decide ((65536 : Int) ≤ ((x : Int) / 4294967296)) = true) (c3 : decide ((256 : Int) ≤ (((x : Int) / 4294967296) / 65536)) = false) (w : World) :
    Calls Try.prog 67 #[.int .u64 (x : Int)] w fun e w' => e = .returned (.int .i64 (Lib.bitLen x : Int)) ∧ w = w' := by
  have h0 : (0 : Int) ≤ (x : Int) := by omega
  have h1 : (x : Int) ≤ 18446744073709551615 := by omega
  have g0 : (0 : Int) ≤ (((x : Int) / 4294967296) / 65536) := by omega
  have g1 : (((x : Int) / 4294967296) / 65536) ≤ 255 := by simp at c1 c2 c3; omega
  have e1 := Lib.len8_of (((x : Int) / 4294967296) / 65536) g0 g1
  have l1 := Lib.bitLen_le8' (((x : Int) / 4294967296) / 65536) g0 g1
  have hfin : (Lib.bitLen x : Int) = 48 + Lib.len8 (((x : Int) / 4294967296) / 65536) := by
    have z1 := c1
    have z2 := c2
    have z3 := c3
    simp at z1 z2 z3
    rw [e1]
    have s := Lib.bitLen_shift48 x (by omega) (by omega); rw [show (((x : Int) / 4294967296) / 65536).toNat = x / 281474976710656 by omega]; omega
  have b0 : 0 ≤ Lib.len8 (((x : Int) / 4294967296) / 65536) := by rw [e1]; omega
  have b1 : Lib.len8 (((x : Int) / 4294967296) / 65536) ≤ 8 := by rw [e1]; omega
  have Hfin := hid hfin
  clear hfin e1 l1
  refine calls_enter Try.func67 rfl 25 Try.ntmps67 #[.int .u64 (x : Int), undef, undef, undef, undef, undef, undef, undef, undef, undef, undef, undef, undef, undef, undef, undef, undef, undef, undef, undef, undef, undef, undef, undef, undef] (by simp [Array.replicate_succ]) ?_
  repeat (first | (refine wpList_index_len8 rfl _ _ _ rfl (by kernel_rfl) Try.underlying9 .u8 (((x : Int) / 4294967296) / 65536) (by first | rfl | (dsimp only; rfl)) g0 g1 ?_) | go_step)
  go_ret
  exact ⟨ret_int' (by have := Hfin.out; omega), rfl⟩

set_option maxRecDepth 100000 in
theorem len64_111 (x : Nat) (hx : x < 18446744073709551616) (c1 : decide ((4294967296 : Int) ≤ (x : Int)) = true) (c2 : decide ((65536 : Int) ≤ ((x : Int) / 4294967296)) = true) (c3 : decide ((256 : Int) ≤ (((x : Int) / 4294967296) / 65536)) = true) (w : World) :
    Calls Try.prog 67 #[.int .u64 (x : Int)] w fun e w' => e = .returned (.int .i64 (Lib.bitLen x : Int)) ∧ w = w' := by
  have h0 : (0 : Int) ≤ (x : Int) := by omega
  have h1 : (x : Int) ≤ 18446744073709551615 := by omega
  have g0 : (0 : Int) ≤ ((((x : Int) / 4294967296) / 65536) / 256) := by omega
  have g1 : ((((x : Int) / 4294967296) / 65536) / 256) ≤ 255 := by simp at c1 c2 c3; omega
  have e1 := Lib.len8_of ((((x : Int) / 4294967296) / 65536) / 256) g0 g1
  have l1 := Lib.bitLen_le8' ((((x : Int) / 4294967296) / 65536) / 256) g0 g1
  have hfin : (Lib.bitLen x : Int) = 56 + Lib.len8 ((((x : Int) / 4294967296) / 65536) / 256) := by
    have z1 := c1
    have z2 := c2
    have z3 := c3
    simp at z1 z2 z3
    rw [e1]
    have s := Lib.bitLen_shift56 x (by omega) (by omega); rw [show ((((x : Int) / 4294967296) / 65536) / 256).toNat = x / 72057594037927936 by omega]; omega
  have b0 : 0 ≤ Lib.len8 ((((x : Int) / 4294967296) / 65536) / 256) := by rw [e1]; omega
  have b1 : Lib.len8 ((((x : Int) / 4294967296) / 65536) / 256) ≤ 8 := by rw [e1]; omega
  have Hfin := hid hfin
  clear hfin e1 l1
  refine calls_enter Try.func67 rfl 25 Try.ntmps67 #[.int .u64 (x : Int), undef, undef, undef, undef, undef, undef, undef, undef, undef, undef, undef, undef, undef, undef, undef, undef, undef, undef, undef, undef, undef, undef, undef, undef] (by simp [Array.replicate_succ]) ?_
  repeat (first | (refine wpList_index_len8 rfl _ _ _ rfl (by kernel_rfl) Try.underlying9 .u8 ((((x : Int) / 4294967296) / 65536) / 256) (by first | rfl | (dsimp only; rfl)) g0 g1 ?_) | go_step)
  go_ret
  exact ⟨ret_int' (by have := Hfin.out; omega), rfl⟩

theorem len64_calls (x : Nat) (hx : x < B64) (w : World) :
    Calls Try.prog 67 #[.int .u64 (x : Int)] w fun e w' => e = .returned (.int .i64 (Lib.bitLen x : Int)) ∧ w = w' := by
  unfold B64 at hx
  cases c1 : decide ((4294967296 : Int) ≤ (x : Int)) <;> cases c2 : decide ((65536 : Int) ≤ (if (4294967296 : Int) ≤ (x : Int) then (x : Int) / 4294967296 else (x : Int))) <;>
    cases c3 : decide ((256 : Int) ≤ (if (65536 : Int) ≤ (if (4294967296 : Int) ≤ (x : Int) then (x : Int) / 4294967296 else (x : Int)) then (if (4294967296 : Int) ≤ (x : Int) then (x : Int) / 4294967296 else (x : Int)) / 65536 else (if (4294967296 : Int) ≤ (x : Int) then (x : Int) / 4294967296 else (x : Int))))
  all_goals (
    have d1 := c1
    simp only [decide_eq_true_eq, decide_eq_false_iff_not] at d1
    simp only [d1, if_true, if_false] at c2 c3
    have d2 := c2
    simp only [decide_eq_true_eq, decide_eq_false_iff_not] at d2
    simp only [d2, if_true, if_false] at c3)
  · exact len64_000 x hx c1 c2 c3 w
  · exact len64_001 x hx c1 c2 c3 w
  · exact len64_010 x hx c1 c2 c3 w
  · exact len64_011 x hx c1 c2 c3 w
  · exact len64_100 x hx c1 c2 c3 w
  · exact len64_101 x hx c1 c2 c3 w
  · exact len64_110 x hx c1 c2 c3 w
  · exact len64_111 x hx c1 c2 c3 w

theorem bitLen_zero : Lib.bitLen 0 = 0 := by decide
theorem bitLen_lt (x : Nat) (h : x < 2 ^ 64) : x < 2 ^ Lib.bitLen x := by
  induction x using Nat.strongRecOn with
  | _ x ih =>
    by_cases h0 : x = 0
    · subst h0; rw [bitLen_zero]; decide
    · have := ih (x / 2) (by omega) (by omega)
      rw [Lib.bitLen_half x h0 h, Nat.pow_add]
      omega
theorem bitLen_ge (x : Nat) (h : x < 2 ^ 64) (h0 : x ≠ 0) : 2 ^ Lib.bitLen x ≤ 2 * x := by
  induction x using Nat.strongRecOn with
  | _ x ih =>
    rw [Lib.bitLen_half x h0 h, Nat.pow_add]
    by_cases h1 : x / 2 = 0
    · rw [h1, bitLen_zero]; simp; omega
    · have := ih (x / 2) (by omega) (by omega) h1
      omega
theorem bitLen_le (x : Nat) (h : x < 2 ^ 64) : Lib.bitLen x ≤ 64 := Lib.bitLenAux_le 64 x 64 h

theorem ret_int'' {k : IntKind} {a b : Int} (h : a = b) : Ending.returned (.int k a) = .returned (.int k b) := by rw [h]

theorem lz64_calls (x : Nat) (hx : x < B64) (w : World) :
    Calls Try.prog 76 #[.int .u64 (x : Int)] w fun e w' => e = .returned (.int .i64 ((64 - Lib.bitLen x : Nat) : Int)) ∧ w = w' := by
  have hl := bitLen_le x hx
  go_enter Try.func76, Try.ntmps76
  go_wp2_with fail
  refine (len64_calls x hx _).mono ?_
  rintro e w' ⟨rfl, rfl⟩
  go_wp2
  go_ret
  exact ⟨ret_int'' (by omega), rfl⟩

end Go.Proofs.Ytphbacggmhjmgaa

/- math/bits.Div64 -/
namespace Go.Proofs.Ytphbacggmhjmgaa
open Go.RowKit

theorem u64_eq {a : Int} {b : Nat} (h : a = (b : Int)) (hb : b < 18446744073709551616) : IntKind.u64.wrap a = (b : Int) := by
  rw [IntKind.wrap_u64, h]; omega
theorem u64_mod {a : Int} {b : Nat} (h : a = (b : Int)) : IntKind.u64.wrap a = ((b % 18446744073709551616 : Nat) : Int) := by
  rw [IntKind.wrap_u64, h]; omega

theorem shl_or {hi lo s : Nat} (hs : s ≤ 63) (hhi : hi * 2 ^ s < 18446744073709551616) (hlo : lo < 18446744073709551616) :
    bits .or .u64 ((hi * 2 ^ s : Nat) : Int) ((lo / 2 ^ (64 - s) : Nat) : Int) = ((hi * 2 ^ s + lo / 2 ^ (64 - s) : Nat) : Int) := by
  have hp : 2 ^ (64 - s) * 2 ^ s = 18446744073709551616 := by rw [← Nat.pow_add, show 64 - s + s = 64 by omega]
  have hlt : lo / 2 ^ (64 - s) < 2 ^ s := by
    rw [Nat.div_lt_iff_lt_mul (Nat.two_pow_pos _), Nat.mul_comm, hp]; exact hlo
  have h2 : lo / 2 ^ (64 - s) ≤ lo := Nat.div_le_self _ _
  rw [bits_or_u64_nat _ _ hhi (by omega), Nat.mul_comm hi, ← Nat.two_pow_add_eq_or_of_lt hlt]

theorem lo_split {lo s : Nat} (hs : s ≤ 63) : lo * 2 ^ s = lo / 2 ^ (64 - s) * 18446744073709551616 + lo * 2 ^ s % 18446744073709551616 := by
  have hp : 18446744073709551616 = 2 ^ (64 - s) * 2 ^ s := by rw [← Nat.pow_add, show 64 - s + s = 64 by omega]
  have h := Nat.div_add_mod (lo * 2 ^ s) 18446744073709551616
  have e : lo * 2 ^ s / 18446744073709551616 = lo / 2 ^ (64 - s) := by
    rw [hp, Nat.mul_div_mul_right _ _ (Nat.two_pow_pos s)]
  rw [e] at h
  omega

theorem u64_sub3 {U v M R A1 A2 A3 : Nat} (h1 : A1 = U * 4294967296 % 18446744073709551616) (h2 : A2 = (A1 + v) % 18446744073709551616) (h3 : A3 = M % 18446744073709551616) (hR : R = U * 4294967296 + v - M)
    (hle : M ≤ U * 4294967296 + v) (hlt : R < 18446744073709551616) : IntKind.u64.wrap ((A2 : Int) - (A3 : Int)) = (R : Int) := by
  rw [IntKind.wrap_u64]; omega


set_option maxHeartbeats 4000000 in
theorem div64_gen (hi lo y s : Nat) (hhi : hi < y) (h0 : 0 < hi) (hlo : lo < 18446744073709551616) (hy : y < 18446744073709551616) (hs : s = 64 - Lib.bitLen y) (w : World) :
    Calls Try.prog 85 #[.int .u64 (hi : Int), .int .u64 (lo : Int), .int .u64 (y : Int)] w fun e w' => e = .returned (.tuple #[.int .u64 ((hi * 18446744073709551616 + lo) / y : Nat), .int .u64 ((hi * 18446744073709551616 + lo) % y : Nat)]) ∧ w = w' := by
  have bl := bitLen_lt y hy
  have bg := bitLen_ge y hy (by omega)
  have ble := bitLen_le y hy
  have bpos : 0 < Lib.bitLen y := by
    rcases Nat.eq_zero_or_pos (Lib.bitLen y) with h | h
    · rw [h] at bl; omega
    · exact h
  have hs0 : s ≤ 63 := by omega
  have hp : 2 ^ Lib.bitLen y * 2 ^ s = 18446744073709551616 := by rw [← Nat.pow_add, show Lib.bitLen y + s = 64 by omega]
  have hP : 0 < 2 ^ s := Nat.two_pow_pos s
  obtain ⟨Y, hY⟩ : ∃ Y, Y = y * 2 ^ s := ⟨_, rfl⟩
  have hY1 : Y < 18446744073709551616 := by rw [hY, ← hp]; exact Nat.mul_lt_mul_of_pos_right bl hP
  have hY2 : 9223372036854775808 ≤ Y := by
    have := Nat.mul_le_mul_right (2 ^ s) bg
    rw [hp, Nat.mul_assoc, ← hY] at this
    omega
  obtain ⟨a, hA⟩ : ∃ a, a = Y / 4294967296 := ⟨_, rfl⟩
  obtain ⟨b, hBb⟩ : ∃ b, b = Y % 4294967296 := ⟨_, rfl⟩
  have hYab : Y = a * 4294967296 + b := by omega
  have ha1 : 2147483648 ≤ a := by omega
  have ha2 : a < 4294967296 := by omega
  have hb2 : b < 4294967296 := by omega
  have hhi2 : hi * 2 ^ s + 2 ^ s ≤ Y := by
    rw [hY]
    have := Nat.mul_le_mul_right (2 ^ s) (show hi + 1 ≤ y from hhi)
    rw [Nat.add_mul, Nat.one_mul] at this
    exact this
  have hp2 : 2 ^ (64 - s) * 2 ^ s = 18446744073709551616 := by rw [← Nat.pow_add, show 64 - s + s = 64 by omega]
  have hlt : lo / 2 ^ (64 - s) < 2 ^ s := by
    rw [Nat.div_lt_iff_lt_mul (Nat.two_pow_pos _), Nat.mul_comm, hp2]; exact hlo
  have hor := shl_or (hi := hi) hs0 (by omega) hlo
  have hspl := lo_split (lo := lo) hs0
  obtain ⟨U, hU⟩ : ∃ U, U = hi * 2 ^ s + lo / 2 ^ (64 - s) := ⟨_, rfl⟩
  obtain ⟨V, hV⟩ : ∃ V, V = lo * 2 ^ s % 18446744073709551616 := ⟨_, rfl⟩
  have hUY : U < Y := by omega
  have hN : (hi * 18446744073709551616 + lo) * 2 ^ s = U * 18446744073709551616 + V := by
    rw [Nat.add_mul, hspl, hU, ← hV, Nat.add_mul, Nat.mul_right_comm]; omega
  have hVlt : V < 18446744073709551616 := by omega
  obtain ⟨v1, hv1⟩ : ∃ v, v = V / 4294967296 := ⟨_, rfl⟩
  obtain ⟨v0, hv0⟩ : ∃ v, v = V % 4294967296 := ⟨_, rfl⟩
  have hVv : V = v1 * 4294967296 + v0 := by omega
  have hv12 : v1 < 4294967296 := by omega
  have hv02 : v0 < 4294967296 := by omega
  have q1 : IntKind.u64.wrap ((y : Int) * 2 ^ s) = (Y : Int) := u64_eq (by rw [hY]; push_cast; rfl) hY1
  have q2 : (Y : Int) / 4294967296 = (a : Int) := by omega
  have q3 : bits .and .u64 (Y : Int) 4294967295 = (b : Int) := by rw [Mul64.maskN Y hY1, hBb]
  have q4 : IntKind.u64.wrap ((hi : Int) * 2 ^ s) = ((hi * 2 ^ s : Nat) : Int) := u64_eq (by push_cast; rfl) (by omega)
  have q5 : bits .or .u64 (IntKind.u64.wrap ((hi : Int) * 2 ^ s)) ((lo : Int) / 2 ^ (64 - s)) = (U : Int) := by
    rw [q4, hU, ← hor]; push_cast; rfl
  have q6 : IntKind.u64.wrap ((lo : Int) * 2 ^ s) = (V : Int) := by rw [hV]; exact u64_mod (by push_cast; rfl)
  have q7 : (V : Int) / 4294967296 = (v1 : Int) := by omega
  have q8 : bits .and .u64 (V : Int) 4294967295 = (v0 : Int) := by rw [Mul64.maskN V hVlt, hv0]
  have t1 : ((y : Int) == 0) = false := by simp; omega
  have t2 : ((hi : Int) == 0) = false := by simp; omega
  have t3 : decide ((y : Int) ≤ (hi : Int)) = false := by simp; omega
  have t4 : ((a : Int) == 0) = false := by simp; omega
  have Hs := hid hs
  have HN := hid hN
  have HVv := hid hVv
  have HY := hid hY
  have HYab := hid hYab
  have hy0 : 0 < y := by omega
  clear hs hN hVv hY hYab hA hBb hor hspl hU hV hv1 hv0 hp hp2 bl bg ble bpos hhi2 hlt q4
  go_enter Try.func85, Try.ntmps85
  go_wp2_with fail
  refine (lz64_calls y (by unfold B64; omega) _).mono ?_
  rintro e w' ⟨rfl, rfl⟩
  rw [← Hs.out]
  go_upto_region 15 with (fail)
  have hi1 := hid (Pl.dinv_init ha1 ha2 hb2 hv12 (show U < a * 4294967296 + b by have := HYab.out; omega))
  obtain ⟨Q0, hQ0⟩ : ∃ Q, Q = U / a := ⟨_, rfl⟩
  obtain ⟨X0, hX0⟩ : ∃ X, X = U / a * a := ⟨_, rfl⟩
  have r0 : X0 ≤ U := by rw [hX0]; exact Nat.div_mul_le_self _ _
  have r00 : Q0 ≤ U := by rw [hQ0]; exact Nat.div_le_self _ _
  have r1 : (U : Int) / (a : Int) = (Q0 : Int) := by rw [hQ0]; push_cast; rfl
  have r2 : IntKind.u64.wrap ((Q0 : Int) * (a : Int)) = (X0 : Int) := u64_eq (by rw [hX0, hQ0]; push_cast; rfl) (by omega)
  obtain ⟨R0, hR0⟩ : ∃ R, R = U - X0 := ⟨_, rfl⟩
  have r3 : IntKind.u64.wrap ((U : Int) - (X0 : Int)) = (R0 : Int) := u64_eq (by omega) (by omega)
  have hi2 : Hid (Pl.DInv a b U v1 Q0 R0) := by rw [hR0, hQ0, hX0]; exact hi1
  clear hQ0 hX0 hR0 hi1
  go_upto_block 0 with (fail)
  go_cut [15] (fun q wc => ∃ Q : Nat, q = .int .u64 Q ∧ Hid (Pl.DRes a b U v1 Q) ∧ w = wc)
  case first =>
    have hUa : U < a * 4294967296 + b := by have := HYab.out; omega
    go_wp2_with fail
    go_loop [15, 16] (fun q r => ∃ Q R : Nat, q = .int .u64 Q ∧ r = .int .u64 R ∧ Hid (Pl.DInv a b U v1 Q R)) (fun q _ => (intOf q).toNat)
    case atStart => exact ⟨_, _, rfl, rfl, hi2⟩
    case round =>
      obtain ⟨Q, R, rfl, rfl, hinv⟩ := hrel
      have hR := hinv.out.rest
      have hQ := hinv.out.near
      by_cases hq : 4294967296 ≤ Q
      · have tq : decide ((4294967296 : Int) ≤ (Q : Int)) = true := by simp; omega
        have hpos := (Pl.dinv_step hinv.out hv12 (hUa) (.inl hq)).1
        obtain ⟨Qn, hQn⟩ : ∃ Q', Q' = Q - 1 := ⟨_, rfl⟩
        obtain ⟨Rn, hRn⟩ : ∃ R', R' = R + a := ⟨_, rfl⟩
        have w1 : IntKind.u64.wrap ((Q : Int) - 1) = (Qn : Int) := u64_eq (by omega) (by omega)
        have w2 : IntKind.u64.wrap ((R : Int) + (a : Int)) = (Rn : Int) := u64_eq (by omega) (by omega)
        by_cases hr : 4294967296 ≤ Rn
        · have tr : decide ((4294967296 : Int) ≤ (Rn : Int)) = true := by simp; omega
          have hres : Hid (Pl.DRes a b U v1 Qn) := by rw [hQn]; exact Pl.dinv_break hinv.out hb2 hv12 (hUa) (.inl hq) (by omega)
          clear hinv hQn hRn
          go_wp2_with fail
          go_meet
          case rel => exact ⟨_, rfl, hres, rfl⟩
        · have tr : decide ((4294967296 : Int) ≤ (Rn : Int)) = false := by simp; omega
          have hres : Hid (Pl.DInv a b U v1 Qn Rn) := by rw [hQn, hRn]; exact Pl.dinv_next hinv.out hv12 (hUa) (.inl hq) (by omega)
          have hlt : Qn < Q := by omega
          clear hinv hQn hRn
          go_wp2_with fail
          go_round
          case rel => exact ⟨_, _, rfl, rfl, hres⟩
          case measure => simp [intOf]; omega
      · have tq : decide ((4294967296 : Int) ≤ (Q : Int)) = false := by simp; omega
        obtain ⟨M, hM⟩ : ∃ M, M = Q * b := ⟨_, rfl⟩
        have hMlt : M ≤ 4294967295 * 4294967295 := by rw [hM]; exact Nat.mul_le_mul (by omega) (by omega)
        have w3 : IntKind.u64.wrap ((Q : Int) * (b : Int)) = (M : Int) := u64_eq (by rw [hM]; push_cast; rfl) (by omega)
        obtain ⟨T, hT⟩ : ∃ T, T = 4294967296 * R := ⟨_, rfl⟩
        have w4 : IntKind.u64.wrap (4294967296 * (R : Int)) = (T : Int) := u64_eq (by omega) (by omega)
        obtain ⟨T1, hT1⟩ : ∃ T, T = 4294967296 * R + v1 := ⟨_, rfl⟩
        have w5 : IntKind.u64.wrap ((T : Int) + (v1 : Int)) = (T1 : Int) := u64_eq (by omega) (by omega)
        by_cases hc : 4294967296 * R + v1 < Q * b
        · have tc : T1 < M := by omega
          clear hM hT hT1
          have hpos := (Pl.dinv_step hinv.out hv12 (hUa) (.inr hc)).1
          obtain ⟨Qn, hQn⟩ : ∃ Q', Q' = Q - 1 := ⟨_, rfl⟩
          obtain ⟨Rn, hRn⟩ : ∃ R', R' = R + a := ⟨_, rfl⟩
          have w1 : IntKind.u64.wrap ((Q : Int) - 1) = (Qn : Int) := u64_eq (by omega) (by omega)
          have w2 : IntKind.u64.wrap ((R : Int) + (a : Int)) = (Rn : Int) := u64_eq (by omega) (by omega)
          by_cases hr : 4294967296 ≤ Rn
          · have tr : decide ((4294967296 : Int) ≤ (Rn : Int)) = true := by simp; omega
            have hres : Hid (Pl.DRes a b U v1 Qn) := by rw [hQn]; exact Pl.dinv_break hinv.out hb2 hv12 (hUa) (.inr hc) (by omega)
            clear hinv hQn hRn
            go_wp2_with fail
            go_meet
            case rel => exact ⟨_, rfl, hres, rfl⟩
          · have tr : decide ((4294967296 : Int) ≤ (Rn : Int)) = false := by simp; omega
            have hres : Hid (Pl.DInv a b U v1 Qn Rn) := by rw [hQn, hRn]; exact Pl.dinv_next hinv.out hv12 (hUa) (.inr hc) (by omega)
            have hlt : Qn < Q := by omega
            clear hinv hQn hRn
            go_wp2_with fail
            go_round
            case rel => exact ⟨_, _, rfl, rfl, hres⟩
            case measure => simp [intOf]; omega
        · have tc : M ≤ T1 := by omega
          have hres := hid (Pl.dinv_done hinv.out (by omega))
          clear hinv hM hT hT1
          go_wp2_with fail
          go_meet
          case rel => exact ⟨_, rfl, hres, rfl⟩
  case rest =>
    obtain ⟨Q1, rfl, hQ1, rfl⟩ := hcut
    clear r0 r00 r1 r2 r3 hi2
    have hQ1lt := Pl.dres_lt hQ1.out hv12 (show U < a * 4294967296 + b by have := HYab.out; omega)
    obtain ⟨M1, hMM1⟩ : ∃ M, M = Q1 * Y := ⟨_, rfl⟩
    obtain ⟨M11, hA1M1⟩ : ∃ A, A = U * 4294967296 % 18446744073709551616 := ⟨_, rfl⟩
    obtain ⟨M12, hA2M1⟩ : ∃ A, A = (M11 + v1) % 18446744073709551616 := ⟨_, rfl⟩
    obtain ⟨M13, hA3M1⟩ : ∃ A, A = M1 % 18446744073709551616 := ⟨_, rfl⟩
    obtain ⟨R1, hRR1⟩ : ∃ R, R = U * 4294967296 + v1 - Q1 * Y := ⟨_, rfl⟩
    have lM1 := hQ1.out.low
    have oM1 := hQ1.out.over
    rw [← HYab.out] at lM1 oM1
    rw [Nat.add_mul, Nat.one_mul] at oM1
    have ltR1 : R1 < Y := by omega
    have z1M1 : IntKind.u64.wrap ((U : Int) * 4294967296) = (M11 : Int) := by rw [IntKind.wrap_u64]; omega
    have z2M1 : IntKind.u64.wrap ((M11 : Int) + (v1 : Int)) = (M12 : Int) := by rw [IntKind.wrap_u64]; omega
    have z3M1 : IntKind.u64.wrap ((Q1 : Int) * (Y : Int)) = (M13 : Int) := by rw [hA3M1]; exact u64_mod (by rw [hMM1]; push_cast; rfl)
    have z4M1 : IntKind.u64.wrap ((M12 : Int) - (M13 : Int)) = (R1 : Int) := u64_sub3 hA1M1 hA2M1 hA3M1 (by rw [hRR1, hMM1]) (by omega) (by omega)
    have HRR1 := hid hRR1
    clear hMM1 hA1M1 hA2M1 hA3M1 lM1 oM1 hRR1
    have hi1 := hid (Pl.dinv_init ha1 ha2 hb2 hv02 (show R1 < a * 4294967296 + b by have := HYab.out; omega))
    obtain ⟨Q0, hQ0⟩ : ∃ Q, Q = R1 / a := ⟨_, rfl⟩
    obtain ⟨X0, hX0⟩ : ∃ X, X = R1 / a * a := ⟨_, rfl⟩
    have r0 : X0 ≤ R1 := by rw [hX0]; exact Nat.div_mul_le_self _ _
    have r00 : Q0 ≤ R1 := by rw [hQ0]; exact Nat.div_le_self _ _
    have r1 : (R1 : Int) / (a : Int) = (Q0 : Int) := by rw [hQ0]; push_cast; rfl
    have r2 : IntKind.u64.wrap ((Q0 : Int) * (a : Int)) = (X0 : Int) := u64_eq (by rw [hX0, hQ0]; push_cast; rfl) (by omega)
    obtain ⟨R0, hR0⟩ : ∃ R, R = R1 - X0 := ⟨_, rfl⟩
    have r3 : IntKind.u64.wrap ((R1 : Int) - (X0 : Int)) = (R0 : Int) := u64_eq (by omega) (by omega)
    have hi2 : Hid (Pl.DInv a b R1 v0 Q0 R0) := by rw [hR0, hQ0, hX0]; exact hi1
    clear hQ0 hX0 hR0 hi1
    go_upto_block 2 with (fail)
    go_cut [18] (fun q wc => ∃ Q : Nat, q = .int .u64 Q ∧ Hid (Pl.DRes a b R1 v0 Q) ∧ w = wc)
    case first =>
      have hUa : R1 < a * 4294967296 + b := by have := HYab.out; omega
      go_wp2_with fail
      go_loop [18, 16] (fun q r => ∃ Q R : Nat, q = .int .u64 Q ∧ r = .int .u64 R ∧ Hid (Pl.DInv a b R1 v0 Q R)) (fun q _ => (intOf q).toNat)
      case atStart => exact ⟨_, _, rfl, rfl, hi2⟩
      case round =>
        obtain ⟨Q, R, rfl, rfl, hinv⟩ := hrel
        have hR := hinv.out.rest
        have hQ := hinv.out.near
        by_cases hq : 4294967296 ≤ Q
        · have tq : decide ((4294967296 : Int) ≤ (Q : Int)) = true := by simp; omega
          have hpos := (Pl.dinv_step hinv.out hv02 (hUa) (.inl hq)).1
          obtain ⟨Qn, hQn⟩ : ∃ Q', Q' = Q - 1 := ⟨_, rfl⟩
          obtain ⟨Rn, hRn⟩ : ∃ R', R' = R + a := ⟨_, rfl⟩
          have w1 : IntKind.u64.wrap ((Q : Int) - 1) = (Qn : Int) := u64_eq (by omega) (by omega)
          have w2 : IntKind.u64.wrap ((R : Int) + (a : Int)) = (Rn : Int) := u64_eq (by omega) (by omega)
          by_cases hr : 4294967296 ≤ Rn
          · have tr : decide ((4294967296 : Int) ≤ (Rn : Int)) = true := by simp; omega
            have hres : Hid (Pl.DRes a b R1 v0 Qn) := by rw [hQn]; exact Pl.dinv_break hinv.out hb2 hv02 (hUa) (.inl hq) (by omega)
            clear hinv hQn hRn
            go_wp2_with fail
            go_meet
            case rel => exact ⟨_, rfl, hres, rfl⟩
          · have tr : decide ((4294967296 : Int) ≤ (Rn : Int)) = false := by simp; omega
            have hres : Hid (Pl.DInv a b R1 v0 Qn Rn) := by rw [hQn, hRn]; exact Pl.dinv_next hinv.out hv02 (hUa) (.inl hq) (by omega)
            have hlt : Qn < Q := by omega
            clear hinv hQn hRn
            go_wp2_with fail
            go_round
            case rel => exact ⟨_, _, rfl, rfl, hres⟩
            case measure => simp [intOf]; omega
        · have tq : decide ((4294967296 : Int) ≤ (Q : Int)) = false := by simp; omega
          obtain ⟨M, hM⟩ : ∃ M, M = Q * b := ⟨_, rfl⟩
          have hMlt : M ≤ 4294967295 * 4294967295 := by rw [hM]; exact Nat.mul_le_mul (by omega) (by omega)
          have w3 : IntKind.u64.wrap ((Q : Int) * (b : Int)) = (M : Int) := u64_eq (by rw [hM]; push_cast; rfl) (by omega)
          obtain ⟨T, hT⟩ : ∃ T, T = 4294967296 * R := ⟨_, rfl⟩
          have w4 : IntKind.u64.wrap (4294967296 * (R : Int)) = (T : Int) := u64_eq (by omega) (by omega)
          obtain ⟨T1, hT1⟩ : ∃ T, T = 4294967296 * R + v0 := ⟨_, rfl⟩
          have w5 : IntKind.u64.wrap ((T : Int) + (v0 : Int)) = (T1 : Int) := u64_eq (by omega) (by omega)
          by_cases hc : 4294967296 * R + v0 < Q * b
          · have tc : T1 < M := by omega
            clear hM hT hT1
            have hpos := (Pl.dinv_step hinv.out hv02 (hUa) (.inr hc)).1
            obtain ⟨Qn, hQn⟩ : ∃ Q', Q' = Q - 1 := ⟨_, rfl⟩
            obtain ⟨Rn, hRn⟩ : ∃ R', R' = R + a := ⟨_, rfl⟩
            have w1 : IntKind.u64.wrap ((Q : Int) - 1) = (Qn : Int) := u64_eq (by omega) (by omega)
            have w2 : IntKind.u64.wrap ((R : Int) + (a : Int)) = (Rn : Int) := u64_eq (by omega) (by omega)
            by_cases hr : 4294967296 ≤ Rn
            · have tr : decide ((4294967296 : Int) ≤ (Rn : Int)) = true := by simp; omega
              have hres : Hid (Pl.DRes a b R1 v0 Qn) := by rw [hQn]; exact Pl.dinv_break hinv.out hb2 hv02 (hUa) (.inr hc) (by omega)
              clear hinv hQn hRn
              go_wp2_with fail
              go_meet
              case rel => exact ⟨_, rfl, hres, rfl⟩
            · have tr : decide ((4294967296 : Int) ≤ (Rn : Int)) = false := by simp; omega
              have hres : Hid (Pl.DInv a b R1 v0 Qn Rn) := by rw [hQn, hRn]; exact Pl.dinv_next hinv.out hv02 (hUa) (.inr hc) (by omega)
              have hlt : Qn < Q := by omega
              clear hinv hQn hRn
              go_wp2_with fail
              go_round
              case rel => exact ⟨_, _, rfl, rfl, hres⟩
              case measure => simp [intOf]; omega
          · have tc : M ≤ T1 := by omega
            have hres := hid (Pl.dinv_done hinv.out (by omega))
            clear hinv hM hT hT1
            go_wp2_with fail
            go_meet
            case rel => exact ⟨_, rfl, hres, rfl⟩
    case rest =>
      obtain ⟨Q2, rfl, hQ2, rfl⟩ := hcut
      clear r0 r00 r1 r2 r3 hi2
      have hQ2lt := Pl.dres_lt hQ2.out hv02 (show R1 < a * 4294967296 + b by have := HYab.out; omega)
      obtain ⟨M2, hMM2⟩ : ∃ M, M = Q2 * Y := ⟨_, rfl⟩
      obtain ⟨M21, hA1M2⟩ : ∃ A, A = R1 * 4294967296 % 18446744073709551616 := ⟨_, rfl⟩
      obtain ⟨M22, hA2M2⟩ : ∃ A, A = (M21 + v0) % 18446744073709551616 := ⟨_, rfl⟩
      obtain ⟨M23, hA3M2⟩ : ∃ A, A = M2 % 18446744073709551616 := ⟨_, rfl⟩
      obtain ⟨R2, hRR2⟩ : ∃ R, R = R1 * 4294967296 + v0 - Q2 * Y := ⟨_, rfl⟩
      have lM2 := hQ2.out.low
      have oM2 := hQ2.out.over
      rw [← HYab.out] at lM2 oM2
      rw [Nat.add_mul, Nat.one_mul] at oM2
      have ltR2 : R2 < Y := by omega
      have z1M2 : IntKind.u64.wrap ((R1 : Int) * 4294967296) = (M21 : Int) := by rw [IntKind.wrap_u64]; omega
      have z2M2 : IntKind.u64.wrap ((M21 : Int) + (v0 : Int)) = (M22 : Int) := by rw [IntKind.wrap_u64]; omega
      have z3M2 : IntKind.u64.wrap ((Q2 : Int) * (Y : Int)) = (M23 : Int) := by rw [hA3M2]; exact u64_mod (by rw [hMM2]; push_cast; rfl)
      have z4M2 : IntKind.u64.wrap ((M22 : Int) - (M23 : Int)) = (R2 : Int) := u64_sub3 hA1M2 hA2M2 hA3M2 (by rw [hRR2, hMM2]) (by omega) (by omega)
      have HRR2 := hid hRR2
      clear hMM2 hA1M2 hA2M2 hA3M2 lM2 oM2 hRR2
      have hj := Pl.div_join hy0 hP HY.out HYab.out (by rw [HN.out, HVv.out]; omega) hQ1.out (HRR1.out ▸ hQ2.out)
      rw [← HRR1.out, ← HRR2.out] at hj
      have Hj := hid hj
      clear hj
      obtain ⟨B1, hB1⟩ : ∃ B, B = Q1 * 4294967296 := ⟨_, rfl⟩
      obtain ⟨B2, hB2⟩ : ∃ B, B = Q1 * 4294967296 + Q2 := ⟨_, rfl⟩
      have y1 : IntKind.u64.wrap ((Q1 : Int) * 4294967296) = (B1 : Int) := u64_eq (by omega) (by omega)
      have y2 : IntKind.u64.wrap ((B1 : Int) + (Q2 : Int)) = (B2 : Int) := u64_eq (by omega) (by omega)
      have hB2' := hid hB2
      clear hB1 hB2
      go_wp2_with fail
      go_ret2
      refine ⟨?_, rfl⟩
      rw [Hj.out.1, Hj.out.2, ← hB2'.out]
      push_cast
      rfl

set_option maxHeartbeats 1000000 in
theorem div64_zero (lo y : Nat) (hy : 0 < y) (hlo : lo < 18446744073709551616) (hy2 : y < 18446744073709551616) (w : World) :
    Calls Try.prog 85 #[.int .u64 0, .int .u64 (lo : Int), .int .u64 (y : Int)] w fun e w' => e = .returned (.tuple #[.int .u64 (lo / y : Nat), .int .u64 (lo % y : Nat)]) ∧ ∃ n, w' = w.drewN n := by
  have t1 : ((y : Int) == 0) = false := by simp; omega
  have t2 : ¬ (y : Int) = 0 := by omega
  have t3 : decide ((y : Int) ≤ 0) = false := by simp; omega
  have hle : lo / y ≤ lo := Nat.div_le_self _ _
  obtain ⟨Q, hQ⟩ : ∃ Q, Q = lo / y := ⟨_, rfl⟩
  obtain ⟨R, hR⟩ : ∃ R, R = lo % y := ⟨_, rfl⟩
  rw [← hQ, ← hR]
  have q1 : IntKind.u64.wrap ((lo : Int) / (y : Int)) = (Q : Int) := u64_eq (by rw [hQ]; push_cast; rfl) (by omega)
  have q2 : (lo : Int) % (y : Int) = (R : Int) := by rw [hR]; push_cast; rfl
  clear hQ hR
  go_enter Try.func85, Try.ntmps85
  go_wp2_with fail
  go_quiet (fail)
  go_wp2_with fail
  go_ret2
  exact ⟨by rw [← q2]; rfl, _, rfl⟩

/-- math/bits.Div64, where it doesn't panic -/
theorem div64_calls (hi lo y : Nat) (hhi : hi < y) (hlo : lo < B64) (hy : y < B64) (w : World) :
    Calls Try.prog 85 #[.int .u64 (hi : Int), .int .u64 (lo : Int), .int .u64 (y : Int)] w fun e w' => e = .returned (.tuple #[.int .u64 ((hi * B64 + lo) / y : Nat), .int .u64 ((hi * B64 + lo) % y : Nat)]) ∧ ∃ n, w' = w.drewN n := by
  unfold B64 at *
  rcases Nat.eq_zero_or_pos hi with rfl | h0
  · rw [Nat.zero_mul, Nat.zero_add]
    exact div64_zero lo y hhi hlo hy w
  · exact (div64_gen hi lo y _ hhi h0 hlo hy rfl w).mono fun e w' ⟨he, hw⟩ => ⟨he, 0, hw.symm⟩

end Go.Proofs.Ytphbacggmhjmgaa

/- The layer nat, fourth part: dividing by one digit; shifting. -/
namespace Go.Proofs.Ytphbacggmhjmgaa
open Go.RowKit

theorem div64_still (hi lo y : Nat) (hhi : hi < y) (hlo : lo < B64) (hy : y < B64) (w : World) :
    Calls Try.prog 85 #[.int .u64 (hi : Int), .int .u64 (lo : Int), .int .u64 (y : Int)] w fun e w' => e = .returned (.tuple #[.int .u64 (((hi * B64 + lo) / y : Nat) : Int), .int .u64 (((hi * B64 + lo) % y : Nat) : Int)]) ∧ Still w w' :=
  (div64_calls hi lo y hhi hlo hy w).mono fun e w' ⟨he, n, hw⟩ => ⟨he, by subst hw; exact Still.drewN w n⟩

theorem val_set_drop {B : Nat} {xs : List Nat} {k d : Nat} (hk : k < xs.length) : Pl.val B ((xs.set k d).drop k) = d + B * Pl.val B (xs.drop (k + 1)) := by
  rw [Pl.val_drop B _ k (by simpa using hk), List.getElem_set_self, List.drop_set_of_lt (by omega)]

set_option maxHeartbeats 1000000 in
theorem short_calls {w : World} {S : Nat → Prop} {m d : Nat} {v : Value} (hd0 : 0 < d) (hd : d < B64) (ha : NumN.rep S w m [v]) (hm : m < B64 ^ 64) :
    Calls Try.prog 75 #[v, .int .u64 (d : Int)] w fun e w' => (∃ q r, e = .returned (.tuple #[q, r]) ∧ NumN.rep (Fresh w w') w' (m / d) [q] ∧ NumN.rep (Fresh w w') w' (m % d) [r]) ∧ Below w.heap.size w w' := by
  obtain ⟨p, hP, cp, ea⟩ := ha
  have lp := (Pl.canon_len_le (n := 64) B64_gt (num_dig hP) cp).2 (by rw [ea]; omega)
  have Ea := hid ea
  clear ea cp hm
  have dp := num_dig hP
  obtain ⟨A, c1, rfl, hc1, hm1⟩ := sl_open hP
  have hmk : ∀ W : World, (Instr.makeSlice 24 (.int .i64 (p.length : Int)) (.int .i64 (p.length : Int))).run Try.prog W = .ok (.slice (some ⟨W.heap.size, 0, none⟩) p.length p.length) (W.alloc (.cells (zerosOf (.int .u64 0) p.length) 65)) := fun W => run_make_u64 p.length (by omega) W
  go_enter Try.func75, Try.ntmps75
  go_wp2
  go_loopw [8, 7] (fun i r wr => ∃ k R : Nat, ∃ outs : List Nat, i = .int .i64 ((k : Int) - 1) ∧ r = .int .u64 R ∧ k ≤ p.length ∧ R < d ∧ outs.length = p.length ∧ Pl.Dig B64 outs ∧ Row wr w.heap.size 65 (nums .u64 outs)
    ∧ Hid (Pl.val B64 (outs.drop k) * d + R = Pl.val B64 (p.drop k)) ∧ Below w.heap.size w wr) (fun i _ _ => (intOf i + 1).toNat)
  case atStart =>
    exact ⟨p.length, 0, List.replicate p.length 0, rfl, rfl, Nat.le_refl _, hd0, by simp, Pl.Dig.replicate B64_pos _, by rw [← zerosOf_num]; exact Row.new _ _ _, hid (by rw [List.drop_of_length_le (by simp), List.drop_of_length_le (Nat.le_refl _)]; simp [Pl.val]), (Below.refl _ _).alloc (Nat.le_refl _) _⟩
  case round =>
    obtain ⟨k, R, outs, rfl, rfl, hk, hR, hol, hod, hrow, hinv, hB⟩ := hrel
    cases k with
    | succ k =>
      rw [show (((k + 1 : Nat) : Int) - 1) = (k : Int) by omega]
      obtain ⟨b, o, rfl, _, hcell, hbd⟩ := num_at ((Rep.num .u64 B64).sl.below hP hB) k hk
      have hi0 : (0 : Int) ≤ (k : Int) := by omega
      obtain ⟨Q, hQ⟩ : ∃ Q, Q = (R * B64 + p[k]) / d := ⟨_, rfl⟩
      obtain ⟨T, hT⟩ : ∃ T, T = (R * B64 + p[k]) % d := ⟨_, rfl⟩
      have hQlt : Q < B64 := by
        rw [hQ, Nat.div_lt_iff_lt_mul hd0]
        have : (R + 1) * B64 ≤ d * B64 := Nat.mul_le_mul_right _ hR
        rw [Nat.mul_comm B64 d]; rw [Nat.add_mul] at this; omega
      have hTlt : T < d := by rw [hT]; exact Nat.mod_lt _ hd0
      have hdm : R * B64 + p[k] = Q * d + T := by
        have := Nat.div_add_mod (R * B64 + p[k]) d
        rw [Nat.mul_comm d] at this
        rw [hQ, hT]; omega
      have hn1 : Hid (Pl.val B64 ((outs.set k Q).drop k) * d + T = Pl.val B64 (p.drop k)) := by
        show _ = _
        have h := hinv.out
        rw [val_set_drop (by omega), Pl.val_drop B64 p k hk, ← h, Nat.add_mul, Nat.mul_add, Nat.mul_assoc]
        have e : B64 * R = R * B64 := Nat.mul_comm _ _
        omega
      have HQ := hid hQ
      have HT := hid hT
      clear hQ hT hdm hinv
      go_wp2_with fail
      refine (div64_still R p[k] d hR hbd hd _).mono ?_
      rintro e w1 ⟨rfl, hst⟩
      rw [← HQ.out, ← HT.out]
      have hrow1 := hst.row hrow
      have hsc := hrow1.num (k := .u64) k (by omega)
      have hsf := hrow1.frozen k
      have hnew := hrow1.setNum (k := .u64) k Q
      have hB1 := below_setCell (below_trans hB hst.below) (p := ⟨w.heap.size, k, none⟩) (Nat.le_refl _) (.int .u64 (Q : Int))
      have hdn := hod.set k hQlt
      go_wp2
      go_roundw
      case rel => exact ⟨k, T, _, by go_num, rfl, by omega, hTlt, by simpa using hol, hdn, hnew, hn1, hB1⟩
      case measure => simp [intOf]
    | zero =>
      have hv := hinv.out
      rw [List.drop_zero, List.drop_zero, Ea.out] at hv
      have hq : Hid (Pl.val B64 outs = m / d) := by
        show _ = _
        rw [← hv, Nat.mul_comm, Nat.mul_add_div hd0, Nat.div_eq_of_lt hR, Nat.add_zero]
      have hr : Hid (R = m % d) := by
        show _ = _
        rw [← hv, Nat.mul_comm, Nat.mul_add_mod, Nat.mod_eq_of_lt hR]
      have hres := hrow.slNum (S := Fresh w wr) ⟨Nat.le_refl _, hrow.lt⟩ hod p.length (by omega) (by omega) (by omega)
      rw [hol] at hres
      clear hv hinv hrow
      go_wp2_with fail
      refine (trim_calls hres).mono ?_
      rintro e w' ⟨⟨u, rfl, hu⟩, rfl⟩
      have hRb : R < B64 := by omega
      have hl1 := lit1 wr R hRb
      have hB1 := (Below.refl wr.heap.size wr).alloc (Nat.le_refl _) (.cells #[.int .u64 (R : Int)] 65)
      have hu1 := (Rep.num .u64 B64).sl.below hu hB1
      have hB2 := hB.alloc hB.size (.cells #[.int .u64 (R : Int)] 65)
      have hl2 := (Rep.num .u64 B64).sl.mono hl1 (S' := Fresh w (wr.alloc (.cells #[.int .u64 (R : Int)] 65))) (by rintro b rfl; exact ⟨hB.size, by simp⟩) (Same.refl _ _)
      have hu2 := (Rep.num .u64 B64).sl.mono hu1 (S' := Fresh w (wr.alloc (.cells #[.int .u64 (R : Int)] 65))) (by rintro b ⟨h1, h2⟩; exact ⟨h1, by simp; omega⟩) (Same.refl _ _)
      clear hB1 hu1 hl1 hB
      go_wp2_with fail
      refine (trim_calls hl2).mono ?_
      rintro e w' ⟨⟨u', rfl, hu'⟩, rfl⟩
      go_wp2
      go_ret2
      exact ⟨⟨_, _, rfl, ⟨_, hu2, Pl.trim_canon _, by rw [Pl.trim_val]; exact hq.out⟩, ⟨_, hu', Pl.trim_canon _, by rw [Pl.trim_val, Pl.val_one]; exact hr.out⟩⟩, hB2⟩

end Go.Proofs.Ytphbacggmhjmgaa

/- The layer nat, fifth part: shifting. -/
namespace Go.Proofs.Ytphbacggmhjmgaa
open Go.RowKit

theorem or_low {c x s : Nat} (hs : s ≤ 63) (hc : c < 2 ^ s) : bits .or .u64 (c : Int) ((x * 2 ^ s % 18446744073709551616 : Nat) : Int) = ((c + x * 2 ^ s % 18446744073709551616 : Nat) : Int) := by
  have hp : 18446744073709551616 = 2 ^ s * 2 ^ (64 - s) := by rw [← Nat.pow_add, show s + (64 - s) = 64 by omega]
  have h64 : 2 ^ s ≤ 18446744073709551616 := by
    rw [hp]; exact Nat.le_mul_of_pos_right _ (Nat.two_pow_pos _)
  have hlt : x * 2 ^ s % 18446744073709551616 < 18446744073709551616 := Nat.mod_lt _ (by omega)
  rw [bits_or_u64_nat _ _ (by omega) hlt]
  congr 1
  have e : x * 2 ^ s % 18446744073709551616 = 2 ^ s * (x % 2 ^ (64 - s)) := by
    rw [hp, Nat.mul_comm x, Nat.mul_mod_mul_left]
  rw [e, Nat.or_comm, ← Nat.two_pow_add_eq_or_of_lt hc, Nat.add_comm]

theorem or_low_lt {c x s : Nat} (hs : s ≤ 63) (hc : c < 2 ^ s) : c + x * 2 ^ s % 18446744073709551616 < 18446744073709551616 := by
  have hp : 18446744073709551616 = 2 ^ s * 2 ^ (64 - s) := by rw [← Nat.pow_add, show s + (64 - s) = 64 by omega]
  have e : x * 2 ^ s % 18446744073709551616 = 2 ^ s * (x % 2 ^ (64 - s)) := by
    rw [hp, Nat.mul_comm x, Nat.mul_mod_mul_left]
  have h1 : x % 2 ^ (64 - s) + 1 ≤ 2 ^ (64 - s) := Nat.mod_lt _ (Nat.two_pow_pos _)
  have h2 := Nat.mul_le_mul_left (2 ^ s) h1
  rw [← hp, Nat.mul_add, Nat.mul_one] at h2
  omega

theorem hi_part {x s : Nat} (hs : s ≤ 63) (hx : x < 18446744073709551616) : x / 2 ^ (64 - s) < 2 ^ s ∧ x * 2 ^ s % 18446744073709551616 + 18446744073709551616 * (x / 2 ^ (64 - s)) = x * 2 ^ s := by
  have h := lo_split (lo := x) hs
  have hp2 : 2 ^ (64 - s) * 2 ^ s = 18446744073709551616 := by rw [← Nat.pow_add, show 64 - s + s = 64 by omega]
  constructor
  · rw [Nat.div_lt_iff_lt_mul (Nat.two_pow_pos _), Nat.mul_comm, hp2]; exact hx
  · omega

set_option maxHeartbeats 2000000 in
/-- nat.shift: the slice that it answers, and its memory: a row of the call's own -/
theorem shift_calls {w : World} {S : Nat → Prop} {p : List Nat} {v : Value} {s : Nat} (hs : s ≤ 63) (hP : NatS.rep S w p [v]) (lp : p.length ≤ 1000000) :
    Calls Try.prog 77 #[v, .int .i64 (s : Int)] w fun e w' => ∃ outs : List Nat, e = .returned (.slice (some ⟨w.heap.size, 0, none⟩) (p.length + 1) (p.length + 1)) ∧ outs.length = p.length + 1 ∧ Pl.Dig B64 outs ∧ Pl.val B64 outs = Pl.val B64 p * 2 ^ s
      ∧ Row w' w.heap.size 65 (nums .u64 outs) ∧ Below w.heap.size w w' := by
  have dp := num_dig hP
  obtain ⟨A, c1, rfl, hc1, hm1⟩ := sl_open hP
  have hmk : ∀ W : World, (Instr.makeSlice 24 (.int .i64 ((p.length : Int) + 1)) (.int .i64 ((p.length : Int) + 1))).run Try.prog W = .ok (.slice (some ⟨W.heap.size, 0, none⟩) (p.length + 1) (p.length + 1)) (W.alloc (.cells (zerosOf (.int .u64 0) (p.length + 1)) 65)) := fun W => run_make_u64 (p.length + 1) (by omega) W
  go_enter Try.func77, Try.ntmps77
  go_wp2
  go_loopw [14] (fun i wr => ∃ k : Nat, ∃ outs : List Nat, i = .int .i64 k ∧ k ≤ p.length ∧ outs.length = p.length + 1 ∧ Pl.Dig B64 outs ∧ Row wr w.heap.size 65 (nums .u64 outs)
    ∧ Hid (Pl.val B64 outs = Pl.val B64 (p.take k) * 2 ^ s) ∧ Hid (outs.getD k 0 < 2 ^ s) ∧ Hid (∀ t, k < t → outs.getD t 0 = 0) ∧ Below w.heap.size w wr) (fun i _ => (p.length - (intOf i).toNat))
  case atStart =>
    exact ⟨0, List.replicate (p.length + 1) 0, rfl, by omega, by simp, Pl.Dig.replicate B64_pos _, by rw [← zerosOf_num]; exact Row.new _ _ _, hid (by simp [Pl.val, Pl.val_replicate]),
      hid (by simp [List.getD_eq_getElem?_getD, Nat.two_pow_pos]), hid (by intro t _; simp [List.getD_eq_getElem?_getD, List.getElem?_replicate]; split <;> rfl), (Below.refl _ _).alloc (Nat.le_refl _) _⟩
  case round =>
    obtain ⟨k, outs, rfl, hk, hol, hod, hrow, hinv, hlow, hzero, hB⟩ := hrel
    by_cases hlt : k < p.length
    · obtain ⟨b, o, rfl, hS, hcell, hbd⟩ := num_at ((Rep.num .u64 B64).sl.old hP) k hlt
      have hcell0 := (hB.cell (p := ⟨b, o + k, none⟩) hS).trans hcell
      have hst := hrow.num (k := .u64) k (by omega)
      have hsf := hrow.frozen k
      have hlow' : outs[k]'(by omega) < 2 ^ s := by have := hlow.out; rwa [dec_at outs k (by omega)] at this
      obtain ⟨X, hX⟩ : ∃ X, X = p[k] * 2 ^ s % 18446744073709551616 := ⟨_, rfl⟩
      obtain ⟨H, hH⟩ : ∃ H, H = p[k] / 2 ^ (64 - s) := ⟨_, rfl⟩
      obtain ⟨h1, h2⟩ := hi_part (x := p[k]) hs hbd
      rw [← hX, ← hH] at h2
      rw [← hH] at h1
      obtain ⟨C, hC⟩ : ∃ C, C = outs[k]'(by omega) + X := ⟨_, rfl⟩
      have q1 : IntKind.u64.wrap ((p[k] : Int) * 2 ^ s) = (X : Int) := by rw [hX]; exact u64_mod (by push_cast; rfl)
      have q2 : bits .or .u64 ((outs[k]'(by omega) : Nat) : Int) (X : Int) = (C : Int) := by rw [hC, hX]; exact or_low hs hlow'
      have q3 : (p[k] : Int) / 2 ^ (64 - s) = (H : Int) := by rw [hH]; push_cast; rfl
      have hClt : C < B64 := by rw [hC, hX]; exact or_low_lt hs hlow'
      have hgk : outs.getD k 0 = outs[k]'(by omega) := dec_at outs k (by omega)
      have hg1 : outs[k + 1]'(by omega) = 0 := by have := hzero.out (k + 1) (by omega); rwa [dec_at outs (k + 1) (by omega)] at this
      have hrow1 := hrow.setNum (k := .u64) k C
      have hB1 := below_setCell hB (p := ⟨w.heap.size, k, none⟩) (Nat.le_refl _) (.int .u64 (C : Int))
      have hv1 := Pl.val_set B64 outs k C (by omega)
      have hd1 := hod.set k hClt
      rcases Nat.eq_zero_or_pos s with hs0 | hs0
      · have hH0 : H = 0 := by
          rw [hs0] at h1; omega
        have hvn : Hid (Pl.val B64 (outs.set k C) = Pl.val B64 (p.take (k + 1)) * 2 ^ s) := by
          show _ = _
          rw [Pl.val_take_succ B64 p k hlt, Nat.add_mul, ← hinv.out, Nat.mul_assoc, ← h2, hH0, Nat.mul_zero, Nat.add_zero]
          rw [hC, Nat.mul_add] at hv1
          rw [hC]; omega
        have hln : Hid ((outs.set k C).getD (k + 1) 0 < 2 ^ s) := by
          show _ < _
          rw [dec_at _ (k + 1) (by simp; omega), List.getElem_set_ne (by omega), hg1]; exact Nat.two_pow_pos _
        have hzn : Hid (∀ t, k + 1 < t → (outs.set k C).getD t 0 = 0) := by
          intro t ht
          have := hzero.out t (by omega)
          simp only [List.getD_eq_getElem?_getD] at this ⊢
          rwa [List.getElem?_set_ne (by omega)]
        have hsn : (s : Int) ≤ 0 := by omega
        have Hs0 := hid hs0
        clear hX hH hC hinv hlow hzero hgk hg1 hv1 h2 hH0 hs0
        go_wp2_with fail
        go_region
        go_wp2_with fail
        go_roundw
        case rel => exact ⟨k + 1, _, by go_num, by omega, by simpa using hol, hd1, hrow1, hvn, hln, hzn, hB1.drew⟩
        case measure => simp [intOf]; omega
      · have hHlt : H < B64 := by
          rw [hH]; exact Nat.lt_of_le_of_lt (Nat.div_le_self _ _) hbd
        have hst2 := hrow.num (k := .u64) (k + 1) (by omega)
        have hsf2 := hrow.frozen (k + 1)
        have hrow2 := hrow1.setNum (k := .u64) (k + 1) H
        have hB2 := below_setCell hB1 (p := ⟨w.heap.size, k + 1, none⟩) (Nat.le_refl _) (.int .u64 (H : Int))
        have hd2 := hd1.set (k + 1) hHlt
        have hv2 := Pl.val_set B64 (outs.set k C) (k + 1) H (by simp; omega)
        rw [List.getElem_set_ne (by omega), hg1] at hv2
        have hvn : Hid (Pl.val B64 ((outs.set k C).set (k + 1) H) = Pl.val B64 (p.take (k + 1)) * 2 ^ s) := by
          show _ = _
          rw [Pl.val_take_succ B64 p k hlt, Nat.add_mul, ← hinv.out, Nat.mul_assoc, ← h2, Nat.mul_add, ← Nat.mul_assoc, show 18446744073709551616 = B64 from rfl, show B64 ^ k * B64 = B64 ^ (k + 1) from (Nat.pow_succ ..).symm]
          rw [hC, Nat.mul_add] at hv1
          rw [hC] at hv2 ⊢
          omega
        have hln : Hid (((outs.set k C).set (k + 1) H).getD (k + 1) 0 < 2 ^ s) := by
          show _ < _
          rw [dec_at _ (k + 1) (by simp; omega), List.getElem_set_self]; exact h1
        have hzn : Hid (∀ t, k + 1 < t → ((outs.set k C).set (k + 1) H).getD t 0 = 0) := by
          intro t ht
          have := hzero.out t (by omega)
          simp only [List.getD_eq_getElem?_getD] at this ⊢
          rwa [List.getElem?_set_ne (by omega), List.getElem?_set_ne (by omega)]
        have hsn : (0 : Int) < (s : Int) := by omega
        clear hX hH hC hinv hlow hzero hgk hg1 hv1 hv2 h2
        go_wp2_with fail
        go_region
        go_wp2_with fail
        go_roundw
        case rel => exact ⟨k + 1, _, by go_num, by omega, by simpa using hol, hd2, hrow2, hvn, hln, hzn, hB2.drew⟩
        case measure => simp [intOf]; omega
    · obtain rfl : k = p.length := by omega
      have hv := hid (hinv.out)
      clear hinv
      go_wp2
      go_ret
      exact ⟨outs, rfl, hol, hod, by rw [hv.out, List.take_length], hrow, hB⟩

end Go.Proofs.Ytphbacggmhjmgaa

/- The layer nat, sixth part: one digit of a quotient. -/
namespace Go.Proofs.Ytphbacggmhjmgaa
open Go.RowKit

/-- a product's digit, with a digit more -/
theorem mulc_parts {x y c : Nat} (hx : x < B64) (hy : y < B64) (hc : c < B64) : addLo (mulLo x y) c 0 + B64 * (mulHi x y + addHi (mulLo x y) c 0) = x * y + c ∧ mulHi x y + addHi (mulLo x y) c 0 < B64 := by
  have h1 := mul_parts x y
  have h2 := add_parts (mulLo x y) c 0
  have h3 := mulHi_le hx hy
  have h4 := addHi_le (mulLo_lt x y) hc (Nat.zero_le 1)
  refine ⟨by rw [Nat.mul_add]; omega, by omega⟩

theorem splice_seg {k : IntKind} {pre us us' post : List Nat} (h : us'.length = us.length) {o : Nat} (ho : o = pre.length) :
    (nums k (pre ++ us' ++ post)).toArray.toList.take o ++ (nums k us ++ (nums k (pre ++ us' ++ post)).toArray.toList.drop (o + (nums k us).length)) = nums k (pre ++ us ++ post) := by
  subst ho
  have e0 : (nums k (pre ++ us' ++ post)).toArray.toList = nums k pre ++ (nums k us' ++ nums k post) := by simp [nums]
  have e1 : pre.length = (nums k pre).length := (nums_length _ _).symm
  have e2 : (nums k us).length = (nums k us').length := by rw [nums_length, nums_length, h]
  rw [e0, e1, List.take_left, e2, ← List.append_assoc (nums k pre) (nums k us'), ← List.length_append, List.drop_left]
  simp [nums]

theorem size65 : (Try.prog.info? 65).map (·.size) = some 1 := by kernel_rfl

def LessPost (g : Nat) (pre us post vs : List Nat) (q : Nat) (w w' : World) (e : Ending) : Prop :=
  ∃ us', us'.length = us.length ∧ Pl.Dig B64 us' ∧ Row w' g 65 (nums .u64 (pre ++ us' ++ post)) ∧ w.grownBy w' (some g) ∧
    ((q * Pl.val B64 vs ≤ Pl.val B64 us ∧ e = .returned (.bool true) ∧ Pl.val B64 us' + q * Pl.val B64 vs = Pl.val B64 us) ∨ (Pl.val B64 us < q * Pl.val B64 vs ∧ e = .returned (.bool false) ∧ us' = us))

set_option maxHeartbeats 4000000 in
theorem less_calls {w : World} {S : Nat → Prop} {pre us post vs : List Nat} {g o n cap : Nat} {v : Value} {q : Nat} (hrow : Row w g 65 (nums .u64 (pre ++ us ++ post))) (ho : o = pre.length) (hn : us.length = n + 1) (hvn : vs.length = n)
    (hcap : n + 1 ≤ cap) (hcap' : cap ≤ 9223372036854775807) (hn2 : n ≤ 1000000) (hud : Pl.Dig B64 us) (hV : NatS.rep S w vs [v]) (hS : ∀ b, S b → b ≠ g) (hq : q < B64) :
    Calls Try.prog 87 #[.slice (some ⟨g, o, none⟩) (n + 1) cap, v, .int .u64 (q : Int)] w fun e w' => LessPost g pre us post vs q w w' e := by
  have hvd := num_dig hV
  have hgl := hrow.lt
  have hU : NatS.rep (fun b => b = g) w us [.slice (some ⟨g, o, none⟩) (n + 1) cap] := hrow.seg (k := .u64) (S := fun b => b = g) rfl hud o (n + 1) cap ho hn.symm hcap hcap' (by omega)
  obtain ⟨A, c1, rfl, hc1, hm1⟩ := sl_open hV
  rw [hvn] at hV hc1 ⊢
  have Ho := hid ho
  have Hn := hid hn
  have Hvn := hid hvn
  clear ho hn hvn
  go_enter Try.func87, Try.ntmps87
  go_wp2_with fail
  refine (clone_calls hU).mono ?_
  rintro e w1 ⟨⟨old, rfl, hold⟩, hw1⟩
  obtain ⟨A2, c2, rfl, hc2, hm2⟩ := sl_open hold
  have hrow1 := hrow.below hgl hw1
  have hV1 := (Rep.num .u64 B64).sl.below hV hw1
  rw [Hn.out] at hold hc2 ⊢
  go_wp2_with fail
  go_loopw [19, 8, 9] (fun i c b wr => ∃ k C Bw : Nat, ∃ us' : List Nat, i = .int .i64 k ∧ c = .int .u64 C ∧ b = .int .u64 Bw ∧ k ≤ n ∧ C < B64 ∧ Bw ≤ 1 ∧ us'.length = n + 1 ∧ Pl.Dig B64 us' ∧ Row wr g 65 (nums .u64 (pre ++ us' ++ post))
    ∧ Hid (Pl.val B64 (us'.take k) + q * Pl.val B64 (vs.take k) = Pl.val B64 (us.take k) + B64 ^ k * (C + Bw)) ∧ Hid (us'.drop k = us.drop k) ∧ w1.grownBy wr (some g)) (fun i _ _ _ => (n - (intOf i).toNat))
  case atStart => exact ⟨0, 0, 0, us, rfl, rfl, rfl, by omega, B64_pos, by omega, Hn.out, hud, hrow1, hid (by simp [Pl.val]), hid rfl, grown_refl _ _⟩
  case round =>
    obtain ⟨k, C, Bw, us', rfl, rfl, rfl, hk, hC, hBw, hul, hud', hrowr, hinv, hrest, hgr⟩ := hrel
    by_cases hlt : k < n
    · have hv' : k < vs.length := by have := Hvn.out; omega
      obtain ⟨b, of, rfl, hSb, hcell, hvd'⟩ := num_at ((Rep.num .u64 B64).sl.grown hV1 hgr (fun b hb => by have := hS b hb; simpa using this)) k hv'
      have hne := hS b hSb
      have Hul := hid hul
      have hku : k < us'.length := by omega
      clear hul
      have hst := hrowr.segCell o Ho.out k hku
      have hsf := hrowr.frozen (o + k)
      have hud1 := hud'.at k hku
      obtain ⟨m1, m2⟩ := mulc_parts hq hvd' hC
      have ms := sub_parts hud1 (addLo_lt (mulLo q vs[k]) C 0) hBw
      obtain ⟨C', hC'⟩ : ∃ C', C' = mulHi q vs[k] + addHi (mulLo q vs[k]) C 0 := ⟨_, rfl⟩
      rw [← hC'] at m1 m2
      have w1 : IntKind.u64.wrap ((mulHi q vs[k] : Int) + (addHi (mulLo q vs[k]) C 0 : Int)) = (C' : Int) := u64_eq (by omega) m2
      have ha1 : ∀ W : World, (callFunc 65 #[.int .u64 (mulLo q vs[k] : Int), .int .u64 (C : Int), .int .u64 0]).run Try.prog W = .ok (.value (.tuple #[.int .u64 (addLo (mulLo q vs[k]) C 0 : Int), .int .u64 (addHi (mulLo q vs[k]) C 0 : Int)])) W := fun W => add64_run _ _ 0 (by omega) W
      have ha2 := fun W => sub64_run us'[k] (addLo (mulLo q vs[k]) C 0) Bw hBw W
      have hnew := hrowr.segSet o Ho.out k hku (subLo us'[k] (addLo (mulLo q vs[k]) C 0) Bw)
      have hg2 := grown_set (i := o + k) hgr (.int .u64 (subLo us'[k] (addLo (mulLo q vs[k]) C 0) Bw : Int))
      have hd2 := hud'.set k (subLo_lt us'[k] (addLo (mulLo q vs[k]) C 0) Bw)
      have hr2 : Hid ((us'.set k (subLo us'[k] (addLo (mulLo q vs[k]) C 0) Bw)).drop (k + 1) = us.drop (k + 1)) := by
        show _ = _
        rw [List.drop_set_of_lt (by omega)]
        have := congrArg (List.drop 1) hrest.out
        simpa [List.drop_drop] using this
      have hkus : k < us.length := by have := Hn.out; omega
      have hsame : us'[k] = us[k] := by
        have := congrArg (fun l => l.getD 0 0) hrest.out
        simpa [List.getD_eq_getElem?_getD, List.getElem?_drop, List.getElem?_eq_getElem hku, List.getElem?_eq_getElem hkus] using this
      have hi2 : Hid (Pl.val B64 ((us'.set k (subLo us'[k] (addLo (mulLo q vs[k]) C 0) Bw)).take (k + 1)) + q * Pl.val B64 (vs.take (k + 1)) = Pl.val B64 (us.take (k + 1)) + B64 ^ (k + 1) * (C' + subHi us'[k] (addLo (mulLo q vs[k]) C 0) Bw)) := by
        show _ = _
        rw [Pl.val_take_set B64 us' k _ hku, Pl.val_take_succ B64 us k hkus, Pl.val_take_succ B64 vs k hv', ← hsame, Nat.pow_succ, Nat.mul_add q, Nat.mul_left_comm q]
        have h2 := hinv.out
        have h4 : subLo us'[k] (addLo (mulLo q vs[k]) C 0) Bw + q * vs[k] + C + Bw = us'[k] + B64 * (C' + subHi us'[k] (addLo (mulLo q vs[k]) C 0) Bw) := by
          rw [Nat.mul_add]; omega
        have h5 := congrArg (B64 ^ k * ·) h4
        simp only [Nat.mul_add] at h2 h5 ⊢
        rw [Nat.mul_assoc, Nat.mul_assoc]
        omega
      have Hsame := hid hsame
      have HC' := hid hC'
      clear hinv hrest ms m1 hsame hC'
      go_wp2_with fail
      refine (mul64_calls q vs[k] hq hvd' _).mono ?_
      rintro e w' ⟨rfl, rfl⟩
      go_wp2_with fail
      go_roundw
      case rel => exact ⟨k + 1, C', _, _, by go_num, rfl, rfl, by omega, m2, subHi_le _ _ _, by rw [List.length_set]; exact Hul.out, hd2, hnew, hi2, hr2, hg2⟩
      case measure => simp [intOf]; omega
    · obtain rfl : k = n := by omega
      have Hul := hid hul
      have hku : k < us'.length := by omega
      clear hul
      have hkus : k < us.length := by have := Hn.out; omega
      have hst := hrowr.segCell o Ho.out k hku
      have hsf := hrowr.frozen (o + k)
      have hud1 := hud'.at k hku
      have hsame : us'[k] = us[k] := by
        have := congrArg (fun l => l.getD 0 0) hrest.out
        simpa [List.getD_eq_getElem?_getD, List.getElem?_drop, List.getElem?_eq_getElem hku, List.getElem?_eq_getElem hkus] using this
      have ms := sub_parts hud1 hC hBw
      have hle := subHi_le us'[k] C Bw
      obtain ⟨L, hL⟩ : ∃ L, L = subLo us'[k] C Bw := ⟨_, rfl⟩
      have hLlt : L < B64 := by rw [hL]; exact subLo_lt _ _ _
      have hnew := hrowr.segSet o Ho.out k hku L
      have hg2 := grown_set (i := o + k) hgr (.int .u64 (L : Int))
      have hd2 := hud'.set k hLlt
      have hfull : Pl.val B64 (us'.set k L) + q * Pl.val B64 vs = Pl.val B64 us + B64 ^ (k + 1) * subHi us'[k] C Bw := by
        have h2 := hinv.out
        have l1 : (us'.set k L).length = k + 1 := by rw [List.length_set]; exact Hul.out
        have e1 := Pl.val_take_set B64 us' k L hku
        rw [Pl.val_take_all B64 _ (k + 1) (by omega)] at e1
        have e2 := Pl.val_take_succ B64 us k hkus
        rw [Pl.val_take_all B64 us (k + 1) (by have := Hn.out; omega)] at e2
        rw [Pl.val_take_all B64 vs k (by have := Hvn.out; omega)] at h2
        rw [← hL] at ms
        have h5 := congrArg (B64 ^ k * ·) ms
        rw [e1, e2, ← hsame, Nat.pow_succ, Nat.mul_assoc]
        simp only [Nat.mul_add] at h2 h5
        omega
      have hlt2 := Pl.val_lt hd2
      rw [List.length_set, Hul.out] at hlt2
      have hgw : w.grownBy wr (some g) := grown_trans (grown_below hw1 _) hgr
      have hgw2 : w.grownBy (wr.setCell ⟨g, o + k, none⟩ (.int .u64 (L : Int))) (some g) := grown_trans (grown_below hw1 _) hg2
      rcases (show subHi us'[k] C Bw = 0 ∨ subHi us'[k] C Bw = 1 by omega) with hb | hb
      · have ha2 : ∀ W : World, (callFunc 66 #[.int .u64 ((us'[k] : Nat) : Int), .int .u64 (C : Int), .int .u64 (Bw : Int)]).run Try.prog W = .ok (.value (.tuple #[.int .u64 (L : Int), .int .u64 0])) W := fun W => by
          rw [sub64_run us'[k] C Bw hBw W, hb, hL]; rfl
        rw [hb, Nat.mul_zero, Nat.add_zero] at hfull
        have hlen : (us'.set k L).length = us.length := by rw [List.length_set, Hul.out, Hn.out]
        have hfin : LessPost g pre us post vs q w (wr.setCell ⟨g, o + k, none⟩ (.int .u64 (L : Int))) (.returned (.bool true)) :=
          ⟨_, hlen, hd2, hnew, hgw2, .inl ⟨by omega, rfl, hfull⟩⟩
        have Hsame := hid hsame
        clear hinv hrest ms hsame hL hfull hb hle hlen hlt2
        go_wp2_with fail
        go_ret
        exact hfin
      · have ha2 : ∀ W : World, (callFunc 66 #[.int .u64 ((us'[k] : Nat) : Int), .int .u64 (C : Int), .int .u64 (Bw : Int)]).run Try.prog W = .ok (.value (.tuple #[.int .u64 (L : Int), .int .u64 1])) W := fun W => by
          rw [sub64_run us'[k] C Bw hBw W, hb, hL]; rfl
        rw [hb, Nat.mul_one] at hfull
        have Hsame := hid hsame
        have Hfull := hid hfull
        have hold2 := (Rep.num .u64 B64).sl.grown hold hg2 (fun b hb => by have := hb.1; simp; omega)
        obtain ⟨b2, o2, ys, rfl, hb2, hat2, hrl2⟩ := sl_cells hold2 (by have := Hn.out; omega)
        obtain ⟨rfl, _⟩ := repL_num.1 hrl2
        have hsrc : ∀ j u, (nums .u64 us)[j]? = some u → (wr.setCell ⟨g, o + k, none⟩ (.int .u64 (L : Int))).cell? ((⟨b2, o2, none⟩ : Addr).add j) = some u := by
          intro j u hu
          obtain ⟨hj, rfl⟩ := List.getElem?_eq_some_iff.1 hu
          have ha : (⟨b2, o2, none⟩ : Addr).add j = ⟨b2, o2 + j, none⟩ := by unfold Addr.add; split <;> simp_all
          rw [ha]
          exact hat2.cell j hj
        have hcopy : Hid ((nums .u64 (pre ++ us'.set k L ++ post)).toArray.toList.take o ++ (nums .u64 us ++ (nums .u64 (pre ++ us'.set k L ++ post)).toArray.toList.drop (o + (nums .u64 us).length)) = nums .u64 (pre ++ us ++ post)) := by
          show _ = _
          exact splice_seg (k := .u64) (by rw [List.length_set, Hul.out, Hn.out]) Ho.out
        have hlenr : (nums .u64 us).length = Nat.min (k + 1) (k + 1) := by rw [nums_length, Hn.out]; simp
        have hfit : o + (nums .u64 us).length ≤ (nums .u64 (pre ++ us'.set k L ++ post)).toArray.size := by
          have := Ho.out; have := Hul.out; have := Hn.out
          simp [nums]; omega
        have hrow2 : Row ((wr.setCell ⟨g, o + k, none⟩ (.int .u64 (L : Int))).setRow g ((nums .u64 (pre ++ us'.set k L ++ post)).toArray.toList.take o ++ (nums .u64 us ++ (nums .u64 (pre ++ us'.set k L ++ post)).toArray.toList.drop (o + (nums .u64 us).length))).toArray) g 65 (nums .u64 (pre ++ us ++ post)) := by
          rw [hcopy.out]
          exact setRow_heap _ g _ _ _ _ hnew
        have hg3 := grown_setRow hgw2 ((nums .u64 (pre ++ us'.set k L ++ post)).toArray.toList.take o ++ (nums .u64 us ++ (nums .u64 (pre ++ us'.set k L ++ post)).toArray.toList.drop (o + (nums .u64 us).length))).toArray
        have hfin : LessPost g pre us post vs q w ((wr.setCell ⟨g, o + k, none⟩ (.int .u64 (L : Int))).setRow g ((nums .u64 (pre ++ us'.set k L ++ post)).toArray.toList.take o ++ (nums .u64 us ++ (nums .u64 (pre ++ us'.set k L ++ post)).toArray.toList.drop (o + (nums .u64 us).length))).toArray) (.returned (.bool false)) :=
          ⟨us, rfl, hud, hrow2, hg3, .inr ⟨by have := Hfull.out; omega, rfl, rfl⟩⟩
        obtain ⟨CC, hCC⟩ : ∃ CC, CC = ((nums .u64 (pre ++ us'.set k L ++ post)).toArray.toList.take o ++ (nums .u64 us ++ (nums .u64 (pre ++ us'.set k L ++ post)).toArray.toList.drop (o + (nums .u64 us).length))).toArray := ⟨_, rfl⟩
        rw [← hCC] at hfin
        have HCC := hid hCC
        have Hlenr := hid hlenr
        clear hrow2 hg3 hcopy hinv hrest ms hsame hL hfull hb hle hlenr hCC
        go_upto_region 15 with (fail)
        apply wp_region_lit
        iterate 6 go_step
        refine wpList_copy_own rfl _ _ 24 24 rfl 65 Try.underlying24 size65 g o (k + 1) cap ⟨b2, o2, none⟩ (k + 1) c2 rfl rfl (nums .u64 (pre ++ us'.set k L ++ post)).toArray 65 hnew (nums .u64 us) Hlenr.out hsrc hfit hrl2.one ?_
        rw [← HCC.out]
        repeat go_step
        go_ret
        exact hfin

end Go.Proofs.Ytphbacggmhjmgaa
