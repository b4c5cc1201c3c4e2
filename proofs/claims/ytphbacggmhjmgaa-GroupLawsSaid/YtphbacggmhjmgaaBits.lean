/- math/bits: a sum and a difference with a carry. -/
import Derived.Test.YtphbacggmhjmgaaProg
import Derived.Test.YtphbacggmhjmgaaMem
import Derived.Laws.Externs
import Derived.Lib.Mul64
import Derived.Laws.Bits64b
namespace Go.Proofs.Ytphbacggmhjmgaa
open Go.RowKit

/-- 2 to the 64 -/
def B64 : Nat := 18446744073709551616
theorem B64_pos : 0 < B64 := by decide
theorem B64_gt : 1 < B64 := by decide

def addLo (x y c : Nat) : Nat := (x + y + c) % B64
def addHi (x y c : Nat) : Nat := (x + y + c) / B64
theorem add_parts (x y c : Nat) : addLo x y c + B64 * addHi x y c = x + y + c := Nat.mod_add_div _ _
theorem addLo_lt (x y c : Nat) : addLo x y c < B64 := Nat.mod_lt _ B64_pos
theorem addHi_le {x y c : Nat} (hx : x < B64) (hy : y < B64) (hc : c ≤ 1) : addHi x y c ≤ 1 := by
  unfold addHi B64 at *; omega

def subLo (x y c : Nat) : Nat := (x + B64 - y - c) % B64
def subHi (x y c : Nat) : Nat := if x < y + c then 1 else 0
theorem sub_parts {x y c : Nat} (hx : x < B64) (hy : y < B64) (hc : c ≤ 1) : subLo x y c + y + c = x + B64 * subHi x y c := by
  unfold subLo subHi B64 at *; split <;> omega
theorem subLo_lt (x y c : Nat) : subLo x y c < B64 := Nat.mod_lt _ B64_pos
theorem subHi_le (x y c : Nat) : subHi x y c ≤ 1 := by unfold subHi; split <;> omega

def sub64Entry : Array Value → Sem Value := fun args => do
  let (x, y, b) ← Extern.MathBitsCarry.three "Sub64" args
  pure (Extern.MathBitsCarry.pair ((x + Extern.MathBitsCarry.m64 - y - b) % Extern.MathBitsCarry.m64) (if x < y + b then 1 else 0))

theorem run_sub64 {P : Program} (x y b : Nat) (hb : b ≤ 1) (w : World) :
    (sub64Entry #[.int .u64 x, .int .u64 y, .int .u64 b]).run P w = .ok (.tuple #[.int .u64 (subLo x y b : Int), .int .u64 (subHi x y b : Int)]) w := by
  have : b = 0 ∨ b = 1 := by omega
  rcases this with rfl | rfl <;> rfl
theorem run_add64' {P : Program} (x y b : Nat) (hb : b ≤ 1) (w : World) :
    (add64Entry #[.int .u64 x, .int .u64 y, .int .u64 b]).run P w = .ok (.tuple #[.int .u64 (addLo x y b : Int), .int .u64 (addHi x y b : Int)]) w := by
  have : b = 0 ∨ b = 1 := by omega
  rcases this with rfl | rfl <;> rfl

theorem add64_run (x y c : Nat) (hc : c ≤ 1) (w : World) :
    (callFunc 65 #[.int .u64 (x : Int), .int .u64 (y : Int), .int .u64 (c : Int)]).run Try.prog w = .ok (.value (.tuple #[.int .u64 (addLo x y c : Int), .int .u64 (addHi x y c : Int)])) w := by
  rw [run_callFunc_extern Try.func65 (by kernel_rfl) (by kernel_rfl) (by kernel_rfl) (e := add64Entry) (by kernel_rfl), run_add64' x y c hc]
  rfl
theorem sub64_run (x y c : Nat) (hc : c ≤ 1) (w : World) :
    (callFunc 66 #[.int .u64 (x : Int), .int .u64 (y : Int), .int .u64 (c : Int)]).run Try.prog w = .ok (.value (.tuple #[.int .u64 (subLo x y c : Int), .int .u64 (subHi x y c : Int)])) w := by
  rw [run_callFunc_extern Try.func66 (by kernel_rfl) (by kernel_rfl) (by kernel_rfl) (e := sub64Entry) (by kernel_rfl), run_sub64 x y c hc]
  rfl


def mulHi (x y : Nat) : Nat := x * y / B64
def mulLo (x y : Nat) : Nat := x * y % B64
theorem mul_parts (x y : Nat) : mulLo x y + B64 * mulHi x y = x * y := Nat.mod_add_div _ _
theorem mulLo_lt (x y : Nat) : mulLo x y < B64 := Nat.mod_lt _ B64_pos
theorem mulHi_le {x y : Nat} (hx : x < B64) (hy : y < B64) : mulHi x y + 2 ≤ B64 := by
  have h1 : x * y ≤ (B64 - 1) * (B64 - 1) := Nat.mul_le_mul (by omega) (by omega)
  have h2 := mul_parts x y
  unfold B64 at *
  omega

namespace Mul64
theorem maskN (a : Nat) (ha : a < 18446744073709551616) : bits .and .u64 (a : Int) 4294967295 = ((a % 4294967296 : Nat) : Int) := by
  have h := bits_and_u64_nat a 4294967295 ha (by omega)
  have e : a &&& 4294967295 = a % 4294967296 := Nat.and_two_pow_sub_one_eq_mod a 32
  rw [e] at h
  exact h
theorem divN (a : Nat) : (a : Int) / 4294967296 = ((a / 4294967296 : Nat) : Int) := by omega
theorem mulN (a b : Nat) : (a : Int) * (b : Int) = ((a * b : Nat) : Int) := (Int.natCast_mul a b).symm
theorem addN (a b : Nat) : (a : Int) + (b : Int) = ((a + b : Nat) : Int) := (Int.natCast_add a b).symm
theorem wrapN (a : Nat) (ha : a < 18446744073709551616) : IntKind.u64.wrap (a : Int) = (a : Int) := by rw [IntKind.wrap_u64]; omega
theorem wrapM (a : Nat) : IntKind.u64.wrap (a : Int) = ((a % 18446744073709551616 : Nat) : Int) := by rw [IntKind.wrap_u64]; omega
end Mul64

set_option maxHeartbeats 1000000 in
/-- math/bits.Mul64 (walked as the kit's own text over any program walks it) -/
theorem mul64_calls (x y : Nat) (hx : x < B64) (hy : y < B64) (w : World) :
    Calls Try.prog 86 #[.int .u64 (x : Int), .int .u64 (y : Int)] w fun e w' => e = .returned (.tuple #[.int .u64 (mulHi x y : Int), .int .u64 (mulLo x y : Int)]) ∧ w = w' := by
  unfold B64 at hx hy
  obtain ⟨bd, bt, bw, hhi⟩ := Lib.mul64_hi x y hx hy
  have ba := Lib.half_mul_le (a := x / 4294967296) (b := y / 4294967296) (by omega) (by omega)
  have bb := Lib.half_mul_le (a := x / 4294967296) (b := y % 4294967296) (by omega) (by omega)
  have bc := Lib.half_mul_le (a := x % 4294967296) (b := y / 4294967296) (by omega) (by omega)
  have ba' : x / 4294967296 * (y / 4294967296) < 18446744073709551616 := by omega
  have bb' : x / 4294967296 * (y % 4294967296) < 18446744073709551616 := by omega
  have bc' : x % 4294967296 * (y / 4294967296) < 18446744073709551616 := by omega
  have bh1 : x / 4294967296 * (y / 4294967296) + (x / 4294967296 * (y % 4294967296) + x % 4294967296 * (y % 4294967296) / 4294967296) / 4294967296 < 18446744073709551616 := by omega
  have bh : x / 4294967296 * (y / 4294967296) + (x / 4294967296 * (y % 4294967296) + x % 4294967296 * (y % 4294967296) / 4294967296) / 4294967296 + ((x / 4294967296 * (y % 4294967296) + x % 4294967296 * (y % 4294967296) / 4294967296) % 4294967296 + x % 4294967296 * (y / 4294967296)) / 4294967296 < 18446744073709551616 := by omega
  go_enter Try.func86, Try.ntmps86
  go_wp2
  simp only [Mul64.maskN x hx, Mul64.maskN y hy, Mul64.divN, Mul64.mulN, Mul64.addN, Mul64.wrapN _ bd, Mul64.wrapN _ bb', Mul64.wrapN _ bt, Mul64.maskN _ bt, Mul64.wrapN _ bc', Mul64.wrapN _ bw, Mul64.wrapN _ ba', Mul64.wrapN _ bh1, Mul64.wrapN _ bh, Mul64.wrapM (x * y)]
  rw [hhi]
  go_ret2
  exact ⟨rfl, rfl⟩

end Go.Proofs.Ytphbacggmhjmgaa
