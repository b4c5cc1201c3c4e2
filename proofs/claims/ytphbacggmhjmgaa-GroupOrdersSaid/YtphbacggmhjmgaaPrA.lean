/- The layer prime, first part: small primes. -/
import Derived.Test.YtphbacggmhjmgaaMontH
import Derived.Test.YtphbacggmhjmgaaPlGrpB
namespace Go.Proofs.Ytphbacggmhjmgaa
open Go.RowKit

theorem smallB_no {n d : Nat} (h2 : 2 ≤ d) (hd : d * d ≤ n) (hz : n % d = 0) : Num.smallB n = false := by
  rcases Bool.eq_false_or_eq_true (Num.smallB n) with h | h
  · exfalso
    simp only [Num.smallB, Bool.and_eq_true, decide_eq_true_eq, List.all_eq_true, List.mem_range, Bool.or_eq_true, bne_iff_ne, ne_eq] at h
    obtain ⟨⟨_, h3⟩, h4⟩ := h
    have hlt : d < 256 := by
      rcases Nat.lt_or_ge d 256 with h | h
      · exact h
      · have := Nat.mul_le_mul h h; omega
    rcases h4 d hlt with (h | h) | h <;> omega
  · exact h
theorem smallB_yes {n d : Nat} (h2 : 2 ≤ n) (h3 : n < 65536) (hd : n < d * d) (h : ∀ e, 2 ≤ e → e < d → n % e ≠ 0) : Num.smallB n = true := by
  simp only [Num.smallB, Bool.and_eq_true, decide_eq_true_eq, List.all_eq_true, List.mem_range, Bool.or_eq_true, bne_iff_ne, ne_eq]
  refine ⟨⟨h2, h3⟩, fun e _ => ?_⟩
  rcases Nat.lt_or_ge e 2 with h5 | h5
  · exact .inl (.inl h5)
  rcases Nat.lt_or_ge e d with h6 | h6
  · exact .inr (h e h5 h6)
  · have := Nat.mul_le_mul h6 h6
    exact .inl (.inr (by omega))
theorem smallB_out {n : Nat} (h : n < 2 ∨ 65536 ≤ n) : Num.smallB n = false := by
  rcases Bool.eq_false_or_eq_true (Num.smallB n) with h' | h'
  · exfalso
    simp only [Num.smallB, Bool.and_eq_true, decide_eq_true_eq] at h'
    omega
  · exact h'
/-- no number from 2 up to d is a divisor -/
def NoDiv (n d : Nat) : Prop := ∀ e, 2 ≤ e → e < d → n % e ≠ 0

set_option maxHeartbeats 1000000 in
set_option maxRecDepth 100000 in
theorem small_calls (n : Nat) (_hn : n < B64) (w : World) :
    Calls Try.prog 74 #[.int .u64 (n : Int)] w fun e w' => e = .returned (.bool (Num.smallB n)) ∧ w = w' := by
  by_cases hout : n < 2 ∨ 65536 ≤ n
  · have Hs := hid (smallB_out hout)
    rcases hout with h | h
    · go_enter Try.func74, Try.ntmps74
      go_wp2
      go_ret
      exact ⟨by rw [Hs.out]; rfl, rfl⟩
    · have h2 : ¬ (n : Int) < 2 := by omega
      have h4 : (65536 : Int) ≤ (n : Int) := by omega
      clear h
      go_enter Try.func74, Try.ntmps74
      go_wp2
      go_ret
      exact ⟨by rw [Hs.out]; rfl, rfl⟩
  · have h2 : 2 ≤ n := by omega
    have h3 : n < 65536 := by omega
    clear hout
    go_enter Try.func74, Try.ntmps74
    go_wp2
    go_loop [3] (fun dv => ∃ d : Nat, dv = .int .u64 (d : Int) ∧ 2 ≤ d ∧ d ≤ 256 ∧ Hid (NoDiv n d)) (fun dv => 257 - (intOf dv).toNat)
    case atStart => exact ⟨2, rfl, by omega, by omega, fun e _ _ => by omega⟩
    case round =>
      obtain ⟨d, rfl, hd2, hd3, hno⟩ := hrel
      obtain ⟨D, hD⟩ : ∃ D, D = d * d := ⟨_, rfl⟩
      have hD2 : D ≤ 65536 := by rw [hD]; exact Nat.mul_le_mul hd3 hd3
      have q1 : IntKind.u64.wrap ((d : Int) * (d : Int)) = (D : Int) := by
        rw [show (d : Int) * (d : Int) = (D : Int) by rw [hD]; push_cast; rfl, IntKind.wrap_u64]; omega
      have HD := hid hD
      clear hD
      by_cases hle : D ≤ n
      · by_cases hz : n % d = 0
        · have q2 : (((n : Int) % (d : Int)) == 0) = true := by rw [← Int.natCast_emod, hz]; rfl
          have Hz := hid hz
          clear hz
          have hle' : (D : Int) ≤ (n : Int) := by omega
          go_wp2
          go_ret
          exact ⟨by rw [smallB_no hd2 (HD.out ▸ hle) Hz.out]; rfl, rfl⟩
        · have q2 : (((n : Int) % (d : Int)) == 0) = false := by
            rw [← Int.natCast_emod]
            simp only [beq_eq_false_iff_ne, ne_eq]
            omega
          have Hz := hid hz
          clear hz
          have hle' : (D : Int) ≤ (n : Int) := by omega
          have hd4 : d < 256 := by
            rcases Nat.lt_or_ge d 256 with h | h
            · exact h
            · have := Nat.mul_le_mul h h; have := HD.out; omega
          go_wp2
          go_round
          case rel => exact ⟨d + 1, by simp, by omega, by omega, fun e h1 h2 => by
            rcases Nat.lt_or_ge e d with h | h
            · exact hno.out e h1 h
            · obtain rfl : e = d := by omega
              exact Hz.out⟩
          case measure => simp [intOf]; omega
      · have hle' : ¬ (D : Int) ≤ (n : Int) := by omega
        go_wp2
        go_ret
        exact ⟨by rw [smallB_yes h2 h3 (HD.out ▸ (by omega : n < D)) hno.out]; rfl, rfl⟩

end Go.Proofs.Ytphbacggmhjmgaa
