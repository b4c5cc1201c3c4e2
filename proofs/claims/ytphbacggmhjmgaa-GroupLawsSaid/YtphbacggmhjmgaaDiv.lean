/- math/bits.Div64 -/
import Derived.Test.YtphbacggmhjmgaaLen
import Derived.Test.YtphbacggmhjmgaaPlDiv
import Derived.Deep.QuietTactic
import Derived.Deep.DeepCutAuto
import Derived.Deep.CutBlock
namespace Go.Proofs.Ytphbacggmhjmgaa
open Go.RowKit

theorem u64_eq {a : Int} {b : Nat} (h : a = (b : Int)) (hb : b < 18446744073709551616) : IntKind.u64.wrap a = (b : Int) := by
  rw [IntKind.wrap_u64, h]; omega
theorem u64_mod {a : Int} {b : Nat} (h : a = (b : Int)) : IntKind.u64.wrap a = ((b % 18446744073709551616 : Nat) : Int) := by
  rw [IntKind.wrap_u64, h]; omega

theorem shl_or {hi lo s : Nat} (hs : s ≤ 63) (hhi : hi * 2 ^ s < 18446744073709551616) (hlo : lo < 18446744073709551616) :
    bits .or .u64 ((hi * 2 ^ s : Nat) : Int) ((lo / 2 ^ (64 - s) : Nat) : Int) = ((hi * 2 ^ s + lo / 2 ^ (64 - s) : Nat) : Int) := by
  have hp : 2 ^ (64 - s) * 2 ^ s = 18446744073709551616 := by rw [← Nat.pow_add, show 64 - s + s = 64 by omega]
  have hlt : lo / 2 ^ (64 - s) < 2 ^ s := by
    rw [Nat.div_lt_iff_lt_mul (Nat.two_pow_pos _), Nat.mul_comm, hp]; exact hlo
  have h2 : lo / 2 ^ (64 - s) ≤ lo := Nat.div_le_self _ _
  rw [bits_or_u64_nat _ _ hhi (by omega), Nat.mul_comm hi, ← Nat.two_pow_add_eq_or_of_lt hlt]

theorem lo_split {lo s : Nat} (hs : s ≤ 63) : lo * 2 ^ s = lo / 2 ^ (64 - s) * 18446744073709551616 + lo * 2 ^ s % 18446744073709551616 := by
  have hp : 18446744073709551616 = 2 ^ (64 - s) * 2 ^ s := by rw [← Nat.pow_add, show 64 - s + s = 64 by omega]
  have h := Nat.div_add_mod (lo * 2 ^ s) 18446744073709551616
  have e : lo * 2 ^ s / 18446744073709551616 = lo / 2 ^ (64 - s) := by
    rw [hp, Nat.mul_div_mul_right _ _ (Nat.two_pow_pos s)]
  rw [e] at h
  omega

theorem u64_sub3 {U v M R A1 A2 A3 : Nat} (h1 : A1 = U * 4294967296 % 18446744073709551616) (h2 : A2 = (A1 + v) % 18446744073709551616) (h3 : A3 = M % 18446744073709551616) (hR : R = U * 4294967296 + v - M)
    (hle : M ≤ U * 4294967296 + v) (hlt : R < 18446744073709551616) : IntKind.u64.wrap ((A2 : Int) - (A3 : Int)) = (R : Int) := by
  rw [IntKind.wrap_u64]; omega


set_option maxHeartbeats 4000000 in
theorem div64_gen (hi lo y s : Nat) (hhi : hi < y) (h0 : 0 < hi) (hlo : lo < 18446744073709551616) (hy : y < 18446744073709551616) (hs : s = 64 - Lib.bitLen y) (w : World) :
    Calls Try.prog 85 #[.int .u64 (hi : Int), .int .u64 (lo : Int), .int .u64 (y : Int)] w fun e w' => e = .returned (.tuple #[.int .u64 ((hi * 18446744073709551616 + lo) / y : Nat), .int .u64 ((hi * 18446744073709551616 + lo) % y : Nat)]) ∧ w = w' := by
  have bl := bitLen_lt y hy
  have bg := bitLen_ge y hy (by omega)
  have ble := bitLen_le y hy
  have bpos : 0 < Lib.bitLen y := by
    rcases Nat.eq_zero_or_pos (Lib.bitLen y) with h | h
    · rw [h] at bl; omega
    · exact h
  have hs0 : s ≤ 63 := by omega
  have hp : 2 ^ Lib.bitLen y * 2 ^ s = 18446744073709551616 := by rw [← Nat.pow_add, show Lib.bitLen y + s = 64 by omega]
  have hP : 0 < 2 ^ s := Nat.two_pow_pos s
  obtain ⟨Y, hY⟩ : ∃ Y, Y = y * 2 ^ s := ⟨_, rfl⟩
  have hY1 : Y < 18446744073709551616 := by rw [hY, ← hp]; exact Nat.mul_lt_mul_of_pos_right bl hP
  have hY2 : 9223372036854775808 ≤ Y := by
    have := Nat.mul_le_mul_right (2 ^ s) bg
    rw [hp, Nat.mul_assoc, ← hY] at this
    omega
  obtain ⟨a, hA⟩ : ∃ a, a = Y / 4294967296 := ⟨_, rfl⟩
  obtain ⟨b, hBb⟩ : ∃ b, b = Y % 4294967296 := ⟨_, rfl⟩
  have hYab : Y = a * 4294967296 + b := by omega
  have ha1 : 2147483648 ≤ a := by omega
  have ha2 : a < 4294967296 := by omega
  have hb2 : b < 4294967296 := by omega
  have hhi2 : hi * 2 ^ s + 2 ^ s ≤ Y := by
    rw [hY]
    have := Nat.mul_le_mul_right (2 ^ s) (show hi + 1 ≤ y from hhi)
    rw [Nat.add_mul, Nat.one_mul] at this
    exact this
  have hp2 : 2 ^ (64 - s) * 2 ^ s = 18446744073709551616 := by rw [← Nat.pow_add, show 64 - s + s = 64 by omega]
  have hlt : lo / 2 ^ (64 - s) < 2 ^ s := by
    rw [Nat.div_lt_iff_lt_mul (Nat.two_pow_pos _), Nat.mul_comm, hp2]; exact hlo
  have hor := shl_or (hi := hi) hs0 (by omega) hlo
  have hspl := lo_split (lo := lo) hs0
  obtain ⟨U, hU⟩ : ∃ U, U = hi * 2 ^ s + lo / 2 ^ (64 - s) := ⟨_, rfl⟩
  obtain ⟨V, hV⟩ : ∃ V, V = lo * 2 ^ s % 18446744073709551616 := ⟨_, rfl⟩
  have hUY : U < Y := by omega
  have hN : (hi * 18446744073709551616 + lo) * 2 ^ s = U * 18446744073709551616 + V := by
    rw [Nat.add_mul, hspl, hU, ← hV, Nat.add_mul, Nat.mul_right_comm]; omega
  have hVlt : V < 18446744073709551616 := by omega
  obtain ⟨v1, hv1⟩ : ∃ v, v = V / 4294967296 := ⟨_, rfl⟩
  obtain ⟨v0, hv0⟩ : ∃ v, v = V % 4294967296 := ⟨_, rfl⟩
  have hVv : V = v1 * 4294967296 + v0 := by omega
  have hv12 : v1 < 4294967296 := by omega
  have hv02 : v0 < 4294967296 := by omega
  have q1 : IntKind.u64.wrap ((y : Int) * 2 ^ s) = (Y : Int) := u64_eq (by rw [hY]; push_cast; rfl) hY1
  have q2 : (Y : Int) / 4294967296 = (a : Int) := by omega
  have q3 : bits .and .u64 (Y : Int) 4294967295 = (b : Int) := by rw [Mul64.maskN Y hY1, hBb]
  have q4 : IntKind.u64.wrap ((hi : Int) * 2 ^ s) = ((hi * 2 ^ s : Nat) : Int) := u64_eq (by push_cast; rfl) (by omega)
  have q5 : bits .or .u64 (IntKind.u64.wrap ((hi : Int) * 2 ^ s)) ((lo : Int) / 2 ^ (64 - s)) = (U : Int) := by
    rw [q4, hU, ← hor]; push_cast; rfl
  have q6 : IntKind.u64.wrap ((lo : Int) * 2 ^ s) = (V : Int) := by rw [hV]; exact u64_mod (by push_cast; rfl)
  have q7 : (V : Int) / 4294967296 = (v1 : Int) := by omega
  have q8 : bits .and .u64 (V : Int) 4294967295 = (v0 : Int) := by rw [Mul64.maskN V hVlt, hv0]
  have t1 : ((y : Int) == 0) = false := by simp; omega
  have t2 : ((hi : Int) == 0) = false := by simp; omega
  have t3 : decide ((y : Int) ≤ (hi : Int)) = false := by simp; omega
  have t4 : ((a : Int) == 0) = false := by simp; omega
  have Hs := hid hs
  have HN := hid hN
  have HVv := hid hVv
  have HY := hid hY
  have HYab := hid hYab
  have hy0 : 0 < y := by omega
  clear hs hN hVv hY hYab hA hBb hor hspl hU hV hv1 hv0 hp hp2 bl bg ble bpos hhi2 hlt q4
  go_enter Try.func85, Try.ntmps85
  go_wp2_with fail
  refine (lz64_calls y (by unfold B64; omega) _).mono ?_
  rintro e w' ⟨rfl, rfl⟩
  rw [← Hs.out]
  go_upto_region 15 with (fail)
  have hi1 := hid (Pl.dinv_init ha1 ha2 hb2 hv12 (show U < a * 4294967296 + b by have := HYab.out; omega))
  obtain ⟨Q0, hQ0⟩ : ∃ Q, Q = U / a := ⟨_, rfl⟩
  obtain ⟨X0, hX0⟩ : ∃ X, X = U / a * a := ⟨_, rfl⟩
  have r0 : X0 ≤ U := by rw [hX0]; exact Nat.div_mul_le_self _ _
  have r00 : Q0 ≤ U := by rw [hQ0]; exact Nat.div_le_self _ _
  have r1 : (U : Int) / (a : Int) = (Q0 : Int) := by rw [hQ0]; push_cast; rfl
  have r2 : IntKind.u64.wrap ((Q0 : Int) * (a : Int)) = (X0 : Int) := u64_eq (by rw [hX0, hQ0]; push_cast; rfl) (by omega)
  obtain ⟨R0, hR0⟩ : ∃ R, R = U - X0 := ⟨_, rfl⟩
  have r3 : IntKind.u64.wrap ((U : Int) - (X0 : Int)) = (R0 : Int) := u64_eq (by omega) (by omega)
  have hi2 : Hid (Pl.DInv a b U v1 Q0 R0) := by rw [hR0, hQ0, hX0]; exact hi1
  clear hQ0 hX0 hR0 hi1
  go_upto_block 0 with (fail)
  go_cut [15] (fun q wc => ∃ Q : Nat, q = .int .u64 Q ∧ Hid (Pl.DRes a b U v1 Q) ∧ w = wc)
  case first =>
    have hUa : U < a * 4294967296 + b := by have := HYab.out; omega
    go_wp2_with fail
    go_loop [15, 16] (fun q r => ∃ Q R : Nat, q = .int .u64 Q ∧ r = .int .u64 R ∧ Hid (Pl.DInv a b U v1 Q R)) (fun q _ => (intOf q).toNat)
    case atStart => exact ⟨_, _, rfl, rfl, hi2⟩
    case round =>
      obtain ⟨Q, R, rfl, rfl, hinv⟩ := hrel
      have hR := hinv.out.rest
      have hQ := hinv.out.near
      by_cases hq : 4294967296 ≤ Q
      · have tq : decide ((4294967296 : Int) ≤ (Q : Int)) = true := by simp; omega
        have hpos := (Pl.dinv_step hinv.out hv12 (hUa) (.inl hq)).1
        obtain ⟨Qn, hQn⟩ : ∃ Q', Q' = Q - 1 := ⟨_, rfl⟩
        obtain ⟨Rn, hRn⟩ : ∃ R', R' = R + a := ⟨_, rfl⟩
        have w1 : IntKind.u64.wrap ((Q : Int) - 1) = (Qn : Int) := u64_eq (by omega) (by omega)
        have w2 : IntKind.u64.wrap ((R : Int) + (a : Int)) = (Rn : Int) := u64_eq (by omega) (by omega)
        by_cases hr : 4294967296 ≤ Rn
        · have tr : decide ((4294967296 : Int) ≤ (Rn : Int)) = true := by simp; omega
          have hres : Hid (Pl.DRes a b U v1 Qn) := by rw [hQn]; exact Pl.dinv_break hinv.out hb2 hv12 (hUa) (.inl hq) (by omega)
          clear hinv hQn hRn
          go_wp2_with fail
          go_meet
          case rel => exact ⟨_, rfl, hres, rfl⟩
        · have tr : decide ((4294967296 : Int) ≤ (Rn : Int)) = false := by simp; omega
          have hres : Hid (Pl.DInv a b U v1 Qn Rn) := by rw [hQn, hRn]; exact Pl.dinv_next hinv.out hv12 (hUa) (.inl hq) (by omega)
          have hlt : Qn < Q := by omega
          clear hinv hQn hRn
          go_wp2_with fail
          go_round
          case rel => exact ⟨_, _, rfl, rfl, hres⟩
          case measure => simp [intOf]; omega
      · have tq : decide ((4294967296 : Int) ≤ (Q : Int)) = false := by simp; omega
        obtain ⟨M, hM⟩ : ∃ M, M = Q * b := ⟨_, rfl⟩
        have hMlt : M ≤ 4294967295 * 4294967295 := by rw [hM]; exact Nat.mul_le_mul (by omega) (by omega)
        have w3 : IntKind.u64.wrap ((Q : Int) * (b : Int)) = (M : Int) := u64_eq (by rw [hM]; push_cast; rfl) (by omega)
        obtain ⟨T, hT⟩ : ∃ T, T = 4294967296 * R := ⟨_, rfl⟩
        have w4 : IntKind.u64.wrap (4294967296 * (R : Int)) = (T : Int) := u64_eq (by omega) (by omega)
        obtain ⟨T1, hT1⟩ : ∃ T, T = 4294967296 * R + v1 := ⟨_, rfl⟩
        have w5 : IntKind.u64.wrap ((T : Int) + (v1 : Int)) = (T1 : Int) := u64_eq (by omega) (by omega)
        by_cases hc : 4294967296 * R + v1 < Q * b
        · have tc : T1 < M := by omega
          clear hM hT hT1
          have hpos := (Pl.dinv_step hinv.out hv12 (hUa) (.inr hc)).1
          obtain ⟨Qn, hQn⟩ : ∃ Q', Q' = Q - 1 := ⟨_, rfl⟩
          obtain ⟨Rn, hRn⟩ : ∃ R', R' = R + a := ⟨_, rfl⟩
          have w1 : IntKind.u64.wrap ((Q : Int) - 1) = (Qn : Int) := u64_eq (by omega) (by omega)
          have w2 : IntKind.u64.wrap ((R : Int) + (a : Int)) = (Rn : Int) := u64_eq (by omega) (by omega)
          by_cases hr : 4294967296 ≤ Rn
          · have tr : decide ((4294967296 : Int) ≤ (Rn : Int)) = true := by simp; omega
            have hres : Hid (Pl.DRes a b U v1 Qn) := by rw [hQn]; exact Pl.dinv_break hinv.out hb2 hv12 (hUa) (.inr hc) (by omega)
            clear hinv hQn hRn
            go_wp2_with fail
            go_meet
            case rel => exact ⟨_, rfl, hres, rfl⟩
          · have tr : decide ((4294967296 : Int) ≤ (Rn : Int)) = false := by simp; omega
            have hres : Hid (Pl.DInv a b U v1 Qn Rn) := by rw [hQn, hRn]; exact Pl.dinv_next hinv.out hv12 (hUa) (.inr hc) (by omega)
            have hlt : Qn < Q := by omega
            clear hinv hQn hRn
            go_wp2_with fail
            go_round
            case rel => exact ⟨_, _, rfl, rfl, hres⟩
            case measure => simp [intOf]; omega
        · have tc : M ≤ T1 := by omega
          have hres := hid (Pl.dinv_done hinv.out (by omega))
          clear hinv hM hT hT1
          go_wp2_with fail
          go_meet
          case rel => exact ⟨_, rfl, hres, rfl⟩
  case rest =>
    obtain ⟨Q1, rfl, hQ1, rfl⟩ := hcut
    clear r0 r00 r1 r2 r3 hi2
    have hQ1lt := Pl.dres_lt hQ1.out hv12 (show U < a * 4294967296 + b by have := HYab.out; omega)
    obtain ⟨M1, hMM1⟩ : ∃ M, M = Q1 * Y := ⟨_, rfl⟩
    obtain ⟨M11, hA1M1⟩ : ∃ A, A = U * 4294967296 % 18446744073709551616 := ⟨_, rfl⟩
    obtain ⟨M12, hA2M1⟩ : ∃ A, A = (M11 + v1) % 18446744073709551616 := ⟨_, rfl⟩
    obtain ⟨M13, hA3M1⟩ : ∃ A, A = M1 % 18446744073709551616 := ⟨_, rfl⟩
    obtain ⟨R1, hRR1⟩ : ∃ R, R = U * 4294967296 + v1 - Q1 * Y := ⟨_, rfl⟩
    have lM1 := hQ1.out.low
    have oM1 := hQ1.out.over
    rw [← HYab.out] at lM1 oM1
    rw [Nat.add_mul, Nat.one_mul] at oM1
    have ltR1 : R1 < Y := by omega
    have z1M1 : IntKind.u64.wrap ((U : Int) * 4294967296) = (M11 : Int) := by rw [IntKind.wrap_u64]; omega
    have z2M1 : IntKind.u64.wrap ((M11 : Int) + (v1 : Int)) = (M12 : Int) := by rw [IntKind.wrap_u64]; omega
    have z3M1 : IntKind.u64.wrap ((Q1 : Int) * (Y : Int)) = (M13 : Int) := by rw [hA3M1]; exact u64_mod (by rw [hMM1]; push_cast; rfl)
    have z4M1 : IntKind.u64.wrap ((M12 : Int) - (M13 : Int)) = (R1 : Int) := u64_sub3 hA1M1 hA2M1 hA3M1 (by rw [hRR1, hMM1]) (by omega) (by omega)
    have HRR1 := hid hRR1
    clear hMM1 hA1M1 hA2M1 hA3M1 lM1 oM1 hRR1
    have hi1 := hid (Pl.dinv_init ha1 ha2 hb2 hv02 (show R1 < a * 4294967296 + b by have := HYab.out; omega))
    obtain ⟨Q0, hQ0⟩ : ∃ Q, Q = R1 / a := ⟨_, rfl⟩
    obtain ⟨X0, hX0⟩ : ∃ X, X = R1 / a * a := ⟨_, rfl⟩
    have r0 : X0 ≤ R1 := by rw [hX0]; exact Nat.div_mul_le_self _ _
    have r00 : Q0 ≤ R1 := by rw [hQ0]; exact Nat.div_le_self _ _
    have r1 : (R1 : Int) / (a : Int) = (Q0 : Int) := by rw [hQ0]; push_cast; rfl
    have r2 : IntKind.u64.wrap ((Q0 : Int) * (a : Int)) = (X0 : Int) := u64_eq (by rw [hX0, hQ0]; push_cast; rfl) (by omega)
    obtain ⟨R0, hR0⟩ : ∃ R, R = R1 - X0 := ⟨_, rfl⟩
    have r3 : IntKind.u64.wrap ((R1 : Int) - (X0 : Int)) = (R0 : Int) := u64_eq (by omega) (by omega)
    have hi2 : Hid (Pl.DInv a b R1 v0 Q0 R0) := by rw [hR0, hQ0, hX0]; exact hi1
    clear hQ0 hX0 hR0 hi1
    go_upto_block 2 with (fail)
    go_cut [18] (fun q wc => ∃ Q : Nat, q = .int .u64 Q ∧ Hid (Pl.DRes a b R1 v0 Q) ∧ w = wc)
    case first =>
      have hUa : R1 < a * 4294967296 + b := by have := HYab.out; omega
      go_wp2_with fail
      go_loop [18, 16] (fun q r => ∃ Q R : Nat, q = .int .u64 Q ∧ r = .int .u64 R ∧ Hid (Pl.DInv a b R1 v0 Q R)) (fun q _ => (intOf q).toNat)
      case atStart => exact ⟨_, _, rfl, rfl, hi2⟩
      case round =>
        obtain ⟨Q, R, rfl, rfl, hinv⟩ := hrel
        have hR := hinv.out.rest
        have hQ := hinv.out.near
        by_cases hq : 4294967296 ≤ Q
        · have tq : decide ((4294967296 : Int) ≤ (Q : Int)) = true := by simp; omega
          have hpos := (Pl.dinv_step hinv.out hv02 (hUa) (.inl hq)).1
          obtain ⟨Qn, hQn⟩ : ∃ Q', Q' = Q - 1 := ⟨_, rfl⟩
          obtain ⟨Rn, hRn⟩ : ∃ R', R' = R + a := ⟨_, rfl⟩
          have w1 : IntKind.u64.wrap ((Q : Int) - 1) = (Qn : Int) := u64_eq (by omega) (by omega)
          have w2 : IntKind.u64.wrap ((R : Int) + (a : Int)) = (Rn : Int) := u64_eq (by omega) (by omega)
          by_cases hr : 4294967296 ≤ Rn
          · have tr : decide ((4294967296 : Int) ≤ (Rn : Int)) = true := by simp; omega
            have hres : Hid (Pl.DRes a b R1 v0 Qn) := by rw [hQn]; exact Pl.dinv_break hinv.out hb2 hv02 (hUa) (.inl hq) (by omega)
            clear hinv hQn hRn
            go_wp2_with fail
            go_meet
            case rel => exact ⟨_, rfl, hres, rfl⟩
          · have tr : decide ((4294967296 : Int) ≤ (Rn : Int)) = false := by simp; omega
            have hres : Hid (Pl.DInv a b R1 v0 Qn Rn) := by rw [hQn, hRn]; exact Pl.dinv_next hinv.out hv02 (hUa) (.inl hq) (by omega)
            have hlt : Qn < Q := by omega
            clear hinv hQn hRn
            go_wp2_with fail
            go_round
            case rel => exact ⟨_, _, rfl, rfl, hres⟩
            case measure => simp [intOf]; omega
        · have tq : decide ((4294967296 : Int) ≤ (Q : Int)) = false := by simp; omega
          obtain ⟨M, hM⟩ : ∃ M, M = Q * b := ⟨_, rfl⟩
          have hMlt : M ≤ 4294967295 * 4294967295 := by rw [hM]; exact Nat.mul_le_mul (by omega) (by omega)
          have w3 : IntKind.u64.wrap ((Q : Int) * (b : Int)) = (M : Int) := u64_eq (by rw [hM]; push_cast; rfl) (by omega)
          obtain ⟨T, hT⟩ : ∃ T, T = 4294967296 * R := ⟨_, rfl⟩
          have w4 : IntKind.u64.wrap (4294967296 * (R : Int)) = (T : Int) := u64_eq (by omega) (by omega)
          obtain ⟨T1, hT1⟩ : ∃ T, T = 4294967296 * R + v0 := ⟨_, rfl⟩
          have w5 : IntKind.u64.wrap ((T : Int) + (v0 : Int)) = (T1 : Int) := u64_eq (by omega) (by omega)
          by_cases hc : 4294967296 * R + v0 < Q * b
          · have tc : T1 < M := by omega
            clear hM hT hT1
            have hpos := (Pl.dinv_step hinv.out hv02 (hUa) (.inr hc)).1
            obtain ⟨Qn, hQn⟩ : ∃ Q', Q' = Q - 1 := ⟨_, rfl⟩
            obtain ⟨Rn, hRn⟩ : ∃ R', R' = R + a := ⟨_, rfl⟩
            have w1 : IntKind.u64.wrap ((Q : Int) - 1) = (Qn : Int) := u64_eq (by omega) (by omega)
            have w2 : IntKind.u64.wrap ((R : Int) + (a : Int)) = (Rn : Int) := u64_eq (by omega) (by omega)
            by_cases hr : 4294967296 ≤ Rn
            · have tr : decide ((4294967296 : Int) ≤ (Rn : Int)) = true := by simp; omega
              have hres : Hid (Pl.DRes a b R1 v0 Qn) := by rw [hQn]; exact Pl.dinv_break hinv.out hb2 hv02 (hUa) (.inr hc) (by omega)
              clear hinv hQn hRn
              go_wp2_with fail
              go_meet
              case rel => exact ⟨_, rfl, hres, rfl⟩
            · have tr : decide ((4294967296 : Int) ≤ (Rn : Int)) = false := by simp; omega
              have hres : Hid (Pl.DInv a b R1 v0 Qn Rn) := by rw [hQn, hRn]; exact Pl.dinv_next hinv.out hv02 (hUa) (.inr hc) (by omega)
              have hlt : Qn < Q := by omega
              clear hinv hQn hRn
              go_wp2_with fail
              go_round
              case rel => exact ⟨_, _, rfl, rfl, hres⟩
              case measure => simp [intOf]; omega
          · have tc : M ≤ T1 := by omega
            have hres := hid (Pl.dinv_done hinv.out (by omega))
            clear hinv hM hT hT1
            go_wp2_with fail
            go_meet
            case rel => exact ⟨_, rfl, hres, rfl⟩
    case rest =>
      obtain ⟨Q2, rfl, hQ2, rfl⟩ := hcut
      clear r0 r00 r1 r2 r3 hi2
      have hQ2lt := Pl.dres_lt hQ2.out hv02 (show R1 < a * 4294967296 + b by have := HYab.out; omega)
      obtain ⟨M2, hMM2⟩ : ∃ M, M = Q2 * Y := ⟨_, rfl⟩
      obtain ⟨M21, hA1M2⟩ : ∃ A, A = R1 * 4294967296 % 18446744073709551616 := ⟨_, rfl⟩
      obtain ⟨M22, hA2M2⟩ : ∃ A, A = (M21 + v0) % 18446744073709551616 := ⟨_, rfl⟩
      obtain ⟨M23, hA3M2⟩ : ∃ A, A = M2 % 18446744073709551616 := ⟨_, rfl⟩
      obtain ⟨R2, hRR2⟩ : ∃ R, R = R1 * 4294967296 + v0 - Q2 * Y := ⟨_, rfl⟩
      have lM2 := hQ2.out.low
      have oM2 := hQ2.out.over
      rw [← HYab.out] at lM2 oM2
      rw [Nat.add_mul, Nat.one_mul] at oM2
      have ltR2 : R2 < Y := by omega
      have z1M2 : IntKind.u64.wrap ((R1 : Int) * 4294967296) = (M21 : Int) := by rw [IntKind.wrap_u64]; omega
      have z2M2 : IntKind.u64.wrap ((M21 : Int) + (v0 : Int)) = (M22 : Int) := by rw [IntKind.wrap_u64]; omega
      have z3M2 : IntKind.u64.wrap ((Q2 : Int) * (Y : Int)) = (M23 : Int) := by rw [hA3M2]; exact u64_mod (by rw [hMM2]; push_cast; rfl)
      have z4M2 : IntKind.u64.wrap ((M22 : Int) - (M23 : Int)) = (R2 : Int) := u64_sub3 hA1M2 hA2M2 hA3M2 (by rw [hRR2, hMM2]) (by omega) (by omega)
      have HRR2 := hid hRR2
      clear hMM2 hA1M2 hA2M2 hA3M2 lM2 oM2 hRR2
      have hj := Pl.div_join hy0 hP HY.out HYab.out (by rw [HN.out, HVv.out]; omega) hQ1.out (HRR1.out ▸ hQ2.out)
      rw [← HRR1.out, ← HRR2.out] at hj
      have Hj := hid hj
      clear hj
      obtain ⟨B1, hB1⟩ : ∃ B, B = Q1 * 4294967296 := ⟨_, rfl⟩
      obtain ⟨B2, hB2⟩ : ∃ B, B = Q1 * 4294967296 + Q2 := ⟨_, rfl⟩
      have y1 : IntKind.u64.wrap ((Q1 : Int) * 4294967296) = (B1 : Int) := u64_eq (by omega) (by omega)
      have y2 : IntKind.u64.wrap ((B1 : Int) + (Q2 : Int)) = (B2 : Int) := u64_eq (by omega) (by omega)
      have hB2' := hid hB2
      clear hB1 hB2
      go_wp2_with fail
      go_ret2
      refine ⟨?_, rfl⟩
      rw [Hj.out.1, Hj.out.2, ← hB2'.out]
      push_cast
      rfl

set_option maxHeartbeats 1000000 in
theorem div64_zero (lo y : Nat) (hy : 0 < y) (hlo : lo < 18446744073709551616) (hy2 : y < 18446744073709551616) (w : World) :
    Calls Try.prog 85 #[.int .u64 0, .int .u64 (lo : Int), .int .u64 (y : Int)] w fun e w' => e = .returned (.tuple #[.int .u64 (lo / y : Nat), .int .u64 (lo % y : Nat)]) ∧ ∃ n, w' = w.drewN n := by
  have t1 : ((y : Int) == 0) = false := by simp; omega
  have t2 : ¬ (y : Int) = 0 := by omega
  have t3 : decide ((y : Int) ≤ 0) = false := by simp; omega
  have hle : lo / y ≤ lo := Nat.div_le_self _ _
  obtain ⟨Q, hQ⟩ : ∃ Q, Q = lo / y := ⟨_, rfl⟩
  obtain ⟨R, hR⟩ : ∃ R, R = lo % y := ⟨_, rfl⟩
  rw [← hQ, ← hR]
  have q1 : IntKind.u64.wrap ((lo : Int) / (y : Int)) = (Q : Int) := u64_eq (by rw [hQ]; push_cast; rfl) (by omega)
  have q2 : (lo : Int) % (y : Int) = (R : Int) := by rw [hR]; push_cast; rfl
  clear hQ hR
  go_enter Try.func85, Try.ntmps85
  go_wp2_with fail
  go_quiet (fail)
  go_wp2_with fail
  go_ret2
  exact ⟨by rw [← q2]; rfl, _, rfl⟩

/-- math/bits.Div64, where it doesn't panic -/
theorem div64_calls (hi lo y : Nat) (hhi : hi < y) (hlo : lo < B64) (hy : y < B64) (w : World) :
    Calls Try.prog 85 #[.int .u64 (hi : Int), .int .u64 (lo : Int), .int .u64 (y : Int)] w fun e w' => e = .returned (.tuple #[.int .u64 ((hi * B64 + lo) / y : Nat), .int .u64 ((hi * B64 + lo) % y : Nat)]) ∧ ∃ n, w' = w.drewN n := by
  unfold B64 at *
  rcases Nat.eq_zero_or_pos hi with rfl | h0
  · rw [Nat.zero_mul, Nat.zero_add]
    exact div64_zero lo y hhi hlo hy w
  · exact (div64_gen hi lo y _ hhi h0 hlo hy rfl w).mono fun e w' ⟨he, hw⟩ => ⟨he, 0, hw.symm⟩

end Go.Proofs.Ytphbacggmhjmgaa
