/- The references' numbers, fifth part: powers, greatest common divisors. -/
import Derived.Test.YtphbacggmhjmgaaRefD
namespace Go.Proofs.Ytphbacggmhjmgaa
open Go.RowKit

theorem exp_sq (a m k e : Nat) : (a ^ (e / 2 ^ (k + 1)) % m) * (a ^ (e / 2 ^ (k + 1)) % m) % m = a ^ (2 * (e / 2 ^ (k + 1))) % m := by
  rw [← Nat.mul_mod, ← Nat.pow_add, Nat.two_mul]
theorem exp_one (a m x : Nat) : (a ^ x % m) * (a % m) % m = a ^ (x + 1) % m := by
  rw [← Nat.mul_mod, Nat.pow_succ]

set_option maxHeartbeats 2000000 in
theorem rexp_calls {w : World} {S T U : Nat → Prop} {a ex m : Nat} {va ve vm : Value} (ha : RefN.rep S w a [va]) (he : RefN.rep T w ex [ve]) (hm : RefN.rep U w m [vm]) (sa : Small a) (se : Small ex) (sm : Small (2 * (m * m))) (h0 : 0 < m) :
    Calls Try.prog 49 #[va, ve, vm] w fun e w' => (∃ u, e = .returned u ∧ RefN.rep (Fresh w w') w' (a ^ ex % m) [u]) ∧ Below w.heap.size w w' := by
  have hmm : m ≤ m * m := Nat.le_mul_of_pos_left m h0
  have sm2 : Small (2 * m) := sm.le (by omega)
  have smm : Small (m * m) := sm.le (by omega)
  have sm1 : Small m := sm.le (by omega)
  have hbl : bitLen ex ≤ 1600000 := by
    rw [bitLen_le_iff]
    exact two_pow 16 65536 rfl ex 100000 1600000 rfl se.lt
  have hba := below_alloc (Below.refl w.heap.size w) (.cells #[.int .i64 1] 3)
  have hlit := ref_lit w
  go_enter Try.func49, Try.ntmps49
  go_wp2_with fail
  refine (rrest_calls hlit (RefN.below hm hba) (small_nat (by omega)) sm2 h0).mono ?_
  rintro e w1 ⟨⟨ov, rfl, ho⟩, hb1⟩
  have hb1' := below_trans hba hb1
  go_wp2_with fail
  refine (rrest_calls (RefN.below ha hb1') (RefN.below hm hb1') sa sm2 h0).mono ?_
  rintro e w2 ⟨⟨bv, rfl, hbv⟩, hb2⟩
  have hb2' := below_trans hb1' hb2
  go_wp2_with fail
  refine (rbits_calls (RefN.below he hb2') se).mono ?_
  rintro e w3 ⟨rfl, rfl⟩
  have ho2 : RefN.rep (Fresh w w2) w2 (a ^ 0 % m) [ov] := RefN.mono (RefN.below ho hb2) (Fresh.mono hba.size hb2.size) (Same.refl _ _)
  have hxm := Nat.mod_lt a h0
  clear ho hlit hba hb1
  go_wp2_with fail
  go_loopw [7, 9] (fun ov iv wr => ∃ (k : Nat), iv = .int .i64 ((k : Int) - 1) ∧ k ≤ 1600000 ∧ RefN.rep (Fresh w wr) wr (a ^ (ex / 2 ^ k) % m) [ov] ∧ Below w2.heap.size w2 wr) (fun _ iv _ => (intOf iv + 1).toNat)
  case atStart =>
    refine ⟨bitLen ex, rfl, hbl, ?_, Below.refl _ _⟩
    rw [Nat.div_eq_of_lt (bitLen_spec ex).1]; exact ho2
  case round =>
    clear ho2
    obtain ⟨k, rfl, hk, ho, hB⟩ := hrel
    obtain ⟨wo, rfl⟩ : ∃ wo : World, wo = wr := ⟨_, rfl⟩
    have hBo := below_trans hb2' hB
    have hbo := RefN.below hbv hB
    cases k with
    | succ k =>
      rw [show (((k + 1 : Nat) : Int) - 1) = (k : Int) by omega]
      obtain ⟨P, hP⟩ : ∃ P, P = a ^ (ex / 2 ^ (k + 1)) % m := ⟨_, rfl⟩
      rw [← hP] at ho
      have hPm : P < m := by rw [hP]; exact Nat.mod_lt _ h0
      have sP : Small P := sm1.le (by omega)
      have sPP : Small (P * P) := smm.le (Nat.mul_le_mul (by omega) (by omega))
      have hsq := exp_sq a m k ex
      rw [← hP] at hsq
      have hbit := div_bit ex k
      obtain ⟨bt, hbt⟩ : ∃ bt, bt = ex.testBit k := ⟨_, rfl⟩
      rw [← hbt] at hbit
      have Hbit := hid hbit
      have Hbt := hid hbt
      clear hbit hP hbt
      go_wp2_with fail
      refine (rmul_calls ho ho sP sP).mono ?_
      rintro e w4 ⟨⟨sv, rfl, hsv⟩, hb4⟩
      have hB4 := below_trans hBo hb4
      go_wp2_with fail
      refine (rrest_calls hsv (RefN.below hm hB4) sPP sm2 h0).mono ?_
      rintro e w5 ⟨⟨rv, rfl, hrv⟩, hb5⟩
      rw [hsq] at hrv
      have hB5 := below_trans hB4 hb5
      have hBw5 := below_trans (below_trans hB hb4) hb5
      have hrv5 := RefN.mono hrv (S' := Fresh w w5) (Fresh.mono hB4.size (Nat.le_refl _)) (Same.refl _ _)
      go_wp2_with fail
      refine (rbit_calls (RefN.below he hB5) k (by omega)).mono ?_
      rintro e w6 ⟨rfl, rfl⟩
      rw [← Hbt.out]
      cases bt
      · have hfin : RefN.rep (Fresh w w5) w5 (a ^ (ex / 2 ^ k) % m) [rv] := by rw [Hbit.out]; exact hrv5
        clear hrv hrv5 hsq
        go_wp2_with fail
        go_roundw
        case rel => exact ⟨k, rfl, by omega, hfin, hBw5⟩
        case measure => simp [intOf]
      · obtain ⟨Q, hQ⟩ : ∃ Q, Q = a ^ (2 * (ex / 2 ^ (k + 1))) % m := ⟨_, rfl⟩
        rw [← hQ] at hrv5
        have hQm : Q < m := by rw [hQ]; exact Nat.mod_lt _ h0
        have sQ : Small Q := sm1.le (by omega)
        have sA : Small (a % m) := sm1.le (by omega)
        have sQA : Small (Q * (a % m)) := smm.le (Nat.mul_le_mul (by omega) (by omega))
        have hone := exp_one a m (2 * (ex / 2 ^ (k + 1)))
        rw [← hQ] at hone
        clear hQ hrv hsq
        go_wp2_with fail
        refine (rmul_calls hrv5 (RefN.mono (RefN.below hbo (below_trans hb4 hb5)) (S' := fun _ => True) (fun _ _ => trivial) (Same.refl _ _)) sQ sA).mono ?_
        rintro e w7 ⟨⟨mv, rfl, hmv⟩, hb7⟩
        have hB7 := below_trans hB5 hb7
        go_wp2_with fail
        refine (rrest_calls hmv (RefN.below hm hB7) sQA sm2 h0).mono ?_
        rintro e w8 ⟨⟨zv, rfl, hzv⟩, hb8⟩
        have hfin : RefN.rep (Fresh w w8) w8 (a ^ (ex / 2 ^ k) % m) [zv] := by
          rw [hone] at hzv
          rw [Hbit.out]
          exact RefN.mono hzv (Fresh.mono hB7.size (Nat.le_refl _)) (Same.refl _ _)
        have hBw8 := below_trans (below_trans hBw5 hb7) hb8
        clear hzv hone
        go_wp2_with fail
        go_roundw
        case rel => exact ⟨k, rfl, by omega, hfin, hBw8⟩
        case measure => simp [intOf]
    | zero =>
      rw [Nat.pow_zero, Nat.div_one] at ho
      go_wp2_with fail
      go_ret
      exact ⟨⟨_, rfl, ho⟩, hBo⟩

set_option maxHeartbeats 1000000 in
theorem rgcd_calls {w : World} {S T : Nat → Prop} {m n : Nat} {va vb : Value} (ha : RefN.rep S w m [va]) (hb : RefN.rep T w n [vb]) (sm : Small (2 * m)) (sn : Small (2 * n)) :
    Calls Try.prog 88 #[va, vb] w fun e w' => (∃ u, e = .returned u ∧ RefN.rep (· < w'.heap.size) w' (Nat.gcd m n) [u]) ∧ Below w.heap.size w w' := by
  go_enter Try.func88, Try.ntmps88
  go_wp2_with fail
  go_loopg [0, 1] n (fun k av bv wr => ∃ (U V : Nat), k = V ∧ RefN.rep (· < wr.heap.size) wr U [av] ∧ RefN.rep (· < wr.heap.size) wr V [bv] ∧ Hid (Nat.gcd U V = Nat.gcd m n) ∧ Small (2 * U) ∧ Small (2 * V) ∧ Below w.heap.size w wr)
  case atStart => exact ⟨m, n, rfl, RefN.old ha, RefN.old hb, hid rfl, sm, sn, Below.refl _ _⟩
  case round =>
    obtain ⟨V, rfl⟩ : ∃ V, V = gk := ⟨_, rfl⟩
    obtain ⟨U, _, rfl, hU, hV, hg, sU, sV, hB⟩ := hrel
    obtain ⟨wo, rfl⟩ : ∃ wo : World, wo = wr := ⟨_, rfl⟩
    obtain ⟨vs, hvs, hvc, hvv⟩ := id hV
    by_cases h0 : 0 < V
    · have hvl : 0 < vs.length := by
        rcases Nat.eq_zero_or_pos vs.length with h | h
        · obtain rfl := List.eq_nil_of_length_eq_zero h
          rw [Pl.val_nil] at hvv; omega
        · exact h
      obtain ⟨vA, vcap, rfl, hvcap, hvcm⟩ := sl_open hvs
      have hg2 : Hid (Nat.gcd V (U % V) = Nat.gcd m n) := by
        show _ = _
        rw [← hg.out, Nat.gcd_comm U V, Nat.gcd_rec V U, Nat.gcd_comm]
      have hlt := Nat.mod_lt U h0
      have sR : Small (2 * (U % V)) := sV.le (by omega)
      clear hvc hvv hvs hg
      go_wp2_with fail
      refine (rrest_calls hU hV (sU.le (by omega)) sV h0).mono ?_
      rintro e w2 ⟨⟨rv, rfl, hr⟩, hb2⟩
      have hV2 := RefN.old (RefN.below hV hb2)
      have hr2 := RefN.old hr
      have hB2 := below_trans hB hb2
      clear hU hV hr
      go_wp2_with fail
      go_roundg (U % V)
      case rel => exact ⟨V, _, rfl, hV2, hr2, hg2, sV, sR, hB2⟩
      case measure => omega
    · obtain rfl : V = 0 := by omega
      have hvl : vs.length = 0 := by
        rcases Nat.eq_zero_or_pos vs.length with h | h
        · exact h
        · have := hvc.val_pos (B := 65536) (by omega) h; omega
      obtain ⟨vA, vcap, rfl, hvcap, hvcm⟩ := sl_open hvs
      have hg1 := hg.out
      rw [Nat.gcd_zero_right] at hg1
      rw [hg1] at hU
      rw [hvl]
      clear hvl hg1 hvv hvc hvs hg
      go_wp2_with fail
      go_ret
      exact ⟨⟨_, rfl, hU⟩, hB⟩

end Go.Proofs.Ytphbacggmhjmgaa
