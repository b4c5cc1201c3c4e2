/- The references, chains that prove primes, first part: Small, step. (Printed by gen_ref03.py.) -/
import Derived.Test.YtphbacggmhjmgaaPrG
import Derived.Test.YtphbacggmhjmgaaRefQ
import Derived.Test.YtphbacggmhjmgaaLaw
namespace Go.Proofs.Ytphbacggmhjmgaa
open Go.RowKit

theorem smallB_div {n d : Nat} (h2 : 2 ≤ d) (hd : d < n) (hz : n % d = 0) : Num.smallB n = false := by
  rcases Bool.eq_false_or_eq_true (Num.smallB n) with h | h
  · rcases (Num.small_pr h).only d (Nat.dvd_of_mod_eq_zero hz) with h | h <;> omega
  · exact h
theorem u64_emod (n d : Nat) : ((n : Int) % (d : Int)) = ((n % d : Nat) : Int) := by omega

set_option maxHeartbeats 1000000 in
theorem rsmall_calls (n : Nat) (_hn : n < B64) (w : World) :
    Calls Try.prog 83 #[.int .u64 (n : Int)] w fun e w' => e = .returned (.bool (Num.smallB n)) ∧ w = w' := by
  by_cases hout : n < 2 ∨ 65536 ≤ n
  · have Hs := hid (smallB_out hout)
    rw [Hs.out]
    rcases hout with h | h
    · go_enter Try.func83, Try.ntmps83
      go_wp2_with fail
      go_ret
      exact ⟨rfl, rfl⟩
    · go_enter Try.func83, Try.ntmps83
      go_wp2_with fail
      go_ret
      exact ⟨rfl, rfl⟩
  · have h2 : 2 ≤ n := by omega
    have h6 : n < 65536 := by omega
    clear hout
    go_enter Try.func83, Try.ntmps83
    go_wp2_with fail
    go_loop [3] (fun dv => ∃ d : Nat, dv = .int .u64 (d : Int) ∧ 2 ≤ d ∧ d ≤ n ∧ Hid (NoDiv n d)) (fun dv => n - (intOf dv).toNat)
    case atStart => exact ⟨2, rfl, by omega, h2, fun e h1 h2 => by omega⟩
    case round =>
      obtain ⟨d, rfl, hd2, hdn, hno⟩ := hrel
      by_cases hlt : d < n
      · obtain ⟨R, hR⟩ : ∃ R, R = n % d := ⟨_, rfl⟩
        have hmod : (n : Int) % (d : Int) = (R : Int) := by rw [u64_emod, hR]
        by_cases hz : R = 0
        · have Hs := hid (smallB_div hd2 hlt (by omega))
          have hz1 : ((R : Int) == 0) = true := by rw [hz]; rfl
          clear hR hz
          go_wp2_with fail
          go_ret
          exact ⟨by rw [Hs.out]; rfl, rfl⟩
        · have hz1 : ((R : Int) == 0) = false := by rw [beq_eq_false_iff_ne, ne_eq]; omega
          have hno2 : Hid (NoDiv n (d + 1)) := fun e h1 h2 => by
            rcases Nat.lt_or_ge e d with h | h
            · exact hno.out e h1 h
            · obtain rfl : e = d := by omega
              rw [← hR]; exact hz
          clear hR hz
          go_wp2_with fail
          go_round
          case rel => exact ⟨d + 1, by go_num, by omega, by omega, hno2⟩
          case measure => simp [intOf]; omega
      · obtain rfl : n = d := by omega
        have Hs := hid (smallB_yes (n := n) (d := n) h2 h6 (by have := Nat.mul_le_mul_right n h2; omega) hno.out)
        go_wp2_with fail
        go_ret
        exact ⟨by rw [Hs.out]; rfl, rfl⟩

/-- the lowest digit of a number -/
theorem ref_low {S : Nat → Prop} {w : World} {n : Nat} {v : Value} (h : RefN.rep S w n [v]) : ∃ A l c, v = .slice A l c ∧ l ≤ c ∧ c ≤ 9223372036854775807 ∧ (l = 0 ↔ n = 0) ∧ (0 < l → ∃ b o d : Nat, A = some ⟨b, o, none⟩ ∧ w.cell? ⟨b, o, none⟩ = some (.int .i64 (d : Int)) ∧ d < 65536 ∧ d % 2 = n % 2 ∧ (l = 1 → d = n) ∧ (1 < l → 65536 ≤ n)) := by
  obtain ⟨xs, hx, hc, hv⟩ := h
  have hd := num_dig hx
  obtain ⟨A, cap, rfl, hcap, hcm⟩ := sl_open hx
  refine ⟨A, _, cap, rfl, hcap, hcm, ?_, ?_⟩
  · have := Pl.canon_len_le (n := 0) (B := 65536) (by omega) hd hc
    rw [hv, Nat.pow_zero] at this
    omega
  · intro h0
    obtain ⟨b, o, rfl, _, hcell, hbd⟩ := num_at hx 0 h0
    have hv0 := Pl.val_drop 65536 xs 0 h0
    rw [List.drop_zero, hv] at hv0
    refine ⟨b, o, xs[0], rfl, by simpa using hcell, hbd, by omega, ?_, ?_⟩
    · intro h1
      rw [List.drop_of_length_le (by omega)] at hv0
      simp [Pl.val] at hv0; omega
    · intro h1
      have h2 := hc.ge (B := 65536) h0
      have h3 : 65536 ^ 1 ≤ 65536 ^ (xs.length - 1) := Nat.pow_le_pow_right (by omega) (by omega)
      rw [Nat.pow_one] at h3
      omega
theorem old_ref {S : Nat → Prop} {w : World} {n : Nat} {cs : List Value} (h : RefN.rep S w n cs) : RefN.rep (· < w.heap.size) w n cs := RefN.old h
theorem ref_litx (w : World) (x : Nat) (h0 : 0 < x) (hx : x < 65536) (g : Nat) (hg : g = w.heap.size) : RefN.rep (· < (w.alloc (.cells #[.int .i64 (x : Int)] 3)).heap.size) (w.alloc (.cells #[.int .i64 (x : Int)] 3)) x [.slice (some ⟨g, 0, none⟩) 1 1] := by
  subst hg
  exact RefN.old (ref_row (Row.new w 3 #[.int .i64 (x : Int)]) h0 hx)
theorem rcmp_not_le {m n : Nat} (h : ¬ m ≤ n) : ¬ Pl.cmp m n ≤ 0 := cmp_not_le h
theorem cmp_ne0 {m n : Nat} (h : m ≠ n) : (Pl.cmp m n == 0) = false := by rw [beq_eq_false_iff_ne, ne_eq, Pl.cmp_zero]; exact h

set_option maxHeartbeats 8000000 in
set_option maxRecDepth 100000 in
theorem rstep_calls {S : Nat → Prop} {w : World} {xp xq xa : List Nat} {vp vq va : Value} (hp : NatS.rep S w xp [vp]) (hq : NatS.rep S w xq [vq]) (ha : NatS.rep S w xa [va]) (lp : xp.length ≤ 20000) (lq : xq.length ≤ 20000) (la : xa.length ≤ 20000) :
    Calls Try.prog 82 #[.agg #[vp, vq, va]] w fun e w' => e = .returned (.int .i64 ((Num.stepE (B64 ^ 32) (B64 ^ 64) (Pl.val B64 xp) (Pl.val B64 xq) (Pl.val B64 xa) : Nat) : Int)) ∧ Below w.heap.size w w' := by
  have rp := RawN.old (raw_of hp)
  have rq := RawN.old (raw_of hq)
  have ra := RawN.old (raw_of ha)
  obtain ⟨Ap, cp, rfl, hcp, _⟩ := sl_open hp
  obtain ⟨Aq, cq, rfl, hcq, _⟩ := sl_open hq
  obtain ⟨Aa, ca, rfl, hca, _⟩ := sl_open ha
  obtain ⟨p, ep⟩ : ∃ p, p = Pl.val B64 xp := ⟨_, rfl⟩
  obtain ⟨q, eq⟩ : ∃ q, q = Pl.val B64 xq := ⟨_, rfl⟩
  obtain ⟨a, ea⟩ : ∃ a, a = Pl.val B64 xa := ⟨_, rfl⟩
  rw [← ep] at rp ⊢
  rw [← eq] at rq ⊢
  rw [← ea] at ra ⊢
  clear hp hq ha ep eq ea
  have hB1 := below_alloc (Below.refl w.heap.size w) (.cells #[.slice Ap xp.length cp, .slice Aq xq.length cq, .slice Aa xa.length ca] 67)
  have hr0 := Row.new w 67 #[.slice Ap xp.length cp, .slice Aq xq.length cq, .slice Aa xa.length ca]
  have rp_1 := rep_up rp hB1
  have rq_1 := rep_up rq hB1
  have ra_1 := rep_up ra hB1
  have c0 := hr0.cell 0 (by simp)
  have c1 := hr0.cell 1 (by simp)
  have c2 := hr0.cell 2 (by simp)
  simp only [List.getElem_cons_zero, List.getElem_cons_succ] at c0 c1 c2
  have hlt := hr0.lt
  obtain ⟨w1, hw1⟩ : ∃ w1, w1 = w.alloc (.cells #[.slice Ap xp.length cp, .slice Aq xq.length cq, .slice Aa xa.length ca] 67) := ⟨_, rfl⟩
  rw [← hw1] at hB1 rp_1 rq_1 ra_1 c0 c1 c2 hlt
  clear rp rq ra hr0
  go_enter Try.func82, Try.ntmps82
  go_upto_region 1 with (fail)
  rw [← hw1]
  clear hw1
  go_wp2_with fail
  refine (limbs_calls rp_1).mono ?_
  rintro e w' ⟨⟨l1, rfl, hl⟩, rfl⟩
  have kl1 := hl 32
  clear hl
  by_cases el1 : 32 < l1
  · have Hs := hid (show Num.stepE (B64 ^ 32) (B64 ^ 64) p q a = 2 from step2 (.inl (by omega)))
    clear kl1
    go_wp2_with fail
    go_ret
    exact ⟨by rw [Hs.out]; rfl, hB1⟩
  go_wp2_with fail
  refine (limbs_calls rq_1).mono ?_
  rintro e w' ⟨⟨l2, rfl, hl⟩, rfl⟩
  have kl2 := hl 64
  clear hl
  by_cases el2 : 64 < l2
  · have Hs := hid (show Num.stepE (B64 ^ 32) (B64 ^ 64) p q a = 2 from step2 (.inr (.inl (by omega))))
    clear kl2
    go_wp2_with fail
    go_ret
    exact ⟨by rw [Hs.out]; rfl, hB1⟩
  go_wp2_with fail
  refine (limbs_calls ra_1).mono ?_
  rintro e w' ⟨⟨l3, rfl, hl⟩, rfl⟩
  have kl3 := hl 64
  clear hl
  by_cases el3 : 64 < l3
  · have Hs := hid (show Num.stepE (B64 ^ 32) (B64 ^ 64) p q a = 2 from step2 (.inr (.inr (by omega))))
    clear kl3
    go_wp2_with fail
    go_ret
    exact ⟨by rw [Hs.out]; rfl, hB1⟩
  have H2 := hid (show ¬ (B64 ^ 32 ≤ p ∨ B64 ^ 64 ≤ q ∨ B64 ^ 64 ≤ a) by omega)
  have p32 : p < B64 ^ 32 := by omega
  have q64 : q < B64 ^ 64 := by omega
  have a64 : a < B64 ^ 64 := by omega
  clear kl1 kl2 kl3
  have sp : Small p := small_limbs p32 (by omega)
  have sq : Small q := small_limbs q64 (by omega)
  have sa : Small a := small_limbs a64 (by omega)
  have s1 : Small 1 := small_nat (by omega)
  have hpp : p * p < B64 ^ 64 := by
    rw [show B64 ^ 64 = B64 ^ 32 * B64 ^ 32 by rw [← Nat.pow_add]]
    exact Nat.mul_lt_mul'' p32 p32
  have hqq : q * q < B64 ^ 128 := by
    rw [show B64 ^ 128 = B64 ^ 64 * B64 ^ 64 by rw [← Nat.pow_add]]
    exact Nat.mul_lt_mul'' q64 q64
  have sqq : Small (q * q) := small_limbs hqq (by omega)
  have spp : Small (2 * (p * p)) := small_limbs (k := 65) (by rw [Nat.pow_succ, Nat.mul_comm]; exact Nat.mul_lt_mul_of_lt_of_le hpp (by decide) (by decide)) (by omega)
  have s2p : Small (2 * p) := small_limbs (k := 33) (by rw [Nat.pow_succ, Nat.mul_comm]; exact Nat.mul_lt_mul_of_lt_of_le p32 (by decide) (by decide)) (by omega)
  have s2q : Small (2 * q) := small_limbs (k := 65) (by rw [Nat.pow_succ, Nat.mul_comm]; exact Nat.mul_lt_mul_of_lt_of_le q64 (by decide) (by decide)) (by omega)
  replace p32 := hid p32
  replace q64 := hid q64
  replace a64 := hid a64
  clear hpp hqq
  go_wp2_with fail
  refine (of_raw rp_1 lp).mono ?_
  rintro e w2 ⟨⟨up, rfl, hP⟩, hb2⟩
  replace hP := RefN.old hP
  have rp_2 := rep_up rp_1 hb2
  have rq_2 := rep_up rq_1 hb2
  have ra_2 := rep_up ra_1 hb2
  clear rp_1 rq_1 ra_1
  have hB2 := below_trans hB1 hb2
  clear c0
  replace c1 := (hb2.cell (p := ⟨w.heap.size, 1, none⟩) hlt).trans c1
  replace c2 := (hb2.cell (p := ⟨w.heap.size, 2, none⟩) hlt).trans c2
  replace hlt := Nat.lt_of_lt_of_le hlt hb2.size
  clear rp_2
  go_wp2_with fail
  refine (of_raw rq_2 lq).mono ?_
  rintro e w3 ⟨⟨uq, rfl, hQ⟩, hb3⟩
  replace hQ := RefN.old hQ
  have rq_3 := rep_up rq_2 hb3
  have ra_3 := rep_up ra_2 hb3
  have hP_3 := rep_up hP hb3
  clear rq_2 ra_2 hP
  have hB3 := below_trans hB2 hb3
  clear c1
  replace c2 := (hb3.cell (p := ⟨w.heap.size, 2, none⟩) hlt).trans c2
  replace hlt := Nat.lt_of_lt_of_le hlt hb3.size
  clear rq_3
  go_wp2_with fail
  refine (of_raw ra_3 la).mono ?_
  rintro e w4 ⟨⟨ua, rfl, hA⟩, hb4⟩
  replace hA := RefN.old hA
  have ra_4 := rep_up ra_3 hb4
  have hP_4 := rep_up hP_3 hb4
  have hQ_4 := rep_up hQ hb4
  clear ra_3 hP_3 hQ
  have hB4 := below_trans hB3 hb4
  clear c2 hlt
  clear ra_4
  have hb5 := below_bs (w := w4) (.cells #[.int .i64 1] 3)
  have hOne := ref_litx w4 1 (by omega) (by omega) _ rfl
  have hP_5 := rep_up hP_4 hb5
  have hQ_5 := rep_up hQ_4 hb5
  have hA_5 := rep_up hA hb5
  clear hP_4 hQ_4 hA
  have hB5 := below_trans hB4 hb5
  obtain ⟨PA, pl, pc, rfl, hpl1, hpl2, hpl3, hpl4⟩ := ref_low hP_5
  by_cases hp0 : pl = 0
  · have Hs := hid (show Num.stepE (B64 ^ 32) (B64 ^ 64) p q a = 5 from step5 H2.out (.inr (by omega)))
    have h0 : ((pl : Int) == 0) = true := by rw [hp0]; rfl
    clear hpl3 hpl4 hp0
    go_wp2_with fail
    go_ret
    exact ⟨by rw [Hs.out]; rfl, hB5⟩
  obtain ⟨pb, po, pd, rfl, hpd, hpd1, hpd2, _, _⟩ := hpl4 (by omega)
  have hplp : 0 < pl := Nat.pos_of_ne_zero hp0
  have h0 : ((pl : Int) == 0) = false := by rw [beq_eq_false_iff_ne, ne_eq, Int.natCast_eq_zero]; exact hp0
  by_cases hpe : pd % 2 = 0
  · have Hs := hid (show Num.stepE (B64 ^ 32) (B64 ^ 64) p q a = 5 from step5 H2.out (.inl (by omega)))
    have h1 : ((pd : Int) % 2 == 0) = true := by rw [beq_iff_eq]; omega
    clear hpl3 hpl4 hp0 hpe hpd2
    go_wp2_with fail
    go_ret
    exact ⟨by rw [Hs.out]; rfl, hB5⟩
  have h1 : ((pd : Int) % 2 == 0) = false := by rw [beq_eq_false_iff_ne, ne_eq]; omega
  clear hpl4
  have hb6 := below_bs (w := (w4.alloc (.cells #[.int .i64 1] 3))) (.cells #[.int .i64 3] 3)
  have hThree := ref_litx (w4.alloc (.cells #[.int .i64 1] 3)) 3 (by omega) (by omega) (w4.heap.size + 1) (by simp)
  have hP_6 := rep_up hP_5 hb6
  have hQ_6 := rep_up hQ_5 hb6
  have hA_6 := rep_up hA_5 hb6
  have hOne_6 := rep_up hOne hb6
  clear hP_5 hQ_5 hA_5 hOne
  have hB6 := below_trans hB5 hb6
  go_wp2_with fail
  refine (rcmp_calls hP_6 hThree).mono ?_
  rintro e w7 ⟨rfl, hst7⟩
  have hb7 := hst7.below
  have hP_7 := rep_up hP_6 hb7
  have hQ_7 := rep_up hQ_6 hb7
  have hA_7 := rep_up hA_6 hb7
  have hOne_7 := rep_up hOne_6 hb7
  clear hP_6 hQ_6 hA_6 hOne_6
  have hB7 := below_trans hB6 hb7
  clear hThree
  by_cases hp3 : p < 3
  · have Hs := hid (show Num.stepE (B64 ^ 32) (B64 ^ 64) p q a = 5 from step5 H2.out (.inr hp3))
    have h2 : Pl.cmp p 3 < 0 := Pl.cmp_neg.2 hp3
    clear hpl3 hp0 hpe hpd2 hp3
    go_wp2_with fail
    go_ret
    exact ⟨by rw [Hs.out]; rfl, hB7⟩
  have h2 : ¬ Pl.cmp p 3 < 0 := by rw [Pl.cmp_neg]; exact hp3
  have H5 := hid (show ¬ (p % 2 = 0 ∨ p < 3) by omega)
  have hp0' : 0 < p := by omega
  have hp1 : 1 ≤ p := by omega
  clear hpl3 hpe hpd2 hp3
  go_wp2_with fail
  refine (rsub_calls hP_7 hOne_7 sp hp1).mono ?_
  rintro e w8 ⟨⟨ul, rfl, hL⟩, hb8⟩
  replace hL := RefN.old hL
  have hP_8 := rep_up hP_7 hb8
  have hQ_8 := rep_up hQ_7 hb8
  have hA_8 := rep_up hA_7 hb8
  have hOne_8 := rep_up hOne_7 hb8
  clear hP_7 hQ_7 hA_7 hOne_7
  have hB8 := below_trans hB7 hb8
  go_wp2_with fail
  refine (rcmp_calls hQ_8 hOne_8).mono ?_
  rintro e w9 ⟨rfl, hst9⟩
  have hb9 := hst9.below
  have hP_9 := rep_up hP_8 hb9
  have hQ_9 := rep_up hQ_8 hb9
  have hA_9 := rep_up hA_8 hb9
  have hOne_9 := rep_up hOne_8 hb9
  have hL_9 := rep_up hL hb9
  clear hP_8 hQ_8 hA_8 hOne_8 hL
  have hB9 := below_trans hB8 hb9
  by_cases hq1 : q ≤ 1
  · have Hs := hid (show Num.stepE (B64 ^ 32) (B64 ^ 64) p q a = 7 from step7 H2.out H5.out (.inl hq1))
    have h3 := cmp_le hq1
    clear hq1
    go_wp2_with fail
    go_ret
    exact ⟨by rw [Hs.out]; rfl, hB9⟩
  have h3 := cmp_not_le hq1
  go_wp2_with fail
  refine (rmul_calls hQ_9 hQ_9 sq sq).mono ?_
  rintro e w10 ⟨⟨uqq, rfl, hQQ⟩, hb10⟩
  replace hQQ := RefN.old hQQ
  have hP_10 := rep_up hP_9 hb10
  have hQ_10 := rep_up hQ_9 hb10
  have hA_10 := rep_up hA_9 hb10
  have hOne_10 := rep_up hOne_9 hb10
  have hL_10 := rep_up hL_9 hb10
  clear hP_9 hQ_9 hA_9 hOne_9 hL_9
  have hB10 := below_trans hB9 hb10
  go_wp2_with fail
  refine (rcmp_calls hQQ hP_10).mono ?_
  rintro e w11 ⟨rfl, hst11⟩
  have hb11 := hst11.below
  have hP_11 := rep_up hP_10 hb11
  have hQ_11 := rep_up hQ_10 hb11
  have hA_11 := rep_up hA_10 hb11
  have hOne_11 := rep_up hOne_10 hb11
  have hL_11 := rep_up hL_10 hb11
  have hQQ_11 := rep_up hQQ hb11
  clear hP_10 hQ_10 hA_10 hOne_10 hL_10 hQQ
  have hB11 := below_trans hB10 hb11
  by_cases hqp : q * q ≤ p
  · have Hs := hid (show Num.stepE (B64 ^ 32) (B64 ^ 64) p q a = 7 from step7 H2.out H5.out (.inr (.inr (.inr (.inl hqp)))))
    have h4 := cmp_le hqp
    clear hqp
    go_wp2_with fail
    go_ret
    exact ⟨by rw [Hs.out]; rfl, hB11⟩
  have h4 := cmp_not_le hqp
  replace hqp := hid hqp
  clear hQQ_11
  have sl : Small (p - 1) := sp.le (by omega)
  go_wp2_with fail
  refine (rdiv_calls hL_11 hQ_11 sl s2q (by omega)).mono ?_
  rintro e w12 ⟨⟨uk, ur, rfl, hK, hR⟩, hb12⟩
  replace hK := RefN.old hK
  replace hR := RefN.old hR
  have hP_12 := rep_up hP_11 hb12
  have hQ_12 := rep_up hQ_11 hb12
  have hA_12 := rep_up hA_11 hb12
  have hOne_12 := rep_up hOne_11 hb12
  have hL_12 := rep_up hL_11 hb12
  clear hP_11 hQ_11 hA_11 hOne_11 hL_11
  have hB12 := below_trans hB11 hb12
  obtain ⟨RA, rl, rc, rfl, hrl1, hrl2, hrl3, _⟩ := ref_low hR
  by_cases hr0 : rl = 0
  rotate_left
  · have Hs := hid (show Num.stepE (B64 ^ 32) (B64 ^ 64) p q a = 7 from step7 H2.out H5.out (.inr (.inr (.inr (.inr (.inl (fun h => hr0 (hrl3.2 h))))))))
    have h5 : (0 : Int) < (rl : Int) := by omega
    clear hrl3 hr0
    go_wp2_with fail
    go_ret
    exact ⟨by rw [Hs.out]; rfl, hB12⟩
  have Hr0 := hid (hrl3.1 hr0)
  have h5 : ¬ (0 : Int) < (rl : Int) := by omega
  clear hrl3 hr0
  clear hR
  go_wp2_with fail
  refine (rcmp_calls hA_12 hOne_12).mono ?_
  rintro e w13 ⟨rfl, hst13⟩
  have hb13 := hst13.below
  have hP_13 := rep_up hP_12 hb13
  have hQ_13 := rep_up hQ_12 hb13
  have hA_13 := rep_up hA_12 hb13
  have hOne_13 := rep_up hOne_12 hb13
  have hL_13 := rep_up hL_12 hb13
  have hK_13 := rep_up hK hb13
  clear hP_12 hQ_12 hA_12 hOne_12 hL_12 hK
  have hB13 := below_trans hB12 hb13
  by_cases ha1 : a ≤ 1
  · have Hs := hid (show Num.stepE (B64 ^ 32) (B64 ^ 64) p q a = 7 from step7 H2.out H5.out (.inr (.inl ha1)))
    have h6 := cmp_le ha1
    clear ha1
    go_wp2_with fail
    go_ret
    exact ⟨by rw [Hs.out]; rfl, hB13⟩
  have h6 := cmp_not_le ha1
  go_wp2_with fail
  refine (rcmp_calls hA_13 hL_13).mono ?_
  rintro e w14 ⟨rfl, hst14⟩
  have hb14 := hst14.below
  have hP_14 := rep_up hP_13 hb14
  have hQ_14 := rep_up hQ_13 hb14
  have hA_14 := rep_up hA_13 hb14
  have hOne_14 := rep_up hOne_13 hb14
  have hL_14 := rep_up hL_13 hb14
  have hK_14 := rep_up hK_13 hb14
  clear hP_13 hQ_13 hA_13 hOne_13 hL_13 hK_13
  have hB14 := below_trans hB13 hb14
  by_cases hal : p - 1 < a
  · have Hs := hid (show Num.stepE (B64 ^ 32) (B64 ^ 64) p q a = 7 from step7 H2.out H5.out (.inr (.inr (.inl hal))))
    have h7 : 0 < Pl.cmp a (p - 1) := Pl.cmp_pos.2 hal
    clear hal
    go_wp2_with fail
    go_ret
    exact ⟨by rw [Hs.out]; rfl, hB14⟩
  have h7 : ¬ 0 < Pl.cmp a (p - 1) := by rw [Pl.cmp_pos]; exact hal
  go_wp2_with fail
  refine (rexp_calls hA_14 hL_14 hP_14 sa sl spp hp0').mono ?_
  rintro e w15 ⟨⟨ue, rfl, hE⟩, hb15⟩
  replace hE := RefN.old hE
  have hP_15 := rep_up hP_14 hb15
  have hQ_15 := rep_up hQ_14 hb15
  have hA_15 := rep_up hA_14 hb15
  have hOne_15 := rep_up hOne_14 hb15
  have hL_15 := rep_up hL_14 hb15
  have hK_15 := rep_up hK_14 hb15
  clear hP_14 hQ_14 hA_14 hOne_14 hL_14 hK_14
  have hB15 := below_trans hB14 hb15
  go_wp2_with fail
  refine (rcmp_calls hE hOne_15).mono ?_
  rintro e w16 ⟨rfl, hst16⟩
  have hb16 := hst16.below
  have hP_16 := rep_up hP_15 hb16
  have hQ_16 := rep_up hQ_15 hb16
  have hA_16 := rep_up hA_15 hb16
  have hOne_16 := rep_up hOne_15 hb16
  have hL_16 := rep_up hL_15 hb16
  have hK_16 := rep_up hK_15 hb16
  have hE_16 := rep_up hE hb16
  clear hP_15 hQ_15 hA_15 hOne_15 hL_15 hK_15 hE
  have hB16 := below_trans hB15 hb16
  obtain ⟨E, hEd⟩ : ∃ E, E = a ^ (p - 1) % p := ⟨_, rfl⟩
  rw [← hEd]
  replace hEd := hid hEd
  by_cases hf : E = 1
  rotate_left
  · have Hs := hid (show Num.stepE (B64 ^ 32) (B64 ^ 64) p q a = 7 from step7 H2.out H5.out (.inr (.inr (.inr (.inr (.inr (.inl (by rw [← hEd.out]; exact hf))))))))
    have h8 := cmp_ne0 hf
    have h8' : (Pl.cmp E 1 != 0) = true := by rw [bne, h8]; rfl
    clear hf
    go_wp2_with fail
    go_ret
    exact ⟨by rw [Hs.out]; rfl, hB16⟩
  have Hf := hid (hEd.out.symm.trans hf)
  rw [cmp_eq hf]
  clear hf
  clear hE_16
  have sk : Small ((p - 1) / q) := sl.le (Nat.div_le_self _ _)
  go_wp2_with fail
  refine (rexp_calls hA_16 hK_16 hP_16 sa sk spp hp0').mono ?_
  rintro e w17 ⟨⟨ux, rfl, hX⟩, hb17⟩
  replace hX := RefN.old hX
  have hP_17 := rep_up hP_16 hb17
  have hQ_17 := rep_up hQ_16 hb17
  have hA_17 := rep_up hA_16 hb17
  have hOne_17 := rep_up hOne_16 hb17
  have hL_17 := rep_up hL_16 hb17
  have hK_17 := rep_up hK_16 hb17
  clear hP_16 hQ_16 hA_16 hOne_16 hL_16 hK_16
  have hB17 := below_trans hB16 hb17
  obtain ⟨X, hXd⟩ : ∃ X, X = a ^ ((p - 1) / q) % p := ⟨_, rfl⟩
  rw [← hXd] at hX
  have hXp : X < p := by rw [hXd]; exact Nat.mod_lt _ hp0'
  replace hXd := hid hXd
  have sX : Small X := sp.le (by omega)
  have sXp : Small (X + p) := s2p.le (by omega)
  have sX1 : Small (X + p - 1) := s2p.le (by omega)
  have hX1 : 1 ≤ X + p := by omega
  go_wp2_with fail
  refine (radd_calls hX hP_17 sX sp).mono ?_
  rintro e w18 ⟨⟨uy, rfl, hY⟩, hb18⟩
  replace hY := RefN.old hY
  have hP_18 := rep_up hP_17 hb18
  have hQ_18 := rep_up hQ_17 hb18
  have hA_18 := rep_up hA_17 hb18
  have hOne_18 := rep_up hOne_17 hb18
  have hL_18 := rep_up hL_17 hb18
  have hK_18 := rep_up hK_17 hb18
  have hX_18 := rep_up hX hb18
  clear hP_17 hQ_17 hA_17 hOne_17 hL_17 hK_17 hX
  have hB18 := below_trans hB17 hb18
  go_wp2_with fail
  refine (rsub_calls hY hOne_18 sXp hX1).mono ?_
  rintro e w19 ⟨⟨uz, rfl, hZ⟩, hb19⟩
  replace hZ := RefN.old hZ
  have hP_19 := rep_up hP_18 hb19
  have hQ_19 := rep_up hQ_18 hb19
  have hA_19 := rep_up hA_18 hb19
  have hOne_19 := rep_up hOne_18 hb19
  have hL_19 := rep_up hL_18 hb19
  have hK_19 := rep_up hK_18 hb19
  have hX_19 := rep_up hX_18 hb19
  have hY_19 := rep_up hY hb19
  clear hP_18 hQ_18 hA_18 hOne_18 hL_18 hK_18 hX_18 hY
  have hB19 := below_trans hB18 hb19
  go_wp2_with fail
  refine (rrest_calls hZ hP_19 sX1 s2p hp0').mono ?_
  rintro e w20 ⟨⟨ut, rfl, hT⟩, hb20⟩
  replace hT := RefN.old hT
  have hP_20 := rep_up hP_19 hb20
  have hQ_20 := rep_up hQ_19 hb20
  have hA_20 := rep_up hA_19 hb20
  have hOne_20 := rep_up hOne_19 hb20
  have hL_20 := rep_up hL_19 hb20
  have hK_20 := rep_up hK_19 hb20
  have hX_20 := rep_up hX_19 hb20
  have hY_20 := rep_up hY_19 hb20
  have hZ_20 := rep_up hZ hb20
  clear hP_19 hQ_19 hA_19 hOne_19 hL_19 hK_19 hX_19 hY_19 hZ
  have hB20 := below_trans hB19 hb20
  have sT : Small (2 * ((X + p - 1) % p)) := s2p.le (by have := Nat.mod_lt (X + p - 1) hp0'; omega)
  go_wp2_with fail
  refine (rgcd_calls hP_20 hT s2p sT).mono ?_
  rintro e w21 ⟨⟨ud, rfl, hD⟩, hb21⟩
  have hP_21 := rep_up hP_20 hb21
  have hQ_21 := rep_up hQ_20 hb21
  have hA_21 := rep_up hA_20 hb21
  have hOne_21 := rep_up hOne_20 hb21
  have hL_21 := rep_up hL_20 hb21
  have hK_21 := rep_up hK_20 hb21
  have hX_21 := rep_up hX_20 hb21
  have hY_21 := rep_up hY_20 hb21
  have hZ_21 := rep_up hZ_20 hb21
  have hT_21 := rep_up hT hb21
  clear hP_20 hQ_20 hA_20 hOne_20 hL_20 hK_20 hX_20 hY_20 hZ_20 hT
  have hB21 := below_trans hB20 hb21
  go_wp2_with fail
  refine (rcmp_calls hD hOne_21).mono ?_
  rintro e w22 ⟨rfl, hst22⟩
  have hb22 := hst22.below
  have hP_22 := rep_up hP_21 hb22
  have hQ_22 := rep_up hQ_21 hb22
  have hA_22 := rep_up hA_21 hb22
  have hOne_22 := rep_up hOne_21 hb22
  have hL_22 := rep_up hL_21 hb22
  have hK_22 := rep_up hK_21 hb22
  have hX_22 := rep_up hX_21 hb22
  have hY_22 := rep_up hY_21 hb22
  have hZ_22 := rep_up hZ_21 hb22
  have hT_22 := rep_up hT_21 hb22
  have hD_22 := rep_up hD hb22
  clear hP_21 hQ_21 hA_21 hOne_21 hL_21 hK_21 hX_21 hY_21 hZ_21 hT_21 hD
  have hB22 := below_trans hB21 hb22
  obtain ⟨D, hDd⟩ : ∃ D, D = Nat.gcd p ((X + p - 1) % p) := ⟨_, rfl⟩
  rw [← hDd]
  have hDD := hid (show D = Nat.gcd ((a ^ ((p - 1) / q) + (p - 1)) % p) p by
    rw [hDd, Nat.gcd_comm, show X + p - 1 = X + (p - 1) by omega, hXd.out, Nat.mod_add_mod])
  clear hDd
  by_cases hg : D = 1
  rotate_left
  · have Hs := hid (show Num.stepE (B64 ^ 32) (B64 ^ 64) p q a = 7 from step7 H2.out H5.out (.inr (.inr (.inr (.inr (.inr (.inr (by rw [← hDD.out]; exact hg))))))))
    have h9 := cmp_ne0 hg
    have h9' : (Pl.cmp D 1 != 0) = true := by rw [bne, h9]; rfl
    clear hg
    go_wp2_with fail
    go_ret
    exact ⟨by rw [Hs.out]; rfl, hB22⟩
  have Hs := hid (show Num.stepE (B64 ^ 32) (B64 ^ 64) p q a = 0 from step0 H2.out H5.out (fun h => by
    rcases h with h | h | h | h | h | h | h
    · exact hq1 h
    · exact ha1 h
    · exact hal h
    · exact hqp.out h
    · exact h Hr0.out
    · exact h Hf.out
    · exact h (by rw [← hDD.out]; exact hg)))
  rw [cmp_eq hg]
  clear hg
  go_wp2_with fail
  go_ret
  exact ⟨by rw [Hs.out]; rfl, hB22⟩

end Go.Proofs.Ytphbacggmhjmgaa
