/- The statements on mont, fourth part: the walks of MontWhole and MontLaws. -/
import Derived.Test.YtigdeaeoejpnlaaMontLawC
namespace Go.Proofs.Ytigdeaeoejpnlaa
open Go.RowKit

theorem raw_lt {S : Nat → Prop} {w : World} {n k : Nat} {xs : List Nat} {v : Value} (h : NatS.rep S w xs [v]) (hn : n = Pl.val B64 xs) (hl : xs.length ≤ k) : n < B64 ^ k := by
  rw [hn]; exact Nat.lt_of_lt_of_le (Pl.val_lt (num_dig h)) (Nat.pow_le_pow_right B64_pos hl)
theorem lim_le {n k l : Nat} (h : n < B64 ^ k) (hk : k ≤ l) : n < B64 ^ l := Nat.lt_of_lt_of_le h (Nat.pow_le_pow_right B64_pos hk)
theorem mulE_ok {a b : Nat} (ha : a < B64 ^ 64) (hb : b < B64 ^ 64) : mulE a b = .ok (a * b) := by unfold mulE; rw [if_neg (by omega)]
theorem modMulE_ok {m a b : Nat} (ha : a < B64 ^ 64) (hb : b < B64 ^ 64) : modMulE m a b = .ok (a * b % m) := by unfold modMulE; rw [if_neg (by omega)]
theorem modAddE_ok {m a b : Nat} (ha : a < B64 ^ 64) (hb : b < B64 ^ 64) : modAddE m a b = .ok ((a + b) % m) := by unfold modAddE; rw [if_neg (by omega)]
theorem modSubE_ok {m a b : Nat} (ha : a < B64 ^ 64) (hb : b < B64 ^ 64) : modSubE m a b = .ok ((a % m + m - b % m) % m) := by unfold modSubE; rw [if_neg (by omega)]
theorem modExpE_ok {m a b : Nat} (ha : a < B64 ^ 64) (hb : b < B64 ^ 64) : modExpE m a b = .ok (a ^ b % m) := by unfold modExpE; rw [if_neg (by omega)]
theorem reduceE_ok {m a : Nat} (ha : a < B64 ^ 64) : ReduceE m a = .ok (a % m) := by unfold ReduceE; rw [if_neg (by omega)]
theorem good_lt {m x : Nat} (hg : Good m) : x % m < B64 ^ 64 := by
  have h1 := Nat.mod_lt x (show 0 < m by unfold Good at hg; omega)
  have h2 := B32_64
  have h3 := hg.1
  omega
theorem add_laws {m a b : Nat} (hm : 0 < m) : ((a % m + m - b % m) % m + b) % m = a % m := by
  have h1 := Nat.mod_lt b hm
  have h2 := Nat.mod_lt a hm
  rw [Nat.mod_add_mod, ← Nat.add_mod_mod, show a % m + m - b % m + b % m = a % m + m by omega, Nat.add_mod_right, Nat.mod_mod]

set_option maxHeartbeats 8000000 in
set_option maxRecDepth 100000 in
theorem whole_calls (w : World) {xm xa xb : List Nat} {vm va vb : Value} (hm : NatS.rep (· < w.heap.size) w xm [vm]) (ha : NatS.rep (· < w.heap.size) w xa [va]) (hb : NatS.rep (· < w.heap.size) w xb [vb]) :
    Calls Try.prog 8 #[vm, va, vb] w fun e w' => e = .returned (.bool true) ∧ Below w.heap.size w w' := by
  have ee2 := fun W => code_eql 2 2 W
  have rm := raw_of hm
  obtain ⟨Am, cm, rfl, hcm, _⟩ := sl_open hm
  obtain ⟨m, em⟩ : ∃ m, m = Pl.val B64 xm := ⟨_, rfl⟩
  rw [← em] at rm
  have ra := raw_of ha
  obtain ⟨Aa, ca, rfl, hca, _⟩ := sl_open ha
  obtain ⟨a, ea⟩ : ∃ a, a = Pl.val B64 xa := ⟨_, rfl⟩
  rw [← ea] at ra
  have rb := raw_of hb
  obtain ⟨Ab, cb, rfl, hcb, _⟩ := sl_open hb
  obtain ⟨b, eb⟩ : ∃ b, b = Pl.val B64 xb := ⟨_, rfl⟩
  rw [← eb] at rb
  have bm := hid (fun hlen : xm.length ≤ 40 => raw_lt hm em hlen)
  have ba := hid (fun hlen : xa.length ≤ 32 => raw_lt ha ea hlen)
  have bb := hid (fun hlen : xb.length ≤ 32 => raw_lt hb eb hlen)
  clear hm ha hb em ea eb
  go_enter Try.func8, Try.ntmps8
  go_wp2_with fail
  refine (mup_calls w).mono ?_
  rintro e w1 ⟨rfl, hB1⟩
  by_cases lm : 40 < xm.length
  · go_wp2_with fail
    go_ret
    exact ⟨rfl, hB1⟩
  by_cases la : 32 < xa.length
  · go_wp2_with fail
    go_ret
    exact ⟨rfl, hB1⟩
  by_cases lb : 32 < xb.length
  · go_wp2_with fail
    go_ret
    exact ⟨rfl, hB1⟩
  replace bm := hid (bm.out (by omega))
  replace ba := hid (ba.out (by omega))
  replace bb := hid (bb.out (by omega))
  have sm := rep_up rm hB1
  have sa := rep_up ra hB1
  have sb := rep_up rb hB1
  clear rm ra rb
  rcases good_dec m with hg | hg
  · go_wp2_with fail
    refine (made_ok sm (by omega) hg).mono ?_
    rintro e w2 ⟨⟨v, rfl, hv⟩, hb2⟩
    have hM := ModP.old hv
    clear hv
    have sm_2 := rep_up sm hb2
    have sa_2 := rep_up sa hb2
    have sb_2 := rep_up sb hb2
    clear sm sa sb
    have hB2 := below_trans hB1 hb2
    have hm64 : m < B64 ^ 64 := lim_le hg.1 (by omega)
    have hm0 : 0 < m := by have := hg.2.2; omega
    have a64 : a < B64 ^ 64 := lim_le ba.out (by omega)
    have b64 : b < B64 ^ 64 := lim_le bb.out (by omega)
    have ab64 : a * b < B64 ^ 64 := B32_mul ba.out bb.out
    have E1 := hid (modMulE_ok (m := m) a64 b64)
    have E2 := hid (mulE_ok a64 b64)
    have E3 := hid (modExpE_ok (m := m) a64 (show 2 < B64 ^ 64 from Nat.lt_of_lt_of_le (show 2 < B64 ^ 1 by decide) (Nat.pow_le_pow_right B64_pos (by omega))))
    have E4 := hid (modMulE_ok (m := m) a64 a64)
    have E5 : Hid (a ^ 2 % m = a * a % m) := by show _ = _; rw [Nat.pow_two]
    have lims := hid (And.intro hm64 (And.intro hm0 ab64))
    clear hm64 hm0 a64 b64 ab64
    go_wp2_with fail
    refine (mmul_calls hM sa_2 sb_2).mono ?_
    rintro e w3 ⟨he, hb3⟩
    rw [E1.out] at he
    obtain ⟨pv, rfl, hp0⟩ := he
    rw [errV_zero]
    have hp := NumN.old hp0
    clear hp0
    have sm_3 := rep_up sm_2 hb3
    have sa_3 := rep_up sa_2 hb3
    have sb_3 := rep_up sb_2 hb3
    have hM_3 := rep_up hM hb3
    clear sm_2 sa_2 sb_2 hM
    have hB3 := below_trans hB2 hb3
    go_wp2_with fail
    refine (mul_calls sa_3 sb_3).mono ?_
    rintro e w4 ⟨he, hb4⟩
    rw [E2.out] at he
    obtain ⟨wv, rfl, hw0⟩ := he
    rw [errV_zero]
    have hw := NumN.old hw0
    clear hw0
    have sm_4 := rep_up sm_3 hb4
    have sa_4 := rep_up sa_3 hb4
    have sb_4 := rep_up sb_3 hb4
    have hM_4 := rep_up hM_3 hb4
    have hp_4 := rep_up hp hb4
    clear sm_3 sa_3 sb_3 hM_3 hp
    have hB4 := below_trans hB3 hb4
    go_wp2_with fail
    refine (div_ok (num_raw hw) sm_4 lims.out.2.2 lims.out.1 lims.out.2.1).mono ?_
    rintro e w5 ⟨⟨qv, rv, rfl, _, hr0⟩, hb5⟩
    have hr := NumN.old hr0
    clear hr0
    have sm_5 := rep_up sm_4 hb5
    have sa_5 := rep_up sa_4 hb5
    have sb_5 := rep_up sb_4 hb5
    have hM_5 := rep_up hM_4 hb5
    have hp_5 := rep_up hp_4 hb5
    have hw_5 := rep_up hw hb5
    clear sm_4 sa_4 sb_4 hM_4 hp_4 hw
    have hB5 := below_trans hB4 hb5
    go_wp2_with fail
    refine (same_num hp_5 hr).mono ?_
    rintro e w6 ⟨rfl, hst6⟩
    have hb6 := hst6.below
    have sm_6 := rep_up sm_5 hb6
    have sa_6 := rep_up sa_5 hb6
    have sb_6 := rep_up sb_5 hb6
    have hM_6 := rep_up hM_5 hb6
    have hp_6 := rep_up hp_5 hb6
    have hw_6 := rep_up hw_5 hb6
    have hr_6 := rep_up hr hb6
    clear sm_5 sa_5 sb_5 hM_5 hp_5 hw_5 hr
    have hB6 := below_trans hB5 hb6
    have hba := below_alloc (Below.refl w6.heap.size w6) (.cells #[.int .u64 2] 27)
    have l2 := lit_num w6 2 (by omega) (by decide) _ rfl
    have sm_7 := rep_up sm_6 hba
    have sa_7 := rep_up sa_6 hba
    have sb_7 := rep_up sb_6 hba
    have hM_7 := rep_up hM_6 hba
    have hp_7 := rep_up hp_6 hba
    have hw_7 := rep_up hw_6 hba
    have hr_7 := rep_up hr_6 hba
    clear sm_6 sa_6 sb_6 hM_6 hp_6 hw_6 hr_6
    have hB7 := below_trans hB6 hba
    go_wp2_with fail
    refine (mexp_calls hM_7 sa_7 (num_raw l2)).mono ?_
    rintro e w8 ⟨he, hb8⟩
    rw [E3.out] at he
    obtain ⟨xv, rfl, hx0⟩ := he
    rw [errV_zero]
    have hx := NumN.old hx0
    clear hx0
    have sm_8 := rep_up sm_7 hb8
    have sa_8 := rep_up sa_7 hb8
    have sb_8 := rep_up sb_7 hb8
    have hM_8 := rep_up hM_7 hb8
    have hp_8 := rep_up hp_7 hb8
    have hw_8 := rep_up hw_7 hb8
    have hr_8 := rep_up hr_7 hb8
    have l2_8 := rep_up l2 hb8
    clear sm_7 sa_7 sb_7 hM_7 hp_7 hw_7 hr_7 l2
    have hB8 := below_trans hB7 hb8
    go_wp2_with fail
    refine (mmul_calls hM_8 sa_8 sa_8).mono ?_
    rintro e w9 ⟨he, hb9⟩
    rw [E4.out] at he
    obtain ⟨yv, rfl, hy0⟩ := he
    rw [errV_zero]
    have hy := NumN.old hy0
    clear hy0
    have sm_9 := rep_up sm_8 hb9
    have sa_9 := rep_up sa_8 hb9
    have sb_9 := rep_up sb_8 hb9
    have hM_9 := rep_up hM_8 hb9
    have hp_9 := rep_up hp_8 hb9
    have hw_9 := rep_up hw_8 hb9
    have hr_9 := rep_up hr_8 hb9
    have l2_9 := rep_up l2_8 hb9
    have hx_9 := rep_up hx hb9
    clear sm_8 sa_8 sb_8 hM_8 hp_8 hw_8 hr_8 l2_8 hx
    have hB9 := below_trans hB8 hb9
    rw [E5.out] at hx_9
    go_wp2_with fail
    refine (same_num hx_9 hy).mono ?_
    rintro e w10 ⟨rfl, hst10⟩
    have hb10 := hst10.below
    have sm_10 := rep_up sm_9 hb10
    have sa_10 := rep_up sa_9 hb10
    have sb_10 := rep_up sb_9 hb10
    have hM_10 := rep_up hM_9 hb10
    have hp_10 := rep_up hp_9 hb10
    have hw_10 := rep_up hw_9 hb10
    have hr_10 := rep_up hr_9 hb10
    have l2_10 := rep_up l2_9 hb10
    have hx_10 := rep_up hx_9 hb10
    have hy_10 := rep_up hy hb10
    clear sm_9 sa_9 sb_9 hM_9 hp_9 hw_9 hr_9 l2_9 hx_9 hy
    have hB10 := below_trans hB9 hb10
    go_wp2_with fail
    go_ret
    exact ⟨rfl, hB10⟩
  · go_wp2_with fail
    refine (made_bad sm (by omega) hg).mono ?_
    rintro e w2 ⟨rfl, hb2⟩
    go_wp2_with fail
    go_ret
    exact ⟨rfl, below_trans hB1 hb2⟩

set_option maxHeartbeats 8000000 in
set_option maxRecDepth 100000 in
theorem laws_calls (w : World) {xm xa xb xk xl : List Nat} {vm va vb vk vl : Value} (hm : NatS.rep (· < w.heap.size) w xm [vm]) (ha : NatS.rep (· < w.heap.size) w xa [va]) (hb : NatS.rep (· < w.heap.size) w xb [vb]) (hk : NatS.rep (· < w.heap.size) w xk [vk]) (hl : NatS.rep (· < w.heap.size) w xl [vl]) :
    Calls Try.prog 9 #[vm, va, vb, vk, vl] w fun e w' => e = .returned (.bool true) ∧ Below w.heap.size w w' := by
  have ee2 := fun W => code_eql 2 2 W
  have rm := raw_of hm
  obtain ⟨Am, cm, rfl, hcm, _⟩ := sl_open hm
  obtain ⟨m, em⟩ : ∃ m, m = Pl.val B64 xm := ⟨_, rfl⟩
  rw [← em] at rm
  have ra := raw_of ha
  obtain ⟨Aa, ca, rfl, hca, _⟩ := sl_open ha
  obtain ⟨a, ea⟩ : ∃ a, a = Pl.val B64 xa := ⟨_, rfl⟩
  rw [← ea] at ra
  have rb := raw_of hb
  obtain ⟨Ab, cb, rfl, hcb, _⟩ := sl_open hb
  obtain ⟨b, eb⟩ : ∃ b, b = Pl.val B64 xb := ⟨_, rfl⟩
  rw [← eb] at rb
  have rk := raw_of hk
  obtain ⟨Ak, ck, rfl, hck, _⟩ := sl_open hk
  obtain ⟨k, ek⟩ : ∃ k, k = Pl.val B64 xk := ⟨_, rfl⟩
  rw [← ek] at rk
  have rl := raw_of hl
  obtain ⟨Al, cl, rfl, hcl, _⟩ := sl_open hl
  obtain ⟨l, el⟩ : ∃ l, l = Pl.val B64 xl := ⟨_, rfl⟩
  rw [← el] at rl
  have bm := hid (fun hlen : xm.length ≤ 40 => raw_lt hm em hlen)
  have ba := hid (fun hlen : xa.length ≤ 60 => raw_lt ha ea hlen)
  have bb := hid (fun hlen : xb.length ≤ 60 => raw_lt hb eb hlen)
  have bk := hid (fun hlen : xk.length ≤ 8 => raw_lt hk ek hlen)
  have bl := hid (fun hlen : xl.length ≤ 8 => raw_lt hl el hlen)
  clear hm ha hb hk hl em ea eb ek el
  go_enter Try.func9, Try.ntmps9
  go_wp2_with fail
  refine (mup_calls w).mono ?_
  rintro e w1 ⟨rfl, hB1⟩
  by_cases lm : 40 < xm.length
  · go_wp2_with fail
    go_ret
    exact ⟨rfl, hB1⟩
  by_cases la : 60 < xa.length
  · go_wp2_with fail
    go_ret
    exact ⟨rfl, hB1⟩
  by_cases lb : 60 < xb.length
  · go_wp2_with fail
    go_ret
    exact ⟨rfl, hB1⟩
  by_cases lk : 8 < xk.length
  · go_wp2_with fail
    go_ret
    exact ⟨rfl, hB1⟩
  by_cases ll : 8 < xl.length
  · go_wp2_with fail
    go_ret
    exact ⟨rfl, hB1⟩
  replace bm := hid (bm.out (by omega))
  replace ba := hid (ba.out (by omega))
  replace bb := hid (bb.out (by omega))
  replace bk := hid (bk.out (by omega))
  replace bl := hid (bl.out (by omega))
  have sm := rep_up rm hB1
  have sa := rep_up ra hB1
  have sb := rep_up rb hB1
  have sk := rep_up rk hB1
  have sl := rep_up rl hB1
  clear rm ra rb rk rl
  rcases good_dec m with hg | hg
  · go_wp2_with fail
    refine (made_ok sm (by omega) hg).mono ?_
    rintro e w2 ⟨⟨v, rfl, hv⟩, hb2⟩
    have hM := ModP.old hv
    clear hv
    have sm_2 := rep_up sm hb2
    have sa_2 := rep_up sa hb2
    have sb_2 := rep_up sb hb2
    have sk_2 := rep_up sk hb2
    have sl_2 := rep_up sl hb2
    clear sm sa sb sk sl
    have hB2 := below_trans hB1 hb2
    have hm0 : 0 < m := by have := hg.2.2; omega
    have a64 : a < B64 ^ 64 := lim_le ba.out (by omega)
    have b64 : b < B64 ^ 64 := lim_le bb.out (by omega)
    have k64 : k < B64 ^ 64 := lim_le bk.out (by omega)
    have l64 : l < B64 ^ 64 := lim_le bl.out (by omega)
    have kl9 : k + l < B64 ^ 9 := by
      have h1 := bk.out
      have h2 := bl.out
      have e : B64 ^ 9 = B64 * B64 ^ 8 := by rw [Nat.mul_comm, ← Nat.pow_succ]
      have h3 : 2 * B64 ^ 8 ≤ B64 * B64 ^ 8 := Nat.mul_le_mul_right _ (by decide)
      omega
    have kl64 : k + l < B64 ^ 64 := lim_le kl9 (by omega)
    have smk := small_limbs bk.out (by omega)
    have sml := small_limbs bl.out (by omega)
    have smkl := small_limbs kl9 (by omega)
    have E1 := hid (modExpE_ok (m := m) a64 k64)
    have E2 := hid (modExpE_ok (m := m) a64 l64)
    have E3 := hid (modExpE_ok (m := m) a64 kl64)
    have E4 := hid (modMulE_ok (m := m) (good_lt (x := a ^ k) hg) (good_lt (x := a ^ l) hg))
    have E5 := hid (modExpE_ok (m := m) b64 k64)
    have E6 := hid (modMulE_ok (m := m) a64 b64)
    have E7 := hid (modExpE_ok (m := m) (good_lt (x := a * b) hg) k64)
    have E8 := hid (modMulE_ok (m := m) (good_lt (x := a ^ k) hg) (good_lt (x := b ^ k) hg))
    have E9 := hid (modSubE_ok (m := m) a64 b64)
    have E10 := hid (modAddE_ok (m := m) (good_lt (x := a % m + m - b % m) hg) b64)
    have E11 := hid (reduceE_ok (m := m) a64)
    have F1 : Hid (a ^ (k + l) % m = a ^ k % m * (a ^ l % m) % m) := by show _ = _; rw [← Nat.mul_mod, Nat.pow_add]
    have F2 : Hid ((a * b % m) ^ k % m = a ^ k % m * (b ^ k % m) % m) := by show _ = _; rw [← Nat.mul_mod, ← Nat.pow_mod, Nat.mul_pow]
    have F3 := hid (add_laws (a := a) (b := b) hm0)
    clear hm0 a64 b64 k64 l64 kl9 kl64
    go_wp2_with fail
    refine (mexp_calls hM sa_2 sk_2).mono ?_
    rintro e w3 ⟨he, hb3⟩
    rw [E1.out] at he
    obtain ⟨xv, rfl, hx0⟩ := he
    rw [errV_zero]
    have hx := NumN.old hx0
    clear hx0
    have sm_3 := rep_up sm_2 hb3
    have sa_3 := rep_up sa_2 hb3
    have sb_3 := rep_up sb_2 hb3
    have sk_3 := rep_up sk_2 hb3
    have sl_3 := rep_up sl_2 hb3
    have hM_3 := rep_up hM hb3
    clear sm_2 sa_2 sb_2 sk_2 sl_2 hM
    have hB3 := below_trans hB2 hb3
    go_wp2_with fail
    refine (mexp_calls hM_3 sa_3 sl_3).mono ?_
    rintro e w4 ⟨he, hb4⟩
    rw [E2.out] at he
    obtain ⟨yv, rfl, hy0⟩ := he
    rw [errV_zero]
    have hy := NumN.old hy0
    clear hy0
    have sm_4 := rep_up sm_3 hb4
    have sa_4 := rep_up sa_3 hb4
    have sb_4 := rep_up sb_3 hb4
    have sk_4 := rep_up sk_3 hb4
    have sl_4 := rep_up sl_3 hb4
    have hM_4 := rep_up hM_3 hb4
    have hx_4 := rep_up hx hb4
    clear sm_3 sa_3 sb_3 sk_3 sl_3 hM_3 hx
    have hB4 := below_trans hB3 hb4
    go_wp2_with fail
    refine (of_raw sk_4 (by omega)).mono ?_
    rintro e w5 ⟨⟨kv, rfl, hk0⟩, hb5⟩
    have hkr := RefN.old hk0
    clear hk0
    have sm_5 := rep_up sm_4 hb5
    have sa_5 := rep_up sa_4 hb5
    have sb_5 := rep_up sb_4 hb5
    have sk_5 := rep_up sk_4 hb5
    have sl_5 := rep_up sl_4 hb5
    have hM_5 := rep_up hM_4 hb5
    have hx_5 := rep_up hx_4 hb5
    have hy_5 := rep_up hy hb5
    clear sm_4 sa_4 sb_4 sk_4 sl_4 hM_4 hx_4 hy
    have hB5 := below_trans hB4 hb5
    go_wp2_with fail
    refine (of_raw sl_5 (by omega)).mono ?_
    rintro e w6 ⟨⟨lv, rfl, hl0⟩, hb6⟩
    have hlr := RefN.old hl0
    clear hl0
    have sm_6 := rep_up sm_5 hb6
    have sa_6 := rep_up sa_5 hb6
    have sb_6 := rep_up sb_5 hb6
    have sk_6 := rep_up sk_5 hb6
    have sl_6 := rep_up sl_5 hb6
    have hM_6 := rep_up hM_5 hb6
    have hx_6 := rep_up hx_5 hb6
    have hy_6 := rep_up hy_5 hb6
    have hkr_6 := rep_up hkr hb6
    clear sm_5 sa_5 sb_5 sk_5 sl_5 hM_5 hx_5 hy_5 hkr
    have hB6 := below_trans hB5 hb6
    go_wp2_with fail
    refine (radd_calls hkr_6 hlr smk sml).mono ?_
    rintro e w7 ⟨⟨klv, rfl, hkl0⟩, hb7⟩
    have hklr := RefN.old hkl0
    clear hkl0
    have sm_7 := rep_up sm_6 hb7
    have sa_7 := rep_up sa_6 hb7
    have sb_7 := rep_up sb_6 hb7
    have sk_7 := rep_up sk_6 hb7
    have sl_7 := rep_up sl_6 hb7
    have hM_7 := rep_up hM_6 hb7
    have hx_7 := rep_up hx_6 hb7
    have hy_7 := rep_up hy_6 hb7
    have hkr_7 := rep_up hkr_6 hb7
    have hlr_7 := rep_up hlr hb7
    clear sm_6 sa_6 sb_6 sk_6 sl_6 hM_6 hx_6 hy_6 hkr_6 hlr
    have hB7 := below_trans hB6 hb7
    go_wp2_with fail
    refine (to_calls hklr smkl).mono ?_
    rintro e w8 ⟨⟨bv, rfl, hbo0⟩, hb8⟩
    have hbo := NumN.old hbo0
    clear hbo0
    have sm_8 := rep_up sm_7 hb8
    have sa_8 := rep_up sa_7 hb8
    have sb_8 := rep_up sb_7 hb8
    have sk_8 := rep_up sk_7 hb8
    have sl_8 := rep_up sl_7 hb8
    have hM_8 := rep_up hM_7 hb8
    have hx_8 := rep_up hx_7 hb8
    have hy_8 := rep_up hy_7 hb8
    have hkr_8 := rep_up hkr_7 hb8
    have hlr_8 := rep_up hlr_7 hb8
    have hklr_8 := rep_up hklr hb8
    clear sm_7 sa_7 sb_7 sk_7 sl_7 hM_7 hx_7 hy_7 hkr_7 hlr_7 hklr
    have hB8 := below_trans hB7 hb8
    clear hkr_8
    clear hlr_8
    clear hklr_8
    clear sl_8
    go_wp2_with fail
    refine (mexp_calls hM_8 sa_8 (num_raw hbo)).mono ?_
    rintro e w9 ⟨he, hb9⟩
    rw [E3.out] at he
    obtain ⟨zv, rfl, hz0⟩ := he
    rw [errV_zero]
    have hz := NumN.old hz0
    clear hz0
    have sm_9 := rep_up sm_8 hb9
    have sa_9 := rep_up sa_8 hb9
    have sb_9 := rep_up sb_8 hb9
    have sk_9 := rep_up sk_8 hb9
    have hM_9 := rep_up hM_8 hb9
    have hx_9 := rep_up hx_8 hb9
    have hy_9 := rep_up hy_8 hb9
    have hbo_9 := rep_up hbo hb9
    clear sm_8 sa_8 sb_8 sk_8 hM_8 hx_8 hy_8 hbo
    have hB9 := below_trans hB8 hb9
    clear hbo_9
    go_wp2_with fail
    refine (mmul_calls hM_9 (num_raw hx_9) (num_raw hy_9)).mono ?_
    rintro e w10 ⟨he, hb10⟩
    rw [E4.out] at he
    obtain ⟨pv, rfl, hp0⟩ := he
    rw [errV_zero]
    have hp := NumN.old hp0
    clear hp0
    have sm_10 := rep_up sm_9 hb10
    have sa_10 := rep_up sa_9 hb10
    have sb_10 := rep_up sb_9 hb10
    have sk_10 := rep_up sk_9 hb10
    have hM_10 := rep_up hM_9 hb10
    have hx_10 := rep_up hx_9 hb10
    have hy_10 := rep_up hy_9 hb10
    have hz_10 := rep_up hz hb10
    clear sm_9 sa_9 sb_9 sk_9 hM_9 hx_9 hy_9 hz
    have hB10 := below_trans hB9 hb10
    go_wp2_with fail
    refine (mexp_calls hM_10 sb_10 sk_10).mono ?_
    rintro e w11 ⟨he, hb11⟩
    rw [E5.out] at he
    obtain ⟨uv, rfl, hu0⟩ := he
    rw [errV_zero]
    have hu := NumN.old hu0
    clear hu0
    have sm_11 := rep_up sm_10 hb11
    have sa_11 := rep_up sa_10 hb11
    have sb_11 := rep_up sb_10 hb11
    have sk_11 := rep_up sk_10 hb11
    have hM_11 := rep_up hM_10 hb11
    have hx_11 := rep_up hx_10 hb11
    have hy_11 := rep_up hy_10 hb11
    have hz_11 := rep_up hz_10 hb11
    have hp_11 := rep_up hp hb11
    clear sm_10 sa_10 sb_10 sk_10 hM_10 hx_10 hy_10 hz_10 hp
    have hB11 := below_trans hB10 hb11
    go_wp2_with fail
    refine (mmul_calls hM_11 sa_11 sb_11).mono ?_
    rintro e w12 ⟨he, hb12⟩
    rw [E6.out] at he
    obtain ⟨abv, rfl, hab0⟩ := he
    rw [errV_zero]
    have hab := NumN.old hab0
    clear hab0
    have sm_12 := rep_up sm_11 hb12
    have sa_12 := rep_up sa_11 hb12
    have sb_12 := rep_up sb_11 hb12
    have sk_12 := rep_up sk_11 hb12
    have hM_12 := rep_up hM_11 hb12
    have hx_12 := rep_up hx_11 hb12
    have hy_12 := rep_up hy_11 hb12
    have hz_12 := rep_up hz_11 hb12
    have hp_12 := rep_up hp_11 hb12
    have hu_12 := rep_up hu hb12
    clear sm_11 sa_11 sb_11 sk_11 hM_11 hx_11 hy_11 hz_11 hp_11 hu
    have hB12 := below_trans hB11 hb12
    go_wp2_with fail
    refine (mexp_calls hM_12 (num_raw hab) sk_12).mono ?_
    rintro e w13 ⟨he, hb13⟩
    rw [E7.out] at he
    obtain ⟨vv, rfl, hvv0⟩ := he
    rw [errV_zero]
    have hvv := NumN.old hvv0
    clear hvv0
    have sm_13 := rep_up sm_12 hb13
    have sa_13 := rep_up sa_12 hb13
    have sb_13 := rep_up sb_12 hb13
    have sk_13 := rep_up sk_12 hb13
    have hM_13 := rep_up hM_12 hb13
    have hx_13 := rep_up hx_12 hb13
    have hy_13 := rep_up hy_12 hb13
    have hz_13 := rep_up hz_12 hb13
    have hp_13 := rep_up hp_12 hb13
    have hu_13 := rep_up hu_12 hb13
    have hab_13 := rep_up hab hb13
    clear sm_12 sa_12 sb_12 sk_12 hM_12 hx_12 hy_12 hz_12 hp_12 hu_12 hab
    have hB13 := below_trans hB12 hb13
    go_wp2_with fail
    refine (mmul_calls hM_13 (num_raw hx_13) (num_raw hu_13)).mono ?_
    rintro e w14 ⟨he, hb14⟩
    rw [E8.out] at he
    obtain ⟨wv, rfl, hww0⟩ := he
    rw [errV_zero]
    have hww := NumN.old hww0
    clear hww0
    have sm_14 := rep_up sm_13 hb14
    have sa_14 := rep_up sa_13 hb14
    have sb_14 := rep_up sb_13 hb14
    have sk_14 := rep_up sk_13 hb14
    have hM_14 := rep_up hM_13 hb14
    have hx_14 := rep_up hx_13 hb14
    have hy_14 := rep_up hy_13 hb14
    have hz_14 := rep_up hz_13 hb14
    have hp_14 := rep_up hp_13 hb14
    have hu_14 := rep_up hu_13 hb14
    have hab_14 := rep_up hab_13 hb14
    have hvv_14 := rep_up hvv hb14
    clear sm_13 sa_13 sb_13 sk_13 hM_13 hx_13 hy_13 hz_13 hp_13 hu_13 hab_13 hvv
    have hB14 := below_trans hB13 hb14
    clear hx_14
    clear hy_14
    clear hu_14
    clear hab_14
    clear sk_14
    go_wp2_with fail
    refine (msub_calls hM_14 sa_14 sb_14).mono ?_
    rintro e w15 ⟨he, hb15⟩
    rw [E9.out] at he
    obtain ⟨dv, rfl, hd0⟩ := he
    rw [errV_zero]
    have hd := NumN.old hd0
    clear hd0
    have sm_15 := rep_up sm_14 hb15
    have sa_15 := rep_up sa_14 hb15
    have sb_15 := rep_up sb_14 hb15
    have hM_15 := rep_up hM_14 hb15
    have hz_15 := rep_up hz_14 hb15
    have hp_15 := rep_up hp_14 hb15
    have hvv_15 := rep_up hvv_14 hb15
    have hww_15 := rep_up hww hb15
    clear sm_14 sa_14 sb_14 hM_14 hz_14 hp_14 hvv_14 hww
    have hB15 := below_trans hB14 hb15
    go_wp2_with fail
    refine (madd_calls hM_15 (num_raw hd) sb_15).mono ?_
    rintro e w16 ⟨he, hb16⟩
    rw [E10.out] at he
    obtain ⟨sv, rfl, hs0⟩ := he
    rw [errV_zero]
    have hs := NumN.old hs0
    clear hs0
    have sm_16 := rep_up sm_15 hb16
    have sa_16 := rep_up sa_15 hb16
    have sb_16 := rep_up sb_15 hb16
    have hM_16 := rep_up hM_15 hb16
    have hz_16 := rep_up hz_15 hb16
    have hp_16 := rep_up hp_15 hb16
    have hvv_16 := rep_up hvv_15 hb16
    have hww_16 := rep_up hww_15 hb16
    have hd_16 := rep_up hd hb16
    clear sm_15 sa_15 sb_15 hM_15 hz_15 hp_15 hvv_15 hww_15 hd
    have hB16 := below_trans hB15 hb16
    go_wp2_with fail
    refine (reduce_calls hM_16 sa_16).mono ?_
    rintro e w17 ⟨he, hb17⟩
    rw [E11.out] at he
    obtain ⟨rv, rfl, hr0⟩ := he
    rw [errV_zero]
    have hr := NumN.old hr0
    clear hr0
    have sm_17 := rep_up sm_16 hb17
    have sa_17 := rep_up sa_16 hb17
    have sb_17 := rep_up sb_16 hb17
    have hM_17 := rep_up hM_16 hb17
    have hz_17 := rep_up hz_16 hb17
    have hp_17 := rep_up hp_16 hb17
    have hvv_17 := rep_up hvv_16 hb17
    have hww_17 := rep_up hww_16 hb17
    have hd_17 := rep_up hd_16 hb17
    have hs_17 := rep_up hs hb17
    clear sm_16 sa_16 sb_16 hM_16 hz_16 hp_16 hvv_16 hww_16 hd_16 hs
    have hB17 := below_trans hB16 hb17
    rw [F1.out] at hz_17
    rw [F2.out] at hvv_17
    rw [F3.out] at hs_17
    go_wp2_with fail
    refine (same_num hz_17 hp_17).mono ?_
    rintro e w18 ⟨rfl, hst18⟩
    have hb18 := hst18.below
    have sm_18 := rep_up sm_17 hb18
    have sa_18 := rep_up sa_17 hb18
    have sb_18 := rep_up sb_17 hb18
    have hM_18 := rep_up hM_17 hb18
    have hz_18 := rep_up hz_17 hb18
    have hp_18 := rep_up hp_17 hb18
    have hvv_18 := rep_up hvv_17 hb18
    have hww_18 := rep_up hww_17 hb18
    have hd_18 := rep_up hd_17 hb18
    have hs_18 := rep_up hs_17 hb18
    have hr_18 := rep_up hr hb18
    clear sm_17 sa_17 sb_17 hM_17 hz_17 hp_17 hvv_17 hww_17 hd_17 hs_17 hr
    have hB18 := below_trans hB17 hb18
    go_wp2_with fail
    refine (same_num hvv_18 hww_18).mono ?_
    rintro e w19 ⟨rfl, hst19⟩
    have hb19 := hst19.below
    have sm_19 := rep_up sm_18 hb19
    have sa_19 := rep_up sa_18 hb19
    have sb_19 := rep_up sb_18 hb19
    have hM_19 := rep_up hM_18 hb19
    have hz_19 := rep_up hz_18 hb19
    have hp_19 := rep_up hp_18 hb19
    have hvv_19 := rep_up hvv_18 hb19
    have hww_19 := rep_up hww_18 hb19
    have hd_19 := rep_up hd_18 hb19
    have hs_19 := rep_up hs_18 hb19
    have hr_19 := rep_up hr_18 hb19
    clear sm_18 sa_18 sb_18 hM_18 hz_18 hp_18 hvv_18 hww_18 hd_18 hs_18 hr_18
    have hB19 := below_trans hB18 hb19
    go_wp2_with fail
    refine (same_num hs_19 hr_19).mono ?_
    rintro e w20 ⟨rfl, hst20⟩
    have hb20 := hst20.below
    have sm_20 := rep_up sm_19 hb20
    have sa_20 := rep_up sa_19 hb20
    have sb_20 := rep_up sb_19 hb20
    have hM_20 := rep_up hM_19 hb20
    have hz_20 := rep_up hz_19 hb20
    have hp_20 := rep_up hp_19 hb20
    have hvv_20 := rep_up hvv_19 hb20
    have hww_20 := rep_up hww_19 hb20
    have hd_20 := rep_up hd_19 hb20
    have hs_20 := rep_up hs_19 hb20
    have hr_20 := rep_up hr_19 hb20
    clear sm_19 sa_19 sb_19 hM_19 hz_19 hp_19 hvv_19 hww_19 hd_19 hs_19 hr_19
    have hB20 := below_trans hB19 hb20
    go_wp2_with fail
    go_ret
    exact ⟨rfl, hB20⟩
  · go_wp2_with fail
    refine (made_bad sm (by omega) hg).mono ?_
    rintro e w2 ⟨rfl, hb2⟩
    go_wp2_with fail
    go_ret
    exact ⟨rfl, below_trans hB1 hb2⟩

end Go.Proofs.Ytigdeaeoejpnlaa
