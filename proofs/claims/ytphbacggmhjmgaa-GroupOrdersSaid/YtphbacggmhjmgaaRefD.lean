/- The references' numbers, fourth part: bits; quotients, rests, powers, greatest common divisors. -/
import Derived.Test.YtphbacggmhjmgaaRefC
import Derived.Deep.LoopGhost
namespace Go.Proofs.Ytphbacggmhjmgaa
open Go.RowKit

theorem bitLen_step {p k : Nat} (_h : 0 < p / 2 ^ k) : p / 2 ^ (k + 1) = p / 2 ^ k / 2 := by rw [Nat.pow_succ, Nat.div_div_eq_div_mul]

/-- a number's bits out of its highest digit's -/
theorem bitLen_top16 {p : List Nat} {l : Nat} (hp : 0 < p.length) (hd : Pl.Dig 65536 p) (h1 : p[p.length - 1] < 2 ^ l) (h2 : 2 ^ l ≤ 2 * p[p.length - 1]) : 16 * (p.length - 1) + l = bitLen (Pl.val 65536 p) := by
  have e1 := Pl.val_take_succ 65536 p (p.length - 1) (by omega)
  rw [show p.length - 1 + 1 = p.length by omega, List.take_length] at e1
  have e2 := Pl.val_lt (hd.take (p.length - 1))
  rw [List.length_take, Nat.min_eq_left (by omega)] at e2
  have e : 65536 ^ (p.length - 1) = 2 ^ (16 * (p.length - 1)) := by rw [Nat.pow_mul]
  have hpos : 0 < p[p.length - 1] := by
    rcases Nat.eq_zero_or_pos p[p.length - 1] with h | h
    · have := Nat.two_pow_pos l; omega
    · exact h
  apply bitLen_unique
  · rw [Nat.pow_add, ← e]
    have : 65536 ^ (p.length - 1) * (p[p.length - 1] + 1) ≤ 65536 ^ (p.length - 1) * 2 ^ l := Nat.mul_le_mul_left _ h1
    rw [Nat.mul_add] at this; omega
  · intro _
    rw [Nat.pow_add, ← e]
    have : 65536 ^ (p.length - 1) * 2 ^ l ≤ 65536 ^ (p.length - 1) * (2 * p[p.length - 1]) := Nat.mul_le_mul_left _ h2
    rw [Nat.mul_left_comm] at this; omega
  · intro h0
    have : 65536 ^ (p.length - 1) * 1 ≤ 65536 ^ (p.length - 1) * p[p.length - 1] := Nat.mul_le_mul_left _ hpos
    have := Nat.pow_pos (n := p.length - 1) (show 0 < 65536 by omega)
    omega

set_option maxHeartbeats 1000000 in
theorem rbits_calls {w : World} {S : Nat → Prop} {n : Nat} {v : Value} (ha : RefN.rep S w n [v]) (hn : Small n) :
    Calls Try.prog 71 #[v] w fun e w' => e = .returned (.int .i64 (bitLen n : Int)) ∧ w = w' := by
  obtain ⟨p, hu, hc, ea⟩ := ha
  have hd := num_dig hu
  have hl := ref_len hd hc ea hn
  obtain ⟨A, c1, rfl, hc1, hm1⟩ := sl_open hu
  have Ea := hid ea
  clear ea hn
  go_enter Try.func71, Try.ntmps71
  rcases Nat.eq_zero_or_pos p.length with h0 | h0
  · obtain rfl := List.eq_nil_of_length_eq_zero h0
    have e0 := Ea.out
    simp only [List.length_nil]
    go_wp2
    go_ret
    exact ⟨by rw [← e0]; rfl, rfl⟩
  · obtain ⟨b, o, rfl, _, hcell, hbd⟩ := num_at hu (p.length - 1) (by omega)
    have hlast := hc.last h0
    have ht := @bitLen_top16 p
    have e0 : ((p.length : Int) == 0) = false := by rw [beq_eq_false_iff_ne]; omega
    have i1 : IntKind.i64.wrap ((p.length : Int) - 1) = ((p.length - 1 : Nat) : Int) := by
      rw [show (p.length : Int) - 1 = ((p.length - 1 : Nat) : Int) by omega]; exact IntWalk.i64_in _ (by omega)
    obtain ⟨T, hT⟩ : ∃ T, T = p[p.length - 1] := ⟨_, rfl⟩
    have Ht : Hid (∀ l, T < 2 ^ l → 2 ^ l ≤ 2 * T → 16 * (p.length - 1) + l = bitLen n) := by
      intro l
      rw [hT, ← Ea.out]; exact bitLen_top16 h0 hd
    rw [← hT] at hcell hbd hlast
    clear ht hT
    go_wp2
    go_loop [3, 4] (fun cv xv => ∃ k x c : Nat, xv = .int .i64 (x : Int) ∧ cv = .int .i64 (c : Int) ∧ c ≤ 1600016 ∧ Hid (c = 16 * (p.length - 1) + k) ∧ Hid (x = T / 2 ^ k) ∧ x < 65536 ∧ Hid (k ≤ 16) ∧ Hid (0 < k → 0 < T / 2 ^ (k - 1))) (fun _ xv => (intOf xv).toNat)
    case atStart => exact ⟨0, T, 16 * (p.length - 1), rfl, by congr 1, by omega, hid rfl, hid (by simp), hbd, hid (by omega), hid (by omega)⟩
    case round =>
      obtain ⟨k, x, c, rfl, rfl, hcb, hce, hx, hxb, hk, hkp⟩ := hrel
      have hk' := hk.out
      by_cases h1 : 0 < x
      · obtain ⟨y, hy⟩ : ∃ y, y = x / 2 := ⟨_, rfl⟩
        have q1 : (x : Int) / 2 = (y : Int) := by omega
        have hy2 : Hid (y = T / 2 ^ (k + 1)) := by
          show _ = _
          rw [hy, hx.out, Nat.pow_succ, Nat.div_div_eq_div_mul]
        have hk2 : Hid (k + 1 ≤ 16) := by
          show _ ≤ _
          rcases Nat.lt_or_ge k 16 with h | h
          · exact h
          · have : k = 16 := by omega
            subst this
            have := hx.out
            rw [Nat.div_eq_of_lt (by omega)] at this
            omega
        have hkp2 : Hid (0 < k + 1 → 0 < T / 2 ^ (k + 1 - 1)) := by
          intro _
          rw [Nat.add_sub_cancel, ← hx.out]; exact h1
        have hlt : y < x := by omega
        have hyb : y < 65536 := by omega
        have hce2 : Hid (c + 1 = 16 * (p.length - 1) + (k + 1)) := by have := hce.out; show _ = _; omega
        have hcb2 : c + 1 ≤ 1600016 := by have := hce2.out; have := hk2.out; omega
        clear hy hx hk hkp hk' hce
        go_wp2
        go_round
        case rel => exact ⟨k + 1, y, c + 1, rfl, by go_num, hcb2, hce2, hy2, hyb, hk2, hkp2⟩
        case measure => simp [intOf]; omega
      · obtain rfl : x = 0 := by omega
        have hfin : Hid (c = bitLen n) := by
          show _ = _
          rw [hce.out]
          refine Ht.out k ?_ ?_
          · have h2 := hx.out
            exact (Nat.div_eq_zero_iff_lt (Nat.two_pow_pos k)).1 h2.symm
          · rcases Nat.eq_zero_or_pos k with h | h
            · subst h; simp; omega
            · have h3 := hkp.out h
              have h4 : 2 ^ k = 2 * 2 ^ (k - 1) := by rw [← Nat.pow_succ']; congr 1; omega
              have h5 := (Nat.div_pos_iff).1 h3
              omega
        clear hx hk hkp hk' hce
        go_wp2
        go_ret
        exact ⟨ret_int (by rw [hfin.out]), rfl⟩

theorem val_bit16 {xs : List Nat} (hd : Pl.Dig 65536 xs) (i : Nat) : (Pl.val 65536 xs).testBit i = ((xs.getD (i / 16) 0) / 2 ^ (i % 16) % 2 == 1) := by
  have e : Pl.val 65536 xs / 2 ^ i % 2 = xs.getD (i / 16) 0 / 2 ^ (i % 16) % 2 := by
    have h1 : 2 ^ i = 65536 ^ (i / 16) * 2 ^ (i % 16) := by
      rw [show 65536 = 2 ^ 16 from rfl, ← Nat.pow_mul, ← Nat.pow_add]; congr 1; omega
    rw [h1, ← Nat.div_div_eq_div_mul]
    have h2 : Pl.val 65536 xs / 65536 ^ (i / 16) = Pl.val 65536 (xs.drop (i / 16)) := by
      rcases Nat.lt_or_ge xs.length (i / 16) with h | h
      · rw [List.drop_of_length_le (by omega), Nat.div_eq_of_lt (Nat.lt_of_lt_of_le (Pl.val_lt hd) (Nat.pow_le_pow_right (by omega) (by omega)))]; rfl
      · rw [Pl.val_take_drop 65536 xs (i / 16) h, Nat.add_mul_div_left _ _ (Nat.pow_pos (by omega)), Nat.div_eq_of_lt, Nat.zero_add]
        have := Pl.val_lt (hd.take (i / 16))
        rwa [List.length_take, Nat.min_eq_left h] at this
    rw [h2]
    rcases Nat.lt_or_ge (i / 16) xs.length with h | h
    · rw [Pl.val_drop 65536 xs _ h, dec_at xs _ h]
      generalize Pl.val 65536 (xs.drop (i / 16 + 1)) = X
      have h3 : 65536 = 2 ^ (i % 16) * (2 * 2 ^ (15 - i % 16)) := by
        rw [← Nat.pow_succ', ← Nat.pow_add, show i % 16 + (15 - i % 16).succ = 16 by omega]
      rw [h3, Nat.mul_assoc, Nat.add_mul_div_left _ _ (Nat.two_pow_pos _), Nat.mul_assoc, Nat.add_mul_mod_self_left]
    · rw [List.drop_of_length_le h, List.getD_eq_getElem?_getD, List.getElem?_eq_none h]; rfl
  rw [Nat.testBit_eq_decide_div_mod_eq, e]
  rfl

set_option maxHeartbeats 1000000 in
theorem rbit_calls {w : World} {S : Nat → Prop} {n : Nat} {v : Value} (ha : RefN.rep S w n [v]) (i : Nat) (hi : i ≤ 1000000000000) :
    Calls Try.prog 72 #[v, .int .i64 (i : Int)] w fun e w' => e = .returned (.bool (n.testBit i)) ∧ w = w' := by
  obtain ⟨xs, hx, hcn, ea⟩ := ha
  have hd := num_dig hx
  have hv := val_bit16 hd i
  rw [ea] at hv
  obtain ⟨A, c1, rfl, hc1, hm1⟩ := sl_open hx
  obtain ⟨Q, hQ⟩ : ∃ Q, Q = i / 16 := ⟨_, rfl⟩
  obtain ⟨R, hR⟩ : ∃ R, R = i % 16 := ⟨_, rfl⟩
  have e1 : (i : Int) / 16 = (Q : Int) := by omega
  have e2 : (i : Int) % 16 = (R : Int) := by omega
  have hR2 : R ≤ 15 := by omega
  rw [← hQ, ← hR] at hv
  have Hv := hid hv
  clear ea hv hQ hR
  by_cases hlt : Q < xs.length
  · obtain ⟨b, o, rfl, _, hcell, hbd⟩ := num_at hx Q hlt
    have hde := hid (dec_at xs Q hlt)
    obtain ⟨T, hT⟩ : ∃ T, T = xs[Q] := ⟨_, rfl⟩
    rw [← hT] at hcell hbd hde
    have Hv2 : Hid (n.testBit i = (T / 2 ^ R % 2 == 1)) := by show _ = _; rw [Hv.out, hde.out]
    clear hT Hv hde
    go_enter Try.func72, Try.ntmps72
    go_wp2
    go_loop [5, 6] (fun xv kv => ∃ k x : Nat, xv = .int .i64 (x : Int) ∧ kv = .int .i64 (k : Int) ∧ Hid (x = T / 2 ^ k) ∧ x < 65536 ∧ k ≤ R) (fun _ kv => R - (intOf kv).toNat)
    case atStart => exact ⟨0, T, rfl, rfl, hid (by simp), hbd, by omega⟩
    case round =>
      obtain ⟨k, x, rfl, rfl, hxe, hxb, hk⟩ := hrel
      by_cases h1 : k < R
      · obtain ⟨y, hy⟩ : ∃ y, y = x / 2 := ⟨_, rfl⟩
        have q1 : (x : Int) / 2 = (y : Int) := by omega
        have hy2 : Hid (y = T / 2 ^ (k + 1)) := by
          show _ = _
          rw [hy, hxe.out, Nat.pow_succ, Nat.div_div_eq_div_mul]
        have hyb : y < 65536 := by omega
        clear hy hxe
        go_wp2
        go_round
        case rel => exact ⟨k + 1, y, rfl, by go_num, hy2, hyb, by omega⟩
        case measure => simp [intOf] <;> omega
      · obtain rfl : k = R := by omega
        obtain ⟨z, hz⟩ : ∃ z, z = x % 2 := ⟨_, rfl⟩
        have q1 : (x : Int) % 2 = (z : Int) := by omega
        have hfin : Hid (n.testBit i = ((z : Int) == 1)) := by
          show _ = _
          rw [Hv2.out, ← hxe.out, ← hz, Bool.eq_iff_iff, beq_iff_eq, beq_iff_eq]; omega
        clear hz hxe
        go_wp2
        go_ret
        exact ⟨by rw [hfin.out]; rfl, rfl⟩
  · have hres : n.testBit i = false := by
      rw [Hv.out, List.getD_eq_getElem?_getD, List.getElem?_eq_none (by omega)]
      simp
    rw [hres]
    clear hres
    go_enter Try.func72, Try.ntmps72
    go_wp2
    go_ret
    exact ⟨rfl, rfl⟩

theorem ref_lit (w : World) : RefN.rep (· < (w.alloc (.cells #[.int .i64 1] 3)).heap.size) (w.alloc (.cells #[.int .i64 1] 3)) 1 [.slice (some ⟨w.heap.size, 0, none⟩) 1 1] := by
  have h : IntS.rep (fun b => b = w.heap.size) (w.alloc (.cells #[.int .i64 1] 3)) [1] [.slice (some ⟨w.heap.size, 0, none⟩) 1 1] :=
    Row.sl (r := Rep.num .i64 65536) (S := fun b => b = w.heap.size) (xs := [1]) (Row.new w 3 #[.int .i64 1]) rfl (RepL.single ⟨rfl, by omega⟩) 1 (by simp) (by omega) (by simp [Rep.num])
  exact ⟨[1], IntS.mono h (by rintro b rfl; simp) (Same.refl _ _), by simp [Pl.Canon], Pl.val_one _ _⟩
theorem small_nat {n : Nat} (h : n < 18446744073709551616) : Small n := small_limbs (k := 1) (by rw [Nat.pow_one]; exact h) (by omega)

theorem double_calls {w : World} {S : Nat → Prop} {n : Nat} {v : Value} (ha : RefN.rep S w n [v]) (one : Bool) (hn : Small (2 * n)) :
    Calls Try.prog 80 #[v, .bool one] w fun e w' => (∃ u, e = .returned u ∧ RefN.rep (Fresh w w') w' (2 * n + one.toNat) [u]) ∧ Below w.heap.size w w' := by
  have hn1 : Small n := hn.le (by omega)
  go_enter Try.func80, Try.ntmps80
  go_wp2_with fail
  refine (radd_calls ha ha hn1 hn1).mono ?_
  rintro e w1 ⟨⟨u, rfl, hu⟩, hb1⟩
  rw [← Nat.two_mul] at hu
  cases one
  · go_wp2_with fail
    go_ret
    exact ⟨⟨_, rfl, hu⟩, hb1⟩
  · have hba := below_alloc (Below.refl w1.heap.size w1) (.cells #[.int .i64 1] 3)
    have hlit := ref_lit w1
    have hb2 := below_trans hb1 hba
    go_wp2_with fail
    refine (radd_calls (RefN.below hu hba) hlit hn (small_nat (by omega))).mono ?_
    rintro e w2 ⟨⟨u2, rfl, hu2⟩, hb3⟩
    go_wp2_with fail
    go_ret
    exact ⟨⟨_, rfl, RefN.mono hu2 (Fresh.mono hb2.size (Nat.le_refl _)) (Same.refl _ _)⟩, below_trans hb2 hb3⟩

theorem div_bit (m k : Nat) : m / 2 ^ k = 2 * (m / 2 ^ (k + 1)) + (m.testBit k).toNat := by
  rw [Nat.pow_succ, ← Nat.div_div_eq_div_mul, Nat.testBit_eq_decide_div_mod_eq]
  generalize m / 2 ^ k = y
  by_cases h : y % 2 = 1
  · simp [h]; omega
  · simp [h]; omega

set_option maxHeartbeats 2000000 in
set_option maxRecDepth 100000 in
theorem rdiv_calls {w : World} {S T : Nat → Prop} {m n : Nat} {va vb : Value} (ha : RefN.rep S w m [va]) (hb : RefN.rep T w n [vb]) (hm : Small m) (hn : Small (2 * n)) (h0 : 0 < n) :
    Calls Try.prog 54 #[va, vb] w fun e w' => (∃ q r, e = .returned (.tuple #[q, r]) ∧ RefN.rep (Fresh w w') w' (m / n) [q] ∧ RefN.rep (Fresh w w') w' (m % n) [r]) ∧ Below w.heap.size w w' := by
  have hbl : bitLen m ≤ 1600000 := by
    rw [bitLen_le_iff]
    exact two_pow 16 65536 rfl m 100000 1600000 rfl hm.lt
  go_enter Try.func54, Try.ntmps54
  go_wp2_with fail
  refine (rbits_calls ha hm).mono ?_
  rintro e w1 ⟨rfl, rfl⟩
  go_wp2_with fail
  go_loopw [6, 7, 8] (fun qv rv iv wr => ∃ (k q r : Nat), iv = .int .i64 ((k : Int) - 1) ∧ k ≤ 1600000 ∧ RefN.rep (Fresh w wr) wr q [qv] ∧ RefN.rep (Fresh w wr) wr r [rv] ∧ Hid (q * n + r = m / 2 ^ k) ∧ r < n ∧ Below w.heap.size w wr) (fun _ _ iv _ => (intOf iv + 1).toNat)
  case atStart =>
    exact ⟨bitLen m, 0, 0, rfl, hbl, RefN.zero _ _, RefN.zero _ _, hid (by rw [Nat.div_eq_of_lt (bitLen_spec m).1]; simp), h0, Below.refl _ _⟩
  case round =>
    obtain ⟨k, q, r, rfl, hk, hq, hr, hinv, hrn, hB⟩ := hrel
    obtain ⟨wo, rfl⟩ : ∃ wo : World, wo = wr := ⟨_, rfl⟩
    cases k with
    | succ k =>
      rw [show (((k + 1 : Nat) : Int) - 1) = (k : Int) by omega]
      have hbit := div_bit m k
      rw [← hinv.out] at hbit
      have hqm : q ≤ m := by
        have h1 := hinv.out
        have h2 : m / 2 ^ (k + 1) ≤ m := Nat.div_le_self _ _
        have h3 : q * 1 ≤ q * n := Nat.mul_le_mul_left _ h0
        omega
      have hq2m : Small (2 * q) := by
        refine hm.le ?_
        have h1 := hinv.out
        have h2 : m / 2 ^ (k + 1) ≤ m / 2 ^ 1 := Nat.div_le_div_left (Nat.pow_le_pow_right (by omega) (by omega)) (by omega)
        have h3 : q * 1 ≤ q * n := Nat.mul_le_mul_left _ h0
        omega
      have hr2 : Small (2 * r) := hn.le (by omega)
      have Hbit := hid hbit
      clear hbit hinv
      go_wp2_with fail
      refine (rbit_calls (RefN.below ha hB) k (by omega)).mono ?_
      rintro e w2 ⟨rfl, rfl⟩
      obtain ⟨bt, hbt⟩ : ∃ bt, bt = m.testBit k := ⟨_, rfl⟩
      rw [← hbt] at Hbit ⊢
      clear hbt
      have hbt1 : bt.toNat ≤ 1 := Bool.toNat_le bt
      go_wp2_with fail
      refine (double_calls hr bt hr2).mono ?_
      rintro e w2 ⟨⟨rv, rfl, hrv⟩, hb2⟩
      obtain ⟨r2, hr2e⟩ : ∃ r2, r2 = 2 * r + bt.toNat := ⟨_, rfl⟩
      rw [← hr2e] at hrv
      have hB2 := below_trans hB hb2
      have hr2s : Small r2 := hn.le (by omega)
      have hq3 := RefN.mono (RefN.below hq hb2) (S' := Fresh w w2) (Fresh.mono (Nat.le_refl _) hb2.size) (Same.refl _ _)
      have hrv3 := RefN.mono hrv (S' := Fresh w w2) (Fresh.mono hB.size (Nat.le_refl _)) (Same.refl _ _)
      have Hr2e := hid hr2e
      clear hr2e hq hr hrv
      by_cases hge : n ≤ r2
      · have hc : 0 ≤ Pl.cmp r2 n := by have := @Pl.cmp_neg r2 n; omega
        have hfin : Hid ((2 * q + 1) * n + (r2 - n) = m / 2 ^ k) := by
          have := Hr2e.out
          show _ = _
          rw [Hbit.out, Nat.add_mul, Nat.mul_assoc]; omega
        have hrn2 : r2 - n < n := by have := Hr2e.out; omega
        obtain ⟨cv, hcv⟩ : ∃ cv, cv = Pl.cmp r2 n := ⟨_, rfl⟩
        rw [← hcv] at hc
        have Hcv := hid hcv
        have hdec : decide (0 ≤ cv) = true := by simp [hc]
        clear hcv
        go_wp2_with fail
        refine (rcmp_calls hrv3 (RefN.below hb hB2)).mono ?_
        rintro e w3 ⟨rfl, hst⟩
        rw [← Hcv.out]
        have hB3 := still_below' hB2 hst
        have hsz := hst.size
        have hrv4 := hst.rep _ hrv3
        have hq4 := hst.rep _ hq3
        go_wp2_with fail
        refine (rsub_calls hrv4 (RefN.below hb hB3) hr2s hge).mono ?_
        rintro e w4 ⟨⟨rv5, rfl, hrv5⟩, hb4⟩
        have hB4 := below_trans hB3 hb4
        go_wp2_with fail
        refine (double_calls (RefN.below hq4 hb4) true hq2m).mono ?_
        rintro e w5 ⟨⟨qv6, rfl, hqv6⟩, hb5⟩
        have hB5 := below_trans hB4 hb5
        have hrv6 := RefN.mono (RefN.below hrv5 hb5) (S' := Fresh w w5) (Fresh.mono hB3.size hb5.size) (Same.refl _ _)
        have hqv7 := RefN.mono hqv6 (S' := Fresh w w5) (Fresh.mono hB4.size (Nat.le_refl _)) (Same.refl _ _)
        clear hrv5 hqv6 hrv4 hq4 hrv3 hq3
        go_wp2_with fail
        go_roundw
        case rel => exact ⟨k, _, _, rfl, by omega, hqv7, hrv6, hfin, hrn2, hB5⟩
        case measure => simp [intOf]
      · have hc : Pl.cmp r2 n = -1 := Pl.cmp_lt (by omega)
        have hfin : Hid ((2 * q + 0) * n + r2 = m / 2 ^ k) := by
          have := Hr2e.out
          show _ = _
          rw [Hbit.out, Nat.add_zero, Nat.mul_assoc]; omega
        have Hc := hid hc
        clear hc
        go_wp2_with fail
        refine (rcmp_calls hrv3 (RefN.below hb hB2)).mono ?_
        rintro e w3 ⟨rfl, hst⟩
        rw [Hc.out]
        have hB3 := still_below' hB2 hst
        have hsz := hst.size
        have hrv4 := hst.rep _ hrv3
        have hq4 := hst.rep _ hq3
        go_wp2_with fail
        refine (double_calls hq4 false hq2m).mono ?_
        rintro e w5 ⟨⟨qv6, rfl, hqv6⟩, hb5⟩
        have hB5 := below_trans hB3 hb5
        have hrv6 := RefN.mono (RefN.below hrv4 hb5) (S' := Fresh w w5) (Fresh.mono (Nat.le_refl _) (by have := hb5.size; omega)) (Same.refl _ _)
        have hqv7 := RefN.mono hqv6 (S' := Fresh w w5) (Fresh.mono hB3.size (Nat.le_refl _)) (Same.refl _ _)
        clear hqv6 hrv4 hq4 hrv3 hq3
        go_wp2_with fail
        go_roundw
        case rel => exact ⟨k, _, r2, rfl, by omega, hqv7, hrv6, hfin, by omega, hB5⟩
        case measure => simp [intOf]
    | zero =>
      have h1 := hinv.out
      rw [Nat.pow_zero, Nat.div_one] at h1
      have e1 : q = m / n := by rw [← h1, Nat.mul_comm, Nat.mul_add_div h0, Nat.div_eq_of_lt hrn, Nat.add_zero]
      have e2 : r = m % n := by rw [← h1, Nat.mul_comm, Nat.mul_add_mod, Nat.mod_eq_of_lt hrn]
      rw [e1] at hq
      rw [e2] at hr
      clear h1 hinv e1 e2
      go_wp2_with fail
      go_ret2
      exact ⟨⟨_, _, rfl, hq, hr⟩, hB⟩

theorem rrest_calls {w : World} {S T : Nat → Prop} {m n : Nat} {va vb : Value} (ha : RefN.rep S w m [va]) (hb : RefN.rep T w n [vb]) (hm : Small m) (hn : Small (2 * n)) (h0 : 0 < n) :
    Calls Try.prog 27 #[va, vb] w fun e w' => (∃ u, e = .returned u ∧ RefN.rep (Fresh w w') w' (m % n) [u]) ∧ Below w.heap.size w w' := by
  go_enter Try.func27, Try.ntmps27
  go_wp2_with fail
  refine (rdiv_calls ha hb hm hn h0).mono ?_
  rintro e w1 ⟨⟨q, r, rfl, hq, hr⟩, hb1⟩
  go_wp2_with fail
  go_ret
  exact ⟨⟨_, rfl, hr⟩, hb1⟩

end Go.Proofs.Ytphbacggmhjmgaa
