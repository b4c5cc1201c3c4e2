/- The references numbers, second part: Bits, Div, Exp, Gcd, From, Bytes. -/
import Derived.Test.YtphbacggmhjmgaaRefP
import Derived.Deep.LoopGhost
import Derived.Test.YtphbacggmhjmgaaNatR
import Derived.Deep.RegionHeld3

/- The references' numbers, fourth part: bits; quotients, rests, powers, greatest common divisors. -/
namespace Go.Proofs.Ytphbacggmhjmgaa
open Go.RowKit

theorem bitLen_step {p k : Nat} (_h : 0 < p / 2 ^ k) : p / 2 ^ (k + 1) = p / 2 ^ k / 2 := by rw [Nat.pow_succ, Nat.div_div_eq_div_mul]

/-- a number's bits out of its highest digit's -/
theorem bitLen_top16 {p : List Nat} {l : Nat} (hp : 0 < p.length) (hd : Pl.Dig 65536 p) (h1 : p[p.length - 1] < 2 ^ l) (h2 : 2 ^ l ≤ 2 * p[p.length - 1]) : 16 * (p.length - 1) + l = bitLen (Pl.val 65536 p) := by
  have e1 := Pl.val_take_succ 65536 p (p.length - 1) (by omega)
  rw [show p.length - 1 + 1 = p.length by omega, List.take_length] at e1
  have e2 := Pl.val_lt (hd.take (p.length - 1))
  rw [List.length_take, Nat.min_eq_left (by omega)] at e2
  have e : 65536 ^ (p.length - 1) = 2 ^ (16 * (p.length - 1)) := by rw [Nat.pow_mul]
  have hpos : 0 < p[p.length - 1] := by
    rcases Nat.eq_zero_or_pos p[p.length - 1] with h | h
    · have := Nat.two_pow_pos l; omega
    · exact h
  apply bitLen_unique
  · rw [Nat.pow_add, ← e]
    have : 65536 ^ (p.length - 1) * (p[p.length - 1] + 1) ≤ 65536 ^ (p.length - 1) * 2 ^ l := Nat.mul_le_mul_left _ h1
    rw [Nat.mul_add] at this; omega
  · intro _
    rw [Nat.pow_add, ← e]
    have : 65536 ^ (p.length - 1) * 2 ^ l ≤ 65536 ^ (p.length - 1) * (2 * p[p.length - 1]) := Nat.mul_le_mul_left _ h2
    rw [Nat.mul_left_comm] at this; omega
  · intro h0
    have : 65536 ^ (p.length - 1) * 1 ≤ 65536 ^ (p.length - 1) * p[p.length - 1] := Nat.mul_le_mul_left _ hpos
    have := Nat.pow_pos (n := p.length - 1) (show 0 < 65536 by omega)
    omega

set_option maxHeartbeats 1000000 in
theorem rbits_calls {w : World} {S : Nat → Prop} {n : Nat} {v : Value} (ha : RefN.rep S w n [v]) (hn : Small n) :
    Calls Try.prog 71 #[v] w fun e w' => e = .returned (.int .i64 (bitLen n : Int)) ∧ w = w' := by
  obtain ⟨p, hu, hc, ea⟩ := ha
  have hd := num_dig hu
  have hl := ref_len hd hc ea hn
  obtain ⟨A, c1, rfl, hc1, hm1⟩ := sl_open hu
  have Ea := hid ea
  clear ea hn
  go_enter Try.func71, Try.ntmps71
  rcases Nat.eq_zero_or_pos p.length with h0 | h0
  · obtain rfl := List.eq_nil_of_length_eq_zero h0
    have e0 := Ea.out
    simp only [List.length_nil]
    go_wp2
    go_ret
    exact ⟨by rw [← e0]; rfl, rfl⟩
  · obtain ⟨b, o, rfl, _, hcell, hbd⟩ := num_at hu (p.length - 1) (by omega)
    have hlast := hc.last h0
    have ht := @bitLen_top16 p
    have e0 : ((p.length : Int) == 0) = false := by rw [beq_eq_false_iff_ne]; omega
    have i1 : IntKind.i64.wrap ((p.length : Int) - 1) = ((p.length - 1 : Nat) : Int) := by
      rw [show (p.length : Int) - 1 = ((p.length - 1 : Nat) : Int) by omega]; exact IntWalk.i64_in _ (by omega)
    obtain ⟨T, hT⟩ : ∃ T, T = p[p.length - 1] := ⟨_, rfl⟩
    have Ht : Hid (∀ l, T < 2 ^ l → 2 ^ l ≤ 2 * T → 16 * (p.length - 1) + l = bitLen n) := by
      intro l
      rw [hT, ← Ea.out]; exact bitLen_top16 h0 hd
    rw [← hT] at hcell hbd hlast
    clear ht hT
    go_wp2
    go_loop [3, 4] (fun cv xv => ∃ k x c : Nat, xv = .int .i64 (x : Int) ∧ cv = .int .i64 (c : Int) ∧ c ≤ 1600016 ∧ Hid (c = 16 * (p.length - 1) + k) ∧ Hid (x = T / 2 ^ k) ∧ x < 65536 ∧ Hid (k ≤ 16) ∧ Hid (0 < k → 0 < T / 2 ^ (k - 1))) (fun _ xv => (intOf xv).toNat)
    case atStart => exact ⟨0, T, 16 * (p.length - 1), rfl, by congr 1, by omega, hid rfl, hid (by simp), hbd, hid (by omega), hid (by omega)⟩
    case round =>
      obtain ⟨k, x, c, rfl, rfl, hcb, hce, hx, hxb, hk, hkp⟩ := hrel
      have hk' := hk.out
      by_cases h1 : 0 < x
      · obtain ⟨y, hy⟩ : ∃ y, y = x / 2 := ⟨_, rfl⟩
        have q1 : (x : Int) / 2 = (y : Int) := by omega
        have hy2 : Hid (y = T / 2 ^ (k + 1)) := by
          show _ = _
          rw [hy, hx.out, Nat.pow_succ, Nat.div_div_eq_div_mul]
        have hk2 : Hid (k + 1 ≤ 16) := by
          show _ ≤ _
          rcases Nat.lt_or_ge k 16 with h | h
          · exact h
          · have : k = 16 := by omega
            subst this
            have := hx.out
            rw [Nat.div_eq_of_lt (by omega)] at this
            omega
        have hkp2 : Hid (0 < k + 1 → 0 < T / 2 ^ (k + 1 - 1)) := by
          intro _
          rw [Nat.add_sub_cancel, ← hx.out]; exact h1
        have hlt : y < x := by omega
        have hyb : y < 65536 := by omega
        have hce2 : Hid (c + 1 = 16 * (p.length - 1) + (k + 1)) := by have := hce.out; show _ = _; omega
        have hcb2 : c + 1 ≤ 1600016 := by have := hce2.out; have := hk2.out; omega
        clear hy hx hk hkp hk' hce
        go_wp2
        go_round
        case rel => exact ⟨k + 1, y, c + 1, rfl, by go_num, hcb2, hce2, hy2, hyb, hk2, hkp2⟩
        case measure => simp [intOf]; omega
      · obtain rfl : x = 0 := by omega
        have hfin : Hid (c = bitLen n) := by
          show _ = _
          rw [hce.out]
          refine Ht.out k ?_ ?_
          · have h2 := hx.out
            exact (Nat.div_eq_zero_iff_lt (Nat.two_pow_pos k)).1 h2.symm
          · rcases Nat.eq_zero_or_pos k with h | h
            · subst h; simp; omega
            · have h3 := hkp.out h
              have h4 : 2 ^ k = 2 * 2 ^ (k - 1) := by rw [← Nat.pow_succ']; congr 1; omega
              have h5 := (Nat.div_pos_iff).1 h3
              omega
        clear hx hk hkp hk' hce
        go_wp2
        go_ret
        exact ⟨ret_int (by rw [hfin.out]), rfl⟩

theorem val_bit16 {xs : List Nat} (hd : Pl.Dig 65536 xs) (i : Nat) : (Pl.val 65536 xs).testBit i = ((xs.getD (i / 16) 0) / 2 ^ (i % 16) % 2 == 1) := by
  have e : Pl.val 65536 xs / 2 ^ i % 2 = xs.getD (i / 16) 0 / 2 ^ (i % 16) % 2 := by
    have h1 : 2 ^ i = 65536 ^ (i / 16) * 2 ^ (i % 16) := by
      rw [show 65536 = 2 ^ 16 from rfl, ← Nat.pow_mul, ← Nat.pow_add]; congr 1; omega
    rw [h1, ← Nat.div_div_eq_div_mul]
    have h2 : Pl.val 65536 xs / 65536 ^ (i / 16) = Pl.val 65536 (xs.drop (i / 16)) := by
      rcases Nat.lt_or_ge xs.length (i / 16) with h | h
      · rw [List.drop_of_length_le (by omega), Nat.div_eq_of_lt (Nat.lt_of_lt_of_le (Pl.val_lt hd) (Nat.pow_le_pow_right (by omega) (by omega)))]; rfl
      · rw [Pl.val_take_drop 65536 xs (i / 16) h, Nat.add_mul_div_left _ _ (Nat.pow_pos (by omega)), Nat.div_eq_of_lt, Nat.zero_add]
        have := Pl.val_lt (hd.take (i / 16))
        rwa [List.length_take, Nat.min_eq_left h] at this
    rw [h2]
    rcases Nat.lt_or_ge (i / 16) xs.length with h | h
    · rw [Pl.val_drop 65536 xs _ h, dec_at xs _ h]
      generalize Pl.val 65536 (xs.drop (i / 16 + 1)) = X
      have h3 : 65536 = 2 ^ (i % 16) * (2 * 2 ^ (15 - i % 16)) := by
        rw [← Nat.pow_succ', ← Nat.pow_add, show i % 16 + (15 - i % 16).succ = 16 by omega]
      rw [h3, Nat.mul_assoc, Nat.add_mul_div_left _ _ (Nat.two_pow_pos _), Nat.mul_assoc, Nat.add_mul_mod_self_left]
    · rw [List.drop_of_length_le h, List.getD_eq_getElem?_getD, List.getElem?_eq_none h]; rfl
  rw [Nat.testBit_eq_decide_div_mod_eq, e]
  rfl

set_option maxHeartbeats 1000000 in
theorem rbit_calls {w : World} {S : Nat → Prop} {n : Nat} {v : Value} (ha : RefN.rep S w n [v]) (i : Nat) (hi : i ≤ 1000000000000) :
    Calls Try.prog 72 #[v, .int .i64 (i : Int)] w fun e w' => e = .returned (.bool (n.testBit i)) ∧ w = w' := by
  obtain ⟨xs, hx, hcn, ea⟩ := ha
  have hd := num_dig hx
  have hv := val_bit16 hd i
  rw [ea] at hv
  obtain ⟨A, c1, rfl, hc1, hm1⟩ := sl_open hx
  obtain ⟨Q, hQ⟩ : ∃ Q, Q = i / 16 := ⟨_, rfl⟩
  obtain ⟨R, hR⟩ : ∃ R, R = i % 16 := ⟨_, rfl⟩
  have e1 : (i : Int) / 16 = (Q : Int) := by omega
  have e2 : (i : Int) % 16 = (R : Int) := by omega
  have hR2 : R ≤ 15 := by omega
  rw [← hQ, ← hR] at hv
  have Hv := hid hv
  clear ea hv hQ hR
  by_cases hlt : Q < xs.length
  · obtain ⟨b, o, rfl, _, hcell, hbd⟩ := num_at hx Q hlt
    have hde := hid (dec_at xs Q hlt)
    obtain ⟨T, hT⟩ : ∃ T, T = xs[Q] := ⟨_, rfl⟩
    rw [← hT] at hcell hbd hde
    have Hv2 : Hid (n.testBit i = (T / 2 ^ R % 2 == 1)) := by show _ = _; rw [Hv.out, hde.out]
    clear hT Hv hde
    go_enter Try.func72, Try.ntmps72
    go_wp2
    go_loop [5, 6] (fun xv kv => ∃ k x : Nat, xv = .int .i64 (x : Int) ∧ kv = .int .i64 (k : Int) ∧ Hid (x = T / 2 ^ k) ∧ x < 65536 ∧ k ≤ R) (fun _ kv => R - (intOf kv).toNat)
    case atStart => exact ⟨0, T, rfl, rfl, hid (by simp), hbd, by omega⟩
    case round =>
      obtain ⟨k, x, rfl, rfl, hxe, hxb, hk⟩ := hrel
      by_cases h1 : k < R
      · obtain ⟨y, hy⟩ : ∃ y, y = x / 2 := ⟨_, rfl⟩
        have q1 : (x : Int) / 2 = (y : Int) := by omega
        have hy2 : Hid (y = T / 2 ^ (k + 1)) := by
          show _ = _
          rw [hy, hxe.out, Nat.pow_succ, Nat.div_div_eq_div_mul]
        have hyb : y < 65536 := by omega
        clear hy hxe
        go_wp2
        go_round
        case rel => exact ⟨k + 1, y, rfl, by go_num, hy2, hyb, by omega⟩
        case measure => simp [intOf] <;> omega
      · obtain rfl : k = R := by omega
        obtain ⟨z, hz⟩ : ∃ z, z = x % 2 := ⟨_, rfl⟩
        have q1 : (x : Int) % 2 = (z : Int) := by omega
        have hfin : Hid (n.testBit i = ((z : Int) == 1)) := by
          show _ = _
          rw [Hv2.out, ← hxe.out, ← hz, Bool.eq_iff_iff, beq_iff_eq, beq_iff_eq]; omega
        clear hz hxe
        go_wp2
        go_ret
        exact ⟨by rw [hfin.out]; rfl, rfl⟩
  · have hres : n.testBit i = false := by
      rw [Hv.out, List.getD_eq_getElem?_getD, List.getElem?_eq_none (by omega)]
      simp
    rw [hres]
    clear hres
    go_enter Try.func72, Try.ntmps72
    go_wp2
    go_ret
    exact ⟨rfl, rfl⟩

theorem ref_lit (w : World) : RefN.rep (· < (w.alloc (.cells #[.int .i64 1] 3)).heap.size) (w.alloc (.cells #[.int .i64 1] 3)) 1 [.slice (some ⟨w.heap.size, 0, none⟩) 1 1] := by
  have h : IntS.rep (fun b => b = w.heap.size) (w.alloc (.cells #[.int .i64 1] 3)) [1] [.slice (some ⟨w.heap.size, 0, none⟩) 1 1] :=
    Row.sl (r := Rep.num .i64 65536) (S := fun b => b = w.heap.size) (xs := [1]) (Row.new w 3 #[.int .i64 1]) rfl (RepL.single ⟨rfl, by omega⟩) 1 (by simp) (by omega) (by simp [Rep.num])
  exact ⟨[1], IntS.mono h (by rintro b rfl; simp) (Same.refl _ _), by simp [Pl.Canon], Pl.val_one _ _⟩
theorem small_nat {n : Nat} (h : n < 18446744073709551616) : Small n := small_limbs (k := 1) (by rw [Nat.pow_one]; exact h) (by omega)

theorem double_calls {w : World} {S : Nat → Prop} {n : Nat} {v : Value} (ha : RefN.rep S w n [v]) (one : Bool) (hn : Small (2 * n)) :
    Calls Try.prog 80 #[v, .bool one] w fun e w' => (∃ u, e = .returned u ∧ RefN.rep (Fresh w w') w' (2 * n + one.toNat) [u]) ∧ Below w.heap.size w w' := by
  have hn1 : Small n := hn.le (by omega)
  go_enter Try.func80, Try.ntmps80
  go_wp2_with fail
  refine (radd_calls ha ha hn1 hn1).mono ?_
  rintro e w1 ⟨⟨u, rfl, hu⟩, hb1⟩
  rw [← Nat.two_mul] at hu
  cases one
  · go_wp2_with fail
    go_ret
    exact ⟨⟨_, rfl, hu⟩, hb1⟩
  · have hba := below_alloc (Below.refl w1.heap.size w1) (.cells #[.int .i64 1] 3)
    have hlit := ref_lit w1
    have hb2 := below_trans hb1 hba
    go_wp2_with fail
    refine (radd_calls (RefN.below hu hba) hlit hn (small_nat (by omega))).mono ?_
    rintro e w2 ⟨⟨u2, rfl, hu2⟩, hb3⟩
    go_wp2_with fail
    go_ret
    exact ⟨⟨_, rfl, RefN.mono hu2 (Fresh.mono hb2.size (Nat.le_refl _)) (Same.refl _ _)⟩, below_trans hb2 hb3⟩

theorem div_bit (m k : Nat) : m / 2 ^ k = 2 * (m / 2 ^ (k + 1)) + (m.testBit k).toNat := by
  rw [Nat.pow_succ, ← Nat.div_div_eq_div_mul, Nat.testBit_eq_decide_div_mod_eq]
  generalize m / 2 ^ k = y
  by_cases h : y % 2 = 1
  · simp [h]; omega
  · simp [h]; omega

set_option maxHeartbeats 2000000 in
set_option maxRecDepth 100000 in
theorem rdiv_calls {w : World} {S T : Nat → Prop} {m n : Nat} {va vb : Value} (ha : RefN.rep S w m [va]) (hb : RefN.rep T w n [vb]) (hm : Small m) (hn : Small (2 * n)) (h0 : 0 < n) :
    Calls Try.prog 54 #[va, vb] w fun e w' => (∃ q r, e = .returned (.tuple #[q, r]) ∧ RefN.rep (Fresh w w') w' (m / n) [q] ∧ RefN.rep (Fresh w w') w' (m % n) [r]) ∧ Below w.heap.size w w' := by
  have hbl : bitLen m ≤ 1600000 := by
    rw [bitLen_le_iff]
    exact two_pow 16 65536 rfl m 100000 1600000 rfl hm.lt
  go_enter Try.func54, Try.ntmps54
  go_wp2_with fail
  refine (rbits_calls ha hm).mono ?_
  rintro e w1 ⟨rfl, rfl⟩
  go_wp2_with fail
  go_loopw [6, 7, 8] (fun qv rv iv wr => ∃ (k q r : Nat), iv = .int .i64 ((k : Int) - 1) ∧ k ≤ 1600000 ∧ RefN.rep (Fresh w wr) wr q [qv] ∧ RefN.rep (Fresh w wr) wr r [rv] ∧ Hid (q * n + r = m / 2 ^ k) ∧ r < n ∧ Below w.heap.size w wr) (fun _ _ iv _ => (intOf iv + 1).toNat)
  case atStart =>
    exact ⟨bitLen m, 0, 0, rfl, hbl, RefN.zero _ _, RefN.zero _ _, hid (by rw [Nat.div_eq_of_lt (bitLen_spec m).1]; simp), h0, Below.refl _ _⟩
  case round =>
    obtain ⟨k, q, r, rfl, hk, hq, hr, hinv, hrn, hB⟩ := hrel
    obtain ⟨wo, rfl⟩ : ∃ wo : World, wo = wr := ⟨_, rfl⟩
    cases k with
    | succ k =>
      rw [show (((k + 1 : Nat) : Int) - 1) = (k : Int) by omega]
      have hbit := div_bit m k
      rw [← hinv.out] at hbit
      have hqm : q ≤ m := by
        have h1 := hinv.out
        have h2 : m / 2 ^ (k + 1) ≤ m := Nat.div_le_self _ _
        have h3 : q * 1 ≤ q * n := Nat.mul_le_mul_left _ h0
        omega
      have hq2m : Small (2 * q) := by
        refine hm.le ?_
        have h1 := hinv.out
        have h2 : m / 2 ^ (k + 1) ≤ m / 2 ^ 1 := Nat.div_le_div_left (Nat.pow_le_pow_right (by omega) (by omega)) (by omega)
        have h3 : q * 1 ≤ q * n := Nat.mul_le_mul_left _ h0
        omega
      have hr2 : Small (2 * r) := hn.le (by omega)
      have Hbit := hid hbit
      clear hbit hinv
      go_wp2_with fail
      refine (rbit_calls (RefN.below ha hB) k (by omega)).mono ?_
      rintro e w2 ⟨rfl, rfl⟩
      obtain ⟨bt, hbt⟩ : ∃ bt, bt = m.testBit k := ⟨_, rfl⟩
      rw [← hbt] at Hbit ⊢
      clear hbt
      have hbt1 : bt.toNat ≤ 1 := Bool.toNat_le bt
      go_wp2_with fail
      refine (double_calls hr bt hr2).mono ?_
      rintro e w2 ⟨⟨rv, rfl, hrv⟩, hb2⟩
      obtain ⟨r2, hr2e⟩ : ∃ r2, r2 = 2 * r + bt.toNat := ⟨_, rfl⟩
      rw [← hr2e] at hrv
      have hB2 := below_trans hB hb2
      have hr2s : Small r2 := hn.le (by omega)
      have hq3 := RefN.mono (RefN.below hq hb2) (S' := Fresh w w2) (Fresh.mono (Nat.le_refl _) hb2.size) (Same.refl _ _)
      have hrv3 := RefN.mono hrv (S' := Fresh w w2) (Fresh.mono hB.size (Nat.le_refl _)) (Same.refl _ _)
      have Hr2e := hid hr2e
      clear hr2e hq hr hrv
      by_cases hge : n ≤ r2
      · have hc : 0 ≤ Pl.cmp r2 n := by have := @Pl.cmp_neg r2 n; omega
        have hfin : Hid ((2 * q + 1) * n + (r2 - n) = m / 2 ^ k) := by
          have := Hr2e.out
          show _ = _
          rw [Hbit.out, Nat.add_mul, Nat.mul_assoc]; omega
        have hrn2 : r2 - n < n := by have := Hr2e.out; omega
        obtain ⟨cv, hcv⟩ : ∃ cv, cv = Pl.cmp r2 n := ⟨_, rfl⟩
        rw [← hcv] at hc
        have Hcv := hid hcv
        have hdec : decide (0 ≤ cv) = true := by simp [hc]
        clear hcv
        go_wp2_with fail
        refine (rcmp_calls hrv3 (RefN.below hb hB2)).mono ?_
        rintro e w3 ⟨rfl, hst⟩
        rw [← Hcv.out]
        have hB3 := still_below' hB2 hst
        have hsz := hst.size
        have hrv4 := hst.rep _ hrv3
        have hq4 := hst.rep _ hq3
        go_wp2_with fail
        refine (rsub_calls hrv4 (RefN.below hb hB3) hr2s hge).mono ?_
        rintro e w4 ⟨⟨rv5, rfl, hrv5⟩, hb4⟩
        have hB4 := below_trans hB3 hb4
        go_wp2_with fail
        refine (double_calls (RefN.below hq4 hb4) true hq2m).mono ?_
        rintro e w5 ⟨⟨qv6, rfl, hqv6⟩, hb5⟩
        have hB5 := below_trans hB4 hb5
        have hrv6 := RefN.mono (RefN.below hrv5 hb5) (S' := Fresh w w5) (Fresh.mono hB3.size hb5.size) (Same.refl _ _)
        have hqv7 := RefN.mono hqv6 (S' := Fresh w w5) (Fresh.mono hB4.size (Nat.le_refl _)) (Same.refl _ _)
        clear hrv5 hqv6 hrv4 hq4 hrv3 hq3
        go_wp2_with fail
        go_roundw
        case rel => exact ⟨k, _, _, rfl, by omega, hqv7, hrv6, hfin, hrn2, hB5⟩
        case measure => simp [intOf]
      · have hc : Pl.cmp r2 n = -1 := Pl.cmp_lt (by omega)
        have hfin : Hid ((2 * q + 0) * n + r2 = m / 2 ^ k) := by
          have := Hr2e.out
          show _ = _
          rw [Hbit.out, Nat.add_zero, Nat.mul_assoc]; omega
        have Hc := hid hc
        clear hc
        go_wp2_with fail
        refine (rcmp_calls hrv3 (RefN.below hb hB2)).mono ?_
        rintro e w3 ⟨rfl, hst⟩
        rw [Hc.out]
        have hB3 := still_below' hB2 hst
        have hsz := hst.size
        have hrv4 := hst.rep _ hrv3
        have hq4 := hst.rep _ hq3
        go_wp2_with fail
        refine (double_calls hq4 false hq2m).mono ?_
        rintro e w5 ⟨⟨qv6, rfl, hqv6⟩, hb5⟩
        have hB5 := below_trans hB3 hb5
        have hrv6 := RefN.mono (RefN.below hrv4 hb5) (S' := Fresh w w5) (Fresh.mono (Nat.le_refl _) (by have := hb5.size; omega)) (Same.refl _ _)
        have hqv7 := RefN.mono hqv6 (S' := Fresh w w5) (Fresh.mono hB3.size (Nat.le_refl _)) (Same.refl _ _)
        clear hqv6 hrv4 hq4 hrv3 hq3
        go_wp2_with fail
        go_roundw
        case rel => exact ⟨k, _, r2, rfl, by omega, hqv7, hrv6, hfin, by omega, hB5⟩
        case measure => simp [intOf]
    | zero =>
      have h1 := hinv.out
      rw [Nat.pow_zero, Nat.div_one] at h1
      have e1 : q = m / n := by rw [← h1, Nat.mul_comm, Nat.mul_add_div h0, Nat.div_eq_of_lt hrn, Nat.add_zero]
      have e2 : r = m % n := by rw [← h1, Nat.mul_comm, Nat.mul_add_mod, Nat.mod_eq_of_lt hrn]
      rw [e1] at hq
      rw [e2] at hr
      clear h1 hinv e1 e2
      go_wp2_with fail
      go_ret2
      exact ⟨⟨_, _, rfl, hq, hr⟩, hB⟩

theorem rrest_calls {w : World} {S T : Nat → Prop} {m n : Nat} {va vb : Value} (ha : RefN.rep S w m [va]) (hb : RefN.rep T w n [vb]) (hm : Small m) (hn : Small (2 * n)) (h0 : 0 < n) :
    Calls Try.prog 27 #[va, vb] w fun e w' => (∃ u, e = .returned u ∧ RefN.rep (Fresh w w') w' (m % n) [u]) ∧ Below w.heap.size w w' := by
  go_enter Try.func27, Try.ntmps27
  go_wp2_with fail
  refine (rdiv_calls ha hb hm hn h0).mono ?_
  rintro e w1 ⟨⟨q, r, rfl, hq, hr⟩, hb1⟩
  go_wp2_with fail
  go_ret
  exact ⟨⟨_, rfl, hr⟩, hb1⟩

end Go.Proofs.Ytphbacggmhjmgaa

/- The references' numbers, fifth part: powers, greatest common divisors. -/
namespace Go.Proofs.Ytphbacggmhjmgaa
open Go.RowKit

theorem exp_sq (a m k e : Nat) : (a ^ (e / 2 ^ (k + 1)) % m) * (a ^ (e / 2 ^ (k + 1)) % m) % m = a ^ (2 * (e / 2 ^ (k + 1))) % m := by
  rw [← Nat.mul_mod, ← Nat.pow_add, Nat.two_mul]
theorem exp_one (a m x : Nat) : (a ^ x % m) * (a % m) % m = a ^ (x + 1) % m := by
  rw [← Nat.mul_mod, Nat.pow_succ]

set_option maxHeartbeats 2000000 in
theorem rexp_calls {w : World} {S T U : Nat → Prop} {a ex m : Nat} {va ve vm : Value} (ha : RefN.rep S w a [va]) (he : RefN.rep T w ex [ve]) (hm : RefN.rep U w m [vm]) (sa : Small a) (se : Small ex) (sm : Small (2 * (m * m))) (h0 : 0 < m) :
    Calls Try.prog 49 #[va, ve, vm] w fun e w' => (∃ u, e = .returned u ∧ RefN.rep (Fresh w w') w' (a ^ ex % m) [u]) ∧ Below w.heap.size w w' := by
  have hmm : m ≤ m * m := Nat.le_mul_of_pos_left m h0
  have sm2 : Small (2 * m) := sm.le (by omega)
  have smm : Small (m * m) := sm.le (by omega)
  have sm1 : Small m := sm.le (by omega)
  have hbl : bitLen ex ≤ 1600000 := by
    rw [bitLen_le_iff]
    exact two_pow 16 65536 rfl ex 100000 1600000 rfl se.lt
  have hba := below_alloc (Below.refl w.heap.size w) (.cells #[.int .i64 1] 3)
  have hlit := ref_lit w
  go_enter Try.func49, Try.ntmps49
  go_wp2_with fail
  refine (rrest_calls hlit (RefN.below hm hba) (small_nat (by omega)) sm2 h0).mono ?_
  rintro e w1 ⟨⟨ov, rfl, ho⟩, hb1⟩
  have hb1' := below_trans hba hb1
  go_wp2_with fail
  refine (rrest_calls (RefN.below ha hb1') (RefN.below hm hb1') sa sm2 h0).mono ?_
  rintro e w2 ⟨⟨bv, rfl, hbv⟩, hb2⟩
  have hb2' := below_trans hb1' hb2
  go_wp2_with fail
  refine (rbits_calls (RefN.below he hb2') se).mono ?_
  rintro e w3 ⟨rfl, rfl⟩
  have ho2 : RefN.rep (Fresh w w2) w2 (a ^ 0 % m) [ov] := RefN.mono (RefN.below ho hb2) (Fresh.mono hba.size hb2.size) (Same.refl _ _)
  have hxm := Nat.mod_lt a h0
  clear ho hlit hba hb1
  go_wp2_with fail
  go_loopw [7, 9] (fun ov iv wr => ∃ (k : Nat), iv = .int .i64 ((k : Int) - 1) ∧ k ≤ 1600000 ∧ RefN.rep (Fresh w wr) wr (a ^ (ex / 2 ^ k) % m) [ov] ∧ Below w2.heap.size w2 wr) (fun _ iv _ => (intOf iv + 1).toNat)
  case atStart =>
    refine ⟨bitLen ex, rfl, hbl, ?_, Below.refl _ _⟩
    rw [Nat.div_eq_of_lt (bitLen_spec ex).1]; exact ho2
  case round =>
    clear ho2
    obtain ⟨k, rfl, hk, ho, hB⟩ := hrel
    obtain ⟨wo, rfl⟩ : ∃ wo : World, wo = wr := ⟨_, rfl⟩
    have hBo := below_trans hb2' hB
    have hbo := RefN.below hbv hB
    cases k with
    | succ k =>
      rw [show (((k + 1 : Nat) : Int) - 1) = (k : Int) by omega]
      obtain ⟨P, hP⟩ : ∃ P, P = a ^ (ex / 2 ^ (k + 1)) % m := ⟨_, rfl⟩
      rw [← hP] at ho
      have hPm : P < m := by rw [hP]; exact Nat.mod_lt _ h0
      have sP : Small P := sm1.le (by omega)
      have sPP : Small (P * P) := smm.le (Nat.mul_le_mul (by omega) (by omega))
      have hsq := exp_sq a m k ex
      rw [← hP] at hsq
      have hbit := div_bit ex k
      obtain ⟨bt, hbt⟩ : ∃ bt, bt = ex.testBit k := ⟨_, rfl⟩
      rw [← hbt] at hbit
      have Hbit := hid hbit
      have Hbt := hid hbt
      clear hbit hP hbt
      go_wp2_with fail
      refine (rmul_calls ho ho sP sP).mono ?_
      rintro e w4 ⟨⟨sv, rfl, hsv⟩, hb4⟩
      have hB4 := below_trans hBo hb4
      go_wp2_with fail
      refine (rrest_calls hsv (RefN.below hm hB4) sPP sm2 h0).mono ?_
      rintro e w5 ⟨⟨rv, rfl, hrv⟩, hb5⟩
      rw [hsq] at hrv
      have hB5 := below_trans hB4 hb5
      have hBw5 := below_trans (below_trans hB hb4) hb5
      have hrv5 := RefN.mono hrv (S' := Fresh w w5) (Fresh.mono hB4.size (Nat.le_refl _)) (Same.refl _ _)
      go_wp2_with fail
      refine (rbit_calls (RefN.below he hB5) k (by omega)).mono ?_
      rintro e w6 ⟨rfl, rfl⟩
      rw [← Hbt.out]
      cases bt
      · have hfin : RefN.rep (Fresh w w5) w5 (a ^ (ex / 2 ^ k) % m) [rv] := by rw [Hbit.out]; exact hrv5
        clear hrv hrv5 hsq
        go_wp2_with fail
        go_roundw
        case rel => exact ⟨k, rfl, by omega, hfin, hBw5⟩
        case measure => simp [intOf]
      · obtain ⟨Q, hQ⟩ : ∃ Q, Q = a ^ (2 * (ex / 2 ^ (k + 1))) % m := ⟨_, rfl⟩
        rw [← hQ] at hrv5
        have hQm : Q < m := by rw [hQ]; exact Nat.mod_lt _ h0
        have sQ : Small Q := sm1.le (by omega)
        have sA : Small (a % m) := sm1.le (by omega)
        have sQA : Small (Q * (a % m)) := smm.le (Nat.mul_le_mul (by omega) (by omega))
        have hone := exp_one a m (2 * (ex / 2 ^ (k + 1)))
        rw [← hQ] at hone
        clear hQ hrv hsq
        go_wp2_with fail
        refine (rmul_calls hrv5 (RefN.mono (RefN.below hbo (below_trans hb4 hb5)) (S' := fun _ => True) (fun _ _ => trivial) (Same.refl _ _)) sQ sA).mono ?_
        rintro e w7 ⟨⟨mv, rfl, hmv⟩, hb7⟩
        have hB7 := below_trans hB5 hb7
        go_wp2_with fail
        refine (rrest_calls hmv (RefN.below hm hB7) sQA sm2 h0).mono ?_
        rintro e w8 ⟨⟨zv, rfl, hzv⟩, hb8⟩
        have hfin : RefN.rep (Fresh w w8) w8 (a ^ (ex / 2 ^ k) % m) [zv] := by
          rw [hone] at hzv
          rw [Hbit.out]
          exact RefN.mono hzv (Fresh.mono hB7.size (Nat.le_refl _)) (Same.refl _ _)
        have hBw8 := below_trans (below_trans hBw5 hb7) hb8
        clear hzv hone
        go_wp2_with fail
        go_roundw
        case rel => exact ⟨k, rfl, by omega, hfin, hBw8⟩
        case measure => simp [intOf]
    | zero =>
      rw [Nat.pow_zero, Nat.div_one] at ho
      go_wp2_with fail
      go_ret
      exact ⟨⟨_, rfl, ho⟩, hBo⟩

set_option maxHeartbeats 1000000 in
theorem rgcd_calls {w : World} {S T : Nat → Prop} {m n : Nat} {va vb : Value} (ha : RefN.rep S w m [va]) (hb : RefN.rep T w n [vb]) (sm : Small (2 * m)) (sn : Small (2 * n)) :
    Calls Try.prog 88 #[va, vb] w fun e w' => (∃ u, e = .returned u ∧ RefN.rep (· < w'.heap.size) w' (Nat.gcd m n) [u]) ∧ Below w.heap.size w w' := by
  go_enter Try.func88, Try.ntmps88
  go_wp2_with fail
  go_loopg [0, 1] n (fun k av bv wr => ∃ (U V : Nat), k = V ∧ RefN.rep (· < wr.heap.size) wr U [av] ∧ RefN.rep (· < wr.heap.size) wr V [bv] ∧ Hid (Nat.gcd U V = Nat.gcd m n) ∧ Small (2 * U) ∧ Small (2 * V) ∧ Below w.heap.size w wr)
  case atStart => exact ⟨m, n, rfl, RefN.old ha, RefN.old hb, hid rfl, sm, sn, Below.refl _ _⟩
  case round =>
    obtain ⟨V, rfl⟩ : ∃ V, V = gk := ⟨_, rfl⟩
    obtain ⟨U, _, rfl, hU, hV, hg, sU, sV, hB⟩ := hrel
    obtain ⟨wo, rfl⟩ : ∃ wo : World, wo = wr := ⟨_, rfl⟩
    obtain ⟨vs, hvs, hvc, hvv⟩ := id hV
    by_cases h0 : 0 < V
    · have hvl : 0 < vs.length := by
        rcases Nat.eq_zero_or_pos vs.length with h | h
        · obtain rfl := List.eq_nil_of_length_eq_zero h
          rw [Pl.val_nil] at hvv; omega
        · exact h
      obtain ⟨vA, vcap, rfl, hvcap, hvcm⟩ := sl_open hvs
      have hg2 : Hid (Nat.gcd V (U % V) = Nat.gcd m n) := by
        show _ = _
        rw [← hg.out, Nat.gcd_comm U V, Nat.gcd_rec V U, Nat.gcd_comm]
      have hlt := Nat.mod_lt U h0
      have sR : Small (2 * (U % V)) := sV.le (by omega)
      clear hvc hvv hvs hg
      go_wp2_with fail
      refine (rrest_calls hU hV (sU.le (by omega)) sV h0).mono ?_
      rintro e w2 ⟨⟨rv, rfl, hr⟩, hb2⟩
      have hV2 := RefN.old (RefN.below hV hb2)
      have hr2 := RefN.old hr
      have hB2 := below_trans hB hb2
      clear hU hV hr
      go_wp2_with fail
      go_roundg (U % V)
      case rel => exact ⟨V, _, rfl, hV2, hr2, hg2, sV, sR, hB2⟩
      case measure => omega
    · obtain rfl : V = 0 := by omega
      have hvl : vs.length = 0 := by
        rcases Nat.eq_zero_or_pos vs.length with h | h
        · exact h
        · have := hvc.val_pos (B := 65536) (by omega) h; omega
      obtain ⟨vA, vcap, rfl, hvcap, hvcm⟩ := sl_open hvs
      have hg1 := hg.out
      rw [Nat.gcd_zero_right] at hg1
      rw [hg1] at hU
      rw [hvl]
      clear hvl hg1 hvv hvc hvs hg
      go_wp2_with fail
      go_ret
      exact ⟨⟨_, rfl, hU⟩, hB⟩

end Go.Proofs.Ytphbacggmhjmgaa

/- The references' numbers, last part: of bytes, and as bytes. -/
namespace Go.Proofs.Ytphbacggmhjmgaa
open Go.RowKit

theorem int_row {w : World} {g x : Nat} (h : Row w g 3 [.int .i64 (x : Int)]) (hx : x < 65536) : IntS.rep (fun b => b = g) w [x] [.slice (some ⟨g, 0, none⟩) 1 1] := by
  have hr : Row w g 3 (nums .i64 [x]) := h
  exact hr.slNum (B := 65536) (S := fun b => b = g) rfl (Pl.Dig.one hx) 1 (by simp) (by omega) (by simp)
theorem ref_row {w : World} {g x : Nat} (h : Row w g 3 [.int .i64 (x : Int)]) (h0 : 0 < x) (hx : x < 65536) : RefN.rep (fun b => b = g) w x [.slice (some ⟨g, 0, none⟩) 1 1] :=
  ⟨[x], int_row h hx, by simp [Pl.Canon]; omega, Pl.val_one _ _⟩
theorem ref_trim {S : Nat → Prop} {w : World} {x : Nat} {v : Value} (h : IntS.rep S w (Pl.trim [x]) [v]) : RefN.rep (fun _ => True) w x [v] :=
  ⟨_, IntS.mono h (fun _ _ => trivial) (Same.refl _ _), Pl.trim_canon _, by rw [Pl.trim_val, Pl.val_one]⟩
theorem ref_all {S : Nat → Prop} {w : World} {n : Nat} {cs : List Value} (h : RefN.rep S w n cs) : RefN.rep (fun _ => True) w n cs := RefN.mono h (fun _ _ => trivial) (Same.refl _ _)

theorem small_bytes {n k : Nat} (h : n < 256 ^ k) (hk : k ≤ 200000) : Small n := by
  have e : n < 65536 ^ 100000 := by
    refine pow_lim 65536 n ((k + 1) / 2) 100000 (by omega) ?_ (by omega)
    rw [show 65536 = 256 ^ 2 by decide, ← Nat.pow_mul]
    exact Nat.lt_of_lt_of_le h (Nat.pow_le_pow_right (by omega) (by omega))
  exact ⟨e⟩


set_option maxHeartbeats 4000000 in
set_option maxRecDepth 100000 in
theorem rfrom_calls {w : World} {S : Nat → Prop} {xs : List Nat} {v : Value} (h : ByteS.rep S w xs [v]) (hl : xs.length ≤ 100000) :
    Calls Try.prog 43 #[v] w fun e w' => (∃ u, e = .returned u ∧ RefN.rep (Fresh w w') w' (Pl.be xs) [u]) ∧ Below w.heap.size w w' := by
  have hd := num_dig h
  obtain ⟨A, cap, rfl, hcap, hcm⟩ := sl_open h
  go_enter Try.func43, Try.ntmps43
  go_wp2_with fail
  go_loopw [4, 3] (fun iv ov wr => ∃ k : Nat, iv = .int .i64 (k : Int) ∧ k ≤ xs.length ∧ RefN.rep (Fresh w wr) wr (Pl.be (xs.take k)) [ov] ∧ Below w.heap.size w wr) (fun iv _ _ => xs.length - (intOf iv).toNat)
  case atStart => exact ⟨0, rfl, by omega, RefN.zero _ _, Below.refl _ _⟩
  case round =>
    obtain ⟨k, rfl, hk, hout, hB⟩ := hrel
    obtain ⟨ds, hds, hdc, hdv⟩ := id hout
    obtain ⟨OA, oc, rfl, hoc, hom⟩ := sl_open hds
    clear hds hdc hdv
    obtain ⟨W, rfl⟩ : ∃ W : World, W = wr := ⟨_, rfl⟩
    by_cases hlt : k < xs.length
    · have hnext := hid (Pl.be_snoc xs k hlt)
      obtain ⟨V, hV⟩ : ∃ V, V = Pl.be (xs.take k) := ⟨_, rfl⟩
      have hVs : Small V := by
        rw [hV]
        have := Pl.be_lt (hd.take k)
        rw [List.length_take, Nat.min_eq_left hk] at this
        exact small_bytes this (by omega)
      have hVs2 : Small (V * 256) := by
        rw [hV]
        have := Pl.be_lt (hd.take k)
        rw [List.length_take, Nat.min_eq_left hk] at this
        refine small_bytes (k := k + 1) ?_ (by omega)
        rw [Nat.pow_succ]
        exact Nat.mul_lt_mul_of_pos_right this (by omega)
      rw [← hV] at hout hnext
      have HV := hid hV
      clear hV
      obtain ⟨b, o, rfl, hS, hcell, hbd⟩ := num_at (ByteS.old h) k hlt
      obtain ⟨x, hx⟩ : ∃ x, x = xs[k] := ⟨_, rfl⟩
      rw [← hx] at hcell hbd hnext
      clear hx
      have hcell0 := (hB.cell (p := ⟨b, o + k, none⟩) hS).trans hcell
      have hbW : b < W.heap.size := Nat.lt_of_lt_of_le hS hB.size
      clear hcell
      have hSW : Below W.heap.size W W.drew := (Below.refl _ _).drew
      have s256 : Small 256 := small_nat (by omega)
      have sx : Small x := small_nat (by omega)
      have hx2 : x < 65536 := by omega
      have hwx : IntKind.i64.wrap (x : Int) = (x : Int) := IntWalk.i64_in _ (by omega)
      go_upto_region 5 with (fail)
      go_region_held3 (fun w' => w'.cell? ⟨b, o + k, none⟩ = some (.int .u8 (x : Int)) ∧ Below W.heap.size W w')
        (first | exact ⟨hcell0, hSW⟩ | exact hSD | (have hH := ‹_ ∧ Below W.heap.size W _›; exact ⟨((below_bs _).cell (p := ⟨b, o + k, none⟩) (Nat.lt_of_lt_of_le hbW hH.2.size)).trans hH.1, below_trans hH.2 (below_bs _)⟩))
        (first
        | (go_at_call 62
           have hH := ‹_ ∧ Below W.heap.size W _›
           refine (rmul_calls (RefN.below (ref_all hout) hH.2) (ref_row (x := 256) (by first | exact Row.new _ _ _ | exact (Row.new _ _ _).alloc _ | exact row_newAt _ _ _ _ (by simp)) (by omega) (by omega)) hVs s256).mono ?_
           rintro e wM ⟨⟨uM, rfl, huM⟩, hbM⟩
           have hSD := And.intro ((hbM.cell (p := ⟨b, o + k, none⟩) (Nat.lt_of_lt_of_le hbW hH.2.size)).trans hH.1) (below_trans hH.2 hbM)
           replace huM := ref_all huM
           clear hH)
        | (go_at_call 47
           have hH := ‹_ ∧ Below W.heap.size W _›
           refine (rtrim_calls (int_row (x := x) (by
             first
             | exact Row.new _ _ _
             | exact (Row.new _ _ _).alloc _
             | exact row_newAt _ _ _ _ (by simp)
             | (refine Row.below (Row.drew ?_) ?_ hbM
                · first | exact Row.new _ _ _ | exact (Row.new _ _ _).alloc _ | exact row_newAt _ _ _ _ (by simp)
                · (simp <;> omega))) hx2)).mono ?_
           rintro e wT ⟨⟨uT, rfl, huT⟩, rfl⟩
           have hSD := hH
           replace huT := ref_trim huT
           clear hH)
        | (go_at_call 42
           have hH := ‹_ ∧ Below W.heap.size W _›
           refine (radd_calls (by first | exact huM | exact RefN.below huM (below_bs _)) (by first | exact huT | exact RefN.below huT hbM | exact RefN.below huT (below_bs _) | exact RefN.below huT (below_trans (below_bs _) hbM)) hVs2 sx).mono ?_
           rintro e wA ⟨⟨uA, rfl, huA⟩, hbA⟩
           have hSD := And.intro ((hbA.cell (p := ⟨b, o + k, none⟩) (Nat.lt_of_lt_of_le hbW hH.2.size)).trans hH.1) (below_trans hH.2 hbA)
           replace huA := RefN.mono huA (Fresh.mono (Nat.le_trans hB.size hH.2.size) (Nat.le_refl _)) (Same.refl _ _)
           clear hH)
        | fail)
      all_goals
        rw [← hnext.out] at huA
        have hBZ := below_trans hB hSD.2
        clear hnext
        go_wp2_with fail
        go_roundw
        case rel => exact ⟨k + 1, by go_num, by omega, huA, hBZ⟩
        case measure => simp [intOf]; omega
    · obtain rfl : k = xs.length := by omega
      rw [List.take_length] at hout
      go_wp2_with fail
      go_ret
      exact ⟨⟨_, rfl, hout⟩, hB⟩

theorem byte16 {xs : List Nat} {n i : Nat} (hd : Pl.Dig 65536 xs) (hv : Pl.val 65536 xs = n) : xs.getD (i / 2) 0 / 256 ^ (i % 2) % 256 = Pl.byteAt n i := by
  rw [Pl.getD_val (by omega) hd, hv]
  unfold Pl.byteAt
  have e : 256 ^ i = 65536 ^ (i / 2) * 256 ^ (i % 2) := by
    rw [show 65536 = 256 ^ 2 by decide, ← Nat.pow_mul, ← Nat.pow_add]; congr 1; omega
  rw [e, ← Nat.div_div_eq_div_mul]
  generalize n / 65536 ^ (i / 2) = Y
  rcases Nat.mod_two_eq_zero_or_one i with h | h
  · rw [h, Nat.pow_zero, Nat.div_one, Nat.div_one, Nat.mod_mod_of_dvd _ (by decide)]
  · rw [h, Nat.pow_one, show 65536 = 256 * 256 by decide, Nat.mod_mul_right_div_self, Nat.mod_mod]

set_option maxHeartbeats 2000000 in
theorem rbytes_calls {w : World} {S : Nat → Prop} {n k : Nat} {v : Value} (h : RefN.rep S w n [v]) (hn : Small n) (hk : k ≤ 1000000) :
    Calls Try.prog 50 #[v, .int .i64 (k : Int)] w fun e w' => (∃ u, e = .returned (.tuple #[u, .bool (decide (bitLen n ≤ 8 * k))]) ∧ ByteS.rep (Fresh w w') w' (Pl.beL k n) [u]) ∧ Below w.heap.size w w' := by
  have hmk := run_make_one (P := Try.prog) 22 5 (.int .u8 0) 1 Try.underlying22 (by kernel_rfl) rfl k (by omega) (by omega)
  obtain ⟨xs, hx, cx, ex⟩ := id h
  have hd := num_dig hx
  have Ex := hid ex
  clear ex cx
  obtain ⟨A, cap, rfl, hcap, hcm⟩ := sl_open hx
  go_enter Try.func50, Try.ntmps50
  go_wp2_with fail
  go_loopw [7, 8] (fun i _ wr => ∃ j : Nat, i = .int .i64 (j : Int) ∧ j ≤ k ∧ Row wr w.heap.size 5 (nums .u8 (Pl.beP k j n)) ∧ Below w.heap.size w wr) (fun i _ _ => (k - (intOf i).toNat))
  case atStart => exact ⟨0, rfl, by omega, by rw [Pl.beP_zero, ← zerosOf_num]; exact Row.new _ _ _, (Below.refl _ _).alloc (Nat.le_refl _) _⟩
  case round =>
    obtain ⟨j, rfl, hj, hrow, hB⟩ := hrel
    by_cases hlt : j < k
    · obtain ⟨Q, hQ⟩ : ∃ Q, Q = j / 2 := ⟨_, rfl⟩
      obtain ⟨R, hR⟩ : ∃ R, R = j % 2 := ⟨_, rfl⟩
      obtain ⟨L, hL⟩ : ∃ L, L = k - 1 - j := ⟨_, rfl⟩
      have e1 : (j : Int) / 2 = (Q : Int) := by omega
      have e2 : (j : Int) % 2 = (R : Int) := by omega
      have hLk : L < k := by omega
      have i1 : IntKind.i64.wrap ((k : Int) - 1) = ((k - 1 : Nat) : Int) := by
        rw [show (k : Int) - 1 = ((k - 1 : Nat) : Int) by omega]; exact IntWalk.i64_in _ (by omega)
      have i2 : IntKind.i64.wrap (((k - 1 : Nat) : Int) - (j : Int)) = (L : Int) := by
        rw [show ((k - 1 : Nat) : Int) - (j : Int) = (L : Int) by omega]; exact IntWalk.i64_in _ (by omega)
      have hbyte := byte16 (i := j) hd Ex.out
      rw [← hQ, ← hR] at hbyte
      obtain ⟨d, hdd⟩ : ∃ d, d = xs.getD Q 0 := ⟨_, rfl⟩
      have hdb : d < 65536 := by
        rw [hdd, Pl.getD_val (by omega) hd]; exact Nat.mod_lt _ (by omega)
      have hst := hrow.num (k := .u8) L (by rw [Pl.beP_length]; exact hLk)
      have hsf := hrow.frozen L
      rw [← hdd] at hbyte
      have Hd := hid hdd
      have hR2 : R ≤ 1 := by omega
      obtain ⟨D, hD⟩ : ∃ D, D = Pl.byteAt n j := ⟨_, rfl⟩
      rw [← hD] at hbyte
      have hrow1 := hrow.setNum (k := .u8) L D
      rw [hD, hL, Pl.beP_step hlt, ← hL, ← hD] at hrow1
      have hB1 := below_setCell hB (p := ⟨w.heap.size, L, none⟩) (Nat.le_refl _) (.int .u8 (D : Int))
      have hQb : Q ≤ 1000000000000 := by omega
      clear hQ hR hL hdd hD
      go_wp2_with fail
      refine (at_calls (IntS.below hx hB) Q hQb).mono ?_
      rintro e w' ⟨rfl, rfl⟩
      rw [← Hd.out]
      rcases Nat.lt_or_ge R 1 with hR0 | hR1
      · obtain rfl : R = 0 := by omega
        rw [Nat.pow_zero, Nat.div_one] at hbyte
        have q1 : (d : Int) % 256 = (D : Int) := by omega
        have q2 : IntKind.u8.wrap (D : Int) = (D : Int) := by rw [u8_wrap]; omega
        clear hbyte
        go_wp2_with fail
        go_roundw
        case rel => exact ⟨j + 1, by go_num, by omega, hrow1, hB1⟩
        case measure => simp [intOf]; omega
      · obtain rfl : R = 1 := by omega
        rw [Nat.pow_one] at hbyte
        obtain ⟨H, hH⟩ : ∃ H, H = d / 256 := ⟨_, rfl⟩
        have q0 : (d : Int) / 256 = (H : Int) := by omega
        have q1 : (H : Int) % 256 = (D : Int) := by omega
        have q2 : IntKind.u8.wrap (D : Int) = (D : Int) := by rw [u8_wrap]; omega
        have hHb : H < 256 := by omega
        clear hbyte hH
        go_wp2_with fail
        go_roundw
        case rel => exact ⟨j + 1, by go_num, by omega, hrow1, hB1⟩
        case measure => simp [intOf]; omega
    · obtain rfl : k = j := by omega
      have hs := hrow.slNum (B := 256) (S := Fresh w wr) ⟨Nat.le_refl _, hrow.lt⟩ (Pl.beP_dig _ _ _) k (by rw [Pl.beP_length]; omega) (by omega) (by rw [Pl.beP_length]; omega)
      rw [Pl.beP_length] at hs
      go_wp2_with fail
      refine (rbits_calls (RefN.below h hB) hn).mono ?_
      rintro e w' ⟨rfl, rfl⟩
      have hdec : Hid (decide (bitLen n ≤ 8 * k) = decide ((bitLen n : Int) ≤ 8 * (k : Int))) := by
        show _ = _
        rw [Bool.eq_iff_iff, decide_eq_true_iff, decide_eq_true_iff]; omega
      go_wp2_with fail
      go_ret2
      exact ⟨⟨_, by rw [hdec.out]; rfl, hs⟩, hB⟩

end Go.Proofs.Ytphbacggmhjmgaa
