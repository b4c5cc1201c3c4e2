/- The statements on mont, second part: the walks of MontPowers and MontInverts. -/
import Derived.Test.YtigdeaeoejpnlaaMontLawA
import Derived.Test.YtigdeaeoejpnlaaReads
namespace Go.Proofs.Ytigdeaeoejpnlaa
open Go.RowKit

theorem reads_nat : Reads Try.prog 47 NatS :=
  reads_slice Try.underlying47 (reads_num (B := B64) Try.underlying27 rfl (by decide)) (by kernel_rfl) (by kernel_rfl) (by decide)
theorem good_dec (m : Nat) : Good m ∨ ¬ Good m := by unfold Good; omega
theorem num_eq {S T : Nat → Prop} {w : World} {n : Nat} {va vb : Value} (ha : NumN.rep S w n [va]) (hb : NumN.rep T w n [vb]) : ∃ xs, NatS.rep S w xs [va] ∧ NatS.rep T w xs [vb] := by
  obtain ⟨xs, hx, cx, ex⟩ := ha
  obtain ⟨ys, hy, cy, ey⟩ := hb
  obtain rfl := Pl.canon_ext B64_pos (num_dig hx) (num_dig hy) cx cy (ex.trans ey.symm)
  exact ⟨xs, hx, hy⟩
theorem same_num {w : World} {S T : Nat → Prop} {n : Nat} {va vb : Value} (ha : NumN.rep S w n [va]) (hb : NumN.rep T w n [vb]) :
    Calls Try.prog 29 #[va, vb] w fun e w' => e = .returned (.bool true) ∧ Still w w' := by
  obtain ⟨xs, hx, hy⟩ := num_eq ha hb
  refine (rsame_calls hx hy).mono fun e w' ⟨h, hs⟩ => ⟨?_, hs⟩
  rw [h]; simp

set_option maxHeartbeats 8000000 in
set_option maxRecDepth 100000 in
theorem powers_calls (w : World) {xs ys zs : List Nat} {v0 v1 v2 : Value} (h0 : NatS.rep (· < w.heap.size) w xs [v0]) (h1 : NatS.rep (· < w.heap.size) w ys [v1]) (h2 : NatS.rep (· < w.heap.size) w zs [v2]) :
    Calls Try.prog 6 #[v0, v1, v2] w fun e w' => e = .returned (.bool true) ∧ Below w.heap.size w w' := by
  have ee2 := fun W => code_eql 2 2 W
  have r0 := raw_of h0
  have r1 := raw_of h1
  have r2 := raw_of h2
  obtain ⟨A0, c0, rfl, hc0, _⟩ := sl_open h0
  obtain ⟨A1, c1, rfl, hc1, _⟩ := sl_open h1
  obtain ⟨A2, c2, rfl, hc2, _⟩ := sl_open h2
  obtain ⟨m, hm⟩ : ∃ m, m = Pl.val B64 xs := ⟨_, rfl⟩
  obtain ⟨a, ha⟩ : ∃ a, a = Pl.val B64 ys := ⟨_, rfl⟩
  obtain ⟨k, hk⟩ : ∃ k, k = Pl.val B64 zs := ⟨_, rfl⟩
  rw [← hm] at r0
  rw [← ha] at r1
  rw [← hk] at r2
  clear hm ha hk h0 h1 h2
  go_enter Try.func6, Try.ntmps6
  go_wp2_with fail
  refine (mup_calls w).mono ?_
  rintro e w1 ⟨rfl, hb1⟩
  by_cases hl0 : 300 < xs.length
  · go_wp2_with fail
    go_ret
    exact ⟨rfl, hb1⟩
  by_cases hl1 : 300 < ys.length
  · go_wp2_with fail
    go_ret
    exact ⟨rfl, hb1⟩
  by_cases hl2 : 300 < zs.length
  · go_wp2_with fail
    go_ret
    exact ⟨rfl, hb1⟩
  have s0 := rep_up r0 hb1
  have s1 := rep_up r1 hb1
  have s2 := rep_up r2 hb1
  clear r0 r1 r2
  rcases good_dec m with hg | hg
  · go_wp2_with fail
    refine (made_ok s0 (by omega) hg).mono ?_
    rintro e w2 ⟨⟨v, rfl, hv⟩, hb2⟩
    have hB2 := below_trans hb1 hb2
    have t0 := rep_up s0 hb2
    have t1 := rep_up s1 hb2
    have t2 := rep_up s2 hb2
    have hM := ModP.old hv
    clear s0 s1 s2 hv hb1 hb2
    by_cases hlong : B64 ^ 64 ≤ a ∨ B64 ^ 64 ≤ k
    · have hexp : Hid (modExpE m a k = .error 2) := by show _ = _; unfold modExpE; rw [if_pos hlong]
      go_wp2_with fail
      refine (long_calls t1).mono ?_
      rintro e w3 ⟨rfl, rfl⟩
      by_cases hla : B64 ^ 64 ≤ a
      · have hd1 : decide (B64 ^ 64 ≤ a) = true := by simp [hla]
        rw [hd1]
        clear hd1 hla
        go_wp2_with fail
        refine (mexp_calls hM t1 t2).mono ?_
        rintro e w4 ⟨he, hb4⟩
        rw [hexp.out] at he
        have he2 : e = .returned (.tuple #[.slice none 0 0, .iface 36 (.int .i64 2)]) := he
        subst he2
        go_wp2_with fail
        go_ret
        exact ⟨rfl, below_trans hB2 hb4⟩
      · have hd1 : decide (B64 ^ 64 ≤ a) = false := by simp; omega
        rw [hd1]
        clear hd1
        go_wp2_with fail
        refine (long_calls t2).mono ?_
        rintro e w3 ⟨rfl, rfl⟩
        have hd2 : decide (B64 ^ 64 ≤ k) = true := by simp; omega
        rw [hd2]
        clear hd2 hla
        go_wp2_with fail
        refine (mexp_calls hM t1 t2).mono ?_
        rintro e w4 ⟨he, hb4⟩
        rw [hexp.out] at he
        have he2 : e = .returned (.tuple #[.slice none 0 0, .iface 36 (.int .i64 2)]) := he
        subst he2
        go_wp2_with fail
        go_ret
        exact ⟨rfl, below_trans hB2 hb4⟩
    · have hexp : Hid (modExpE m a k = .ok (a ^ k % m)) := by show _ = _; unfold modExpE; rw [if_neg hlong]
      have hd1 : decide (B64 ^ 64 ≤ a) = false := by simp; omega
      have hd2 : decide (B64 ^ 64 ≤ k) = false := by simp; omega
      have Hd1 := hid hd1
      have Hd2 := hid hd2
      clear hd1 hd2
      go_wp2_with fail
      refine (long_calls t1).mono ?_
      rintro e w3 ⟨rfl, rfl⟩
      rw [Hd1.out]
      go_wp2_with fail
      refine (long_calls t2).mono ?_
      rintro e w3 ⟨rfl, rfl⟩
      rw [Hd2.out]
      go_wp2_with fail
      refine (limbs_calls t0).mono ?_
      rintro e w3 ⟨⟨l0, rfl, hll0⟩, rfl⟩
      replace hll0 := hid hll0
      by_cases hm6 : 6 < l0
      · go_wp2_with fail
        go_ret
        exact ⟨rfl, hB2⟩
      go_wp2_with fail
      refine (limbs_calls t2).mono ?_
      rintro e w3 ⟨⟨l2, rfl, hll2⟩, rfl⟩
      replace hll2 := hid hll2
      by_cases hk3 : 3 < l2
      · go_wp2_with fail
        go_ret
        exact ⟨rfl, hB2⟩
      go_wp2_with fail
      refine (limbs_calls t1).mono ?_
      rintro e w3 ⟨⟨l1, rfl, hll1⟩, rfl⟩
      replace hll1 := hid hll1
      by_cases ha12 : 12 < l1
      · go_wp2_with fail
        go_ret
        exact ⟨rfl, hB2⟩
      have bm := (hll0.out 6).1 (by omega)
      have bk := (hll2.out 3).1 (by omega)
      have ba := (hll1.out 12).1 (by omega)
      have sa : Small a := small_limbs ba (by omega)
      have sk : Small k := small_limbs bk (by omega)
      have smm : Small (2 * (m * m)) := by
        refine small_limbs (k := 13) ?_ (by omega)
        have e1 : B64 ^ 13 = B64 * (B64 ^ 6 * B64 ^ 6) := by rw [← Nat.pow_add, Nat.mul_comm, ← Nat.pow_succ]
        rw [e1]
        exact Nat.mul_lt_mul'' (by unfold B64; omega) (Nat.mul_lt_mul'' bm bm)
      have hm0 : 0 < m := by unfold Good at hg; omega
      have sres : Small (a ^ k % m) := (small_limbs bm (by omega)).le (by have := Nat.mod_lt (a ^ k) hm0; omega)
      replace sa := hid sa
      replace sk := hid sk
      replace smm := hid smm
      replace sres := hid sres
      clear hll0 hll1 hll2 bm bk ba hlong Hd1 Hd2
      go_wp2_with fail
      refine (mexp_calls hM t1 t2).mono ?_
      rintro e w4 ⟨he, hb4⟩
      rw [hexp.out] at he
      obtain ⟨xv, rfl, hx⟩ := he
      rw [errV_zero]
      have hB4 := below_trans hB2 hb4
      have u0 := rep_up t0 hb4
      have u1 := rep_up t1 hb4
      have u2 := rep_up t2 hb4
      have hx4 := NumN.old hx
      clear t0 t1 t2 hx hM
      go_wp2_with fail
      refine (of_raw u1 (by omega)).mono ?_
      rintro e w5 ⟨⟨ra, rfl, hra⟩, hb5⟩
      go_wp2_with fail
      refine (of_raw (rep_up u2 hb5) (by omega)).mono ?_
      rintro e w6 ⟨⟨rk, rfl, hrk⟩, hb6⟩
      have hb46 := below_trans hb5 hb6
      go_wp2_with fail
      refine (of_raw (rep_up u0 hb46) (by omega)).mono ?_
      rintro e w7 ⟨⟨rm, rfl, hrm⟩, hb7⟩
      have hb47 := below_trans hb46 hb7
      go_wp2_with fail
      refine (rexp_calls (RefN.below hra (below_trans hb6 hb7)) (RefN.below hrk hb7) hrm sa.out sk.out smm.out hm0).mono ?_
      rintro e w8 ⟨⟨rx, rfl, hrx⟩, hb8⟩
      have hb48 := below_trans hb47 hb8
      go_wp2_with fail
      refine (num_calls hrx sres.out).mono ?_
      rintro e w9 ⟨⟨wv, rfl, hwv⟩, hb9⟩
      have hb49 := below_trans hb48 hb9
      have hx9 := rep_up hx4 hb49
      go_wp2_with fail
      refine (same_num hx9 hwv).mono ?_
      rintro e w10 ⟨rfl, hst⟩
      have hB10 := still_below (below_trans hB4 hb49) hst
      go_wp2_with fail
      go_ret
      exact ⟨rfl, hB10⟩
  · go_wp2_with fail
    refine (made_bad s0 (by omega) hg).mono ?_
    rintro e w2 ⟨rfl, hb2⟩
    go_wp2_with fail
    go_ret
    exact ⟨rfl, below_trans hb1 hb2⟩

end Go.Proofs.Ytigdeaeoejpnlaa
