/- The statements on mont, third part: the walk of MontInverts. -/
import Derived.Test.YtigdeaeoejpnlaaMontLawB
namespace Go.Proofs.Ytigdeaeoejpnlaa
open Go.RowKit

theorem mod_lt_big {m : Nat} (h : m < B64 ^ 8) : m < B64 ^ 20000 := pow_lim B64 m 8 20000 B64_pos h (by omega)
theorem ref_one {S : Nat → Prop} {w : World} {v : Value} (h : RefN.rep S w 1 [v]) : ∃ b o cap, v = .slice (some ⟨b, o, none⟩) 1 cap ∧ 1 ≤ cap ∧ cap ≤ 9223372036854775807 ∧ w.cell? ⟨b, o, none⟩ = some (.int .i64 1) := by
  obtain ⟨xs, hx, hc, hv⟩ := h
  have hl := (Pl.canon_len_le (B := 65536) (n := 1) (by omega) (num_dig hx) hc).2 (by rw [hv]; omega)
  have hp : 0 < xs.length := by
    rcases Nat.eq_zero_or_pos xs.length with h | h
    · obtain rfl := List.eq_nil_of_length_eq_zero h
      rw [Pl.val_nil] at hv; omega
    · exact h
  obtain ⟨d, rfl⟩ : ∃ d, xs = [d] := List.length_eq_one_iff.1 (by omega)
  obtain rfl : d = 1 := by rw [← hv, Pl.val_one]
  obtain ⟨A, cap, rfl, hcap, hcm⟩ := sl_open hx
  obtain ⟨b, o, rfl, _, hcell, _⟩ := num_at hx 0 (by simp)
  exact ⟨b, o, cap, rfl, by simpa using hcap, hcm, by simpa using hcell⟩
theorem ref_not_one {S : Nat → Prop} {w : World} {n : Nat} {v : Value} (h : RefN.rep S w n [v]) (hn : n ≠ 1) : ∃ A l cap, v = .slice A l cap ∧ l ≤ cap ∧ cap ≤ 9223372036854775807 ∧ (l ≠ 1 ∨ ∃ b o d, l = 1 ∧ A = some ⟨b, o, none⟩ ∧ w.cell? ⟨b, o, none⟩ = some (.int .i64 ((d : Nat) : Int)) ∧ d ≠ 1 ∧ d < 65536) := by
  obtain ⟨xs, hx, hc, hv⟩ := h
  obtain ⟨A, cap, rfl, hcap, hcm⟩ := sl_open hx
  refine ⟨A, xs.length, cap, rfl, hcap, hcm, ?_⟩
  by_cases hl : xs.length = 1
  · right
    obtain ⟨d, rfl⟩ : ∃ d, xs = [d] := List.length_eq_one_iff.1 hl
    obtain ⟨b, o, rfl, _, hcell, hd⟩ := num_at hx 0 (by simp)
    refine ⟨b, o, d, rfl, rfl, by simpa using hcell, ?_, by simpa using hd⟩
    intro e; subst e; rw [Pl.val_one] at hv; exact hn hv.symm
  · exact .inl hl

set_option maxHeartbeats 8000000 in
set_option maxRecDepth 100000 in
theorem inverts_calls (w : World) {xs ys : List Nat} {v0 v1 : Value} (h0 : NatS.rep (· < w.heap.size) w xs [v0]) (h1 : NatS.rep (· < w.heap.size) w ys [v1]) :
    Calls Try.prog 7 #[v0, v1] w fun e w' => e = .returned (.bool true) ∧ Below w.heap.size w w' := by
  have ee2 := fun W => code_eql 2 2 W
  have ee6 := fun W => code_eql 6 6 W
  have r0 := raw_of h0
  have r1 := raw_of h1
  obtain ⟨A0, c0, rfl, hc0, _⟩ := sl_open h0
  obtain ⟨A1, c1, rfl, hc1, _⟩ := sl_open h1
  obtain ⟨m, hm⟩ : ∃ m, m = Pl.val B64 xs := ⟨_, rfl⟩
  obtain ⟨a, ha⟩ : ∃ a, a = Pl.val B64 ys := ⟨_, rfl⟩
  rw [← hm] at r0
  rw [← ha] at r1
  clear hm ha h0 h1
  go_enter Try.func7, Try.ntmps7
  go_wp2_with fail
  refine (mup_calls w).mono ?_
  rintro e w1 ⟨rfl, hb1⟩
  by_cases hl0 : 300 < xs.length
  · go_wp2_with fail
    go_ret
    exact ⟨rfl, hb1⟩
  by_cases hl1 : 300 < ys.length
  · go_wp2_with fail
    go_ret
    exact ⟨rfl, hb1⟩
  have s0 := rep_up r0 hb1
  have s1 := rep_up r1 hb1
  clear r0 r1
  rcases good_dec m with hg | hg
  · go_wp2_with fail
    refine (made_ok s0 (by omega) hg).mono ?_
    rintro e w2 ⟨⟨v, rfl, hv⟩, hb2⟩
    have hB2 := below_trans hb1 hb2
    have t0 := rep_up s0 hb2
    have t1 := rep_up s1 hb2
    have hM := ModP.old hv
    clear s0 s1 hv hb1 hb2
    go_wp2_with fail
    refine (minv_calls hM t1).mono ?_
    rintro e w3 ⟨he, hb3⟩
    have hB3 := below_trans hB2 hb3
    have u0 := rep_up t0 hb3
    have u1 := rep_up t1 hb3
    clear t0 t1 hM
    unfold InvPost at he
    by_cases hlong : B64 ^ 64 ≤ a
    · rw [if_pos hlong, show errV 2 = .iface 36 (.int .i64 2) from rfl] at he
      subst he
      have hd1 : decide (B64 ^ 64 ≤ a) = true := by simp [hlong]
      have Hd1 := hid hd1
      clear hd1 hlong
      go_wp2_with fail
      refine (long_calls u1).mono ?_
      rintro e w4 ⟨rfl, rfl⟩
      rw [Hd1.out]
      go_wp2_with fail
      go_ret
      exact ⟨rfl, hB3⟩
    · rw [if_neg hlong] at he
      have hd1 : decide (B64 ^ 64 ≤ a) = false := by simp; omega
      have Hd1 := hid hd1
      have he := hid he
      clear hd1 hlong
      obtain ⟨xv, ev, rfl⟩ : ∃ xv ev, e = .returned (.tuple #[xv, ev]) := by
        have := he.out
        split at this
        · exact ⟨_, _, this⟩
        · obtain ⟨y, u, e1, _⟩ := this
          exact ⟨_, _, e1⟩
      rename_i he0
      clear he0
      go_wp2_with fail
      refine (long_calls u1).mono ?_
      rintro e w4 ⟨rfl, rfl⟩
      rw [Hd1.out]
      go_wp2_with fail
      refine (limbs_calls u0).mono ?_
      rintro e w4 ⟨⟨l0, rfl, hll0⟩, rfl⟩
      replace hll0 := hid hll0
      by_cases hm8 : 8 < l0
      · go_wp2_with fail
        go_ret
        exact ⟨rfl, hB3⟩
      go_wp2_with fail
      refine (limbs_calls u1).mono ?_
      rintro e w4 ⟨⟨l1, rfl, hll1⟩, rfl⟩
      replace hll1 := hid hll1
      by_cases ha16 : 16 < l1
      · go_wp2_with fail
        go_ret
        exact ⟨rfl, hB3⟩
      have bm := (hll0.out 8).1 (by omega)
      have ba := (hll1.out 16).1 (by omega)
      have hm0 : 0 < m := by unfold Good at hg; omega
      have hm1 : 1 < m := by unfold Good at hg; omega
      have sa : Small a := small_limbs ba (by omega)
      have sm : Small m := small_limbs bm (by omega)
      have sm2 : Small (2 * m) := by
        refine small_limbs (k := 9) ?_ (by omega)
        have e1 : B64 ^ 9 = B64 * B64 ^ 8 := by rw [Nat.mul_comm, ← Nat.pow_succ]
        rw [e1]
        exact Nat.mul_lt_mul'' (by unfold B64; omega) bm
      have hxm := Nat.mod_lt a hm0
      have sxm : Small (2 * (a % m)) := sm2.le (by omega)
      have sya : ∀ y, y < m → Small (y * a) := by
        intro y hy
        refine small_limbs (k := 24) ?_ (by omega)
        have e1 : B64 ^ 24 = B64 ^ 8 * B64 ^ 16 := by rw [← Nat.pow_add]
        rw [e1]
        exact Nat.mul_lt_mul'' (by omega) ba
      replace sya := hid sya
      have hmb := mod_lt_big bm
      clear hll0 hll1 bm ba Hd1
      go_wp2_with fail
      refine (of_raw u0 (by omega)).mono ?_
      rintro e w4 ⟨⟨rm, rfl, hrm⟩, hb4⟩
      go_wp2_with fail
      refine (of_raw (rep_up u1 hb4) (by omega)).mono ?_
      rintro e w5 ⟨⟨ra, rfl, hra⟩, hb5⟩
      have hb35 := below_trans hb4 hb5
      go_wp2_with fail
      refine (rrest_calls hra (RefN.below hrm hb5) sa sm2 hm0).mono ?_
      rintro e w6 ⟨⟨rx, rfl, hrx⟩, hb6⟩
      have hb36 := below_trans hb35 hb6
      have hrm6 := RefN.old (RefN.below hrm (below_trans hb5 hb6))
      go_wp2_with fail
      refine (rgcd_calls hrm6 hrx sm2 sxm).mono ?_
      rintro e w7 ⟨⟨rg, rfl, hrg⟩, hb7⟩
      have hb37 := below_trans hb36 hb7
      have hB7 := below_trans hB3 hb37
      have u17 := rep_up u1 hb37
      have hrm7 := rep_up hrm6 hb7
      by_cases hgcd : Nat.gcd m (a % m) = 1
      · have he2 := he.out
        rw [if_neg (by rw [hgcd]; simp)] at he2
        obtain ⟨y, u, e1, hy, hym, hya⟩ := he2
        simp only [Ending.returned.injEq, Value.tuple.injEq, Array.mk.injEq, List.cons.injEq, and_true] at e1
        obtain ⟨rfl, rfl⟩ := e1
        have hy7 := NumN.old (NumN.below hy hb37)
        rw [hgcd] at hrg
        obtain ⟨gb, go, gcap, rfl, hg1, hg2, hgc⟩ := ref_one hrg
        have hyb : y < B64 ^ 20000 := Nat.lt_trans hym hmb
        have sy : Small y := sm.le (by omega)
        have syy := sya.out y hym
        have Hya := hid hya
        replace hyb := hid hyb
        clear hgcd he hya hy hrg hrx hra hmb
        go_wp2_with fail
        refine (of_num hy7 hyb.out).mono ?_
        rintro e w8 ⟨⟨ru, rfl, hru⟩, hb8⟩
        go_wp2_with fail
        refine (of_raw (rep_up u17 hb8) (by omega)).mono ?_
        rintro e w9 ⟨⟨ra, rfl, hra⟩, hb9⟩
        have hb79 := below_trans hb8 hb9
        go_wp2_with fail
        refine (rmul_calls (RefN.below hru hb9) hra sy sa).mono ?_
        rintro e w10 ⟨⟨rp, rfl, hrp⟩, hb10⟩
        have hb710 := below_trans hb79 hb10
        go_wp2_with fail
        refine (rrest_calls hrp (RefN.below hrm7 hb710) syy sm2 hm0).mono ?_
        rintro e w11 ⟨⟨rq, rfl, hrq⟩, hb11⟩
        have hb711 := below_trans hb710 hb11
        rw [Hya.out] at hrq
        obtain ⟨pb, po, pcap, rfl, hp1, hp2, hpc⟩ := ref_one hrq
        have hru11 := RefN.below (RefN.below hru hb9) (below_trans hb10 hb11)
        have hcmp : Pl.cmp y m = -1 := Pl.cmp_lt hym
        have Hcmp := hid hcmp
        clear hcmp hrq hrp hra hru
        go_wp2_with fail
        refine (rcmp_calls hru11 (RefN.below hrm7 hb711)).mono ?_
        rintro e w12 ⟨rfl, hst⟩
        rw [Hcmp.out]
        have hB12 := still_below (below_trans hB7 hb711) hst
        have hru12 := hst.rep _ hru11
        have hy12 := hst.rep _ (NumN.below hy7 hb711)
        go_wp2_with fail
        refine (num_calls hru12 sy).mono ?_
        rintro e w13 ⟨⟨nv, rfl, hnv⟩, hb13⟩
        have hB13 := below_trans hB12 hb13
        go_wp2_with fail
        refine (same_num (NumN.below hy12 hb13) hnv).mono ?_
        rintro e w14 ⟨rfl, hst2⟩
        have hB14 := still_below hB13 hst2
        go_wp2_with fail
        go_ret
        exact ⟨rfl, hB14⟩
      · have he2 := he.out
        rw [if_pos hgcd, show errV 6 = .iface 36 (.int .i64 6) from rfl] at he2
        simp only [Ending.returned.injEq, Value.tuple.injEq, Array.mk.injEq, List.cons.injEq, and_true] at he2
        obtain ⟨rfl, rfl⟩ := he2
        obtain ⟨gA, gl, gcap, rfl, hgl, hgm, hcase⟩ := ref_not_one hrg hgcd
        rcases hcase with hne | ⟨gb, go, d, rfl, rfl, hgc, hd1, hdb⟩
        · have q0 : ((gl : Int) == 1) = false := by rw [beq_eq_false_iff_ne]; omega
          have q1 : ((gl : Int) != 1) = true := by rw [bne_iff_ne]; omega
          clear hgcd he hrg hne
          go_wp2_with fail
          go_ret
          exact ⟨rfl, hB7⟩
        · have q0 : ((d : Int) == 1) = false := by rw [beq_eq_false_iff_ne]; omega
          have q1 : ((d : Int) != 1) = true := by rw [bne_iff_ne]; omega
          clear hgcd he hrg hd1
          go_wp2_with fail
          go_ret
          exact ⟨rfl, hB7⟩
  · go_wp2_with fail
    refine (made_bad s0 (by omega) hg).mono ?_
    rintro e w2 ⟨rfl, hb2⟩
    go_wp2_with fail
    go_ret
    exact ⟨rfl, below_trans hb1 hb2⟩

end Go.Proofs.Ytigdeaeoejpnlaa
