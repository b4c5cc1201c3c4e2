/- The statements on mont, first part: what they share. -/
import Derived.Test.YtigdeaeoejpnlaaRefE
import Derived.Test.YtigdeaeoejpnlaaMontH
namespace Go.Proofs.Ytigdeaeoejpnlaa
open Go.RowKit

theorem code_eql (a b : Int) (W : World) : (binOp .eql 34 (.iface 36 (.int .i64 a)) (.iface 36 (.int .i64 b))).run Try.prog W = .ok (.bool (a == b)) W := by
  have hinfo : (Try.prog.info? 36).map (fun i => i.comparable) = some true := by kernel_rfl
  obtain ⟨i, hi, hc⟩ := Option.map_eq_some_iff.1 hinfo
  exact run_eql_iface_int W a b Try.underlying34 Try.underlying36 hi hc

theorem one_true {w : World} {S : Nat → Prop} {x : Nat} {v : Value} (h : NumN.rep S w x [v]) (h0 : 0 < x) (hx : x < B64) :
    Calls Try.prog 49 #[v, .int .u64 (x : Int)] w fun e w' => e = .returned (.bool true) ∧ w = w' := by
  obtain ⟨xs, hxs, hc, hv⟩ := h
  have hl := (Pl.canon_len_le (n := 1) B64_gt (num_dig hxs) hc).2 (by rw [hv, Nat.pow_one]; exact hx)
  have hp : 0 < xs.length := by
    rcases Nat.eq_zero_or_pos xs.length with h | h
    · obtain rfl := List.eq_nil_of_length_eq_zero h
      rw [Pl.val_nil] at hv; omega
    · exact h
  obtain ⟨d, rfl⟩ : ∃ d, xs = [d] := List.length_eq_one_iff.1 (by omega)
  obtain rfl : d = x := by rw [← hv, Pl.val_one]
  obtain ⟨A, cap, rfl, hcap, hcm⟩ := sl_open hxs
  obtain ⟨b, o, rfl, _, hcell, hbd⟩ := num_at hxs 0 (by simp)
  have hcell' : w.cell? ⟨b, o, none⟩ = some (.int .u64 (d : Int)) := by simpa using hcell
  simp only [List.length_singleton]
  clear hcell hv
  go_enter Try.func49, Try.ntmps49
  go_wp2
  go_ret
  exact ⟨rfl, rfl⟩

theorem num_calls {w : World} {S : Nat → Prop} {n : Nat} {v : Value} (h0 : RefN.rep S w n [v]) (hn : Small n) :
    Calls Try.prog 26 #[v] w fun e w' => (∃ u, e = .returned u ∧ NumN.rep (Fresh w w') w' n [u]) ∧ Below w.heap.size w w' := by
  go_enter Try.func26, Try.ntmps26
  go_wp2_with fail
  refine (to_calls h0 hn).mono ?_
  rintro e w' ⟨⟨u, rfl, hu⟩, hb⟩
  go_wp2
  go_ret
  exact ⟨⟨_, rfl, hu⟩, hb⟩

theorem long_calls {w : World} {S : Nat → Prop} {n : Nat} {v : Value} (h : RawN.rep S w n [v]) :
    Calls Try.prog 23 #[v] w fun e w' => e = .returned (.bool (decide (B64 ^ 64 ≤ n))) ∧ w = w' := by
  go_enter Try.func23, Try.ntmps23
  go_wp2_with fail
  refine (limbs_calls h).mono ?_
  rintro e w' ⟨⟨l, rfl, hl⟩, rfl⟩
  have h64 := hl 64
  have Hl := hid hl
  clear hl
  by_cases hlt : l ≤ 64
  · have hn : Hid (decide (B64 ^ 64 ≤ n) = false) := by
      show _ = _
      rw [decide_eq_false_iff_not]; have := h64.1 hlt; omega
    clear h64
    go_wp2
    go_ret
    exact ⟨by rw [hn.out]; simp; omega, rfl⟩
  · have hn : Hid (decide (B64 ^ 64 ≤ n) = true) := by
      show _ = _
      rw [decide_eq_true_eq]; have := (not_congr h64).1 hlt; omega
    clear h64
    go_wp2
    go_ret
    exact ⟨by rw [hn.out]; simp; omega, rfl⟩

/-- what may be reckoned by -/
def Good (m : Nat) : Prop := m < B64 ^ 32 ∧ m % 2 = 1 ∧ 3 ≤ m

theorem raw_len {w : World} {S : Nat → Prop} {n : Nat} {A : Option Addr} {l cap : Nat} (h : RawN.rep S w n [.slice A l cap]) : ∃ xs, NatS.rep S w xs [.slice A l cap] ∧ Pl.val B64 xs = n ∧ l = xs.length := by
  obtain ⟨xs, hx, hv⟩ := h
  exact ⟨xs, hx, hv, (sl_cap hx).1⟩
theorem of_raw {w : World} {S : Nat → Prop} {n : Nat} {A : Option Addr} {l cap : Nat} (h : RawN.rep S w n [.slice A l cap]) (hl : l ≤ 20000) :
    Calls Try.prog 28 #[.slice A l cap] w fun e w' => (∃ u, e = .returned u ∧ RefN.rep (Fresh w w') w' n [u]) ∧ Below w.heap.size w w' := by
  obtain ⟨xs, hx, rfl, rfl⟩ := raw_len h
  exact of_calls hx hl

set_option maxHeartbeats 4000000 in
set_option maxRecDepth 100000 in
theorem made_ok {w : World} {S : Nat → Prop} {m : Nat} {A : Option Addr} {l cap : Nat} (h : RawN.rep S w m [.slice A l cap]) (hl : l ≤ 20000) (hg : Good m) :
    Calls Try.prog 22 #[.slice A l cap] w fun e w' => (∃ v, e = .returned (.tuple #[v, .bool true, .bool true]) ∧ ModP.rep (Fresh w w') w' m [v]) ∧ Below w.heap.size w w' := by
  obtain ⟨h32, hodd, h3⟩ := hg
  go_enter Try.func22, Try.ntmps22
  go_wp2_with fail
  refine (mnew_calls h).mono ?_
  rintro e w1 ⟨he, hb1⟩
  unfold NewPost at he
  rw [if_neg (by omega), if_neg (by omega)] at he
  obtain ⟨v, rfl, hv⟩ := he
  go_wp2_with fail
  refine (of_raw (RawN.below h hb1) hl).mono ?_
  rintro e w2 ⟨⟨u, rfl, ds, hds, hdc, hdv⟩, hb2⟩
  have hb12 := below_trans hb1 hb2
  have hd := num_dig hds
  obtain ⟨nA, ncap, rfl, hnc, hnm⟩ := sl_open hds
  have hpos : 0 < ds.length := by
    rcases Nat.eq_zero_or_pos ds.length with h | h
    · obtain rfl := List.eq_nil_of_length_eq_zero h
      rw [Pl.val_nil] at hdv; omega
    · exact h
  have hv0 := Pl.val_drop 65536 ds 0 hpos
  rw [List.drop_zero, hdv] at hv0
  obtain ⟨b, o, rfl, _, hcell, hbd⟩ := num_at hds 0 hpos
  rw [Nat.add_zero] at hcell
  have hone : ds.length = 1 → 3 ≤ ds[0] := by
    intro h1
    rw [List.drop_of_length_le (by omega)] at hv0
    simp [Pl.val] at hv0; omega
  obtain ⟨d0, hd0⟩ : ∃ d0, d0 = ds[0] := ⟨_, rfl⟩
  rw [← hd0] at hcell hbd hv0 hone
  obtain ⟨X, hX⟩ : ∃ X, X = Pl.val 65536 (ds.drop (0 + 1)) := ⟨_, rfl⟩
  rw [← hX] at hv0
  have hdo : d0 % 2 = 1 := by omega
  have hv2 := ModP.mono (ModP.below hv hb2) (S' := Fresh w w2) (Fresh.mono (Nat.le_refl _) hb2.size) (Same.refl _ _)
  obtain ⟨g, MA, mcap, inv, tv, ms, rfl, _⟩ := mod_open hv2
  have q0 : ((ds.length : Int) == 0) = false := by rw [beq_eq_false_iff_ne]; omega
  have q1 : ((d0 : Int) % 2 == 0) = false := by rw [beq_eq_false_iff_ne]; omega
  have Hone := hid hone
  clear hv0 hX hd0 hdv hdc hds hone hdo
  go_wp2_with fail
  refine (limbs_calls (RawN.below h hb12)).mono ?_
  rintro e w' ⟨⟨l2, rfl, hl2⟩, rfl⟩
  have hl32 := (hl2 32).2 h32
  have Hl2 := hid hl2
  clear hl2
  by_cases h1 : ds.length = 1
  · have h2 := Hone.out h1
    have q2 : ((ds.length : Int) == 1) = true := by rw [beq_iff_eq]; omega
    have q3 : ¬ (d0 : Int) < 3 := by omega
    have H1 := hid h1
    clear h1
    go_wp2_with fail
    go_quiet (fail)
    have hbq := below_trans hb12 (below_drewN (w := w2) nq)
    have hv3 : ModP.rep (Fresh w (w2.drewN nq)) (w2.drewN nq) m _ := ModP.mono hv2 (fun _ h => h) (fun _ _ => rfl)
    go_wp2
    go_ret3
    exact ⟨⟨_, rfl, hv3⟩, hbq⟩
  · have q2 : ((ds.length : Int) == 1) = false := by rw [beq_eq_false_iff_ne]; omega
    clear h1
    go_wp2_with fail
    go_quiet (fail)
    have hbq := below_trans hb12 (below_drewN (w := w2) nq)
    have hv3 : ModP.rep (Fresh w (w2.drewN nq)) (w2.drewN nq) m _ := ModP.mono hv2 (fun _ h => h) (fun _ _ => rfl)
    go_wp2
    go_ret3
    exact ⟨⟨_, rfl, hv3⟩, hbq⟩

set_option maxHeartbeats 4000000 in
set_option maxRecDepth 100000 in
theorem made_bad {w : World} {S : Nat → Prop} {m : Nat} {A : Option Addr} {l cap : Nat} (h : RawN.rep S w m [.slice A l cap]) (hl : l ≤ 20000) (hg : ¬ Good m) :
    Calls Try.prog 22 #[.slice A l cap] w fun e w' => e = .returned (.tuple #[.pointer none, .bool true, .bool false]) ∧ Below w.heap.size w w' := by
  have e2 := fun W => code_eql 2 2 W
  have e5 := fun W => code_eql 5 5 W
  go_enter Try.func22, Try.ntmps22
  go_wp2_with fail
  refine (mnew_calls h).mono ?_
  rintro e w1 ⟨he, hb1⟩
  unfold NewPost at he
  by_cases h32 : B64 ^ 32 ≤ m
  · rw [if_pos h32, show errV 2 = .iface 36 (.int .i64 2) from rfl] at he
    subst he
    go_wp2_with fail
    refine (of_raw (RawN.below h hb1) hl).mono ?_
    rintro e w2 ⟨⟨u, rfl, _⟩, hb2⟩
    have hb12 := below_trans hb1 hb2
    go_wp2_with fail
    refine (limbs_calls (RawN.below h hb12)).mono ?_
    rintro e w' ⟨⟨l2, rfl, hl2⟩, rfl⟩
    have hl32 : ¬ l2 ≤ 32 := by rw [hl2 32]; omega
    clear hl2
    go_wp2_with fail
    go_quiet (fail)
    have hbq := below_trans hb12 (below_drewN (w := w2) nq)
    go_wp2
    go_ret3
    exact ⟨rfl, hbq⟩
  · have hbad : m % 2 = 0 ∨ m < 3 := by unfold Good at hg; omega
    rw [if_neg h32, if_pos hbad, show errV 5 = .iface 36 (.int .i64 5) from rfl] at he
    subst he
    go_wp2_with fail
    refine (of_raw (RawN.below h hb1) hl).mono ?_
    rintro e w2 ⟨⟨u, rfl, ds, hds, hdc, hdv⟩, hb2⟩
    have hb12 := below_trans hb1 hb2
    have hd := num_dig hds
    obtain ⟨nA, ncap, rfl, hnc, hnm⟩ := sl_open hds
    go_wp2_with fail
    refine (limbs_calls (RawN.below h hb12)).mono ?_
    rintro e w' ⟨⟨l2, rfl, hl2⟩, rfl⟩
    have hl32 := (hl2 32).2 (by omega)
    clear hl2
    rcases Nat.eq_zero_or_pos ds.length with h0 | hpos
    · have q0 : ((ds.length : Int) == 0) = true := by rw [beq_iff_eq]; omega
      have H0 := hid h0
      have Hbad := hid hbad
      clear h0 hds hdc hdv hbad hg
      go_wp2_with fail
      go_quiet (fail)
      have hbq := below_trans hb12 (below_drewN (w := w2) nq)
      go_wp2
      go_ret3
      exact ⟨rfl, hbq⟩
    · have hv0 := Pl.val_drop 65536 ds 0 hpos
      rw [List.drop_zero, hdv] at hv0
      obtain ⟨b, o, rfl, _, hcell, hbd⟩ := num_at hds 0 hpos
      rw [Nat.add_zero] at hcell
      have h1 : ds.length = 1 → m = ds[0] := by
        intro h1
        rw [hv0, List.drop_of_length_le (by omega)]; simp [Pl.val]
      have h2 : 1 < ds.length → 65536 ≤ m := by
        intro h2
        rw [← hdv]
        have := hdc.ge (B := 65536) hpos
        have h3 : 65536 ^ 1 ≤ 65536 ^ (ds.length - 1) := Nat.pow_le_pow_right (by omega) (by omega)
        rw [Nat.pow_one] at h3
        omega
      obtain ⟨d0, hd0⟩ : ∃ d0, d0 = ds[0] := ⟨_, rfl⟩
      rw [← hd0] at hcell hbd hv0 h1
      have q0 : ((ds.length : Int) == 0) = false := by rw [beq_eq_false_iff_ne]; omega
      by_cases hev : d0 % 2 = 0
      · have q1 : ((d0 : Int) % 2 == 0) = true := by rw [beq_iff_eq]; omega
        have Hbad := hid hbad
        have Hev := hid hev
        clear hev hds hdc hdv hbad hv0 h1 h2 hd0 hg
        go_wp2_with fail
        go_quiet (fail)
        have hbq := below_trans hb12 (below_drewN (w := w2) nq)
        go_wp2
        go_ret3
        exact ⟨rfl, hbq⟩
      · have q1 : ((d0 : Int) % 2 == 0) = false := by rw [beq_eq_false_iff_ne]; omega
        have hb3 : m < 3 := by
          rcases hbad with h | h
          · omega
          · exact h
        have h11 : ds.length = 1 := by
          rcases Nat.lt_or_ge 1 ds.length with h | h
          · have := h2 h; omega
          · omega
        have hm3 : (d0 : Int) < 3 := by have := h1 h11; omega
        have q2 : ((ds.length : Int) == 1) = true := by rw [beq_iff_eq]; omega
        have H11 := hid h11
        have Hbad := hid hbad
        clear hev hds hdc hdv hbad hv0 h1 h2 hd0 h11 hg
        go_wp2_with fail
        go_quiet (fail)
        have hbq := below_trans hb12 (below_drewN (w := w2) nq)
        go_wp2
        go_ret3
        exact ⟨rfl, hbq⟩

theorem lit_num (w : World) (x : Nat) (h0 : 0 < x) (hx : x < B64) (g : Nat) (hg : g = w.heap.size) : NumN.rep (· < (w.alloc (.cells #[.int .u64 (x : Int)] 27)).heap.size) (w.alloc (.cells #[.int .u64 (x : Int)] 27)) x [.slice (some ⟨g, 0, none⟩) 1 1] := by
  subst hg
  have h := lit1 w x hx
  exact ⟨[x], NatS.mono h (by rintro b rfl; simp) (Same.refl _ _), by simp [Pl.Canon]; omega, Pl.val_one _ _⟩
theorem mod_ptr {S : Nat → Prop} {w : World} {m : Nat} {v : Value} (h : ModP.rep S w m [v]) : ∃ g : Nat, v = .pointer (some ⟨g, 0, none⟩) := by
  obtain ⟨g, A, cap, inv, tv, ms, rfl, _⟩ := mod_open h
  exact ⟨g, rfl⟩

set_option maxHeartbeats 4000000 in
set_option maxRecDepth 100000 in
theorem mup_calls (w : World) : Calls Try.prog 21 #[] w fun e w' => e = .returned (.bool true) ∧ Below w.heap.size w w' := by
  have big : 23 < B64 ^ 32 := Nat.lt_of_lt_of_le (show 23 < B64 ^ 1 by decide) (Nat.pow_le_pow_right B64_pos (by omega))
  have big2 : B64 ^ 32 ≤ B64 ^ 64 := B32_64
  have ee6 := fun W => code_eql 6 6 W
  have ee5 := fun W => code_eql 5 5 W
  have hb0 := below_alloc (Below.refl w.heap.size w) (.cells #[.int .u64 23] 27)
  go_enter Try.func21, Try.ntmps21
  go_wp2_with fail
  refine (mnew_calls (num_raw (lit_num w 23 (by omega) (by decide) _ rfl))).mono ?_
  rintro e w1 ⟨he, hb1⟩
  unfold NewPost at he
  rw [if_neg (by omega), if_neg (by omega)] at he
  obtain ⟨v, rfl, hv⟩ := he
  have hB1 := below_trans hb0 hb1
  have hM1 := ModP.old hv
  obtain ⟨g, rfl⟩ := mod_ptr hv
  clear hv
  have hba := below_alloc (Below.refl w1.heap.size w1) (.cells #[.int .u64 2] 27)
  have hbb := below_alloc hba (.cells #[.int .u64 11] 27)
  have l2 := NumN.old (NumN.below (lit_num w1 2 (by omega) (by decide) _ rfl) (below_alloc (Below.refl _ (w1.alloc (.cells #[.int .u64 2] 27))) (.cells #[.int .u64 11] 27)))
  have l11 := lit_num (w1.alloc (.cells #[.int .u64 2] 27)) 11 (by omega) (by decide) (w1.heap.size + 1) (by simp)
  have hx1 : modExpE 23 2 11 = .ok 1 := by unfold modExpE; rw [if_neg (by omega)]
  have Hx1 := hid hx1
  clear hx1
  go_wp2_with fail
  refine (mexp_calls (ModP.below hM1 hbb) (num_raw l2) (num_raw l11)).mono ?_
  rintro e w2 ⟨he, hb2⟩
  rw [Hx1.out] at he
  obtain ⟨av, rfl, ha⟩ := he
  rw [errV_zero]
  have hB2 := below_trans (below_trans hB1 hbb) hb2
  have hM2 := rep_up hM1 (below_trans hbb hb2)
  have ha2 := NumN.old ha
  clear hba hbb l2 l11 ha hb2 hM1
  have hx1 : modExpE 23 0 0 = .ok 1 := by unfold modExpE; rw [if_neg (by omega)]
  have Hx1 := hid hx1
  clear hx1
  go_wp2_with fail
  refine (mexp_calls hM2 (num_raw (NumN.zero (fun _ => False) w2)) (num_raw (NumN.zero (fun _ => False) w2))).mono ?_
  rintro e w3 ⟨he, hb3⟩
  rw [Hx1.out] at he
  obtain ⟨bv, rfl, hb⟩ := he
  rw [errV_zero]
  have hB3 := below_trans hB2 hb3
  have hM3 := rep_up hM2 hb3
  have ha3 := rep_up ha2 hb3
  have hbv3 := NumN.old hb
  clear hb hb3 ha2 hM2
  have hbc := below_alloc (Below.refl w3.heap.size w3) (.cells #[.int .u64 5] 27)
  have l5 := lit_num w3 5 (by omega) (by decide) _ rfl
  go_wp2_with fail
  refine (minv_calls (ModP.below hM3 hbc) (num_raw l5)).mono ?_
  rintro e w4 ⟨he, hb4⟩
  unfold InvPost at he
  rw [if_neg (by omega), if_neg (by decide)] at he
  obtain ⟨y, cv, rfl, hc, hy1, hy2⟩ := he
  obtain rfl : y = 14 := by omega
  have hb34 := below_trans hbc hb4
  have hB4 := below_trans hB3 hb34
  have hM4 := rep_up hM3 hb34
  have ha4 := rep_up ha3 hb34
  have hbv4 := rep_up hbv3 hb34
  have hc4 := NumN.old hc
  clear hc hb4 hbc l5 hb34 ha3 hbv3 hM3 hy1 hy2
  have hba := below_alloc (Below.refl w4.heap.size w4) (.cells #[.int .u64 1] 27)
  have hbb := below_alloc hba (.cells #[.int .u64 2] 27)
  have l1 := NumN.old (NumN.below (lit_num w4 1 (by omega) (by decide) _ rfl) (below_alloc (Below.refl _ (w4.alloc (.cells #[.int .u64 1] 27))) (.cells #[.int .u64 2] 27)))
  have l2 := lit_num (w4.alloc (.cells #[.int .u64 1] 27)) 2 (by omega) (by decide) (w4.heap.size + 1) (by simp)
  have hx1 : modSubE 23 1 2 = .ok 22 := by unfold modSubE; rw [if_neg (by omega)]
  have Hx1 := hid hx1
  clear hx1
  go_wp2_with fail
  refine (msub_calls (ModP.below hM4 hbb) (num_raw l1) (num_raw l2)).mono ?_
  rintro e w5 ⟨he, hb5⟩
  rw [Hx1.out] at he
  obtain ⟨dv, rfl, hd⟩ := he
  rw [errV_zero]
  have hb45 := below_trans hbb hb5
  have hB5 := below_trans hB4 hb45
  have hM5 := rep_up hM4 hb45
  have ha5 := rep_up ha4 hb45
  have hbv5 := rep_up hbv4 hb45
  have hc5 := rep_up hc4 hb45
  have hd5 := NumN.old hd
  clear hd hb5 hba hbb l1 l2 hb45 ha4 hbv4 hc4 hM4
  go_wp2_with fail
  refine (minv_calls hM5 (num_raw (NumN.zero (fun _ => False) w5))).mono ?_
  rintro e w6 ⟨he, hb6⟩
  unfold InvPost at he
  rw [if_neg (by omega), if_pos (by decide), show errV 6 = .iface 36 (.int .i64 6) from rfl] at he
  subst he
  have hB6 := below_trans hB5 hb6
  have ha6 := rep_up ha5 hb6
  have hbv6 := rep_up hbv5 hb6
  have hc6 := rep_up hc5 hb6
  have hd6 := rep_up hd5 hb6
  clear hb6 ha5 hbv5 hc5 hd5 hM5
  have hbc := below_alloc (Below.refl w6.heap.size w6) (.cells #[.int .u64 4] 27)
  go_wp2_with fail
  refine (mnew_calls (num_raw (lit_num w6 4 (by omega) (by decide) _ rfl))).mono ?_
  rintro e w7 ⟨he, hb7⟩
  unfold NewPost at he
  rw [if_neg (by omega), if_pos (by omega), show errV 5 = .iface 36 (.int .i64 5) from rfl] at he
  subst he
  have hb67 := below_trans hbc hb7
  have hB7 := below_trans hB6 hb67
  have ha7 := rep_up ha6 hb67
  have hbv7 := rep_up hbv6 hb67
  have hc7 := rep_up hc6 hb67
  have hd7 := rep_up hd6 hb67
  clear hb67 hbc hb7 ha6 hbv6 hc6 hd6
  go_wp2_with fail
  refine (one_true ha7 (by omega) (by decide)).mono ?_
  rintro e w8 ⟨rfl, rfl⟩
  go_wp2_with fail
  refine (one_true hbv7 (by omega) (by decide)).mono ?_
  rintro e w8 ⟨rfl, rfl⟩
  go_wp2_with fail
  refine (one_true hc7 (by omega) (by decide)).mono ?_
  rintro e w8 ⟨rfl, rfl⟩
  go_wp2_with fail
  refine (one_true hd7 (by omega) (by decide)).mono ?_
  rintro e w8 ⟨rfl, rfl⟩
  go_wp2_with fail
  go_ret
  exact ⟨rfl, hB7⟩

end Go.Proofs.Ytigdeaeoejpnlaa
