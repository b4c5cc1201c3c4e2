/- The statements on group, second part: the walks of GroupLaws, GroupOrders, GroupHalves. (Printed by gen_g4.py.) -/
import Derived.Test.YtphbacggmhjmgaaG4A
namespace Go.Proofs.Ytphbacggmhjmgaa
open Go.RowKit

theorem law_sum {P Q g : Nat} (hP : 1 < P) (h : Num.El P Q g) (S T : Nat) : g ^ ((S + T) % Q % Q) % P = (g ^ (S % Q) % P) * (g ^ (T % Q) % P) % P := by
  rw [Nat.mod_mod, h.red hP, h.red hP, h.red hP, ← Nat.mul_mod, Nat.pow_add]
theorem law_over {P Q A B : Nat} (hQ : 0 < Q) (ha : A < P) (hb : Num.El P Q B) : (A * B % P) * (B ^ (Q - 1) % P) % P = A := by
  rw [Nat.mod_mul_mod, Nat.mul_assoc, Nat.mul_mod, hb.back hQ, Nat.mul_one, Nat.mod_mod, Nat.mod_eq_of_lt ha]
theorem law_order {P Q g : Nat} (G : Num.Grp P Q g) (a s : Nat) : (g ^ (a % Q) % P) ^ (s % Q) % P = 1 ↔ s % Q = 0 ∨ a % Q = 0 := by
  have hP := G.pp.two
  have hQ := G.big
  rw [Num.pow_mod_mod, ← Nat.pow_mul, G.el.order (by omega) G.pq G.ne]
  constructor
  · intro h
    have hd := Nat.dvd_of_mod_eq_zero h
    rcases G.pq.mul hd with h | h
    · right; have := Nat.mod_eq_zero_of_dvd h; rwa [Nat.mod_mod] at this
    · left; have := Nat.mod_eq_zero_of_dvd h; rwa [Nat.mod_mod] at this
  · rintro (h | h)
    · rw [h, Nat.mul_zero, Nat.zero_mod]
    · rw [h, Nat.zero_mul, Nat.zero_mod]
theorem knownI_lt (i : Int) : knownI i < 11 := Nat.mod_lt _ (by omega)
theorem num_len0 {S : Nat → Prop} {w : World} {n : Nat} {v : Value} (h : NumN.rep S w n [v]) : ∃ A l c, v = .slice A l c ∧ (l = 0 ↔ n = 0) := by
  obtain ⟨A, l, c, rfl, _, _, hl⟩ := numn_open h
  refine ⟨A, l, c, rfl, ?_⟩
  have := hl 0
  rw [Nat.pow_zero] at this
  omega

set_option maxHeartbeats 8000000 in
set_option maxRecDepth 100000 in
theorem glaws_calls (i : Int) (hi : -9223372036854775808 ≤ i ∧ i ≤ 9223372036854775807) (w : World) {xs xt : List Nat} {vs vt : Value} (hs : NatS.rep (· < w.heap.size) w xs [vs]) (ht : NatS.rep (· < w.heap.size) w xt [vt]) :
    Calls Try.prog 6 #[.int .i64 i, vs, vt] w fun e w' => e = .returned (.bool true) ∧ Below w.heap.size w w' := by
  have rs := raw_of hs
  obtain ⟨As, cs, rfl, hcs, _⟩ := sl_open hs
  obtain ⟨s, es⟩ : ∃ s, s = Pl.val B64 xs := ⟨_, rfl⟩
  rw [← es] at rs
  have rt := raw_of ht
  obtain ⟨At, ct, rfl, hct, _⟩ := sl_open ht
  obtain ⟨t, et⟩ : ∃ t, t = Pl.val B64 xt := ⟨_, rfl⟩
  rw [← et] at rt
  have bs := hid (fun hlen : xs.length ≤ 64 => raw_lt hs es hlen)
  have bt := hid (fun hlen : xt.length ≤ 64 => raw_lt ht et hlen)
  clear hs ht es et
  have un := hid (known_ok (knownI_lt i))
  obtain ⟨x, hx⟩ : ∃ x, x = knownG (knownI i) := ⟨_, rfl⟩
  obtain ⟨kl, hkl⟩ : ∃ l, l = knownL (knownI i) := ⟨_, rfl⟩
  rw [← hx, ← hkl] at un
  clear hx
  replace hkl := hid hkl
  have ok := hid (gok_of un.out)
  have l4 : bitLen 4 ≤ 1000000 := bits_small (lit_lim (by omega) 100 (by omega))
  have hg4 := hid (gnewE_grp un.out).2.2.2.2
  have lg : bitLen x.2.2.1 ≤ 1000000 := by rw [hg4.out]; exact l4
  have P64 : x.1 < B64 ^ 64 := lim_up ok.out.lim (by omega)
  have Q64 : x.2.1 < B64 ^ 64 := by have := ok.out.grp.tw; omega
  have P1 : 1 < x.1 := ok.out.grp.pp.two
  have Q2 : 2 < x.2.1 := ok.out.grp.big
  have lel := hid (fun (A : Nat) (h : Num.El x.1 x.2.1 A) => (bits_small (Nat.lt_trans h.lt (lim_up ok.out.lim (show 32 ≤ 100 by omega))) : bitLen A ≤ 1000000))
  go_enter Try.func6, Try.ntmps6
  go_wp2_with fail
  refine (gup_calls w).mono ?_
  rintro e w1 ⟨rfl, hB1⟩
  have ss := rep_up rs hB1
  have st := rep_up rt hB1
  clear rs rt
  go_wp2_with fail
  refine (known_calls i hi.1 hi.2 _).mono ?_
  rintro e w2 ⟨⟨vg, vc, rfl, hgr, hcr⟩, hb2⟩
  rw [← hkl.out] at hcr
  replace hgr := RawN.old hgr
  replace hcr := StepS.sl.old hcr
  have ss_2 := rep_up ss hb2
  have st_2 := rep_up st hb2
  clear ss st
  have hB2 := below_trans hB1 hb2
  go_wp2_with fail
  refine (gnew_ok hgr hcr l4 un.out).mono ?_
  rintro e w3 ⟨⟨gb, rfl, hG⟩, hb3⟩
  have ss_3 := rep_up ss_2 hb3
  have st_3 := rep_up st_2 hb3
  have hgr_3 := rep_up hgr hb3
  have hcr_3 := rep_up hcr hb3
  clear ss_2 st_2 hgr hcr
  have hB3 := below_trans hB2 hb3
  clear hgr_3
  clear hcr_3
  by_cases ls : 64 < xs.length
  · go_wp2_with fail
    go_ret
    exact ⟨rfl, hB3⟩
  by_cases lt : 64 < xt.length
  · go_wp2_with fail
    go_ret
    exact ⟨rfl, hB3⟩
  have s64 : s < B64 ^ 64 := lim_le (bs.out (by omega)) (by omega)
  have t64 : t < B64 ^ 64 := lim_le (bt.out (by omega)) (by omega)
  obtain ⟨A, hA⟩ : ∃ A, A = x.2.2.1 ^ (s % x.2.1) % x.1 := ⟨_, rfl⟩
  obtain ⟨B, hB⟩ : ∃ B, B = x.2.2.1 ^ (t % x.2.1) % x.1 := ⟨_, rfl⟩
  obtain ⟨U, hU⟩ : ∃ U, U = (s + t) % x.2.1 := ⟨_, rfl⟩
  obtain ⟨C, hC⟩ : ∃ C, C = A * B % x.1 := ⟨_, rfl⟩
  have Eg := ok.out.grp.el
  have EA : Num.El x.1 x.2.1 A := by rw [hA]; exact Eg.pow P1 (by omega) _
  have EB : Num.El x.1 x.2.1 B := by rw [hB]; exact Eg.pow P1 (by omega) _
  have EC : Num.El x.1 x.2.1 C := by rw [hC]; exact EA.mul P1 (by omega) EB
  have hU64 : U < B64 ^ 64 := by rw [hU]; exact Nat.lt_trans (Nat.mod_lt _ (by omega)) Q64
  have X1 := hid (show gExpE x.1 x.2.1 x.2.2.1 s = .ok A by rw [gExpE_ok (elB_iff.2 Eg) s64, hA])
  have X2 := hid (show gExpE x.1 x.2.1 x.2.2.1 t = .ok B by rw [gExpE_ok (elB_iff.2 Eg) t64, hB])
  have X3 := hid (show modAddE x.2.1 s t = .ok U by rw [modAddE_ok s64 t64, hU])
  have X4 := hid (show gExpE x.1 x.2.1 x.2.2.1 U = .ok C by rw [gExpE_ok (elB_iff.2 Eg) hU64, hU, law_sum P1 Eg, ← hA, ← hB, hC])
  have X5 := hid (show gMulE x.1 x.2.1 A B = .ok C by rw [gMulE_ok (elB_iff.2 EA) (elB_iff.2 EB), hC])
  have X6 := hid (show gOverE x.1 x.2.1 C B = .ok A by rw [gOverE_ok (elB_iff.2 EC) (elB_iff.2 EB), hC, law_over (by omega) EA.lt EB])
  have X7 := hid (show gExpE x.1 x.2.1 A x.2.1 = .ok 1 by rw [gExpE_ok (elB_iff.2 EA) Q64, Nat.mod_self, Nat.pow_zero, Num.mod_one P1])
  have lA := lel.out A EA
  have lB := lel.out B EB
  have lC := lel.out C EC
  replace EA := hid EA
  replace EC := hid EC
  clear hA hB hU hC Eg EB hU64 lel s64 t64
  go_wp2_with fail
  refine (gbase_calls hG ss_3 lg).mono ?_
  rintro e w4 ⟨he, hb4⟩
  rw [X1.out] at he
  obtain ⟨av, rfl, ha0⟩ := he
  rw [errV_zero]
  have ha := NumN.old ha0
  clear ha0
  have ss_4 := rep_up ss_3 hb4
  have st_4 := rep_up st_3 hb4
  have hG_4 := rep_up hG hb4
  clear ss_3 st_3 hG
  have hB4 := below_trans hB3 hb4
  go_wp2_with fail
  refine (gbase_calls hG_4 st_4 lg).mono ?_
  rintro e w5 ⟨he, hb5⟩
  rw [X2.out] at he
  obtain ⟨bv, rfl, hb0⟩ := he
  rw [errV_zero]
  have hb := NumN.old hb0
  clear hb0
  have ss_5 := rep_up ss_4 hb5
  have st_5 := rep_up st_4 hb5
  have hG_5 := rep_up hG_4 hb5
  have ha_5 := rep_up ha hb5
  clear ss_4 st_4 hG_4 ha
  have hB5 := below_trans hB4 hb5
  go_wp2_with fail
  refine (gscalars_calls hG_5).mono ?_
  rintro e w' ⟨⟨us5, rfl, hM5⟩, rfl⟩
  go_wp2_with fail
  refine (madd_calls hM5 ss_5 st_5).mono ?_
  rintro e w6 ⟨he, hb6⟩
  rw [X3.out] at he
  obtain ⟨uv, rfl, hu0⟩ := he
  rw [errV_zero]
  have hu := NumN.old hu0
  clear hu0
  have ss_6 := rep_up ss_5 hb6
  have st_6 := rep_up st_5 hb6
  have hG_6 := rep_up hG_5 hb6
  have ha_6 := rep_up ha_5 hb6
  have hb_6 := rep_up hb hb6
  have hM_6 := rep_up hM5 hb6
  clear ss_5 st_5 hG_5 ha_5 hb hM5
  have hB6 := below_trans hB5 hb6
  go_wp2_with fail
  refine (gbase_calls hG_6 (num_raw hu) lg).mono ?_
  rintro e w7 ⟨he, hb7⟩
  rw [X4.out] at he
  obtain ⟨cv, rfl, hc0⟩ := he
  rw [errV_zero]
  have hc := NumN.old hc0
  clear hc0
  have ss_7 := rep_up ss_6 hb7
  have st_7 := rep_up st_6 hb7
  have hG_7 := rep_up hG_6 hb7
  have ha_7 := rep_up ha_6 hb7
  have hb_7 := rep_up hb_6 hb7
  have hM_7 := rep_up hM_6 hb7
  have hu_7 := rep_up hu hb7
  clear ss_6 st_6 hG_6 ha_6 hb_6 hM_6 hu
  have hB7 := below_trans hB6 hb7
  go_wp2_with fail
  refine (gmul_calls hG_7 (num_raw ha_7) (num_raw hb_7) lA lB).mono ?_
  rintro e w8 ⟨he, hb8⟩
  rw [X5.out] at he
  obtain ⟨pv, rfl, hp0⟩ := he
  rw [errV_zero]
  have hp := NumN.old hp0
  clear hp0
  have ss_8 := rep_up ss_7 hb8
  have st_8 := rep_up st_7 hb8
  have hG_8 := rep_up hG_7 hb8
  have ha_8 := rep_up ha_7 hb8
  have hb_8 := rep_up hb_7 hb8
  have hM_8 := rep_up hM_7 hb8
  have hu_8 := rep_up hu_7 hb8
  have hc_8 := rep_up hc hb8
  clear ss_7 st_7 hG_7 ha_7 hb_7 hM_7 hu_7 hc
  have hB8 := below_trans hB7 hb8
  go_wp2_with fail
  refine (gover_calls hG_8 (num_raw hp) (num_raw hb_8) lC lB).mono ?_
  rintro e w9 ⟨he, hb9⟩
  rw [X6.out] at he
  obtain ⟨ov, rfl, ho0⟩ := he
  rw [errV_zero]
  have ho := NumN.old ho0
  clear ho0
  have ss_9 := rep_up ss_8 hb9
  have st_9 := rep_up st_8 hb9
  have hG_9 := rep_up hG_8 hb9
  have ha_9 := rep_up ha_8 hb9
  have hb_9 := rep_up hb_8 hb9
  have hM_9 := rep_up hM_8 hb9
  have hu_9 := rep_up hu_8 hb9
  have hc_9 := rep_up hc_8 hb9
  have hp_9 := rep_up hp hb9
  clear ss_8 st_8 hG_8 ha_8 hb_8 hM_8 hu_8 hc_8 hp
  have hB9 := below_trans hB8 hb9
  go_wp2_with fail
  refine (gq_calls hG_9).mono ?_
  rintro e w10 ⟨⟨qv, rfl, hq⟩, hb10⟩
  replace hq := NumN.old hq
  have ss_10 := rep_up ss_9 hb10
  have st_10 := rep_up st_9 hb10
  have hG_10 := rep_up hG_9 hb10
  have ha_10 := rep_up ha_9 hb10
  have hb_10 := rep_up hb_9 hb10
  have hM_10 := rep_up hM_9 hb10
  have hu_10 := rep_up hu_9 hb10
  have hc_10 := rep_up hc_9 hb10
  have hp_10 := rep_up hp_9 hb10
  have ho_10 := rep_up ho hb10
  clear ss_9 st_9 hG_9 ha_9 hb_9 hM_9 hu_9 hc_9 hp_9 ho
  have hB10 := below_trans hB9 hb10
  go_wp2_with fail
  refine (gexp_calls hG_10 (num_raw ha_10) (num_raw hq) lA).mono ?_
  rintro e w11 ⟨he, hb11⟩
  rw [X7.out] at he
  obtain ⟨rv, rfl, hr0⟩ := he
  rw [errV_zero]
  have hr := NumN.old hr0
  clear hr0
  have ss_11 := rep_up ss_10 hb11
  have st_11 := rep_up st_10 hb11
  have hG_11 := rep_up hG_10 hb11
  have ha_11 := rep_up ha_10 hb11
  have hb_11 := rep_up hb_10 hb11
  have hM_11 := rep_up hM_10 hb11
  have hu_11 := rep_up hu_10 hb11
  have hc_11 := rep_up hc_10 hb11
  have hp_11 := rep_up hp_10 hb11
  have ho_11 := rep_up ho_10 hb11
  have hq_11 := rep_up hq hb11
  clear ss_10 st_10 hG_10 ha_10 hb_10 hM_10 hu_10 hc_10 hp_10 ho_10 hq
  have hB11 := below_trans hB10 hb11
  go_wp2_with fail
  refine (same_num hc_11 hp_11).mono ?_
  rintro e w12 ⟨rfl, hst12⟩
  have hb12 := hst12.below
  have ss_12 := rep_up ss_11 hb12
  have st_12 := rep_up st_11 hb12
  have hG_12 := rep_up hG_11 hb12
  have ha_12 := rep_up ha_11 hb12
  have hb_12 := rep_up hb_11 hb12
  have hM_12 := rep_up hM_11 hb12
  have hu_12 := rep_up hu_11 hb12
  have hc_12 := rep_up hc_11 hb12
  have hp_12 := rep_up hp_11 hb12
  have ho_12 := rep_up ho_11 hb12
  have hq_12 := rep_up hq_11 hb12
  have hr_12 := rep_up hr hb12
  clear ss_11 st_11 hG_11 ha_11 hb_11 hM_11 hu_11 hc_11 hp_11 ho_11 hq_11 hr
  have hB12 := below_trans hB11 hb12
  go_wp2_with fail
  refine (same_num ho_12 ha_12).mono ?_
  rintro e w13 ⟨rfl, hst13⟩
  have hb13 := hst13.below
  have ss_13 := rep_up ss_12 hb13
  have st_13 := rep_up st_12 hb13
  have hG_13 := rep_up hG_12 hb13
  have ha_13 := rep_up ha_12 hb13
  have hb_13 := rep_up hb_12 hb13
  have hM_13 := rep_up hM_12 hb13
  have hu_13 := rep_up hu_12 hb13
  have hc_13 := rep_up hc_12 hb13
  have hp_13 := rep_up hp_12 hb13
  have ho_13 := rep_up ho_12 hb13
  have hq_13 := rep_up hq_12 hb13
  have hr_13 := rep_up hr_12 hb13
  clear ss_12 st_12 hG_12 ha_12 hb_12 hM_12 hu_12 hc_12 hp_12 ho_12 hq_12 hr_12
  have hB13 := below_trans hB12 hb13
  go_wp2_with fail
  refine (one4_calls hr_13).mono ?_
  rintro e w' ⟨rfl, rfl⟩
  go_wp2_with fail
  refine (gis_calls hG_13 (num_raw ha_13) lA).mono ?_
  rintro e w14 ⟨rfl, hb14⟩
  rw [elB_iff.2 EA.out]
  have ss_14 := rep_up ss_13 hb14
  have st_14 := rep_up st_13 hb14
  have hG_14 := rep_up hG_13 hb14
  have ha_14 := rep_up ha_13 hb14
  have hb_14 := rep_up hb_13 hb14
  have hM_14 := rep_up hM_13 hb14
  have hu_14 := rep_up hu_13 hb14
  have hc_14 := rep_up hc_13 hb14
  have hp_14 := rep_up hp_13 hb14
  have ho_14 := rep_up ho_13 hb14
  have hq_14 := rep_up hq_13 hb14
  have hr_14 := rep_up hr_13 hb14
  clear ss_13 st_13 hG_13 ha_13 hb_13 hM_13 hu_13 hc_13 hp_13 ho_13 hq_13 hr_13
  have hB14 := below_trans hB13 hb14
  go_wp2_with fail
  refine (gis_calls hG_14 (num_raw hc_14) lC).mono ?_
  rintro e w15 ⟨rfl, hb15⟩
  rw [elB_iff.2 EC.out]
  have ss_15 := rep_up ss_14 hb15
  have st_15 := rep_up st_14 hb15
  have hG_15 := rep_up hG_14 hb15
  have ha_15 := rep_up ha_14 hb15
  have hb_15 := rep_up hb_14 hb15
  have hM_15 := rep_up hM_14 hb15
  have hu_15 := rep_up hu_14 hb15
  have hc_15 := rep_up hc_14 hb15
  have hp_15 := rep_up hp_14 hb15
  have ho_15 := rep_up ho_14 hb15
  have hq_15 := rep_up hq_14 hb15
  have hr_15 := rep_up hr_14 hb15
  clear ss_14 st_14 hG_14 ha_14 hb_14 hM_14 hu_14 hc_14 hp_14 ho_14 hq_14 hr_14
  have hB15 := below_trans hB14 hb15
  go_wp2_with fail
  go_ret
  exact ⟨rfl, hB15⟩

set_option maxHeartbeats 8000000 in
set_option maxRecDepth 100000 in
theorem gorders_calls (i : Int) (hi : -9223372036854775808 ≤ i ∧ i ≤ 9223372036854775807) (w : World) {xa xs : List Nat} {va vs : Value} (ha : NatS.rep (· < w.heap.size) w xa [va]) (hs : NatS.rep (· < w.heap.size) w xs [vs]) :
    Calls Try.prog 4 #[.int .i64 i, va, vs] w fun e w' => e = .returned (.bool true) ∧ Below w.heap.size w w' := by
  have ra := raw_of ha
  obtain ⟨Aa, ca, rfl, hca, _⟩ := sl_open ha
  obtain ⟨a, ea⟩ : ∃ a, a = Pl.val B64 xa := ⟨_, rfl⟩
  rw [← ea] at ra
  have rs := raw_of hs
  obtain ⟨As, cs, rfl, hcs, _⟩ := sl_open hs
  obtain ⟨s, es⟩ : ∃ s, s = Pl.val B64 xs := ⟨_, rfl⟩
  rw [← es] at rs
  have ba := hid (fun hlen : xa.length ≤ 60 => raw_lt ha ea hlen)
  have bs := hid (fun hlen : xs.length ≤ 60 => raw_lt hs es hlen)
  clear ha hs ea es
  have un := hid (known_ok (knownI_lt i))
  obtain ⟨x, hx⟩ : ∃ x, x = knownG (knownI i) := ⟨_, rfl⟩
  obtain ⟨kl, hkl⟩ : ∃ l, l = knownL (knownI i) := ⟨_, rfl⟩
  rw [← hx, ← hkl] at un
  clear hx
  replace hkl := hid hkl
  have ok := hid (gok_of un.out)
  have l4 : bitLen 4 ≤ 1000000 := bits_small (lit_lim (by omega) 100 (by omega))
  have hg4 := hid (gnewE_grp un.out).2.2.2.2
  have lg : bitLen x.2.2.1 ≤ 1000000 := by rw [hg4.out]; exact l4
  have P64 : x.1 < B64 ^ 64 := lim_up ok.out.lim (by omega)
  have Q64 : x.2.1 < B64 ^ 64 := by have := ok.out.grp.tw; omega
  have P1 : 1 < x.1 := ok.out.grp.pp.two
  have Q2 : 2 < x.2.1 := ok.out.grp.big
  have lel := hid (fun (A : Nat) (h : Num.El x.1 x.2.1 A) => (bits_small (Nat.lt_trans h.lt (lim_up ok.out.lim (show 32 ≤ 100 by omega))) : bitLen A ≤ 1000000))
  go_enter Try.func4, Try.ntmps4
  go_wp2_with fail
  refine (gup_calls w).mono ?_
  rintro e w1 ⟨rfl, hB1⟩
  have sa := rep_up ra hB1
  have ss := rep_up rs hB1
  clear ra rs
  go_wp2_with fail
  refine (known_calls i hi.1 hi.2 _).mono ?_
  rintro e w2 ⟨⟨vg, vc, rfl, hgr, hcr⟩, hb2⟩
  rw [← hkl.out] at hcr
  replace hgr := RawN.old hgr
  replace hcr := StepS.sl.old hcr
  have sa_2 := rep_up sa hb2
  have ss_2 := rep_up ss hb2
  clear sa ss
  have hB2 := below_trans hB1 hb2
  go_wp2_with fail
  refine (gnew_ok hgr hcr l4 un.out).mono ?_
  rintro e w3 ⟨⟨gb, rfl, hG⟩, hb3⟩
  have sa_3 := rep_up sa_2 hb3
  have ss_3 := rep_up ss_2 hb3
  have hgr_3 := rep_up hgr hb3
  have hcr_3 := rep_up hcr hb3
  clear sa_2 ss_2 hgr hcr
  have hB3 := below_trans hB2 hb3
  clear hgr_3
  clear hcr_3
  by_cases la : 60 < xa.length
  · go_wp2_with fail
    go_ret
    exact ⟨rfl, hB3⟩
  by_cases ls : 60 < xs.length
  · go_wp2_with fail
    go_ret
    exact ⟨rfl, hB3⟩
  have a64 : a < B64 ^ 64 := lim_le (ba.out (by omega)) (by omega)
  have s64 : s < B64 ^ 64 := lim_le (bs.out (by omega)) (by omega)
  obtain ⟨A, hA⟩ : ∃ A, A = x.2.2.1 ^ (a % x.2.1) % x.1 := ⟨_, rfl⟩
  obtain ⟨B, hB⟩ : ∃ B, B = A ^ (s % x.2.1) % x.1 := ⟨_, rfl⟩
  have Eg := ok.out.grp.el
  have EA : Num.El x.1 x.2.1 A := by rw [hA]; exact Eg.pow P1 (by omega) _
  have X1 := hid (show gExpE x.1 x.2.1 x.2.2.1 a = .ok A by rw [gExpE_ok (elB_iff.2 Eg) a64, hA])
  have X2 := hid (show gExpE x.1 x.2.1 A s = .ok B by rw [gExpE_ok (elB_iff.2 EA) s64, hB])
  have X3 := hid (show ReduceE x.2.1 s = .ok (s % x.2.1) from reduceE_ok s64)
  have X4 := hid (show ReduceE x.2.1 a = .ok (a % x.2.1) from reduceE_ok a64)
  have hord := law_order ok.out.grp a s
  rw [← hA, ← hB] at hord
  have lA := lel.out A EA
  obtain ⟨R, hR⟩ : ∃ R, R = s % x.2.1 := ⟨_, rfl⟩
  obtain ⟨T, hT⟩ : ∃ T, T = a % x.2.1 := ⟨_, rfl⟩
  rw [← hR, ← hT] at hord
  rw [← hR] at X3
  rw [← hT] at X4
  replace hord := hid hord
  clear hA hB hR hT Eg EA lel s64 a64
  go_wp2_with fail
  refine (gscalars_calls hG).mono ?_
  rintro e w' ⟨⟨us3, rfl, hM3⟩, rfl⟩
  clear hM3
  go_wp2_with fail
  refine (gbase_calls hG sa_3 lg).mono ?_
  rintro e w4 ⟨he, hb4⟩
  rw [X1.out] at he
  obtain ⟨av, rfl, ha0⟩ := he
  rw [errV_zero]
  have ha := NumN.old ha0
  clear ha0
  have sa_4 := rep_up sa_3 hb4
  have ss_4 := rep_up ss_3 hb4
  have hG_4 := rep_up hG hb4
  clear sa_3 ss_3 hG
  have hB4 := below_trans hB3 hb4
  go_wp2_with fail
  refine (gexp_calls hG_4 (num_raw ha) ss_4 lA).mono ?_
  rintro e w5 ⟨he, hb5⟩
  rw [X2.out] at he
  obtain ⟨pv, rfl, hp0⟩ := he
  rw [errV_zero]
  have hp := NumN.old hp0
  clear hp0
  have sa_5 := rep_up sa_4 hb5
  have ss_5 := rep_up ss_4 hb5
  have hG_5 := rep_up hG_4 hb5
  have ha_5 := rep_up ha hb5
  clear sa_4 ss_4 hG_4 ha
  have hB5 := below_trans hB4 hb5
  go_wp2_with fail
  refine (gscalars_calls hG_5).mono ?_
  rintro e w' ⟨⟨us5, rfl, hM5⟩, rfl⟩
  go_wp2_with fail
  refine (reduce_calls hM5 ss_5).mono ?_
  rintro e w6 ⟨he, hb6⟩
  rw [X3.out] at he
  obtain ⟨rv, rfl, hr0⟩ := he
  rw [errV_zero]
  have hr := NumN.old hr0
  clear hr0
  have sa_6 := rep_up sa_5 hb6
  have ss_6 := rep_up ss_5 hb6
  have hG_6 := rep_up hG_5 hb6
  have ha_6 := rep_up ha_5 hb6
  have hp_6 := rep_up hp hb6
  have hM_6 := rep_up hM5 hb6
  clear sa_5 ss_5 hG_5 ha_5 hp hM5
  have hB6 := below_trans hB5 hb6
  clear hM_6
  go_wp2_with fail
  refine (gscalars_calls hG_6).mono ?_
  rintro e w' ⟨⟨us6, rfl, hM6⟩, rfl⟩
  go_wp2_with fail
  refine (reduce_calls hM6 sa_6).mono ?_
  rintro e w7 ⟨he, hb7⟩
  rw [X4.out] at he
  obtain ⟨tv, rfl, ht0⟩ := he
  rw [errV_zero]
  have ht := NumN.old ht0
  clear ht0
  have sa_7 := rep_up sa_6 hb7
  have ss_7 := rep_up ss_6 hb7
  have hG_7 := rep_up hG_6 hb7
  have ha_7 := rep_up ha_6 hb7
  have hp_7 := rep_up hp_6 hb7
  have hr_7 := rep_up hr hb7
  have hM_7 := rep_up hM6 hb7
  clear sa_6 ss_6 hG_6 ha_6 hp_6 hr hM6
  have hB7 := below_trans hB6 hb7
  obtain ⟨RA, rl, rc, rfl, hrl⟩ := num_len0 hr_7
  obtain ⟨TA, tl, tc, rfl, htl⟩ := num_len0 ht
  have hone := hid (show decide (B = 1) = decide (rl = 0 ∨ tl = 0) by rw [decide_eq_decide, hord.out, hrl, htl])
  clear hr_7 ht hrl htl hord
  go_wp2_with fail
  refine (one4_calls hp_7).mono ?_
  rintro e w' ⟨rfl, rfl⟩
  rw [hone.out]
  by_cases hr0 : rl = 0
  · have hd : decide (rl = 0 ∨ tl = 0) = true := by simp [hr0]
    have h1 : ((rl : Int) == 0) = true := by rw [hr0]; rfl
    rw [hd]
    clear hd hr0
    go_wp2_with fail
    go_ret
    exact ⟨rfl, hB7⟩
  · have h1 : ((rl : Int) == 0) = false := by rw [beq_eq_false_iff_ne, ne_eq]; omega
    by_cases ht0 : tl = 0
    · have hd : decide (rl = 0 ∨ tl = 0) = true := by simp [ht0]
      have h2 : ((tl : Int) == 0) = true := by rw [ht0]; rfl
      rw [hd]
      clear hd hr0 ht0
      go_wp2_with fail
      go_ret
      exact ⟨rfl, hB7⟩
    · have hd : decide (rl = 0 ∨ tl = 0) = false := by simp [hr0, ht0]
      have h2 : ((tl : Int) == 0) = false := by rw [beq_eq_false_iff_ne, ne_eq]; omega
      rw [hd]
      clear hd hr0 ht0
      go_wp2_with fail
      go_ret
      exact ⟨rfl, hB7⟩

theorem ref_len0 {S : Nat → Prop} {w : World} {n : Nat} {v : Value} (h : RefN.rep S w n [v]) : ∃ A l c, v = .slice A l c ∧ (l = 0 ↔ n = 0) := by
  obtain ⟨xs, hx, hc, hv⟩ := h
  obtain ⟨A, cap, rfl, _, _⟩ := sl_open hx
  refine ⟨A, _, cap, rfl, ?_⟩
  have := Pl.canon_len_le (n := 0) (B := 65536) (by omega) (num_dig hx) hc
  rw [hv, Nat.pow_zero] at this
  omega

set_option maxHeartbeats 8000000 in
set_option maxRecDepth 100000 in
theorem ghalves_calls (i : Int) (hi : -9223372036854775808 ≤ i ∧ i ≤ 9223372036854775807) (w : World) {xa : List Nat} {va : Value} (ha : NatS.rep (· < w.heap.size) w xa [va]) :
    Calls Try.prog 5 #[.int .i64 i, va] w fun e w' => e = .returned (.bool true) ∧ Below w.heap.size w w' := by
  have ra := raw_of ha
  obtain ⟨Aa, ca, rfl, hca, _⟩ := sl_open ha
  obtain ⟨a, ea⟩ : ∃ a, a = Pl.val B64 xa := ⟨_, rfl⟩
  rw [← ea] at ra
  have ba := hid (fun hlen : xa.length ≤ 60 => raw_lt ha ea hlen)
  clear ha ea
  have un := hid (known_ok (knownI_lt i))
  obtain ⟨x, hx⟩ : ∃ x, x = knownG (knownI i) := ⟨_, rfl⟩
  obtain ⟨kl, hkl⟩ : ∃ l, l = knownL (knownI i) := ⟨_, rfl⟩
  rw [← hx, ← hkl] at un
  clear hx
  replace hkl := hid hkl
  have ok := hid (gok_of un.out)
  have l4 : bitLen 4 ≤ 1000000 := bits_small (lit_lim (by omega) 100 (by omega))
  have hg4 := hid (gnewE_grp un.out).2.2.2.2
  have lg : bitLen x.2.2.1 ≤ 1000000 := by rw [hg4.out]; exact l4
  have P64 : x.1 < B64 ^ 64 := lim_up ok.out.lim (by omega)
  have Q64 : x.2.1 < B64 ^ 64 := by have := ok.out.grp.tw; omega
  have P1 : 1 < x.1 := ok.out.grp.pp.two
  have Q2 : 2 < x.2.1 := ok.out.grp.big
  have lel := hid (fun (A : Nat) (h : Num.El x.1 x.2.1 A) => (bits_small (Nat.lt_trans h.lt (lim_up ok.out.lim (show 32 ≤ 100 by omega))) : bitLen A ≤ 1000000))
  go_enter Try.func5, Try.ntmps5
  go_wp2_with fail
  refine (gup_calls w).mono ?_
  rintro e w1 ⟨rfl, hB1⟩
  have sa := rep_up ra hB1
  clear ra
  go_wp2_with fail
  refine (known_calls i hi.1 hi.2 _).mono ?_
  rintro e w2 ⟨⟨vg, vc, rfl, hgr, hcr⟩, hb2⟩
  rw [← hkl.out] at hcr
  replace hgr := RawN.old hgr
  replace hcr := StepS.sl.old hcr
  have sa_2 := rep_up sa hb2
  clear sa
  have hB2 := below_trans hB1 hb2
  go_wp2_with fail
  refine (gnew_ok hgr hcr l4 un.out).mono ?_
  rintro e w3 ⟨⟨gb, rfl, hG⟩, hb3⟩
  have sa_3 := rep_up sa_2 hb3
  have hgr_3 := rep_up hgr hb3
  have hcr_3 := rep_up hcr hb3
  clear sa_2 hgr hcr
  have hB3 := below_trans hB2 hb3
  clear hgr_3
  clear hcr_3
  by_cases la : 60 < xa.length
  · go_wp2_with fail
    go_ret
    exact ⟨rfl, hB3⟩
  have a60 := ba.out (by omega)
  have sa' : Small a := small_limbs a60 (by omega)
  have sP : Small (2 * x.1) := small_limbs (k := 33) (by
    have h := ok.out.lim
    have e1 : B64 ^ 33 = B64 ^ 32 * B64 := Nat.pow_succ ..
    rw [e1]
    have : 2 * B64 ^ 32 ≤ B64 ^ 32 * B64 := by rw [Nat.mul_comm]; exact Nat.mul_le_mul_left _ (by decide)
    omega) (by omega)
  have sP1 : Small x.1 := sP.le (by omega)
  obtain ⟨R, hR⟩ : ∃ R, R = a % x.1 := ⟨_, rfl⟩
  have hRl : R < x.1 := by rw [hR]; exact Nat.mod_lt _ (by omega)
  have sR : Small R := sP1.le (by omega)
  have sD : Small (x.1 - R) := sP1.le (by omega)
  have P32 := ok.out.lim
  have hlb := hid (fun (A : Nat) (h : A ≤ x.1) => (bits_small (Nat.lt_of_le_of_lt h (lim_up ok.out.lim (show 32 ≤ 100 by omega))) : bitLen A ≤ 1000000))
  replace hR := hid hR
  clear a60
  go_wp2_with fail
  refine (gp_calls hG).mono ?_
  rintro e w4 ⟨⟨pv, rfl, hp⟩, hb4⟩
  replace hp := NumN.old hp
  obtain ⟨PA, pl, pc, rfl, _, _, hpl⟩ := numn_open hp
  have hpl2 : pl ≤ 20000 := Nat.le_trans ((hpl 32).2 P32) (by omega)
  clear hpl
  have sa_4 := rep_up sa_3 hb4
  have hG_4 := rep_up hG hb4
  clear sa_3 hG
  have hB4 := below_trans hB3 hb4
  go_wp2_with fail
  refine (of_raw (num_raw hp) hpl2).mono ?_
  rintro e w5 ⟨⟨rp, rfl, hrp⟩, hb5⟩
  replace hrp := RefN.old hrp
  have sa_5 := rep_up sa_4 hb5
  have hG_5 := rep_up hG_4 hb5
  have hp_5 := rep_up hp hb5
  clear sa_4 hG_4 hp
  have hB5 := below_trans hB4 hb5
  go_wp2_with fail
  refine (of_raw sa_5 (by omega)).mono ?_
  rintro e w6 ⟨⟨ra, rfl, hra⟩, hb6⟩
  replace hra := RefN.old hra
  have sa_6 := rep_up sa_5 hb6
  have hG_6 := rep_up hG_5 hb6
  have hp_6 := rep_up hp_5 hb6
  have hrp_6 := rep_up hrp hb6
  clear sa_5 hG_5 hp_5 hrp
  have hB6 := below_trans hB5 hb6
  go_wp2_with fail
  refine (rrest_calls hra hrp_6 sa' sP (by omega)).mono ?_
  rintro e w7 ⟨⟨ru, rfl, hru⟩, hb7⟩
  rw [← hR.out] at hru
  replace hru := RefN.old hru
  have sa_7 := rep_up sa_6 hb7
  have hG_7 := rep_up hG_6 hb7
  have hp_7 := rep_up hp_6 hb7
  have hrp_7 := rep_up hrp_6 hb7
  have hra_7 := rep_up hra hb7
  clear sa_6 hG_6 hp_6 hrp_6 hra
  have hB7 := below_trans hB6 hb7
  obtain ⟨UA, ul, uc, rfl, hul⟩ := ref_len0 hru
  by_cases hz : R = 0
  · have h0 : ((ul : Int) == 0) = true := by rw [hul.2 hz]; rfl
    have e0 := hid (show elB x.1 x.2.1 0 = false from elB_not fun h => by have := h.pos; omega)
    have eP := hid (show elB x.1 x.2.1 x.1 = false from elB_not fun h => by have := h.lt; omega)
    have lP := hlb.out x.1 (Nat.le_refl _)
    have l0 := hlb.out 0 (by omega)
    replace hz := hid hz
    go_wp2_with fail
    refine (gis_calls hG_7 (raw_nil (fun _ => True) _) l0).mono ?_
    rintro e w8 ⟨rfl, hb8⟩
    rw [e0.out]
    have sa_8 := rep_up sa_7 hb8
    have hG_8 := rep_up hG_7 hb8
    have hp_8 := rep_up hp_7 hb8
    have hrp_8 := rep_up hrp_7 hb8
    have hra_8 := rep_up hra_7 hb8
    have hru_8 := rep_up hru hb8
    clear sa_7 hG_7 hp_7 hrp_7 hra_7 hru
    have hB8 := below_trans hB7 hb8
    go_wp2_with fail
    refine (gp_calls hG_8).mono ?_
    rintro e w9 ⟨⟨pv2, rfl, hp2⟩, hb9⟩
    replace hp2 := NumN.old hp2
    have sa_9 := rep_up sa_8 hb9
    have hG_9 := rep_up hG_8 hb9
    have hp_9 := rep_up hp_8 hb9
    have hrp_9 := rep_up hrp_8 hb9
    have hra_9 := rep_up hra_8 hb9
    have hru_9 := rep_up hru_8 hb9
    clear sa_8 hG_8 hp_8 hrp_8 hra_8 hru_8
    have hB9 := below_trans hB8 hb9
    go_wp2_with fail
    refine (gis_calls hG_9 (num_raw hp2) lP).mono ?_
    rintro e w10 ⟨rfl, hb10⟩
    rw [eP.out]
    have sa_10 := rep_up sa_9 hb10
    have hG_10 := rep_up hG_9 hb10
    have hp_10 := rep_up hp_9 hb10
    have hrp_10 := rep_up hrp_9 hb10
    have hra_10 := rep_up hra_9 hb10
    have hru_10 := rep_up hru_9 hb10
    have hp2_10 := rep_up hp2 hb10
    clear sa_9 hG_9 hp_9 hrp_9 hra_9 hru_9 hp2
    have hB10 := below_trans hB9 hb10
    go_wp2_with fail
    go_ret
    exact ⟨rfl, hB10⟩
  · have h0 : ((ul : Int) == 0) = false := by rw [beq_eq_false_iff_ne, ne_eq]; exact fun h => hz (hul.1 (by omega))
    have lR := hlb.out R (by omega)
    have lD := hlb.out (x.1 - R) (by omega)
    have hhalf := ok.out.grp.halves (a := R) (by omega) hRl
    have hb2 := hid (show elB x.1 x.2.1 (x.1 - R) = !elB x.1 x.2.1 R by
      rw [Bool.eq_iff_iff, elB_iff, hhalf, Bool.not_eq_true', ← Bool.not_eq_true, elB_iff])
    obtain ⟨b1, hb1⟩ : ∃ b, b = elB x.1 x.2.1 R := ⟨_, rfl⟩
    rw [← hb1] at hb2
    replace hb1 := hid hb1
    have hRle : R ≤ x.1 := by omega
    replace hz := hid hz
    clear hhalf
    go_wp2_with fail
    refine (to_calls hru sR).mono ?_
    rintro e w8 ⟨⟨tv, rfl, htv⟩, hb8⟩
    replace htv := NumN.old htv
    have sa_8 := rep_up sa_7 hb8
    have hG_8 := rep_up hG_7 hb8
    have hp_8 := rep_up hp_7 hb8
    have hrp_8 := rep_up hrp_7 hb8
    have hra_8 := rep_up hra_7 hb8
    have hru_8 := rep_up hru hb8
    clear sa_7 hG_7 hp_7 hrp_7 hra_7 hru
    have hB8 := below_trans hB7 hb8
    go_wp2_with fail
    refine (gis_calls hG_8 (num_raw htv) lR).mono ?_
    rintro e w9 ⟨rfl, hb9⟩
    rw [← hb1.out]
    have sa_9 := rep_up sa_8 hb9
    have hG_9 := rep_up hG_8 hb9
    have hp_9 := rep_up hp_8 hb9
    have hrp_9 := rep_up hrp_8 hb9
    have hra_9 := rep_up hra_8 hb9
    have hru_9 := rep_up hru_8 hb9
    have htv_9 := rep_up htv hb9
    clear sa_8 hG_8 hp_8 hrp_8 hra_8 hru_8 htv
    have hB9 := below_trans hB8 hb9
    go_wp2_with fail
    refine (rsub_calls hrp_9 hru_9 sP1 hRle).mono ?_
    rintro e w10 ⟨⟨dv, rfl, hdv⟩, hb10⟩
    replace hdv := RefN.old hdv
    have sa_10 := rep_up sa_9 hb10
    have hG_10 := rep_up hG_9 hb10
    have hp_10 := rep_up hp_9 hb10
    have hrp_10 := rep_up hrp_9 hb10
    have hra_10 := rep_up hra_9 hb10
    have hru_10 := rep_up hru_9 hb10
    have htv_10 := rep_up htv_9 hb10
    clear sa_9 hG_9 hp_9 hrp_9 hra_9 hru_9 htv_9
    have hB10 := below_trans hB9 hb10
    go_wp2_with fail
    refine (to_calls hdv sD).mono ?_
    rintro e w11 ⟨⟨tv2, rfl, htv2⟩, hb11⟩
    replace htv2 := NumN.old htv2
    have sa_11 := rep_up sa_10 hb11
    have hG_11 := rep_up hG_10 hb11
    have hp_11 := rep_up hp_10 hb11
    have hrp_11 := rep_up hrp_10 hb11
    have hra_11 := rep_up hra_10 hb11
    have hru_11 := rep_up hru_10 hb11
    have htv_11 := rep_up htv_10 hb11
    have hdv_11 := rep_up hdv hb11
    clear sa_10 hG_10 hp_10 hrp_10 hra_10 hru_10 htv_10 hdv
    have hB11 := below_trans hB10 hb11
    go_wp2_with fail
    refine (gis_calls hG_11 (num_raw htv2) lD).mono ?_
    rintro e w12 ⟨rfl, hb12⟩
    rw [hb2.out]
    have sa_12 := rep_up sa_11 hb12
    have hG_12 := rep_up hG_11 hb12
    have hp_12 := rep_up hp_11 hb12
    have hrp_12 := rep_up hrp_11 hb12
    have hra_12 := rep_up hra_11 hb12
    have hru_12 := rep_up hru_11 hb12
    have htv_12 := rep_up htv_11 hb12
    have hdv_12 := rep_up hdv_11 hb12
    have htv2_12 := rep_up htv2 hb12
    clear sa_11 hG_11 hp_11 hrp_11 hra_11 hru_11 htv_11 hdv_11 htv2
    have hB12 := below_trans hB11 hb12
    cases b1
    · go_wp2_with fail
      go_ret
      exact ⟨rfl, hB12⟩
    · go_wp2_with fail
      go_ret
      exact ⟨rfl, hB12⟩

end Go.Proofs.Ytphbacggmhjmgaa
