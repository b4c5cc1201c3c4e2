/- The statements on group, third part: GroupEncodes. (Printed by gen_g4c.py.) -/
import Derived.Test.YtphbacggmhjmgaaG4B
import Derived.Test.YtphbacggmhjmgaaRefK
namespace Go.Proofs.Ytphbacggmhjmgaa
open Go.RowKit

theorem reads_bytes : Reads Try.prog 22 ByteS :=
  reads_slice Try.underlying22 (reads_num (B := 256) Try.underlying5 rfl (by decide)) (by kernel_rfl) (by kernel_rfl) (by decide)
theorem code_neq (a b : Int) (W : World) : (binOp .neq 31 (.iface 38 (.int .i64 a)) (.iface 38 (.int .i64 b))).run Try.prog W = .ok (.bool (!(a == b))) W := by
  have hinfo : (Try.prog.info? 38).map (fun i => i.comparable) = some true := by kernel_rfl
  obtain ⟨i, hi, hc⟩ := Option.map_eq_some_iff.1 hinfo
  simp only [binOp]
  simp [Op.equal, Op.maxDepth, run_equalIn_iface_int W 9998 a b Try.underlying31 Try.underlying38 hi hc]
theorem short4_calls {S : Nat → Prop} {w : World} {xs : List Nat} {v : Value} (h : NatS.rep S w xs [v]) (n : Nat) (hn : n ≤ 1000000) :
    Calls Try.prog 15 #[v, .int .i64 (n : Int)] w fun e w' => (∃ u, e = .returned u ∧ NatS.rep S w (xs.take n) [u]) ∧ w = w' := by
  obtain ⟨A, cap, rfl, hcap, hcm⟩ := sl_open h
  by_cases hl : n < xs.length
  · have hc := sl_cut h 0 n (Nat.zero_le _) (by omega) A (fun _ b o e => by simpa using e) n cap rfl (by omega) hcm
    rw [List.drop_zero] at hc
    go_enter Try.func15, Try.ntmps15
    go_wp2_with fail
    go_ret
    exact ⟨⟨_, rfl, hc⟩, rfl⟩
  · have hc : NatS.rep S w (xs.take n) [.slice A xs.length cap] := by rw [List.take_of_length_le (by omega)]; exact h
    go_enter Try.func15, Try.ntmps15
    go_wp2_with fail
    go_ret
    exact ⟨⟨_, rfl, hc⟩, rfl⟩

theorem knownD_told {k : Nat} (hk : k < 11) : Told (knownD k) := fun t ht => by
  have h := (knownD_val k hk).2
  have := List.all_eq_true.1 h t ht
  simp only [decide_eq_true_eq] at this
  omega

set_option maxHeartbeats 4000000 in
set_option maxRecDepth 100000 in
theorem known4_calls (i : Int) (hi : -9223372036854775808 ≤ i ∧ i ≤ 9223372036854775807) (w : World) :
    Calls Try.prog 8 #[.int .i64 i] w fun e w' => (∃ b rb : Nat, e = .returned (.tuple #[.pointer (some ⟨b, 0, none⟩), .pointer (some ⟨rb, 0, none⟩)]) ∧ GrpP.rep (· < w'.heap.size) w' (knownG (knownI i)) [.pointer (some ⟨b, 0, none⟩)] ∧ RGrpP.rep (· < w'.heap.size) w' (knownG (knownI i)) [.pointer (some ⟨rb, 0, none⟩)]) ∧ Below w.heap.size w w' := by
  have un := known_ok (knownI_lt i)
  have hv := (knownD_val (knownI i) (knownI_lt i)).1
  have told := hid (knownD_told (knownI_lt i))
  obtain ⟨x, hx⟩ : ∃ x, x = knownG (knownI i) := ⟨_, rfl⟩
  obtain ⟨kd, hkd⟩ : ∃ d, d = knownD (knownI i) := ⟨_, rfl⟩
  rw [← hv, ← hx, ← hkd] at un
  rw [← hkd] at told
  rw [← hx]
  have l4 : bitLen 4 ≤ 1000000 := bits_small (lit_lim (by omega) 100 (by omega))
  replace un := hid un
  replace hkd := hid hkd
  clear hv hx
  go_enter Try.func8, Try.ntmps8
  go_wp2_with fail
  refine (known_dig i hi.1 hi.2 w).mono ?_
  rintro e w1 ⟨⟨vg, vc, rfl, hg, hc⟩, hB1⟩
  rw [← hkd.out] at hc
  obtain ⟨gA, gcap, rfl, _, _⟩ := sl_open hg
  obtain ⟨cA, ccap, rfl, _, _⟩ := sl_open hc
  obtain ⟨gl, hgl⟩ : ∃ l, l = [4].length := ⟨_, rfl⟩
  rw [← hgl] at hg ⊢
  clear hgl
  have hr0 := Row.new w1 55 #[.slice gA gl gcap, .slice cA kd.length ccap]
  have hb2 := below_bs (w := w1) (.cells #[.slice gA gl gcap, .slice cA kd.length ccap] 55)
  have hg2 := NatS.below hg hb2
  have hc2 := DStepS.sl.below hc hb2
  have hB2 := below_trans hB1 hb2
  have d0 := hr0.cell 0 (by simp)
  have d1 := hr0.cell 1 (by simp)
  simp only [List.getElem_cons_zero, List.getElem_cons_succ] at d0 d1
  have hl2 := hr0.lt
  clear hb2 hg hc
  go_wp2_with fail
  refine (gnew_ok (raw_of hg2) (dchain_chain hc2) l4 un.out).mono ?_
  rintro e w3 ⟨⟨b, rfl, hG⟩, hb3⟩
  have hB3 := below_trans hB2 hb3
  have d03 := (hb3.cell (p := ⟨w1.heap.size, 0, none⟩) hl2).trans d0
  have d13 := (hb3.cell (p := ⟨w1.heap.size, 1, none⟩) hl2).trans d1
  clear d0 d1
  go_wp2_with fail
  refine (rgnew_ok (NatS.below hg2 hb3) (DStepS.sl.below hc2 hb3) (by simp) told.out un.out).mono ?_
  rintro e w4 ⟨⟨rb, rfl, hR⟩, hb4⟩
  have hB4 := below_trans hB3 hb4
  replace hG := rep_up hG hb4
  replace hR := RGrpP.old hR
  clear d03 d13
  go_wp2_with fail
  go_ret2
  exact ⟨⟨b, rb, rfl, hG, hR⟩, hB4⟩

set_option maxHeartbeats 8000000 in
set_option maxRecDepth 100000 in
theorem gencodes_calls (i : Int) (hi : -9223372036854775808 ≤ i ∧ i ≤ 9223372036854775807) (w : World) {xb xa : List Nat} {vb va : Value} (hb0 : ByteS.rep (· < w.heap.size) w xb [vb]) (ha0 : NatS.rep (· < w.heap.size) w xa [va]) :
    Calls Try.prog 3 #[.int .i64 i, vb, va] w fun e w' => e = .returned (.bool true) ∧ Below w.heap.size w w' := by
  have en1 := fun W => code_neq 1 1 W
  have ee8 := fun W => code_eql 8 8 W
  have ee2 := fun W => code_eql 2 2 W
  have hbd := hid (num_dig hb0)
  obtain ⟨bA, bcap, rfl, hbc, hbm⟩ := sl_open hb0
  have ok := hid (gok_of (known_ok (knownI_lt i)))
  obtain ⟨x, hx⟩ : ∃ x, x = knownG (knownI i) := ⟨_, rfl⟩
  rw [← hx] at ok
  replace hx := hid hx
  have lel := hid (fun (A : Nat) (h : A < B64 ^ 100) => bits_small h)
  obtain ⟨g1, g2, g3⟩ := gok_bits ok.out
  have P100 := hid (lim_up ok.out.lim (show 32 ≤ 100 by omega))
  replace g1 := hid g1
  replace g2 := hid g2
  go_enter Try.func3, Try.ntmps3
  go_wp2_with fail
  refine (gup_calls w).mono ?_
  rintro e w1 ⟨rfl, hB1⟩
  have hb_1 := rep_up hb0 hB1
  have ha_1 := rep_up ha0 hB1
  clear hb0 ha0
  go_wp2_with fail
  refine (known4_calls i hi w1).mono ?_
  rintro e w2 ⟨⟨gb, rb, rfl, hG_2, hR_2⟩, hb2⟩
  rw [← hx.out] at hG_2 hR_2
  have hB2 := below_trans hB1 hb2
  have hb_2 := rep_up hb_1 hb2
  have ha_2 := rep_up ha_1 hb2
  clear hb_1 ha_1 hb2
  go_wp2_with fail
  refine (genc_calls ok.out hG_2 hb_2).mono ?_
  rintro e w3 ⟨he, hb3⟩
  have hG_3 := rep_up hG_2 hb3
  have hR_3 := rep_up hR_2 hb3
  have hb_3 := rep_up hb_2 hb3
  have ha_3 := rep_up ha_2 hb3
  clear hG_2 hR_2 hb_2 ha_2
  have hB3 := below_trans hB2 hb3
  by_cases hl : xb.length = x.2.2.2
  rotate_left
  · obtain ⟨q0, Q0, ql0, qc0, Q1, ql1, qc1, Q2, ql2, qc2, qe, _, _, _, _, _, _, _, _, qk, _⟩ := rgrp_open hR_3
    simp only [Value.pointer.injEq, Option.some.injEq, Addr.mk.injEq, and_true] at qe
    subst qe
    rw [show encE x xb = .error 1 by unfold encE; rw [if_pos hl]] at he
    obtain rfl : e = .returned (.tuple #[.slice none 0 0, .iface 38 (.int .i64 1)]) := he
    have hc : ((xb.length : Int) == (x.2.2.2 : Int)) = false := by rw [beq_eq_false_iff_ne, ne_eq]; omega
    have hc2 : ((xb.length : Int) != (x.2.2.2 : Int)) = true := by rw [bne, hc]; rfl
    clear hl
    clear hb_3
    go_wp2_with fail
    refine (short4_calls ha_3 6 (by omega)).mono ?_
    rintro e w' ⟨⟨sv, rfl, hs⟩, rfl⟩
    clear ha_3
    obtain ⟨ds, hds⟩ : ∃ ds, ds = xa.take 6 := ⟨_, rfl⟩
    have hdl : ds.length ≤ 6 := by rw [hds, List.length_take]; omega
    rw [← hds] at hs
    have hdd := num_dig hs
    have ha6 : Pl.val B64 ds < B64 ^ 6 := Nat.lt_of_lt_of_le (Pl.val_lt hdd) (Nat.pow_le_pow_right B64_pos hdl)
    clear hds hdd
    obtain ⟨a, hav⟩ : ∃ a, a = Pl.val B64 ds := ⟨_, rfl⟩
    rw [← hav] at ha6
    replace hav := hid hav
    have hra := raw_of hs
    rw [← hav.out] at hra
    obtain ⟨sA, scap, rfl, hsc, hsm⟩ := sl_open hs
    have la := lel.out a (lim_up ha6 (by omega))
    have sa : Small a := small_limbs ha6 (by omega)
    have hds2 : ds.length ≤ 20000 := by omega
    clear ha6
    go_wp2_with fail
    refine (gdec_calls ok.out hG_3 hra la).mono ?_
    rintro e w4 ⟨he, hb4⟩
    unfold DecPost at he
    have hG_4 := rep_up hG_3 hb4
    have hR_4 := rep_up hR_3 hb4
    have hs_4 := rep_up hs hb4
    have hra_4 := rep_up hra hb4
    clear hG_3 hR_3 hs hra
    have hB4 := below_trans hB3 hb4
    clear hra_4
    by_cases hE : elB x.1 x.2.1 a = true
    rotate_left
    · have hEf : elB x.1 x.2.1 a = false := by simpa using hE
      rw [if_pos hEf] at he
      obtain rfl : e = .returned (.tuple #[.slice none 0 0, .iface 38 (.int .i64 8)]) := he
      replace hEf := hid hEf
      clear hE
      go_wp2_with fail
      refine (of_dig hs_4 hds2).mono ?_
      rintro e w5 ⟨⟨ru, rfl, hru⟩, hb5⟩
      rw [← hav.out] at hru
      replace hru := RefN.old hru
      have hG_5 := rep_up hG_4 hb5
      have hR_5 := rep_up hR_4 hb5
      have hs_5 := rep_up hs_4 hb5
      clear hG_4 hR_4 hs_4
      have hB5 := below_trans hB4 hb5
      clear hs_5
      go_wp2_with fail
      refine (rgis_calls (gok_rsm ok.out) hR_5 hru sa).mono ?_
      rintro e w6 ⟨rfl, hb6⟩
      rw [hEf.out]
      have hG_6 := rep_up hG_5 hb6
      have hR_6 := rep_up hR_5 hb6
      have hru_6 := rep_up hru hb6
      clear hG_5 hR_5 hru
      have hB6 := below_trans hB5 hb6
      go_wp2_with fail
      go_ret
      exact ⟨rfl, hB6⟩
    · rw [hE, if_neg (by simp)] at he
      have hEl := elB_iff.1 hE
      replace hE := hid hE
      obtain ⟨V, hV⟩ : ∃ V, V = decN x a := ⟨_, rfl⟩
      rw [← hV] at he
      replace hV := hid hV
      replace hEl := hid hEl
      by_cases hlt : 8 * x.2.2.2 < bitLen V
      · rw [if_pos hlt] at he
        obtain rfl : e = .returned (.tuple #[.slice none 0 0, .iface 38 (.int .i64 2)]) := he
        have hd : Hid (decide (bitLen V ≤ 8 * x.2.2.2) = false) := by show _ = _; rw [decide_eq_false_iff_not]; omega
        clear hlt
        go_wp2_with fail
        refine (of_dig hs_4 hds2).mono ?_
        rintro e w5 ⟨⟨ru, rfl, hru⟩, hb5⟩
        rw [← hav.out] at hru
        replace hru := RefN.old hru
        have hG_5 := rep_up hG_4 hb5
        have hR_5 := rep_up hR_4 hb5
        have hs_5 := rep_up hs_4 hb5
        clear hG_4 hR_4 hs_4
        have hB5 := below_trans hB4 hb5
        clear hs_5
        go_wp2_with fail
        refine (rgis_calls (gok_rsm ok.out) hR_5 hru sa).mono ?_
        rintro e w6 ⟨rfl, hb6⟩
        rw [hE.out]
        have hG_6 := rep_up hG_5 hb6
        have hR_6 := rep_up hR_5 hb6
        have hru_6 := rep_up hru hb6
        clear hG_5 hR_5 hru
        have hB6 := below_trans hB5 hb6
        go_wp2_with fail
        refine (rgdec_calls ok.out hR_6 hru_6 hEl.out).mono ?_
        rintro e w7 ⟨⟨rv, rfl, hrv⟩, hb7⟩
        rw [← hV.out, hd.out]
        have hG_7 := rep_up hG_6 hb7
        have hR_7 := rep_up hR_6 hb7
        have hru_7 := rep_up hru_6 hb7
        clear hG_6 hR_6 hru_6
        have hB7 := below_trans hB6 hb7
        go_wp2_with fail
        go_ret
        exact ⟨rfl, hB7⟩
      · rw [if_neg hlt] at he
        obtain ⟨cv, rfl, hcv⟩ := he
        replace hcv := ByteS.old hcv
        have hd : Hid (decide (bitLen V ≤ 8 * x.2.2.2) = true) := by show _ = _; rw [decide_eq_true_eq]; omega
        clear hlt
        go_wp2_with fail
        refine (of_dig hs_4 hds2).mono ?_
        rintro e w5 ⟨⟨ru, rfl, hru⟩, hb5⟩
        rw [← hav.out] at hru
        replace hru := RefN.old hru
        have hG_5 := rep_up hG_4 hb5
        have hR_5 := rep_up hR_4 hb5
        have hs_5 := rep_up hs_4 hb5
        have hcv_5 := rep_up hcv hb5
        clear hG_4 hR_4 hs_4 hcv
        have hB5 := below_trans hB4 hb5
        clear hs_5
        go_wp2_with fail
        refine (rgis_calls (gok_rsm ok.out) hR_5 hru sa).mono ?_
        rintro e w6 ⟨rfl, hb6⟩
        rw [hE.out]
        have hG_6 := rep_up hG_5 hb6
        have hR_6 := rep_up hR_5 hb6
        have hcv_6 := rep_up hcv_5 hb6
        have hru_6 := rep_up hru hb6
        clear hG_5 hR_5 hcv_5 hru
        have hB6 := below_trans hB5 hb6
        go_wp2_with fail
        refine (rgdec_calls ok.out hR_6 hru_6 hEl.out).mono ?_
        rintro e w7 ⟨⟨rv, rfl, hrv⟩, hb7⟩
        rw [← hV.out, hd.out]
        rw [← hV.out] at hrv
        have hG_7 := rep_up hG_6 hb7
        have hR_7 := rep_up hR_6 hb7
        have hcv_7 := rep_up hcv_6 hb7
        have hru_7 := rep_up hru_6 hb7
        clear hG_6 hR_6 hcv_6 hru_6
        have hB7 := below_trans hB6 hb7
        have hs1 := str_run hcv_7
        have hs2 := str_run hrv
        go_wp2_with fail
        go_ret
        exact ⟨rfl, hB7⟩
  · obtain ⟨q0, Q0, ql0, qc0, Q1, ql1, qc1, Q2, ql2, qc2, qe, _, _, _, _, _, _, _, _, qk, _⟩ := rgrp_open hR_3
    simp only [Value.pointer.injEq, Option.some.injEq, Addr.mk.injEq, and_true] at qe
    subst qe

    rw [show encE x xb = .ok (encN x xb) by unfold encE; rw [if_neg (by omega)]] at he
    obtain ⟨ev, rfl, hev⟩ := he
    rw [errV_zero]
    replace hev := NumN.old hev
    have hc : ((xb.length : Int) == (x.2.2.2 : Int)) = true := by rw [beq_iff_eq]; omega
    have hc2 : ((xb.length : Int) != (x.2.2.2 : Int)) = false := by rw [bne, hc]; rfl
    have hel := hid (enc_el ok.out hbd.out hl).1
    have hdn := hid (dec_enc ok.out hbd.out hl)
    have hbl := hid (show Pl.beL x.2.2.2 (Pl.be xb) = xb by rw [← hl]; exact Pl.beL_be hbd.out)
    have hbb := hid (show ¬ 8 * x.2.2.2 < bitLen (Pl.be xb) by
      have h1 := Pl.be_lt hbd.out
      rw [hl, show 256 = 2 ^ 8 by decide, ← Nat.pow_mul] at h1
      have := bitLen_le_iff.2 h1
      omega)
    obtain ⟨en, hen⟩ : ∃ en, en = encN x xb := ⟨_, rfl⟩
    rw [← hen] at hev hel hdn
    replace hen := hid hen
    have sen := hid (gok_small ok.out (Nat.le_of_lt hel.out.lt))
    have len := lel.out en (Nat.lt_trans hel.out.lt P100.out)
    replace hl := hid hl
    go_wp2_with fail
    refine (gdec_calls ok.out hG_3 (num_raw hev) len).mono ?_
    rintro e w4 ⟨he, hb4⟩
    unfold DecPost at he
    rw [elB_iff.2 hel.out, if_neg (by simp), hdn.out, if_neg hbb.out, hbl.out] at he
    obtain ⟨kv, rfl, hkv⟩ := he
    replace hkv := ByteS.old hkv
    have hG_4 := rep_up hG_3 hb4
    have hR_4 := rep_up hR_3 hb4
    have hb_4 := rep_up hb_3 hb4
    have ha_4 := rep_up ha_3 hb4
    have hev_4 := rep_up hev hb4
    clear hG_3 hR_3 hb_3 ha_3 hev
    have hB4 := below_trans hB3 hb4
    go_wp2_with fail
    refine (rgenc_calls ok.out hR_4 hb_4 hl.out).mono ?_
    rintro e w5 ⟨⟨zv, rfl, hzv⟩, hb5⟩
    rw [← hen.out] at hzv
    have hG_5 := rep_up hG_4 hb5
    have hR_5 := rep_up hR_4 hb5
    have hb_5 := rep_up hb_4 hb5
    have ha_5 := rep_up ha_4 hb5
    have hev_5 := rep_up hev_4 hb5
    have hkv_5 := rep_up hkv hb5
    clear hG_4 hR_4 hb_4 ha_4 hev_4 hkv
    have hB5 := below_trans hB4 hb5
    go_wp2_with fail
    refine (to_calls hzv sen.out).mono ?_
    rintro e w6 ⟨⟨yv, rfl, hyv⟩, hb6⟩
    replace hyv := NumN.old hyv
    have hG_6 := rep_up hG_5 hb6
    have hR_6 := rep_up hR_5 hb6
    have hb_6 := rep_up hb_5 hb6
    have ha_6 := rep_up ha_5 hb6
    have hev_6 := rep_up hev_5 hb6
    have hkv_6 := rep_up hkv_5 hb6
    have hzv_6 := rep_up hzv hb6
    clear hG_5 hR_5 hb_5 ha_5 hev_5 hkv_5 hzv
    have hB6 := below_trans hB5 hb6
    clear hzv_6
    go_wp2_with fail
    refine (same_num hev_6 hyv).mono ?_
    rintro e w7 ⟨rfl, hst7⟩
    have hb7 := hst7.below
    have hG_7 := rep_up hG_6 hb7
    have hR_7 := rep_up hR_6 hb7
    have hb_7 := rep_up hb_6 hb7
    have ha_7 := rep_up ha_6 hb7
    have hev_7 := rep_up hev_6 hb7
    have hkv_7 := rep_up hkv_6 hb7
    have hyv_7 := rep_up hyv hb7
    clear hG_6 hR_6 hb_6 ha_6 hev_6 hkv_6 hyv
    have hB7 := below_trans hB6 hb7
    clear hyv_7
    have hs1 := str_run hkv_7
    have hs2 := str_run hb_7
    clear hkv_7
    clear hb_7
    go_wp2_with fail
    refine (gis_calls hG_7 (num_raw hev_7) len).mono ?_
    rintro e w8 ⟨rfl, hb8⟩
    rw [elB_iff.2 hel.out]
    clear hs1 hs2
    have hG_8 := rep_up hG_7 hb8
    have hR_8 := rep_up hR_7 hb8
    have ha_8 := rep_up ha_7 hb8
    have hev_8 := rep_up hev_7 hb8
    clear hG_7 hR_7 ha_7 hev_7
    have hB8 := below_trans hB7 hb8
    clear hev_8
    clear len hel hdn hbl hbb hen sen
    go_wp2_with fail
    refine (short4_calls ha_8 6 (by omega)).mono ?_
    rintro e w' ⟨⟨sv, rfl, hs⟩, rfl⟩
    clear ha_8
    obtain ⟨ds, hds⟩ : ∃ ds, ds = xa.take 6 := ⟨_, rfl⟩
    have hdl : ds.length ≤ 6 := by rw [hds, List.length_take]; omega
    rw [← hds] at hs
    have hdd := num_dig hs
    have ha6 : Pl.val B64 ds < B64 ^ 6 := Nat.lt_of_lt_of_le (Pl.val_lt hdd) (Nat.pow_le_pow_right B64_pos hdl)
    clear hds hdd
    obtain ⟨a, hav⟩ : ∃ a, a = Pl.val B64 ds := ⟨_, rfl⟩
    rw [← hav] at ha6
    replace hav := hid hav
    have hra := raw_of hs
    rw [← hav.out] at hra
    obtain ⟨sA, scap, rfl, hsc, hsm⟩ := sl_open hs
    have la := lel.out a (lim_up ha6 (by omega))
    have sa : Small a := small_limbs ha6 (by omega)
    have hds2 : ds.length ≤ 20000 := by omega
    clear ha6
    go_wp2_with fail
    refine (gdec_calls ok.out hG_8 hra la).mono ?_
    rintro e w9 ⟨he, hb9⟩
    unfold DecPost at he
    have hG_9 := rep_up hG_8 hb9
    have hR_9 := rep_up hR_8 hb9
    have hs_9 := rep_up hs hb9
    have hra_9 := rep_up hra hb9
    clear hG_8 hR_8 hs hra
    have hB9 := below_trans hB8 hb9
    clear hra_9
    by_cases hE : elB x.1 x.2.1 a = true
    rotate_left
    · have hEf : elB x.1 x.2.1 a = false := by simpa using hE
      rw [if_pos hEf] at he
      obtain rfl : e = .returned (.tuple #[.slice none 0 0, .iface 38 (.int .i64 8)]) := he
      replace hEf := hid hEf
      clear hE
      go_wp2_with fail
      refine (of_dig hs_9 hds2).mono ?_
      rintro e w10 ⟨⟨ru, rfl, hru⟩, hb10⟩
      rw [← hav.out] at hru
      replace hru := RefN.old hru
      have hG_10 := rep_up hG_9 hb10
      have hR_10 := rep_up hR_9 hb10
      have hs_10 := rep_up hs_9 hb10
      clear hG_9 hR_9 hs_9
      have hB10 := below_trans hB9 hb10
      clear hs_10
      go_wp2_with fail
      refine (rgis_calls (gok_rsm ok.out) hR_10 hru sa).mono ?_
      rintro e w11 ⟨rfl, hb11⟩
      rw [hEf.out]
      have hG_11 := rep_up hG_10 hb11
      have hR_11 := rep_up hR_10 hb11
      have hru_11 := rep_up hru hb11
      clear hG_10 hR_10 hru
      have hB11 := below_trans hB10 hb11
      go_wp2_with fail
      go_ret
      exact ⟨rfl, hB11⟩
    · rw [hE, if_neg (by simp)] at he
      have hEl := elB_iff.1 hE
      replace hE := hid hE
      obtain ⟨V, hV⟩ : ∃ V, V = decN x a := ⟨_, rfl⟩
      rw [← hV] at he
      replace hV := hid hV
      replace hEl := hid hEl
      by_cases hlt : 8 * x.2.2.2 < bitLen V
      · rw [if_pos hlt] at he
        obtain rfl : e = .returned (.tuple #[.slice none 0 0, .iface 38 (.int .i64 2)]) := he
        have hd : Hid (decide (bitLen V ≤ 8 * x.2.2.2) = false) := by show _ = _; rw [decide_eq_false_iff_not]; omega
        clear hlt
        go_wp2_with fail
        refine (of_dig hs_9 hds2).mono ?_
        rintro e w10 ⟨⟨ru, rfl, hru⟩, hb10⟩
        rw [← hav.out] at hru
        replace hru := RefN.old hru
        have hG_10 := rep_up hG_9 hb10
        have hR_10 := rep_up hR_9 hb10
        have hs_10 := rep_up hs_9 hb10
        clear hG_9 hR_9 hs_9
        have hB10 := below_trans hB9 hb10
        clear hs_10
        go_wp2_with fail
        refine (rgis_calls (gok_rsm ok.out) hR_10 hru sa).mono ?_
        rintro e w11 ⟨rfl, hb11⟩
        rw [hE.out]
        have hG_11 := rep_up hG_10 hb11
        have hR_11 := rep_up hR_10 hb11
        have hru_11 := rep_up hru hb11
        clear hG_10 hR_10 hru
        have hB11 := below_trans hB10 hb11
        go_wp2_with fail
        refine (rgdec_calls ok.out hR_11 hru_11 hEl.out).mono ?_
        rintro e w12 ⟨⟨rv, rfl, hrv⟩, hb12⟩
        rw [← hV.out, hd.out]
        have hG_12 := rep_up hG_11 hb12
        have hR_12 := rep_up hR_11 hb12
        have hru_12 := rep_up hru_11 hb12
        clear hG_11 hR_11 hru_11
        have hB12 := below_trans hB11 hb12
        go_wp2_with fail
        go_ret
        exact ⟨rfl, hB12⟩
      · rw [if_neg hlt] at he
        obtain ⟨cv, rfl, hcv⟩ := he
        replace hcv := ByteS.old hcv
        have hd : Hid (decide (bitLen V ≤ 8 * x.2.2.2) = true) := by show _ = _; rw [decide_eq_true_eq]; omega
        clear hlt
        go_wp2_with fail
        refine (of_dig hs_9 hds2).mono ?_
        rintro e w10 ⟨⟨ru, rfl, hru⟩, hb10⟩
        rw [← hav.out] at hru
        replace hru := RefN.old hru
        have hG_10 := rep_up hG_9 hb10
        have hR_10 := rep_up hR_9 hb10
        have hs_10 := rep_up hs_9 hb10
        have hcv_10 := rep_up hcv hb10
        clear hG_9 hR_9 hs_9 hcv
        have hB10 := below_trans hB9 hb10
        clear hs_10
        go_wp2_with fail
        refine (rgis_calls (gok_rsm ok.out) hR_10 hru sa).mono ?_
        rintro e w11 ⟨rfl, hb11⟩
        rw [hE.out]
        have hG_11 := rep_up hG_10 hb11
        have hR_11 := rep_up hR_10 hb11
        have hcv_11 := rep_up hcv_10 hb11
        have hru_11 := rep_up hru hb11
        clear hG_10 hR_10 hcv_10 hru
        have hB11 := below_trans hB10 hb11
        go_wp2_with fail
        refine (rgdec_calls ok.out hR_11 hru_11 hEl.out).mono ?_
        rintro e w12 ⟨⟨rv, rfl, hrv⟩, hb12⟩
        rw [← hV.out, hd.out]
        rw [← hV.out] at hrv
        have hG_12 := rep_up hG_11 hb12
        have hR_12 := rep_up hR_11 hb12
        have hcv_12 := rep_up hcv_11 hb12
        have hru_12 := rep_up hru_11 hb12
        clear hG_11 hR_11 hcv_11 hru_11
        have hB12 := below_trans hB11 hb12
        have hs1 := str_run hcv_12
        have hs2 := str_run hrv
        go_wp2_with fail
        go_ret
        exact ⟨rfl, hB12⟩

end Go.Proofs.Ytphbacggmhjmgaa
