/- The references' groups, third part: New, of numbers that are right. -/
import Derived.Test.YtphbacggmhjmgaaRefJ
namespace Go.Proofs.Ytphbacggmhjmgaa
open Go.RowKit

theorem but_up {w a c : World} {g n : Nat} {v : Value} (h : RefN.rep (But w a g) a n [v]) (hb : Below a.heap.size a c) : RefN.rep (But w c g) c n [v] :=
  RefN.mono (RefN.below h hb) (fun _ hz => ⟨Fresh.mono (Nat.le_refl _) hb.size _ hz.1, hz.2⟩) (Same.refl _ _)
theorem but_set {w a : World} {g n : Nat} {v : Value} (h : RefN.rep (But w a g) a n [v]) (i : Nat) (u : Value) : RefN.rep (But w (a.setCell ⟨g, i, none⟩ u) g) (a.setCell ⟨g, i, none⟩ u) n [v] :=
  RefN.mono h (fun _ hz => ⟨⟨hz.1.1, by have := hz.1.2; simpa using this⟩, hz.2⟩) (same_setCell (a := ⟨g, i, none⟩) (Same.refl _ _) (fun _ hz => hz.2) u)
theorem but_new {w a : World} {n : Nat} {v : Value} (h : RefN.rep (Fresh w a) a n [v]) (o : Obj) : RefN.rep (But w (a.alloc o) a.heap.size) (a.alloc o) n [v] :=
  RefN.mono (RefN.below h (below_bs o)) (fun _ hz => ⟨⟨hz.1, by have := hz.2; simp; omega⟩, by have := hz.2; omega⟩) (Same.refl _ _)
set_option maxHeartbeats 8000000 in
set_option maxRecDepth 100000 in
theorem rgnew_ok {S T : Nat → Prop} {w : World} {gd : List Nat} {xs : List DStep} {x : G4} {vg vc : Value} (hg : NatS.rep T w gd [vg]) (h : DStepS.sl.rep S w xs [vc]) (lg : gd.length ≤ 20000) (ht : Told xs) (hE : gnewE (Pl.val B64 gd) (xs.map dv) = .ok x) :
    Calls Try.prog 34 #[.agg #[vg, vc]] w fun e w' => (∃ b : Nat, e = .returned (.tuple #[.pointer (some ⟨b, 0, none⟩), .int .i64 0, .int .i64 (-1)]) ∧ RGrpP.rep (Fresh w w') w' x [.pointer (some ⟨b, 0, none⟩)]) ∧ Below w.heap.size w w' := by
  replace hg := NatS.old hg
  replace h := DStepS.sl.old h
  have ok := gok_of hE
  obtain ⟨hl0, hl64, hch, hhd, hhq, hhalf, hgn⟩ := gnewE_parts hE
  rw [List.length_map] at hl0 hl64
  have hat0 : dv (xs[0]'hl0) = (xs.map dv).headD (0, 0, 0) := by cases xs with | nil => simp at hl0 | cons y l => rfl
  have hq0 := hid (show Pl.val B64 (xs[0]'hl0).2.1 = x.2.1 by rw [← hhq, ← hat0]; rfl)
  have hlens := hid (ht (xs[0]'hl0) (List.getElem_mem hl0))
  obtain ⟨P, hP⟩ : ∃ P, P = x.1 := ⟨_, rfl⟩
  obtain ⟨H, hH⟩ : ∃ H, H = x.2.1 := ⟨_, rfl⟩
  obtain ⟨gn, hgd⟩ : ∃ gn, gn = x.2.2.1 := ⟨_, rfl⟩
  have hx := hid (show x = (P, H, gn, gsize H) by rw [hP, hH, hgd, ← ok.size])
  have hB := gok_bits ok
  have hel := hid (show elB P H gn = true by rw [hP, hH, hgd]; exact elB_iff.2 ok.grp.el)
  have hg1 := hid (show gn ≠ 1 by rw [hgd]; exact ok.grp.ne)
  have hgs0 := hid (show 256 ^ gsize H ≤ H ∧ gsize H ≠ 0 by rw [hH, ← ok.size]; exact ⟨hB.1, by have := ok.pos; omega⟩)
  have hPH : P = 2 * H + 1 := by rw [hP, hH]; exact ok.grp.tw
  have hH2 : 2 < H := by rw [hH]; exact ok.grp.big
  have hP32 : P < B64 ^ 32 := by rw [hP]; exact ok.lim
  have hgl : gn < P := by rw [hP, hgd]; exact ok.grp.el.lt
  have sPP : Small (2 * (P * P)) := by rw [hP]; exact (gok_rsm ok).pp
  rw [← hH] at hhalf hq0
  rw [← hP] at hhalf hhd
  rw [← hgd] at hgn
  have Hch := hid hch
  have Hhd := hid hhd
  replace hgn := hid hgn
  replace hhalf := hid hhalf
  have hnl := hid (show ¬ ((xs.map dv).length = 0 ∨ 64 < (xs.map dv).length) by rw [List.length_map]; omega)
  have ss : ∀ {n}, n ≤ P → Small n := fun h => small_limbs (k := 32) (Nat.lt_of_le_of_lt h hP32) (by omega)
  have sP := ss (Nat.le_refl P)
  have sH : Small H := ss (by omega)
  have sG : Small gn := ss (by omega)
  have s2 : Small 2 := small_nat (by omega)
  have s4 : Small (2 * 2) := small_nat (by omega)
  have rgs := hid (gok_rsm ok)
  rw [hx.out]
  replace rgs : Hid (RSm (P, H, gn, 0)) := hid ⟨sPP, sH, by show 0 < P; omega⟩
  clear hE hch hhd hhq hP hH hgd hB ok ss hat0 hx x
  -- the arguments
  obtain ⟨cA, ccap, rfl, hccap, hccm⟩ := sl_open h
  obtain ⟨gA, gcap, rfl, hgcap, hgcm⟩ := sl_open hg
  have hb0 := below_alloc (Below.refl w.heap.size w) (.cells #[.slice gA gd.length gcap, .slice cA xs.length ccap] 55)
  have hr0 := Row.new w 55 #[.slice gA gd.length gcap, .slice cA xs.length ccap]
  have h0 := DStepS.sl.below h hb0
  have hg0 := NatS.below hg hb0
  have hwl := hr0.lt
  obtain ⟨b, o, A1, l1, c1, A2, l2, c2, A3, l3, c3, rfl, hSb, hbl, _, r2, _, _, k2, _⟩ := dchain_at h0 0 hl0
  rw [Nat.zero_mul, Nat.add_zero] at k2
  go_enter Try.func34, Try.ntmps34
  go_wp2_with fail
  refine (rcheck_calls h0 ht).mono ?_
  rintro e w1 ⟨he, hb1⟩
  unfold RCheckPost at he
  rw [if_neg hnl.out, if_pos Hch.out, Hhd.out] at he
  obtain ⟨pv, rfl, hp⟩ := he
  obtain ⟨PA, pl, pc, rfl, _, _, hpl⟩ := numn_open hp
  have hpl2 : pl ≤ 20000 := Nat.le_trans ((hpl 32).2 hP32) (by omega)
  have hB1 := below_trans hb0 hb1
  have hr1 := hr0.below hwl hb1
  have d0 := hr1.cell 0 (by simp)
  have d1 := hr1.cell 1 (by simp)
  simp only [List.getElem_cons_zero, List.getElem_cons_succ] at d0 d1
  have k21 := (hb1.cell (p := ⟨b, o + 1, none⟩) hbl).trans k2
  have r21 := NatS.below r2 hb1
  have hg1' := NatS.below hg0 hb1
  have hw1 : w.heap.size < w1.heap.size := hr1.lt
  have hb1l : b < w1.heap.size := Nat.lt_of_lt_of_le hbl hb1.size
  have hpr := raw_all (num_raw hp)
  replace ht := hid ht
  clear hpl hr0 h0 hg0 k2 r2 hb0 hb1 hwl hbl hr1 hp h hg
  go_upto_region 4 with (fail)
  have hSW : Below w1.heap.size w1 w1.drew := (Below.refl _ _).drew
  go_cut [8] from 31 (fun v8 wc => ∃ (g : Nat) (UA : Option Addr) (ul uc : Nat) (VA : Option Addr) (vl vc : Nat), v8 = .pointer (some ⟨g, 0, none⟩) ∧ w1.heap.size ≤ g ∧ Row wc g 37 [.slice UA ul uc, .slice none 0 0, .slice VA vl vc, .int .i64 0] ∧
    RefN.rep (But w wc g) wc P [.slice UA ul uc] ∧ RefN.rep (But w wc g) wc gn [.slice VA vl vc] ∧ Below w1.heap.size w1 wc)
  case first =>
    go_region_held3 (fun w' => w'.cell? ⟨w.heap.size, 0, none⟩ = some (.slice gA gd.length gcap) ∧ Below w1.heap.size w1 w')
      (first | exact ⟨d0, hSW⟩ | exact hSD | (have hH := ‹_ ∧ Below w1.heap.size w1 _›; exact ⟨((below_bs _).cell (p := ⟨w.heap.size, 0, none⟩) (Nat.lt_of_lt_of_le hw1 hH.2.size)).trans hH.1, below_trans hH.2 (below_bs _)⟩))
      (first
      | (go_at_call_of 16 (Value.slice PA pl pc)
         have hH := ‹_ ∧ Below w1.heap.size w1 _›
         refine (of_raw (RawN.below hpr hH.2) hpl2).mono ?_
         rintro e wP ⟨⟨uP, rfl, huP⟩, hbP⟩
         obtain ⟨UA, ul, uc, rfl, _⟩ := ref_low huP
         have hSD := And.intro ((hbP.cell (p := ⟨w.heap.size, 0, none⟩) (Nat.lt_of_lt_of_le hw1 hH.2.size)).trans hH.1) (below_trans hH.2 hbP)
         replace huP := RefN.mono huP (Fresh.mono (Nat.le_trans hB1.size hH.2.size) (Nat.le_refl _) : ∀ i, _ → Fresh w wP i) (Same.refl _ _)
         have hsP := hH.2.size
         clear hH)
      | (go_at_call_of 16 (Value.slice gA gd.length gcap)
         have hH := ‹_ ∧ Below w1.heap.size w1 _›
         refine (of_dig (NatS.below hg1' hH.2) lg).mono ?_
         rintro e wG ⟨⟨uG, rfl, huG⟩, hbG⟩
         rw [hgn.out] at huG
         obtain ⟨VA, vl, vc, rfl, _⟩ := ref_low huG
         have hSD := And.intro ((hbG.cell (p := ⟨w.heap.size, 0, none⟩) (Nat.lt_of_lt_of_le hw1 hH.2.size)).trans hH.1) (below_trans hH.2 hbG)
         replace huG := RefN.mono huG (Fresh.mono (Nat.le_trans hB1.size hH.2.size) (Nat.le_refl _) : ∀ i, _ → Fresh w wG i) (Same.refl _ _)
         clear hH)
      | fail)
    all_goals
      go_wp2_with fail
      go_meet
      case rel => exact ⟨_, _, _, _, _, _, _, rfl, by first | exact hSD.2.size | exact Nat.le_refl _, Row.new _ _ _, but_new (by first | exact huP | exact RefN.mono (RefN.below huP hbG) (Fresh.mono (Nat.le_refl _) hbG.size) (Same.refl _ _)) _, but_new (by first | exact huG | exact RefN.mono (RefN.below huG hbP) (Fresh.mono (Nat.le_refl _) hbP.size) (Same.refl _ _)) _, below_alloc hSD.2 _⟩
  case rest =>
    obtain ⟨g, UA, ul, uc, VA, vl, vc, rfl, hgw, hrow, hPn, hGn, hBc⟩ := hcut
    have hgl' := hrow.lt
    have hwg : w.heap.size < g := Nat.lt_of_lt_of_le hw1 hgw
    have d0c := (hBc.cell (p := ⟨w.heap.size, 0, none⟩) hw1).trans d0
    have d1c := (hBc.cell (p := ⟨w.heap.size, 1, none⟩) hw1).trans d1
    have k2c := (hBc.cell (p := ⟨b, o + 1, none⟩) hb1l).trans k21
    have r2c := NatS.below r21 hBc
    have hgc := NatS.below hg1' hBc
    have hBw := below_trans hB1 hBc
    have hbg : b ≠ g := by omega
    have hwn : w.heap.size ≠ g := by omega
    have hwc : w.heap.size < wc.heap.size := by omega
    have hbc : b < wc.heap.size := by omega
    have e0 := hrow.cell 0 (by simp)
    simp only [List.getElem_cons_zero] at e0
    have hb2 := below_bs (w := wc) (.cells #[.int .i64 2] 3)
    have hTwo := ref_litx wc 2 (by omega) (by omega) _ rfl
    clear d0 d1 k21 r21 hg1' hpr hB1 hSW
    go_wp2_with fail
    refine (rdiv_calls (RefN.below hPn hb2) hTwo sP s4 (by omega)).mono ?_
    rintro e w3 ⟨⟨uq, ur, rfl, huq, _⟩, hb3⟩
    rw [hhalf.out] at huq
    obtain ⟨HA, hl, hcap, rfl, _⟩ := ref_low huq
    have hb23 := below_trans hb2 hb3
    have hrow3 := hrow.below hgl' hb23
    have hgl3 : g < w3.heap.size := hrow3.lt
    have hH3 : RefN.rep (But w w3 g) w3 H [.slice HA hl hcap] := RefN.mono huq (fun z hz => ⟨⟨by have := hz.1; simp at this; omega, hz.2⟩, by have := hz.1; simp at this; omega⟩) (Same.refl _ _)
    have hP3 := but_up hPn hb23
    have hG3 := but_up hGn hb23
    have d03 := (hb23.cell (p := ⟨w.heap.size, 0, none⟩) hwc).trans d0c
    have d13 := (hb23.cell (p := ⟨w.heap.size, 1, none⟩) hwc).trans d1c
    have k23 := (hb23.cell (p := ⟨b, o + 1, none⟩) hbc).trans k2c
    have r23 := NatS.below r2c hb23
    have hg3 := NatS.below hgc hb23
    have hB3 := below_trans hBw hb23
    have e1 := hrow3.cell 1 (by simp)
    have f1 := hrow3.frozen 1
    simp only [List.getElem_cons_zero, List.getElem_cons_succ] at e1
    have hrow4 := hrow3.set 1 (.slice HA hl hcap)
    simp only [List.set_cons_zero, List.set_cons_succ] at hrow4
    have hw3 : w.heap.size < w3.heap.size := by omega
    have hb3l : b < w3.heap.size := Nat.lt_of_lt_of_le hbc hb23.size
    have hB4 := below_setCell hB3 (p := ⟨g, 1, none⟩) (Nat.le_of_lt hwg) (.slice HA hl hcap)
    have hP4 := but_set hP3 1 (.slice HA hl hcap)
    have hG4 := but_set hG3 1 (.slice HA hl hcap)
    have hH4 := but_set hH3 1 (.slice HA hl hcap)
    have sm4 : Same (fun z => z ≠ g) w3 (w3.setCell ⟨g, 1, none⟩ (.slice HA hl hcap)) := same_setCell (a := ⟨g, 1, none⟩) (Same.refl _ _) (fun _ hz => hz) _
    have z4 : (w3.setCell ⟨g, 1, none⟩ (.slice HA hl hcap)).heap.size = w3.heap.size := by simp
    obtain ⟨w4, hw4⟩ : ∃ w4, w4 = w3.setCell ⟨g, 1, none⟩ (.slice HA hl hcap) := ⟨_, rfl⟩
    rw [← hw4] at hrow4 hB4 hP4 hG4 hH4 sm4 z4
    have d14 := (sm4.cell (b := w.heap.size) (o := 1) hwn).trans d13
    have k24 := (sm4.cell (b := b) (o := o + 1) hbg).trans k23
    have d04 := (sm4.cell (b := w.heap.size) (o := 0) hwn).trans d03
    have sub4 := Same.mono sm4 (S' := (· < w.heap.size)) (fun z hz => by have hz' : z < w.heap.size := hz; omega)
    have r24 := NatS.mono r23 (fun _ h => h) sub4
    have hg4 := NatS.mono hg3 (fun _ h => h) sub4
    have hgl4 : g < w4.heap.size := hrow4.lt
    have hw4l : w.heap.size < w4.heap.size := by omega
    have hb4l : b < w4.heap.size := by omega
    clear hrow3 hH3 hP3 hG3 d03 d13 k23 r23 hg3 hB3 hgl3 hw3 hb3l sm4 sub4 d0c d1c k2c r2c hgc hBw huq hb23 hb2 hTwo hb3 hrow hPn hGn e0 hBc hgl' hwc hbc
    go_upto_region 7 with (fail)
    rw [← hw4]
    clear e1 f1 hw4
    go_wp2_with fail
    refine (of_dig r24 hlens.out.2.1).mono ?_
    rintro e w5 ⟨⟨u5, rfl, hu5⟩, hb5⟩
    rw [hq0.out] at hu5
    have hrow5 := hrow4.below hgl4 hb5
    have hP5 := but_up hP4 hb5
    have hG5 := but_up hG4 hb5
    have hH5 := but_up hH4 hb5
    have d05 := (hb5.cell (p := ⟨w.heap.size, 0, none⟩) hw4l).trans d04
    have hg5 := NatS.below hg4 hb5
    have hB5 := below_trans hB4 hb5
    have hgl5 : g < w5.heap.size := hrow5.lt
    have hw5l : w.heap.size < w5.heap.size := Nat.lt_of_lt_of_le hw4l hb5.size
    clear d14 k24 d04 r24 hg4 hrow4 hP4 hG4 hH4 hB4 hb4l z4
    go_wp2_with fail
    refine (rcmp_calls (ref_all hH5) hu5).mono ?_
    rintro e w6 ⟨rfl, hst⟩
    rw [cmp_eq rfl]
    have hb6 := below_trans hst.below (below_bs (.cells #[.int .i64 2] 3))
    have hTwo := ref_litx w6 2 (by omega) (by omega) _ rfl
    have hc2 : ¬ Pl.cmp H 2 ≤ 0 := cmp_not_le (by omega)
    go_wp2_with fail
    refine (rcmp_calls (ref_all (but_up hH5 hb6)) hTwo).mono ?_
    rintro e w7 ⟨rfl, hst2⟩
    have hb7 := below_trans hb6 hst2.below
    have hrow7 := hrow5.below hgl5 hb7
    have hP7 := but_up hP5 hb7
    have hG7 := but_up hG5 hb7
    have hH7 := but_up hH5 hb7
    have d07 := (hb7.cell (p := ⟨w.heap.size, 0, none⟩) hw5l).trans d05
    have hg7 := NatS.below hg5 hb7
    have hB7 := below_trans hB5 hb7
    have hgl7 : g < w7.heap.size := hrow7.lt
    have e2 := hrow7.cell 2 (by simp)
    simp only [List.getElem_cons_zero, List.getElem_cons_succ] at e2
    clear hrow5 hP5 hG5 hH5 d05 hg5 hB5 hTwo hu5 hst hst2 hb6 hb7 hb5
    go_wp2_with fail
    refine (limbs_calls (raw_of hg7)).mono ?_
    rintro e w' ⟨⟨ll, rfl, hll⟩, rfl⟩
    have hl64' : ll ≤ 64 := (hll 64).2 (by rw [hgn.out]; exact Nat.lt_trans hgl (lim_up hP32 (by omega)))
    have hGrp : RGrpP.rep (Fresh w w7) w7 (P, H, gn, 0) [.pointer (some ⟨g, 0, none⟩)] :=
      ⟨g, _, rfl, ⟨Nat.le_of_lt hwg, hgl7⟩, hgl7, hrow7, [_], _, rfl, RefN.mono hP7 (fun _ h => h.1) (Same.refl _ _), [_], _, rfl, RefN.mono hH7 (fun _ h => h.1) (Same.refl _ _), [_], [_], rfl, RefN.mono hG7 (fun _ h => h.1) (Same.refl _ _), rfl, by show (0 : Nat) < 1000000; omega⟩
    clear hll d07 hg7
    go_wp2_with fail
    refine (rgis_calls rgs.out hGrp (ref_all hG7) sG).mono ?_
    rintro e w8 ⟨rfl, hb8⟩
    rw [show elB (P, H, gn, 0).1 (P, H, gn, 0).2.1 gn = true from hel.out]
    have hrow8 := hrow7.below hgl7 hb8
    have hP8 := but_up hP7 hb8
    have hG8 := but_up hG7 hb8
    have hH8 := but_up hH7 hb8
    have hB8 := below_trans hB7 hb8
    have hgl8 : g < w8.heap.size := hrow8.lt
    have e28 := hrow8.cell 2 (by simp)
    simp only [List.getElem_cons_zero, List.getElem_cons_succ] at e28
    have hcg : (Pl.cmp gn 1 == 0) = false := cmp_ne0 hg1.out
    clear e2 hrow7 hP7 hG7 hH7 hB7 hGrp hb8
    go_upto_region 10 with (fail)
    go_cut [81] from 82 (fun v81 wc => v81 = .bool false ∧ Below w8.heap.size w8 wc)
    case first =>
      have hSW : Below w8.heap.size w8 w8.drew := (Below.refl _ _).drew
      have hGr := ref_all hG8
      go_region_held3 (fun w' => w'.cell? ⟨g, 2, none⟩ = some (.slice VA vl vc) ∧ Below w8.heap.size w8 w')
        (first | exact ⟨e28, hSW⟩ | exact hSD)
        (first
        | (go_at_call 44
           have hH := ‹_ ∧ Below w8.heap.size w8 _›
           refine (rone_calls _).mono ?_
           rintro e wO ⟨⟨uO, rfl, huO⟩, hbO⟩
           have hbl2 := Nat.lt_of_lt_of_le hgl8 hH.2.size
           have hSD := And.intro ((hbO.cell (p := ⟨g, 2, none⟩) hbl2).trans hH.1) (below_trans hH.2 hbO)
           replace huO := ref_all huO
           clear hH hbl2)
        | (go_at_call 48
           have hH := ‹_ ∧ Below w8.heap.size w8 _›
           refine (rcmp_calls (RefN.below hGr hH.2) huO).mono ?_
           rintro e wC ⟨rfl, hst⟩
           have hbl2 := Nat.lt_of_lt_of_le hgl8 hH.2.size
           have hSD := And.intro ((hst.below.cell (p := ⟨g, 2, none⟩) hbl2).trans hH.1) (below_trans hH.2 hst.below)
           clear hH hbl2 hst)
        | fail)
      all_goals
        go_wp2_with fail
        go_meet
        case rel => exact ⟨rfl, hSD.2⟩
    case rest =>
      obtain ⟨rfl, hbc⟩ := hcut
      have hrow9 := hrow8.below hgl8 hbc
      have hP9 := but_up hP8 hbc
      have hG9 := but_up hG8 hbc
      have hH9 := but_up hH8 hbc
      have hB9 := below_trans hB8 hbc
      clear e28 hrow8 hP8 hG8 hH8 hB8 hbc
      have hgl9 : g < wc.heap.size := hrow9.lt
      have hbl1 := below_bs (w := wc) (.cells #[.int .i64 256] 3)
      have hlit := ref_litx wc 256 (by omega) (by omega) _ rfl
      have hpow0 : RefN.rep (But w (wc.alloc (.cells #[.int .i64 256] 3)) g) (wc.alloc (.cells #[.int .i64 256] 3)) (256 ^ (0 + 1)) [.slice (some ⟨wc.heap.size, 0, none⟩) 1 1] := by
        rw [Nat.zero_add, Nat.pow_one]
        exact RefN.mono (ref_row (x := 256) (Row.new wc 3 #[.int .i64 256]) (by omega) (by omega)) (by rintro z rfl; exact ⟨⟨by omega, by simp⟩, by omega⟩) (Same.refl _ _)
      have hrow10 := hrow9.below hgl9 hbl1
      have hP10 := but_up hP9 hbl1
      have hG10 := but_up hG9 hbl1
      have hH10 := but_up hH9 hbl1
      have hB10 := below_trans hB9 hbl1
      clear hrow9 hP9 hG9 hH9 hB9 hgl9 hlit
      go_wp2_with fail
      go_loopw [12] (fun pv wr => ∃ k : Nat, RefN.rep (But w wr g) wr (256 ^ (k + 1)) [pv] ∧ Row wr g 37 [.slice UA ul uc, .slice HA hl hcap, .slice VA vl vc, .int .i64 (k : Int)] ∧ RefN.rep (But w wr g) wr P [.slice UA ul uc] ∧ RefN.rep (But w wr g) wr gn [.slice VA vl vc] ∧ RefN.rep (But w wr g) wr H [.slice HA hl hcap] ∧ Hid (256 ^ k ≤ H) ∧ k ≤ 256 ∧ Below w.heap.size w wr)
        (fun _ wr => 300 - (intOf ((wr.cell? ⟨g, 3, none⟩).getD undef)).toNat)
      case atStart => exact ⟨0, hpow0, hrow10, hP10, hG10, hH10, hid (by rw [Nat.pow_zero]; omega), by omega, hB10⟩
      case round =>
        obtain ⟨k, hpw, hrw, hPw, hGw, hHw, hk, hk256, hBr⟩ := hrel
        obtain ⟨W, rfl⟩ : ∃ W : World, W = wr := ⟨_, rfl⟩
        clear hpow0 hrow10 hP10 hG10 hH10 hB10 hbl1
        obtain ⟨WA, wl, wcap, rfl, _⟩ := ref_low hpw
        have hgW : g < W.heap.size := hrw.lt
        have s1 := hrw.cell 1 (by simp)
        have s3 := hrw.cell 3 (by simp)
        have sf3 := hrw.frozen 3
        simp only [List.getElem_cons_zero, List.getElem_cons_succ] at s1 s3
        have s3m := hid s3
        go_wp2_with fail
        refine (rcmp_calls (ref_all hpw) (ref_all hHw)).mono ?_
        rintro e w11 ⟨rfl, hst⟩
        have hb := hst.below
        have hrw' := hrw.below hgW hb
        have hpw' := but_up hpw hb
        have hPw' := but_up hPw hb
        have hGw' := but_up hGw hb
        have hHw' := but_up hHw hb
        have hBr' := below_trans hBr hb
        have t3 := hrw'.cell 3 (by simp)
        have tf3 := hrw'.frozen 3
        simp only [List.getElem_cons_zero, List.getElem_cons_succ] at t3
        have hgW' : g < w11.heap.size := hrw'.lt
        by_cases hle : 256 ^ (k + 1) ≤ H
        · have hc := cmp_le hle
          have hk2 : k + 1 ≤ 256 := by
            rcases Nat.lt_or_ge 256 (k + 1) with h | h
            · have h1 : 256 ^ (8 * 32) ≤ 256 ^ (k + 1) := Nat.pow_le_pow_right (by omega) (by omega)
              have h2 := B64_256 32
              omega
            · exact h
          obtain ⟨K1, hK1⟩ : ∃ K1, K1 = k + 1 := ⟨_, rfl⟩
          have hrw2 := hrw'.set 3 (.int .i64 (K1 : Int))
          simp only [List.set_cons_zero, List.set_cons_succ] at hrw2
          have hpw2 := but_set hpw' 3 (.int .i64 (K1 : Int))
          have hPw2 := but_set hPw' 3 (.int .i64 (K1 : Int))
          have hGw2 := but_set hGw' 3 (.int .i64 (K1 : Int))
          have hHw2 := but_set hHw' 3 (.int .i64 (K1 : Int))
          have hB2 := below_setCell hBr' (p := ⟨g, 3, none⟩) (Nat.le_of_lt hwg) (.int .i64 (K1 : Int))
          have ek : ((k : Int) + 1) = (K1 : Int) := by omega
          have hle2 := hid (show 256 ^ K1 ≤ H by rw [hK1]; exact hle)
          obtain ⟨w12, hw12⟩ : ∃ w12, w12 = w11.setCell ⟨g, 3, none⟩ (.int .i64 (K1 : Int)) := ⟨_, rfl⟩
          have z12 : w12.heap.size = w11.heap.size := by rw [hw12]; simp
          rw [← hw12] at hrw2 hpw2 hPw2 hGw2 hHw2 hB2
          have hbl := below_bs (w := w12) (.cells #[.int .i64 256] 3)
          have hlit := ref_litx w12 256 (by omega) (by omega) _ rfl
          have sk : Small (256 ^ (k + 1)) := small_bytes (k := k + 2) (Nat.pow_lt_pow_right (by omega) (by omega)) (by omega)
          have s256 : Small 256 := small_nat (by omega)
          have hgW2 : g < w12.heap.size := hrw2.lt
          replace hK1 := hid hK1
          clear hle hrw' hpw' hPw' hGw' hHw' hBr' hrw hpw hPw hGw hHw hBr s1 s3 sf3
          replace hw12 := hid hw12
          go_upto_region 15 with (fail)
          rw [← hw12.out]
          clear ek t3 tf3 hw12 z12
          go_wp2_with fail
          refine (rmul_calls (ref_all (but_up hpw2 hbl)) hlit sk s256).mono ?_
          rintro e w13 ⟨⟨u13, rfl, hu13⟩, hb13⟩
          rw [← Nat.pow_succ, ← hK1.out] at hu13
          have hb13' := below_trans hbl hb13
          have hsz := hbl.size
          have hun : RefN.rep (But w w13 g) w13 (256 ^ (K1 + 1)) [u13] := RefN.mono hu13 (fun z hz => ⟨⟨by have := hz.1; omega, hz.2⟩, by have := hz.1; omega⟩) (Same.refl _ _)
          have hrw13 := hrw2.below hgW2 hb13'
          have m3 := hrw13.cell 3 (by simp)
          simp only [List.getElem_cons_zero, List.getElem_cons_succ] at m3
          go_wp2_with fail
          go_roundw
          case rel => exact ⟨K1, hun, hrw13, but_up hPw2 hb13', but_up hGw2 hb13', but_up hHw2 hb13', hle2, by have := hK1.out; omega, below_trans hB2 hb13'⟩
          case measure => rw [m3, s3m.out]; have := hK1.out; simp [intOf]; omega
        · have hc := cmp_not_le hle
          have hgs := hid (gsize_eq hk.out (by omega))
          have hk0 : k ≠ 0 := by
            intro h
            have := hgs0.out.2
            rw [hgs.out] at this
            exact this h
          have hz : ((k : Int) == 0) = false := by rw [beq_eq_false_iff_ne, ne_eq]; omega
          have hres : RGrpP.rep (Fresh w w11) w11 (P, H, gn, gsize H) [.pointer (some ⟨g, 0, none⟩)] := by
            rw [hgs.out]
            exact ⟨g, _, rfl, ⟨Nat.le_of_lt hwg, hgW'⟩, hgW', hrw', [_], _, rfl, RefN.mono hPw' (fun _ h => h.1) (Same.refl _ _), [_], _, rfl, RefN.mono hHw' (fun _ h => h.1) (Same.refl _ _), [_], [_], rfl, RefN.mono hGw' (fun _ h => h.1) (Same.refl _ _), rfl, by show k < 1000000; omega⟩
          clear hle hrw hpw hPw hGw hHw hBr s1 s3 sf3 hk0
          go_wp2_with fail
          go_ret3
          exact ⟨⟨_, rfl, hres⟩, hBr'⟩
end Go.Proofs.Ytphbacggmhjmgaa
