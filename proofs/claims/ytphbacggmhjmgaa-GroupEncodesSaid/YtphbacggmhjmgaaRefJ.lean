/- The references' groups, second part: Encode, Decode, New. -/
import Derived.Test.YtphbacggmhjmgaaRefI
namespace Go.Proofs.Ytphbacggmhjmgaa
open Go.RowKit

theorem gok_rsm {x : G4} (h : GOk x) : RSm x := by
  have h1 := h.lim
  have hpp : x.1 * x.1 < B64 ^ 64 := by
    rw [show B64 ^ 64 = B64 ^ 32 * B64 ^ 32 by rw [← Nat.pow_add]]
    exact Nat.mul_lt_mul'' h1 h1
  have ht := h.grp.tw
  exact ⟨small_limbs (k := 65) (by rw [Nat.pow_succ, Nat.mul_comm]; exact Nat.mul_lt_mul_of_lt_of_le hpp (by decide) (by decide)) (by omega), small_limbs (k := 32) (by omega) (by omega), by omega⟩
theorem gok_small {x : G4} (h : GOk x) {n : Nat} (hn : n ≤ x.1) : Small n := small_limbs (k := 32) (Nat.lt_of_le_of_lt hn h.lim) (by omega)

set_option maxHeartbeats 4000000 in
theorem rgenc_calls {S T : Nat → Prop} {w : World} {x : G4} {bs : List Nat} {v vb : Value} (ok : GOk x) (h : RGrpP.rep S w x [v]) (hb : ByteS.rep T w bs [vb]) (hl : bs.length = x.2.2.2) :
    Calls Try.prog 13 #[v, vb] w fun e w' => (∃ u, e = .returned u ∧ RefN.rep (· < w'.heap.size) w' (encN x bs) [u]) ∧ Below w.heap.size w w' := by
  obtain ⟨b, A0, l0, c0, A1, l1, c1, A2, l2, c2, rfl, hS, hbl, hp, hq, _, k0, k1, _, _, _⟩ := rgrp_open h
  have hd := num_dig hb
  obtain ⟨g1, g2, g3⟩ := gok_bits ok
  obtain ⟨hel, hbe⟩ := enc_el ok hd hl
  have htw := ok.grp.tw
  obtain ⟨N, hN⟩ : ∃ N, N = Pl.be bs + 1 := ⟨_, rfl⟩
  have hNx : N ≤ x.1 := by omega
  have sN : Small N := gok_small ok hNx
  have sb : Small (Pl.be bs) := gok_small ok (by omega)
  have sx : Small x.1 := gok_small ok (Nat.le_refl _)
  have s1 : Small 1 := small_nat (by omega)
  have hR := hid (show encN x bs = if elB x.1 x.2.1 N then N else x.1 - N by unfold encN; rw [hN])
  have hl' : bs.length ≤ 100000 := by omega
  replace hN := hid hN
  clear hel hl hd
  go_enter Try.func13, Try.ntmps13
  go_wp2_with fail
  refine (rfrom_calls hb hl').mono ?_
  rintro e w1 ⟨⟨u1, rfl, hu1⟩, hb1⟩
  go_wp2_with fail
  refine (rone_calls _).mono ?_
  rintro e w2 ⟨⟨u2, rfl, hu2⟩, hb2⟩
  go_wp2_with fail
  refine (radd_calls (RefN.below hu1 hb2) hu2 sb s1).mono ?_
  rintro e w3 ⟨⟨u3, rfl, hu3⟩, hb3⟩
  rw [← hN.out] at hu3
  replace hu3 := RefN.old hu3
  have hB3 := below_trans (below_trans hb1 hb2) hb3
  have h3 := RGrpP.below h hB3
  go_wp2_with fail
  refine (rgis_calls (gok_rsm ok) h3 hu3 sN).mono ?_
  rintro e w4 ⟨rfl, hb4⟩
  have hB4 := below_trans hB3 hb4
  replace hu3 := rep_up hu3 hb4
  have k0' := (hB4.cell (p := ⟨b, 0, none⟩) hbl).trans k0
  have hp4 := RefN.old (RefN.below hp hB4)
  clear k0 k1
  by_cases hE : elB x.1 x.2.1 N = true
  · have Hr := hid (hR.out.trans (if_pos hE))
    rw [hE]
    clear hE k0'
    go_wp2_with fail
    go_ret
    exact ⟨⟨u3, rfl, by rw [Hr.out]; exact hu3⟩, hB4⟩
  · have Hr := hid (hR.out.trans (if_neg hE))
    have hEf : elB x.1 x.2.1 N = false := by simpa using hE
    rw [hEf]
    clear hE hEf
    go_wp2_with fail
    refine (rsub_calls hp4 hu3 sx hNx).mono ?_
    rintro e w5 ⟨⟨u5, rfl, hu5⟩, hb5⟩
    clear k0'
    go_wp2_with fail
    go_ret
    exact ⟨⟨u5, rfl, by rw [Hr.out]; exact RefN.old hu5⟩, below_trans hB4 hb5⟩

set_option maxHeartbeats 4000000 in
set_option maxRecDepth 100000 in
theorem rgdec_calls {S T : Nat → Prop} {w : World} {x : G4} {a : Nat} {v va : Value} (ok : GOk x) (h : RGrpP.rep S w x [v]) (ha : RefN.rep T w a [va]) (hE : Num.El x.1 x.2.1 a) :
    Calls Try.prog 18 #[v, va] w fun e w' => (∃ u, e = .returned (.tuple #[u, .bool (decide (bitLen (decN x a) ≤ 8 * x.2.2.2))]) ∧ ByteS.rep (· < w'.heap.size) w' (Pl.beL x.2.2.2 (decN x a)) [u]) ∧ Below w.heap.size w w' := by
  obtain ⟨b, A0, l0, c0, A1, l1, c1, A2, l2, c2, rfl, hS, hbl, hp, hq, _, k0, k1, _, k3, hsz⟩ := rgrp_open h
  obtain ⟨Aa, al, ac, rfl, _⟩ := ref_low ha
  have htw := ok.grp.tw
  have hap := hE.pos
  have hal := hE.lt
  have sx : Small x.1 := gok_small ok (Nat.le_refl _)
  obtain ⟨Y, hY⟩ : ∃ Y, Y = if x.2.1 < a then x.1 - a else a := ⟨_, rfl⟩
  obtain ⟨V, hV⟩ : ∃ V, V = decN x a := ⟨_, rfl⟩
  have hYV := hid (show V = Y - 1 by rw [hV]; unfold decN; rw [← hY])
  have hY1 : 1 ≤ Y ∧ Y ≤ x.2.1 := by rw [hY]; split <;> omega
  rw [← hV]
  have sY : Small Y := gok_small ok (by omega)
  have sV : Small V := gok_small ok (by rw [hYV.out]; omega)
  replace hY := hid hY
  have hs6 : x.2.2.2 ≤ 1000000 := by omega
  obtain ⟨hY1, hY2⟩ := hY1
  obtain ⟨sz, hszd⟩ : ∃ sz, sz = x.2.2.2 := ⟨_, rfl⟩
  rw [← hszd] at k3 hsz hs6 ⊢
  clear hV hE hszd
  go_enter Try.func18, Try.ntmps18
  go_wp2_with fail
  refine (rcmp_calls ha hq).mono ?_
  rintro e w1 ⟨rfl, hst⟩
  have hB1 := hst.below
  clear k1
  go_upto_if 14 with (fail)
  go_cut [6] (fun v6 wc => RefN.rep (· < wc.heap.size) wc Y [v6] ∧ Below w.heap.size w wc)
  case first =>
    by_cases hlt : x.2.1 < a
    · have hc : 0 < Pl.cmp a x.2.1 := by rw [cmp_gt hlt]; omega
      have HY2 := hid (hY.out.trans (if_pos hlt))
      have k0' := (hB1.cell (p := ⟨b, 0, none⟩) hbl).trans k0
      have hle : a ≤ x.1 := by omega
      clear hlt k0
      go_wp2_with fail
      refine (rsub_calls (RefN.below hp hB1) (RefN.below ha hB1) sx hle).mono ?_
      rintro e w4 ⟨⟨u4, rfl, hu4⟩, hb4⟩
      clear k0'
      go_wp2_with fail
      go_meet
      case rel => exact ⟨by rw [HY2.out]; exact RefN.old hu4, below_trans hB1 hb4⟩
    · have hc : ¬ 0 < Pl.cmp a x.2.1 := by rw [Pl.cmp_pos]; exact hlt
      have HY2 := hid (hY.out.trans (if_neg hlt))
      clear hlt
      go_wp2_with fail
      go_meet
      case rel => exact ⟨by rw [HY2.out]; exact RefN.old (RefN.below ha hB1), hB1⟩
  case rest =>
    obtain ⟨hcy, hBc⟩ := hcut
    obtain ⟨YA, yl, yc, rfl, _⟩ := ref_low hcy
    have k3' := (hBc.cell (p := ⟨b, 3, none⟩) hbl).trans k3
    have hbc : b < wc.heap.size := Nat.lt_of_lt_of_le hbl hBc.size
    have hSW : Below wc.heap.size wc wc.drew := (Below.refl _ _).drew
    have hcy' := ref_all hcy
    have s1 : Small 1 := small_nat (by omega)
    clear k0 k3
    go_upto_region 4 with (fail)
    go_region_held3 (fun w' => w'.cell? ⟨b, 3, none⟩ = some (.int .i64 (sz : Int)) ∧ Below wc.heap.size wc w')
      (first | exact ⟨k3', hSW⟩ | exact hSD)
      (first
      | (go_at_call 44
         have hH := ‹_ ∧ Below wc.heap.size wc _›
         refine (rone_calls _).mono ?_
         rintro e wO ⟨⟨uO, rfl, huO⟩, hbO⟩
         have hbl2 := Nat.lt_of_lt_of_le hbc hH.2.size
         have hSD := And.intro ((hbO.cell (p := ⟨b, 3, none⟩) hbl2).trans hH.1) (below_trans hH.2 hbO)
         replace huO := ref_all huO
         clear hH hbl2)
      | (go_at_call 28
         have hH := ‹_ ∧ Below wc.heap.size wc _›
         refine (rsub_calls (RefN.below hcy' hH.2) huO sY hY1).mono ?_
         rintro e wS ⟨⟨uS, rfl, huS⟩, hbS⟩
         rw [← hYV.out] at huS
         have hbl2 := Nat.lt_of_lt_of_le hbc hH.2.size
         have hSD := And.intro ((hbS.cell (p := ⟨b, 3, none⟩) hbl2).trans hH.1) (below_trans hH.2 hbS)
         clear hH hbl2)
      | (go_at_call 50
         have hH := ‹_ ∧ Below wc.heap.size wc _›
         refine (rbytes_calls huS sV hs6).mono ?_
         rintro e wB ⟨⟨uB, rfl, huB⟩, hbB⟩
         have hbl2 := Nat.lt_of_lt_of_le hbc hH.2.size
         have hSD := And.intro ((hbB.cell (p := ⟨b, 3, none⟩) hbl2).trans hH.1) (below_trans hH.2 hbB)
         replace huB := ByteS.old huB
         clear hH hbl2)
      | fail)
    all_goals
      have hBZ := below_trans hBc hSD.2
      go_wp2_with fail
      go_ret2
      exact ⟨⟨_, rfl, huB⟩, hBZ⟩

theorem gnewE_parts {gn : Nat} {l : List Step3} {x : G4} (h : gnewE gn l = .ok x) : 0 < l.length ∧ l.length ≤ 64 ∧ (Num.chainE (B64 ^ 32) (B64 ^ 64) l 0).1 = 0 ∧ (l.headD (0, 0, 0)).1 = x.1 ∧ (l.headD (0, 0, 0)).2.1 = x.2.1 ∧ x.1 / 2 = x.2.1 ∧ gn = x.2.2.1 := by
  unfold gnewE at h
  split at h
  · exact absurd h (by simp)
  split at h
  · exact absurd h (by simp)
  split at h
  · exact absurd h (by simp)
  split at h
  · exact absurd h (by simp)
  split at h
  · exact absurd h (by simp)
  rename_i h1 h2 h3 h4 h5
  simp only [Except.ok.injEq] at h
  subst h
  refine ⟨by omega, by omega, by simpa using h2, rfl, ?_, rfl, rfl⟩
  rcases Nat.decEq ((l.headD (0, 0, 0)).1 / 2) (l.headD (0, 0, 0)).2.1 with h | h
  · exact absurd (.inl h) h3
  · exact h.symm
theorem gsize_eq {H k : Nat} (h1 : 256 ^ k ≤ H) (h2 : H < 256 ^ (k + 1)) : gsize H = k := by
  have e8 : ∀ k, 256 ^ k = 2 ^ (8 * k) := fun k => by rw [show 256 = 2 ^ 8 by decide, ← Nat.pow_mul]
  rw [e8] at h1 h2
  have h3 := (bitLen_le_iff (n := H) (l := 8 * (k + 1))).2 h2
  have h4 : ¬ bitLen H ≤ 8 * k := by rw [bitLen_le_iff]; omega
  unfold gsize
  omega

/-- blocks of a call's own, but for one -/
def But (w w' : World) (g b : Nat) : Prop := Fresh w w' b ∧ b ≠ g
theorem same_but {w a : World} {g : Nat} {p : Addr} (hp : p.block = g) (v : Value) {w' : World} : Same (But w w' g) a (a.setCell p v) := same_setCell (Same.refl _ _) (fun _ hz => by rw [hp]; exact hz.2) v

end Go.Proofs.Ytphbacggmhjmgaa
