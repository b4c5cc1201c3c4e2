/- The layer group, fifth part: bytes as elements, and back. -/
import Derived.Test.YtphbacggmhjmgaaPlKnown
import Derived.Test.YtphbacggmhjmgaaNatJ
namespace Go.Proofs.Ytphbacggmhjmgaa
open Go.RowKit

/-- what is known of a group that was made -/
structure GOk (x : G4) : Prop where
  grp : Num.Grp x.1 x.2.1 x.2.2.1
  lim : x.1 < B64 ^ 32
  size : x.2.2.2 = gsize x.2.1
  pos : 0 < x.2.2.2

theorem gok_of {gn : Nat} {l : List Step3} {x : G4} (h : gnewE gn l = .ok x) : GOk x := by
  obtain ⟨h1, h2, h3, h4, _⟩ := gnewE_grp h
  exact ⟨h1, h2, h3, Nat.pos_of_ne_zero h4⟩
theorem gok_bits {x : G4} (h : GOk x) : 256 ^ x.2.2.2 ≤ x.2.1 ∧ x.2.1 < 256 ^ (x.2.2.2 + 1) ∧ x.2.2.2 ≤ 255 := by
  have hq : x.2.1 ≠ 0 := by have := h.grp.big; omega
  have h1 := (bitLen_spec x.2.1).1
  have h2 := (bitLen_spec x.2.1).2 hq
  have hs := h.size
  unfold gsize at hs
  have hb : bitLen x.2.1 ≤ 2048 := by
    rw [bitLen_le_iff]
    exact two_pow 64 B64 (by decide) _ 32 2048 (by omega) (by have := h.lim; have := h.grp.tw; omega)
  generalize bitLen x.2.1 = L at *
  have e8 : ∀ k, 256 ^ k = 2 ^ (8 * k) := fun k => by rw [show 256 = 2 ^ 8 by decide, ← Nat.pow_mul]
  have hL : 0 < L := by
    rcases Nat.eq_zero_or_pos L with h | h
    · subst h; have := h1; simp at this; omega
    · exact h
  refine ⟨?_, ?_, by omega⟩
  · have h3 : 2 ^ L = 2 * 2 ^ (L - 1) := by rw [← Nat.pow_succ', show (L - 1).succ = L by omega]
    have h4 : 2 ^ (8 * x.2.2.2) ≤ 2 ^ (L - 1) := Nat.pow_le_pow_right (by omega) (by omega)
    rw [e8]; omega
  · rw [e8]
    exact Nat.lt_of_lt_of_le h1 (Nat.pow_le_pow_right (by omega) (by omega))
theorem B64_256 (k : Nat) : B64 ^ k = 256 ^ (8 * k) := by rw [show B64 = 256 ^ 8 by decide, ← Nat.pow_mul]

/-- bytes as an element -/
def encN (x : G4) (b : List Nat) : Nat := if elB x.1 x.2.1 (Pl.be b + 1) then Pl.be b + 1 else x.1 - (Pl.be b + 1)
def encE (x : G4) (b : List Nat) : Except Nat Nat := if b.length ≠ x.2.2.2 then .error 1 else .ok (encN x b)
/-- an element's number less 1 -/
def decN (x : G4) (a : Nat) : Nat := (if x.2.1 < a then x.1 - a else a) - 1
def DecPost (x : G4) (a : Nat) (w : World) (e : Ending) (w' : World) : Prop :=
  if elB x.1 x.2.1 a = false then e = .returned (.tuple #[.slice none 0 0, errV 8])
  else if 8 * x.2.2.2 < bitLen (decN x a) then e = .returned (.tuple #[.slice none 0 0, errV 2])
  else ∃ u, e = .returned (.tuple #[u, .nilIface]) ∧ ByteS.rep (Fresh w w') w' (Pl.beL x.2.2.2 (decN x a)) [u]

theorem enc_el {x : G4} (h : GOk x) {b : List Nat} (hd : Pl.Dig 256 b) (hl : b.length = x.2.2.2) : Num.El x.1 x.2.1 (encN x b) ∧ Pl.be b + 1 ≤ x.2.1 := by
  obtain ⟨h1, _, _⟩ := gok_bits h
  have h2 := Pl.be_lt hd
  rw [hl] at h2
  have h3 : Pl.be b + 1 ≤ x.2.1 := by omega
  refine ⟨?_, h3⟩
  unfold encN
  have ht := h.grp.tw
  split
  · rename_i he; exact elB_iff.1 he
  · rename_i he
    exact (h.grp.halves (by omega) (by omega)).2 (fun h => he (elB_iff.2 h))
theorem dec_enc {x : G4} (h : GOk x) {b : List Nat} (hd : Pl.Dig 256 b) (hl : b.length = x.2.2.2) : decN x (encN x b) = Pl.be b := by
  obtain ⟨_, h3⟩ := enc_el h hd hl
  have ht := h.grp.tw
  unfold decN encN
  split
  · rw [if_neg (by omega)]; omega
  · rw [if_pos (by omega)]; omega

theorem gmodulus {S : Nat → Prop} {w : World} {x : G4} {b : Nat} (h : GrpP.rep S w x [.pointer (some ⟨b, 0, none⟩)]) :
    ∃ (g : Nat) (A : Option Addr) (l cap : Nat), S b ∧ b < w.heap.size ∧ w.cell? ⟨b, 0, none⟩ = some (.pointer (some ⟨g, 0, none⟩)) ∧ g < w.heap.size ∧ w.cell? ⟨g, 0, none⟩ = some (.slice A l cap) ∧ NumN.rep S w x.1 [.slice A l cap] ∧
      ∃ (A1 : Option Addr) (l1 c1 : Nat), w.cell? ⟨b, 1, none⟩ = some (.slice A1 l1 c1) ∧ NumN.rep S w x.2.1 [.slice A1 l1 c1] ∧ w.cell? ⟨b, 4, none⟩ = some (.int .i64 (x.2.2.2 : Int)) := by
  obtain ⟨b', pv, sv, A1, l1, c1, A2, l2, c2, e, hS, hb, h0, h1, h2, h3, k0, k1, k2, k3, k4, h4⟩ := grp_open h
  simp only [Value.pointer.injEq, Option.some.injEq, Addr.mk.injEq, and_true] at e
  subst e
  have h0' := ModP.live h0
  obtain ⟨g, A, cap, inv, tv, ms, e0, hS0, d0, d1, d2, hms, hinv, htv, hcap, hcm, hpos, hok⟩ := mod_open h0'
  simp only [Value.pointer.injEq, Option.some.injEq] at e0
  subst e0
  refine ⟨g, A, ms.length, cap, hS, hb, k0, hS0.2, d0, ⟨ms, NatS.mono hms (fun _ h => h.1) (Same.refl _ _), hok.canon, hok.val⟩, A1, l1, c1, k1, h1, k4⟩

set_option maxHeartbeats 4000000 in
theorem genc_calls {S T : Nat → Prop} {w : World} {x : G4} {bs : List Nat} {v vb : Value} (ok : GOk x) (h : GrpP.rep S w x [v]) (hb : ByteS.rep T w bs [vb]) :
    Calls Try.prog 9 #[v, vb] w fun e w' => NumE (Fresh w w') w' e (encE x bs) ∧ Below w.heap.size w w' := by
  obtain ⟨b, rfl⟩ : ∃ b : Nat, v = .pointer (some ⟨b, 0, none⟩) := by
    obtain ⟨b, ds, hv, _⟩ := h
    simp only [List.cons.injEq, and_true] at hv
    exact ⟨b, hv⟩
  obtain ⟨g, A, la, cap, hSb, hbl, k0, hgl, g0, hn, A1, l1, c1, k1, hq, k4⟩ := gmodulus h
  have hd := num_dig hb
  obtain ⟨Ab, cb, rfl, hcb, hcm⟩ := sl_open hb
  by_cases hl : bs.length = x.2.2.2
  rotate_left
  · have hE : encE x bs = .error 1 := by unfold encE; rw [if_pos hl]
    rw [hE]
    have hc : ((bs.length : Int) == (x.2.2.2 : Int)) = false := by rw [beq_eq_false_iff_ne, ne_eq]; omega
    have hc2 : ((bs.length : Int) != (x.2.2.2 : Int)) = true := by rw [bne, hc]; rfl
    clear hl hE
    go_enter Try.func9, Try.ntmps9
    go_wp2_with fail
    go_ret2
    exact ⟨rfl, Below.refl _ _⟩
  obtain ⟨hel, hbe⟩ := enc_el ok hd hl
  have hE : encE x bs = .ok (encN x bs) := by unfold encE; rw [if_neg (by omega)]
  rw [hE]
  obtain ⟨g1, g2, g3⟩ := gok_bits ok
  have hF : fromE bs.length bs = .ok (Pl.be bs) := by unfold fromE; rw [if_neg (by omega)]
  obtain ⟨N, hN⟩ : ∃ N, N = Pl.be bs + 1 := ⟨_, rfl⟩
  have hNl : N ≤ x.2.1 := by omega
  have hNb : N < B64 ^ 32 := by have := ok.lim; have := ok.grp.tw; omega
  have hN64 := lim_up hNb (show 32 ≤ 64 by omega)
  have hA : addE (Pl.be bs) 1 = .ok N := by unfold addE; rw [if_neg (fun h => h.elim (by omega) one_lim), hN]
  have hc : ((bs.length : Int) == (x.2.2.2 : Int)) = true := by rw [beq_iff_eq]; omega
  have hc2 : ((bs.length : Int) != (x.2.2.2 : Int)) = false := by rw [bne, hc]; rfl
  have hNx : N ≤ x.1 := by have := ok.grp.tw; omega
  have hx64 := lim_up ok.lim (show 32 ≤ 64 by omega)
  have hS : subE x.1 N = .ok (x.1 - N) := by unfold subE; rw [if_neg (by omega), if_neg (by omega)]
  have hNbits : bitLen N ≤ 1000000 := by
    have : bitLen N ≤ 2048 := by rw [bitLen_le_iff]; exact two_pow 64 B64 (by decide) _ 32 2048 (by omega) hNb
    omega
  have hR : encN x bs = if elB x.1 x.2.1 N then N else x.1 - N := by unfold encN; rw [hN]
  have HF := hid hF
  have HA := hid hA
  have HS := hid hS
  have HR := hid hR
  clear hF hA hS hR hE hN hl hel
  go_enter Try.func9, Try.ntmps9
  go_wp2_with fail
  refine (from_calls hb).mono ?_
  rintro e w1 ⟨he, hb1⟩
  rw [HF.out] at he
  obtain ⟨u1, rfl, hu1⟩ := he
  rw [errV_zero]
  have hba := below_alloc (Below.refl w1.heap.size w1) (.cells #[.int .u64 1] 65)
  have h1' := raw_all (num_raw (lit_num w1 1 (by omega) (by decide) _ rfl))
  go_wp2_with fail
  refine (add_calls (raw_all (num_raw (NumN.below hu1 hba))) h1').mono ?_
  rintro e w2 ⟨he, hb2⟩
  rw [HA.out] at he
  obtain ⟨u2, rfl, hu2⟩ := he
  rw [errV_zero]
  have hB2 := below_trans (below_trans hb1 hba) hb2
  have h' := GrpP.below h hB2
  clear hba h1' hu1
  go_wp2_with fail
  refine (gis_calls h' (num_raw hu2) hNbits).mono ?_
  rintro e w3 ⟨rfl, hb3⟩
  have hB3 := below_trans hB2 hb3
  have hu3 := NumN.below hu2 hb3
  by_cases hEl : elB x.1 x.2.1 N = true
  · have Hr := hid (HR.out.trans (if_pos hEl))
    rw [hEl]
    clear hEl HR HS
    go_wp2_with fail
    go_ret2
    refine ⟨⟨u2, rfl, ?_⟩, hB3⟩
    rw [Hr.out]
    exact NumN.mono hu3 (Fresh.mono (Nat.le_trans hb1.size (by simp)) hb3.size) (Same.refl _ _)
  · have Hr := hid (HR.out.trans (if_neg hEl))
    have hEf : elB x.1 x.2.1 N = false := by simpa using hEl
    rw [hEf]
    have k0' := (hB3.cell (p := ⟨b, 0, none⟩) hbl).trans k0
    have g0' := (hB3.cell (p := ⟨g, 0, none⟩) hgl).trans g0
    have hn' := NumN.below hn hB3
    clear hEl hEf HR k0 g0
    go_wp2_with fail
    refine (modulus_calls hn').mono ?_
    rintro e w4 ⟨⟨um, rfl, hum⟩, hb4⟩
    go_wp2_with fail
    refine (sub_calls (raw_all (num_raw hum)) (raw_all (num_raw (NumN.below hu3 hb4)))).mono ?_
    rintro e w5 ⟨he, hb5⟩
    rw [HS.out] at he
    obtain ⟨u5, rfl, hu5⟩ := he
    rw [errV_zero]
    have hB5 := below_trans (below_trans hB3 hb4) hb5
    go_wp2_with fail
    go_ret2
    refine ⟨⟨u5, rfl, ?_⟩, hB5⟩
    rw [Hr.out]
    exact NumN.mono hu5 (Fresh.mono (below_trans hB3 hb4).size (Nat.le_refl _)) (Same.refl _ _)

set_option maxHeartbeats 4000000 in
theorem gdec_calls {S T : Nat → Prop} {w : World} {x : G4} {a : Nat} {v va : Value} (ok : GOk x) (h : GrpP.rep S w x [v]) (ha : RawN.rep T w a [va]) (la : bitLen a ≤ 1000000) :
    Calls Try.prog 10 #[v, va] w fun e w' => DecPost x a w e w' ∧ Below w.heap.size w w' := by
  obtain ⟨b, rfl⟩ : ∃ b : Nat, v = .pointer (some ⟨b, 0, none⟩) := by
    obtain ⟨b, ds, hv, _⟩ := h
    simp only [List.cons.injEq, and_true] at hv
    exact ⟨b, hv⟩
  obtain ⟨g, A, la', cap, hSb, hbl, k0, hgl, g0, hn, A1, l1, c1, k1, hq, k4⟩ := gmodulus h
  by_cases hEl : elB x.1 x.2.1 a = true
  rotate_left
  · have hEf : elB x.1 x.2.1 a = false := by simpa using hEl
    have hr : ∀ w', DecPost x a w (.returned (.tuple #[.slice none 0 0, errV 8])) w' := fun w' => by unfold DecPost; rw [if_pos hEf]
    have Hr := hid hr
    have He := hid hEf
    clear hEl hEf hr
    go_enter Try.func10, Try.ntmps10
    go_wp2_with fail
    refine (gis_calls h ha la).mono ?_
    rintro e w1 ⟨rfl, hb1⟩
    rw [He.out]
    go_wp2_with fail
    go_ret2
    exact ⟨Hr.out _, hb1⟩
  have hE := elB_iff.1 hEl
  obtain ⟨g1, g2, g3⟩ := gok_bits ok
  have htw := ok.grp.tw
  have hx64 := lim_up ok.lim (show 32 ≤ 64 by omega)
  obtain ⟨V, hV⟩ : ∃ V, V = decN x a := ⟨_, rfl⟩
  obtain ⟨Y, hY⟩ : ∃ Y, Y = if x.2.1 < a then x.1 - a else a := ⟨_, rfl⟩
  have hap := hE.pos
  have hal := hE.lt
  have hYV : V = Y - 1 := by rw [hV]; unfold decN; rw [← hY]
  have hY1 : 1 ≤ Y ∧ Y ≤ x.2.1 := by rw [hY]; split <;> omega
  have hr2 : ∀ w', 8 * x.2.2.2 < bitLen V → DecPost x a w (.returned (.tuple #[.slice none 0 0, errV 2])) w' := fun w' hlt => by unfold DecPost; rw [hEl, if_neg (by simp), ← hV, if_pos hlt]
  have hr3 : ∀ w' u, ¬ 8 * x.2.2.2 < bitLen V → ByteS.rep (Fresh w w') w' (Pl.beL x.2.2.2 V) [u] → DecPost x a w (.returned (.tuple #[u, .nilIface])) w' := fun w' u hlt hu => by
    unfold DecPost; rw [hEl, if_neg (by simp), ← hV, if_neg hlt]; exact ⟨u, rfl, hu⟩
  have hS1 : subE Y 1 = .ok V := by unfold subE; rw [if_neg (fun h => h.elim (by omega) one_lim), if_neg (by omega), hYV]
  have hVb : bitLen V ≤ 1000000 := by
    have : bitLen V ≤ 2048 := by rw [bitLen_le_iff]; exact two_pow 64 B64 (by decide) _ 32 2048 (by omega) (by have := ok.lim; omega)
    omega
  have Hr2 := hid hr2
  have Hr3 := hid hr3
  have HS1 := hid hS1
  have HEl := hid hEl
  have HY := hid hY
  have hs6 : x.2.2.2 ≤ 1000000 := by omega
  clear hr2 hr3 hS1 hEl hV hYV hY hE
  go_enter Try.func10, Try.ntmps10
  go_wp2_with fail
  refine (gis_calls h ha la).mono ?_
  rintro e w1 ⟨rfl, hb1⟩
  rw [HEl.out]
  go_wp2_with fail
  refine (norm_calls (RawN.below ha hb1)).mono ?_
  rintro e w2 ⟨⟨u2, rfl, hu2⟩, hb2⟩
  have hB2 := below_trans hb1 hb2
  have k1' := (hB2.cell (p := ⟨b, 1, none⟩) hbl).trans k1
  clear k1
  go_wp2_with fail
  refine (cmp_calls (raw_all (num_raw hu2)) (raw_all (num_raw (NumN.below hq hB2)))).mono ?_
  rintro e w3 ⟨rfl, hst⟩
  have hB3 := below_trans hB2 hst.below
  clear k1'
  have hu3 := num_all_ (NumN.below hu2 hst.below)
  go_upto_if 21 with (fail)
  go_cut [6, 7] (fun v6 v7 wc => NumN.rep (fun _ => True) wc Y [v6] ∧ v7 = .nilIface ∧ Below w.heap.size w wc)
  case first =>
    by_cases hlt : x.2.1 < a
    · have hc : 0 < Pl.cmp a x.2.1 := by rw [cmp_gt hlt]; omega
      have HY2 := hid (HY.out.trans (if_pos hlt))
      have hS2 := hid (show subE x.1 a = .ok Y by unfold subE; rw [if_neg (by omega), if_neg (by omega), HY2.out])
      have k0' := (hB3.cell (p := ⟨b, 0, none⟩) hbl).trans k0
      have g0' := (hB3.cell (p := ⟨g, 0, none⟩) hgl).trans g0
      have hn' := NumN.below hn hB3
      clear hlt k0 g0
      go_wp2_with fail
      refine (modulus_calls hn').mono ?_
      rintro e w4 ⟨⟨um, rfl, hum⟩, hb4⟩
      go_wp2_with fail
      refine (sub_calls (raw_all (num_raw hum)) (raw_all (num_raw (NumN.below hu3 hb4)))).mono ?_
      rintro e w5 ⟨he, hb5⟩
      rw [hS2.out] at he
      obtain ⟨u5, rfl, hu5⟩ := he
      rw [errV_zero]
      have hB5 := below_trans (below_trans hB3 hb4) hb5
      go_wp2_with fail
      go_meet
      case rel => exact ⟨num_all_ hu5, rfl, hB5⟩
    · have hc : ¬ 0 < Pl.cmp a x.2.1 := by rw [Pl.cmp_pos]; exact hlt
      have HY2 := hid (HY.out.trans (if_neg hlt))
      clear hlt
      go_wp2_with fail
      go_meet
      case rel => exact ⟨by rw [HY2.out]; exact hu3, rfl, hB3⟩
  case rest =>
    obtain ⟨hcy, rfl, hBc⟩ := hcut
    have hba := below_alloc (Below.refl wc.heap.size wc) (.cells #[.int .u64 1] 65)
    have h1' := raw_all (num_raw (lit_num wc 1 (by omega) (by decide) _ rfl))
    go_wp2_with fail
    refine (sub_calls (raw_all (num_raw (NumN.below hcy hba))) h1').mono ?_
    rintro e w6 ⟨he, hb6⟩
    rw [HS1.out] at he
    obtain ⟨u6, rfl, hu6⟩ := he
    rw [errV_zero]
    have hB6 := below_trans (below_trans hBc hba) hb6
    have k4' := (hB6.cell (p := ⟨b, 4, none⟩) hbl).trans k4
    clear k4 k0 g0
    go_wp2_with fail
    refine (bytes_calls (num_raw hu6) hVb hs6).mono ?_
    rintro e w7 ⟨he, hb7⟩
    have hB7 := below_trans hB6 hb7
    unfold BytesPost at he
    rw [if_neg (by omega)] at he
    by_cases hlt : 8 * x.2.2.2 < bitLen V
    · rw [if_pos hlt] at he
      subst he
      have Hr := hid (Hr2.out w7 hlt)
      clear hlt k4'
      go_wp2_with fail
      go_ret2
      exact ⟨Hr.out, hB7⟩
    · rw [if_neg hlt] at he
      obtain ⟨u7, rfl, hu7⟩ := he
      have Hr := hid (Hr3.out w7 u7 hlt (ByteS.mono hu7 (Fresh.mono hB6.size (Nat.le_refl _)) (Same.refl _ _)))
      clear hlt k4'
      go_wp2_with fail
      go_ret2
      exact ⟨Hr.out, hB7⟩

end Go.Proofs.Ytphbacggmhjmgaa
