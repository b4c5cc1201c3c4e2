/- The layer group, second part: Is. -/
import Derived.Test.YtphbacggmhjmgaaGrpA
namespace Go.Proofs.Ytphbacggmhjmgaa
open Go.RowKit

/-- is a number an element? -/
def elB (P Q a : Nat) : Bool := decide (0 < a ∧ a < P ∧ a ^ Q % P = 1)
theorem elB_iff {P Q a : Nat} : elB P Q a = true ↔ Num.El P Q a := by
  unfold elB
  rw [decide_eq_true_iff]
  exact ⟨fun ⟨h1, h2, h3⟩ => ⟨h1, h2, h3⟩, fun h => ⟨h.pos, h.lt, h.one⟩⟩
theorem elB_not {P Q a : Nat} (h : ¬ Num.El P Q a) : elB P Q a = false := by
  rcases Bool.eq_false_or_eq_true (elB P Q a) with h1 | h1
  · exact absurd (elB_iff.1 h1) h
  · exact h1
theorem lim_up {n a b : Nat} (h : n < B64 ^ a) (hab : a ≤ b) : n < B64 ^ b := Nat.lt_of_lt_of_le h (Nat.pow_le_pow_right (by decide) hab)
theorem cmp_lt {m n : Nat} (h : m < n) : Pl.cmp m n = -1 := by unfold Pl.cmp; rw [if_pos h]
theorem cmp_eq {m n : Nat} (h : m = n) : Pl.cmp m n = 0 := by unfold Pl.cmp; rw [if_neg (by omega), if_neg (by omega)]
theorem cmp_gt {m n : Nat} (h : n < m) : Pl.cmp m n = 1 := by unfold Pl.cmp; rw [if_neg (by omega), if_pos h]
theorem bl_zero {n : Nat} : bitLen n = 0 ↔ n = 0 := by
  constructor
  · intro h
    have := (bitLen_spec n).1
    rw [h] at this
    simpa using this
  · rintro rfl; rfl
theorem raw_one (w : World) : RawN.rep (fun b => b = w.heap.size) (w.alloc (.cells #[.int .u64 1] 65)) 1 [.slice (some ⟨w.heap.size, 0, none⟩) 1 1] := by
  refine ⟨[1], ?_, rfl⟩
  have hr : Row _ w.heap.size 65 (nums .u64 [1]) := Row.new w 65 #[.int .u64 1]
  exact hr.slNum (B := B64) (S := fun b => b = w.heap.size) rfl (fun d hd => by simp at hd; subst hd; decide) 1 (by simp) (by omega) (by simp)

set_option maxHeartbeats 4000000 in
theorem gis_calls {S T : Nat → Prop} {w : World} {x : G4} {a : Nat} {v va : Value} (h : GrpP.rep S w x [v]) (ha : RawN.rep T w a [va]) (hl : bitLen a ≤ 1000000) :
    Calls Try.prog 14 #[v, va] w fun e w' => e = .returned (.bool (elB x.1 x.2.1 a)) ∧ Below w.heap.size w w' := by
  obtain ⟨b, pv, sv, A1, l1, c1, A2, l2, c2, rfl, hS, hb, h0, h1, h2, h3, k0, k1, k2, k3, k4, h4⟩ := grp_open h
  obtain ⟨g, A, cap, inv, tv, ms, e0, hS0, d0, d1, d2, hms, hinv, htv, hcap, hcm, hpos, hok⟩ := mod_open h0
  simp only [Value.pointer.injEq, Option.some.injEq] at e0
  subst e0
  have hn : NumN.rep S w x.1 [.slice A ms.length cap] := ⟨ms, hms, hok.canon, hok.val⟩
  obtain ⟨hp1, hp2, hp3⟩ := mod_fact h0
  obtain ⟨hq1, _, _⟩ := mod_fact h3
  obtain ⟨P, hP⟩ : ∃ P, P = x.1 := ⟨_, rfl⟩
  obtain ⟨Q, hQ⟩ : ∃ Q, Q = x.2.1 := ⟨_, rfl⟩
  rw [← hP] at h0 hn hp1 hp2 hok ⊢
  rw [← hQ] at h1 hq1 ⊢
  clear hok hcap hP hQ h hp3
  by_cases hz : a = 0
  · have hf : elB P Q a = false := elB_not fun he => by have := he.pos; omega
    rw [hf]
    have hz1 : ((bitLen a : Nat) : Int) = 0 := by rw [bl_zero.2 hz]; rfl
    clear hz hf
    go_enter Try.func14, Try.ntmps14
    go_wp2_with fail
    refine (nbits_calls ha hl).mono ?_
    rintro e w' ⟨rfl, rfl⟩
    rw [hz1]
    clear hz1
    go_wp2_with fail
    go_ret
    exact ⟨rfl, Below.refl _ _⟩
  · have hz1 : (((bitLen a : Nat) : Int) == 0) = false := by
      have : bitLen a ≠ 0 := fun h => hz (bl_zero.1 h)
      simp only [beq_eq_false_iff_ne, ne_eq]; omega
    go_enter Try.func14, Try.ntmps14
    go_wp2_with fail
    refine (nbits_calls ha hl).mono ?_
    rintro e w' ⟨rfl, rfl⟩
    go_wp2_with fail
    refine (modulus_calls hn).mono ?_
    rintro e w1 ⟨⟨u, rfl, hu⟩, hb1⟩
    have ha1 := RawN.below ha hb1
    go_wp2_with fail
    refine (cmp_calls (RawN.mono ha1 (S' := fun _ => True) (fun _ _ => trivial) (Same.refl _ _)) (RawN.mono (num_raw hu) (S' := fun _ => True) (fun _ _ => trivial) (Same.refl _ _))).mono ?_
    rintro e w2 ⟨rfl, hst⟩
    have hb2 := below_trans hb1 hst.below
    by_cases hlt : a < P
    · rw [cmp_lt hlt]
      have k0' := (hb2.cell (p := ⟨b, 0, none⟩) hb).trans k0
      have k1' := (hb2.cell (p := ⟨b, 1, none⟩) hb).trans k1
      have h0' := ModP.below h0 hb2
      have ha2 := RawN.below ha hb2
      have h1' := NumN.below h1 hb2
      have he : modExpE P a Q = .ok (a ^ Q % P) := by unfold modExpE; rw [if_neg]; exact fun h => h.elim (fun h => by have := lim_up (Nat.lt_trans hlt hp1) (show 32 ≤ 64 by omega); omega) (fun h => by have := lim_up hq1 (show 32 ≤ 64 by omega); omega)
      have He := hid he
      have hsz := hb2.size
      clear he hz1 k0 k1 k2 k3 k4 d0 d1 d2 hst hb1 hu ha1
      go_upto_region 3 with (fail)
      have hbd := (Below.refl w2.heap.size w2).drew
      have h0d := ModP.below h0' hbd
      have had := RawN.mono (RawN.below ha2 hbd) (S' := fun _ => True) (fun _ _ => trivial) (Same.refl _ _)
      have h1d := RawN.mono (num_raw (NumN.below h1' hbd)) (S' := fun _ => True) (fun _ _ => trivial) (Same.refl _ _)
      have hbw : b < w2.heap.size := Nat.lt_of_lt_of_le hb hsz
      have hbz : b < w2.drew.heap.size := hbw
      have k0d := (hbd.cell (p := ⟨b, 0, none⟩) hbw).trans k0'
      have k1d := (hbd.cell (p := ⟨b, 1, none⟩) hbw).trans k1'
      clear h0' ha2 h1' k0' k1'
      go_region_held3 (fun w' => w'.cell? ⟨b, 0, none⟩ = some (.pointer (some ⟨g, 0, none⟩)) ∧ w'.cell? ⟨b, 1, none⟩ = some (.slice A1 l1 c1))
           (first | exact ⟨k0d, k1d⟩ | exact hSD)
           ((go_at_call 46
             refine (mexp_calls h0d had h1d).mono ?_
             rintro e w3 ⟨hx, hb3⟩
             rw [He.out] at hx
             obtain ⟨u1, rfl, hu1⟩ := hx
             rw [errV_zero]
             have hSD := And.intro ((hb3.cell (p := ⟨b, 0, none⟩) hbz).trans k0d) ((hb3.cell (p := ⟨b, 1, none⟩) hbz).trans k1d)))
      have hB3 := below_trans (below_trans hb2 hbd) hb3
      have hb4 := below_alloc (Below.refl w3.heap.size w3) (.cells #[.int .u64 1] 65)
      have hu4 := RawN.below (num_raw hu1) hb4
      have hB4 := below_trans hB3 hb4
      clear k0d k1d hSD h0d had h1d hu1
      obtain ⟨y, hy⟩ : ∃ y, y = a ^ Q % P := ⟨_, rfl⟩
      rw [← hy] at hu4
      have Hy := hid hy
      clear hy
      go_wp2_with fail
      refine (cmp_calls (RawN.mono hu4 (S' := fun _ => True) (fun _ _ => trivial) (Same.refl _ _)) (RawN.mono (raw_one w3) (S' := fun _ => True) (fun _ _ => trivial) (Same.refl _ _))).mono ?_
      rintro e w5 ⟨rfl, hst⟩
      have hB5 := below_trans hB4 hst.below
      clear hu4
      by_cases h1 : y = 1
      · have ht : elB P Q a = true := elB_iff.2 ⟨by omega, hlt, Hy.out ▸ h1⟩
        have Ht := hid ht
        rw [cmp_eq h1]
        clear ht h1
        go_wp2_with fail
        go_ret
        exact ⟨by rw [Ht.out]; rfl, hB5⟩
      · have ht : elB P Q a = false := elB_not fun he => h1 (Hy.out ▸ he.one)
        have Ht := hid ht
        have hc : (Pl.cmp y 1 == 0) = false := by
          rw [beq_eq_false_iff_ne, ne_eq, Pl.cmp_zero]; exact h1
        clear ht h1
        go_wp2_with fail
        go_ret
        exact ⟨by rw [Ht.out]; rfl, hB5⟩
    · have hf : elB P Q a = false := elB_not fun he => hlt he.lt
      have Hf := hid hf
      have hge : (0 : Int) ≤ Pl.cmp a P := by
        rcases Nat.lt_or_ge P a with h | h
        · rw [cmp_gt h]; omega
        · rw [cmp_eq (by omega)]; omega
      clear hf
      go_wp2_with fail
      go_ret
      exact ⟨by rw [Hf.out]; rfl, hb2⟩

end Go.Proofs.Ytphbacggmhjmgaa
