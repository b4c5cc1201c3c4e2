/- The layers prime and group, first part: Small, sound, Check; Is, Mul, Over, Exp, Base. -/
import Derived.Test.YtphbacggmhjmgaaMontQ
import Derived.Test.YtphbacggmhjmgaaPlA
import Derived.Deep.RegionHeld3

/- The layer prime, first part: small primes. -/
namespace Go.Proofs.Ytphbacggmhjmgaa
open Go.RowKit

theorem smallB_no {n d : Nat} (h2 : 2 ≤ d) (hd : d * d ≤ n) (hz : n % d = 0) : Num.smallB n = false := by
  rcases Bool.eq_false_or_eq_true (Num.smallB n) with h | h
  · exfalso
    simp only [Num.smallB, Bool.and_eq_true, decide_eq_true_eq, List.all_eq_true, List.mem_range, Bool.or_eq_true, bne_iff_ne, ne_eq] at h
    obtain ⟨⟨_, h3⟩, h4⟩ := h
    have hlt : d < 256 := by
      rcases Nat.lt_or_ge d 256 with h | h
      · exact h
      · have := Nat.mul_le_mul h h; omega
    rcases h4 d hlt with (h | h) | h <;> omega
  · exact h
theorem smallB_yes {n d : Nat} (h2 : 2 ≤ n) (h3 : n < 65536) (hd : n < d * d) (h : ∀ e, 2 ≤ e → e < d → n % e ≠ 0) : Num.smallB n = true := by
  simp only [Num.smallB, Bool.and_eq_true, decide_eq_true_eq, List.all_eq_true, List.mem_range, Bool.or_eq_true, bne_iff_ne, ne_eq]
  refine ⟨⟨h2, h3⟩, fun e _ => ?_⟩
  rcases Nat.lt_or_ge e 2 with h5 | h5
  · exact .inl (.inl h5)
  rcases Nat.lt_or_ge e d with h6 | h6
  · exact .inr (h e h5 h6)
  · have := Nat.mul_le_mul h6 h6
    exact .inl (.inr (by omega))
theorem smallB_out {n : Nat} (h : n < 2 ∨ 65536 ≤ n) : Num.smallB n = false := by
  rcases Bool.eq_false_or_eq_true (Num.smallB n) with h' | h'
  · exfalso
    simp only [Num.smallB, Bool.and_eq_true, decide_eq_true_eq] at h'
    omega
  · exact h'
/-- no number from 2 up to d is a divisor -/
def NoDiv (n d : Nat) : Prop := ∀ e, 2 ≤ e → e < d → n % e ≠ 0

set_option maxHeartbeats 1000000 in
set_option maxRecDepth 100000 in
theorem small_calls (n : Nat) (_hn : n < B64) (w : World) :
    Calls Try.prog 74 #[.int .u64 (n : Int)] w fun e w' => e = .returned (.bool (Num.smallB n)) ∧ w = w' := by
  by_cases hout : n < 2 ∨ 65536 ≤ n
  · have Hs := hid (smallB_out hout)
    rcases hout with h | h
    · go_enter Try.func74, Try.ntmps74
      go_wp2
      go_ret
      exact ⟨by rw [Hs.out]; rfl, rfl⟩
    · have h2 : ¬ (n : Int) < 2 := by omega
      have h4 : (65536 : Int) ≤ (n : Int) := by omega
      clear h
      go_enter Try.func74, Try.ntmps74
      go_wp2
      go_ret
      exact ⟨by rw [Hs.out]; rfl, rfl⟩
  · have h2 : 2 ≤ n := by omega
    have h3 : n < 65536 := by omega
    clear hout
    go_enter Try.func74, Try.ntmps74
    go_wp2
    go_loop [3] (fun dv => ∃ d : Nat, dv = .int .u64 (d : Int) ∧ 2 ≤ d ∧ d ≤ 256 ∧ Hid (NoDiv n d)) (fun dv => 257 - (intOf dv).toNat)
    case atStart => exact ⟨2, rfl, by omega, by omega, fun e _ _ => by omega⟩
    case round =>
      obtain ⟨d, rfl, hd2, hd3, hno⟩ := hrel
      obtain ⟨D, hD⟩ : ∃ D, D = d * d := ⟨_, rfl⟩
      have hD2 : D ≤ 65536 := by rw [hD]; exact Nat.mul_le_mul hd3 hd3
      have q1 : IntKind.u64.wrap ((d : Int) * (d : Int)) = (D : Int) := by
        rw [show (d : Int) * (d : Int) = (D : Int) by rw [hD]; push_cast; rfl, IntKind.wrap_u64]; omega
      have HD := hid hD
      clear hD
      by_cases hle : D ≤ n
      · by_cases hz : n % d = 0
        · have q2 : (((n : Int) % (d : Int)) == 0) = true := by rw [← Int.natCast_emod, hz]; rfl
          have Hz := hid hz
          clear hz
          have hle' : (D : Int) ≤ (n : Int) := by omega
          go_wp2
          go_ret
          exact ⟨by rw [smallB_no hd2 (HD.out ▸ hle) Hz.out]; rfl, rfl⟩
        · have q2 : (((n : Int) % (d : Int)) == 0) = false := by
            rw [← Int.natCast_emod]
            simp only [beq_eq_false_iff_ne, ne_eq]
            omega
          have Hz := hid hz
          clear hz
          have hle' : (D : Int) ≤ (n : Int) := by omega
          have hd4 : d < 256 := by
            rcases Nat.lt_or_ge d 256 with h | h
            · exact h
            · have := Nat.mul_le_mul h h; have := HD.out; omega
          go_wp2
          go_round
          case rel => exact ⟨d + 1, by simp, by omega, by omega, fun e h1 h2 => by
            rcases Nat.lt_or_ge e d with h | h
            · exact hno.out e h1 h
            · obtain rfl : e = d := by omega
              exact Hz.out⟩
          case measure => simp [intOf]; omega
      · have hle' : ¬ (D : Int) ≤ (n : Int) := by omega
        go_wp2
        go_ret
        exact ⟨by rw [smallB_yes h2 h3 (HD.out ▸ (by omega : n < D)) hno.out]; rfl, rfl⟩

end Go.Proofs.Ytphbacggmhjmgaa

/- The layer group, first part: what a group is in memory; what it tells; Is. -/
namespace Go.Proofs.Ytphbacggmhjmgaa
open Go.RowKit

/-- p, q, g, how many bytes an element holds -/
abbrev G4 := Nat × Nat × Nat × Nat
def GrpP : Rep G4 := (Rep.ptr 72 (ModP.pair (NumN.pair (NumN.pair (ModP.pair (Rep.num .i64 1000000)))))).via fun x : G4 => (x.1, x.2.1, x.2.2.1, x.2.1, x.2.2.2)

theorem num_one {r : Rep Nat} {β : Nat → List Nat → Prop} (hr : r = NatS.ex β) {S : Nat → Prop} {w : World} {n : Nat} {cs : List Value} (h : r.rep S w n cs) : ∃ A l c, cs = [.slice A l c] := by
  subst hr
  obtain ⟨xs, ⟨A, cap, ys, rfl, _⟩, _⟩ := h
  exact ⟨A, _, cap, rfl⟩
theorem grp_open {S : Nat → Prop} {w : World} {x : G4} {v : Value} (h : GrpP.rep S w x [v]) :
    ∃ (b : Nat) (pv sv : Addr) (A1 : Option Addr) (l1 c1 : Nat) (A2 : Option Addr) (l2 c2 : Nat), v = .pointer (some ⟨b, 0, none⟩) ∧ S b ∧ b < w.heap.size ∧ ModP.rep S w x.1 [.pointer (some pv)] ∧ NumN.rep S w x.2.1 [.slice A1 l1 c1] ∧ NumN.rep S w x.2.2.1 [.slice A2 l2 c2] ∧ ModP.rep S w x.2.1 [.pointer (some sv)] ∧
      w.cell? ⟨b, 0, none⟩ = some (.pointer (some pv)) ∧ w.cell? ⟨b, 1, none⟩ = some (.slice A1 l1 c1) ∧ w.cell? ⟨b, 2, none⟩ = some (.slice A2 l2 c2) ∧ w.cell? ⟨b, 3, none⟩ = some (.pointer (some sv)) ∧ w.cell? ⟨b, 4, none⟩ = some (.int .i64 (x.2.2.2 : Int)) ∧ x.2.2.2 < 1000000 := by
  obtain ⟨b, ds, hv, hS, hb, hrow, a0, _, rfl, h0, a1, _, rfl, h1, a2, _, rfl, h2, a3, _, rfl, h3, rfl, h4⟩ := h
  obtain ⟨A1, l1, c1, rfl⟩ := num_one rfl h1
  obtain ⟨A2, l2, c2, rfl⟩ := num_one rfl h2
  obtain ⟨y0, ⟨g0, ds0, rfl, k0⟩, m0⟩ := id h0
  obtain ⟨y3, ⟨g3, ds3, rfl, k3⟩, m3⟩ := id h3
  simp only [List.cons.injEq, and_true] at hv
  have hrow' : Row w b 72 [.pointer (some ⟨g0, 0, none⟩), .slice A1 l1 c1, .slice A2 l2 c2, .pointer (some ⟨g3, 0, none⟩), .int .i64 (x.2.2.2 : Int)] := hrow
  exact ⟨b, ⟨g0, 0, none⟩, ⟨g3, 0, none⟩, A1, l1, c1, A2, l2, c2, hv, hS, hb, h0, h1, h2, h3, hrow'.cell 0 (by simp), hrow'.cell 1 (by simp), hrow'.cell 2 (by simp), hrow'.cell 3 (by simp), hrow'.cell 4 (by simp), h4⟩

theorem gsize_calls {S : Nat → Prop} {w : World} {x : G4} {v : Value} (h : GrpP.rep S w x [v]) :
    Calls Try.prog 33 #[v] w fun e w' => e = .returned (.int .i64 (x.2.2.2 : Int)) ∧ w = w' := by
  obtain ⟨b, pv, sv, A1, l1, c1, A2, l2, c2, rfl, hS, hb, h0, h1, h2, h3, k0, k1, k2, k3, k4, h4⟩ := grp_open h
  go_enter Try.func33, Try.ntmps33
  go_wp2
  go_ret
  exact ⟨rfl, rfl⟩
theorem gscalars_calls {S : Nat → Prop} {w : World} {x : G4} {v : Value} (h : GrpP.rep S w x [v]) :
    Calls Try.prog 21 #[v] w fun e w' => (∃ u, e = .returned (.pointer (some u)) ∧ ModP.rep S w x.2.1 [.pointer (some u)]) ∧ w = w' := by
  obtain ⟨b, pv, sv, A1, l1, c1, A2, l2, c2, rfl, hS, hb, h0, h1, h2, h3, k0, k1, k2, k3, k4, h4⟩ := grp_open h
  go_enter Try.func21, Try.ntmps21
  go_wp2
  go_ret
  exact ⟨⟨sv, rfl, h3⟩, rfl⟩
theorem numn_clone {S : Nat → Prop} {w : World} {n : Nat} {v : Value} (h : NumN.rep S w n [v]) :
    Calls Try.prog 59 #[v] w fun e w' => (∃ u, e = .returned u ∧ NumN.rep (Fresh w w') w' n [u]) ∧ Below w.heap.size w w' := by
  obtain ⟨xs, hx, hc⟩ := h
  refine (clone_calls hx).mono ?_
  rintro e w' ⟨⟨u, rfl, hu⟩, hb⟩
  exact ⟨⟨u, rfl, xs, hu, hc⟩, hb⟩
theorem gq_calls {S : Nat → Prop} {w : World} {x : G4} {v : Value} (h : GrpP.rep S w x [v]) :
    Calls Try.prog 32 #[v] w fun e w' => (∃ u, e = .returned u ∧ NumN.rep (Fresh w w') w' x.2.1 [u]) ∧ Below w.heap.size w w' := by
  obtain ⟨b, pv, sv, A1, l1, c1, A2, l2, c2, rfl, hS, hb, h0, h1, h2, h3, k0, k1, k2, k3, k4, h4⟩ := grp_open h
  go_enter Try.func32, Try.ntmps32
  go_wp2_with fail
  refine (numn_clone h1).mono ?_
  rintro e w' ⟨⟨u, rfl, hu⟩, hb⟩
  go_wp2_with fail
  go_ret
  exact ⟨⟨u, rfl, hu⟩, hb⟩
theorem gp_calls {S : Nat → Prop} {w : World} {x : G4} {v : Value} (h : GrpP.rep S w x [v]) :
    Calls Try.prog 26 #[v] w fun e w' => (∃ u, e = .returned u ∧ NumN.rep (Fresh w w') w' x.1 [u]) ∧ Below w.heap.size w w' := by
  obtain ⟨b, pv, sv, A1, l1, c1, A2, l2, c2, rfl, hS, hb, h0, h1, h2, h3, k0, k1, k2, k3, k4, h4⟩ := grp_open h
  obtain ⟨g, A, cap, inv, tv, ms, e0, hS0, d0, d1, d2, hms, hinv, htv, hcap, hcm, hpos, hok⟩ := mod_open h0
  simp only [Value.pointer.injEq, Option.some.injEq] at e0
  subst e0
  have hn : NumN.rep S w x.1 [.slice A ms.length cap] := ⟨ms, hms, hok.canon, hok.val⟩
  go_enter Try.func26, Try.ntmps26
  go_wp2_with fail
  refine (modulus_calls hn).mono ?_
  rintro e w' ⟨⟨u, rfl, hu⟩, hb⟩
  go_wp2_with fail
  go_ret
  exact ⟨⟨u, rfl, hu⟩, hb⟩

end Go.Proofs.Ytphbacggmhjmgaa

/- The layer group, second part: Is. -/
namespace Go.Proofs.Ytphbacggmhjmgaa
open Go.RowKit

/-- is a number an element? -/
def elB (P Q a : Nat) : Bool := decide (0 < a ∧ a < P ∧ a ^ Q % P = 1)
theorem elB_iff {P Q a : Nat} : elB P Q a = true ↔ Num.El P Q a := by
  unfold elB
  rw [decide_eq_true_iff]
  exact ⟨fun ⟨h1, h2, h3⟩ => ⟨h1, h2, h3⟩, fun h => ⟨h.pos, h.lt, h.one⟩⟩
theorem elB_not {P Q a : Nat} (h : ¬ Num.El P Q a) : elB P Q a = false := by
  rcases Bool.eq_false_or_eq_true (elB P Q a) with h1 | h1
  · exact absurd (elB_iff.1 h1) h
  · exact h1
theorem lim_up {n a b : Nat} (h : n < B64 ^ a) (hab : a ≤ b) : n < B64 ^ b := Nat.lt_of_lt_of_le h (Nat.pow_le_pow_right (by decide) hab)
theorem cmp_lt {m n : Nat} (h : m < n) : Pl.cmp m n = -1 := by unfold Pl.cmp; rw [if_pos h]
theorem cmp_eq {m n : Nat} (h : m = n) : Pl.cmp m n = 0 := by unfold Pl.cmp; rw [if_neg (by omega), if_neg (by omega)]
theorem cmp_gt {m n : Nat} (h : n < m) : Pl.cmp m n = 1 := by unfold Pl.cmp; rw [if_neg (by omega), if_pos h]
theorem bl_zero {n : Nat} : bitLen n = 0 ↔ n = 0 := by
  constructor
  · intro h
    have := (bitLen_spec n).1
    rw [h] at this
    simpa using this
  · rintro rfl; rfl
theorem raw_one (w : World) : RawN.rep (fun b => b = w.heap.size) (w.alloc (.cells #[.int .u64 1] 65)) 1 [.slice (some ⟨w.heap.size, 0, none⟩) 1 1] := by
  refine ⟨[1], ?_, rfl⟩
  have hr : Row _ w.heap.size 65 (nums .u64 [1]) := Row.new w 65 #[.int .u64 1]
  exact hr.slNum (B := B64) (S := fun b => b = w.heap.size) rfl (fun d hd => by simp at hd; subst hd; decide) 1 (by simp) (by omega) (by simp)

set_option maxHeartbeats 4000000 in
theorem gis_calls {S T : Nat → Prop} {w : World} {x : G4} {a : Nat} {v va : Value} (h : GrpP.rep S w x [v]) (ha : RawN.rep T w a [va]) (hl : bitLen a ≤ 1000000) :
    Calls Try.prog 14 #[v, va] w fun e w' => e = .returned (.bool (elB x.1 x.2.1 a)) ∧ Below w.heap.size w w' := by
  obtain ⟨b, pv, sv, A1, l1, c1, A2, l2, c2, rfl, hS, hb, h0, h1, h2, h3, k0, k1, k2, k3, k4, h4⟩ := grp_open h
  obtain ⟨g, A, cap, inv, tv, ms, e0, hS0, d0, d1, d2, hms, hinv, htv, hcap, hcm, hpos, hok⟩ := mod_open h0
  simp only [Value.pointer.injEq, Option.some.injEq] at e0
  subst e0
  have hn : NumN.rep S w x.1 [.slice A ms.length cap] := ⟨ms, hms, hok.canon, hok.val⟩
  obtain ⟨hp1, hp2, hp3⟩ := mod_fact h0
  obtain ⟨hq1, _, _⟩ := mod_fact h3
  obtain ⟨P, hP⟩ : ∃ P, P = x.1 := ⟨_, rfl⟩
  obtain ⟨Q, hQ⟩ : ∃ Q, Q = x.2.1 := ⟨_, rfl⟩
  rw [← hP] at h0 hn hp1 hp2 hok ⊢
  rw [← hQ] at h1 hq1 ⊢
  clear hok hcap hP hQ h hp3
  by_cases hz : a = 0
  · have hf : elB P Q a = false := elB_not fun he => by have := he.pos; omega
    rw [hf]
    have hz1 : ((bitLen a : Nat) : Int) = 0 := by rw [bl_zero.2 hz]; rfl
    clear hz hf
    go_enter Try.func14, Try.ntmps14
    go_wp2_with fail
    refine (nbits_calls ha hl).mono ?_
    rintro e w' ⟨rfl, rfl⟩
    rw [hz1]
    clear hz1
    go_wp2_with fail
    go_ret
    exact ⟨rfl, Below.refl _ _⟩
  · have hz1 : (((bitLen a : Nat) : Int) == 0) = false := by
      have : bitLen a ≠ 0 := fun h => hz (bl_zero.1 h)
      simp only [beq_eq_false_iff_ne, ne_eq]; omega
    go_enter Try.func14, Try.ntmps14
    go_wp2_with fail
    refine (nbits_calls ha hl).mono ?_
    rintro e w' ⟨rfl, rfl⟩
    go_wp2_with fail
    refine (modulus_calls hn).mono ?_
    rintro e w1 ⟨⟨u, rfl, hu⟩, hb1⟩
    have ha1 := RawN.below ha hb1
    go_wp2_with fail
    refine (cmp_calls (RawN.mono ha1 (S' := fun _ => True) (fun _ _ => trivial) (Same.refl _ _)) (RawN.mono (num_raw hu) (S' := fun _ => True) (fun _ _ => trivial) (Same.refl _ _))).mono ?_
    rintro e w2 ⟨rfl, hst⟩
    have hb2 := below_trans hb1 hst.below
    by_cases hlt : a < P
    · rw [cmp_lt hlt]
      have k0' := (hb2.cell (p := ⟨b, 0, none⟩) hb).trans k0
      have k1' := (hb2.cell (p := ⟨b, 1, none⟩) hb).trans k1
      have h0' := ModP.below h0 hb2
      have ha2 := RawN.below ha hb2
      have h1' := NumN.below h1 hb2
      have he : modExpE P a Q = .ok (a ^ Q % P) := by unfold modExpE; rw [if_neg]; exact fun h => h.elim (fun h => by have := lim_up (Nat.lt_trans hlt hp1) (show 32 ≤ 64 by omega); omega) (fun h => by have := lim_up hq1 (show 32 ≤ 64 by omega); omega)
      have He := hid he
      have hsz := hb2.size
      clear he hz1 k0 k1 k2 k3 k4 d0 d1 d2 hst hb1 hu ha1
      go_upto_region 3 with (fail)
      have hbd := (Below.refl w2.heap.size w2).drew
      have h0d := ModP.below h0' hbd
      have had := RawN.mono (RawN.below ha2 hbd) (S' := fun _ => True) (fun _ _ => trivial) (Same.refl _ _)
      have h1d := RawN.mono (num_raw (NumN.below h1' hbd)) (S' := fun _ => True) (fun _ _ => trivial) (Same.refl _ _)
      have hbw : b < w2.heap.size := Nat.lt_of_lt_of_le hb hsz
      have hbz : b < w2.drew.heap.size := hbw
      have k0d := (hbd.cell (p := ⟨b, 0, none⟩) hbw).trans k0'
      have k1d := (hbd.cell (p := ⟨b, 1, none⟩) hbw).trans k1'
      clear h0' ha2 h1' k0' k1'
      go_region_held3 (fun w' => w'.cell? ⟨b, 0, none⟩ = some (.pointer (some ⟨g, 0, none⟩)) ∧ w'.cell? ⟨b, 1, none⟩ = some (.slice A1 l1 c1))
           (first | exact ⟨k0d, k1d⟩ | exact hSD)
           ((go_at_call 46
             refine (mexp_calls h0d had h1d).mono ?_
             rintro e w3 ⟨hx, hb3⟩
             rw [He.out] at hx
             obtain ⟨u1, rfl, hu1⟩ := hx
             rw [errV_zero]
             have hSD := And.intro ((hb3.cell (p := ⟨b, 0, none⟩) hbz).trans k0d) ((hb3.cell (p := ⟨b, 1, none⟩) hbz).trans k1d)))
      have hB3 := below_trans (below_trans hb2 hbd) hb3
      have hb4 := below_alloc (Below.refl w3.heap.size w3) (.cells #[.int .u64 1] 65)
      have hu4 := RawN.below (num_raw hu1) hb4
      have hB4 := below_trans hB3 hb4
      clear k0d k1d hSD h0d had h1d hu1
      obtain ⟨y, hy⟩ : ∃ y, y = a ^ Q % P := ⟨_, rfl⟩
      rw [← hy] at hu4
      have Hy := hid hy
      clear hy
      go_wp2_with fail
      refine (cmp_calls (RawN.mono hu4 (S' := fun _ => True) (fun _ _ => trivial) (Same.refl _ _)) (RawN.mono (raw_one w3) (S' := fun _ => True) (fun _ _ => trivial) (Same.refl _ _))).mono ?_
      rintro e w5 ⟨rfl, hst⟩
      have hB5 := below_trans hB4 hst.below
      clear hu4
      by_cases h1 : y = 1
      · have ht : elB P Q a = true := elB_iff.2 ⟨by omega, hlt, Hy.out ▸ h1⟩
        have Ht := hid ht
        rw [cmp_eq h1]
        clear ht h1
        go_wp2_with fail
        go_ret
        exact ⟨by rw [Ht.out]; rfl, hB5⟩
      · have ht : elB P Q a = false := elB_not fun he => h1 (Hy.out ▸ he.one)
        have Ht := hid ht
        have hc : (Pl.cmp y 1 == 0) = false := by
          rw [beq_eq_false_iff_ne, ne_eq, Pl.cmp_zero]; exact h1
        clear ht h1
        go_wp2_with fail
        go_ret
        exact ⟨by rw [Ht.out]; rfl, hB5⟩
    · have hf : elB P Q a = false := elB_not fun he => hlt he.lt
      have Hf := hid hf
      have hge : (0 : Int) ≤ Pl.cmp a P := by
        rcases Nat.lt_or_ge P a with h | h
        · rw [cmp_gt h]; omega
        · rw [cmp_eq (by omega)]; omega
      clear hf
      go_wp2_with fail
      go_ret
      exact ⟨by rw [Hf.out]; rfl, hb2⟩

end Go.Proofs.Ytphbacggmhjmgaa

/- The layer group, third part: products, quotients, powers. -/
namespace Go.Proofs.Ytphbacggmhjmgaa
open Go.RowKit

def gMulE (P Q a b : Nat) : Except Nat Nat := if elB P Q a && elB P Q b then .ok (a * b % P) else .error 8
def gOverE (P Q a b : Nat) : Except Nat Nat := if elB P Q a && elB P Q b then .ok (a * (b ^ (Q - 1) % P) % P) else .error 8
def gExpE (P Q a s : Nat) : Except Nat Nat := if elB P Q a then (if B64 ^ 64 ≤ s then .error 2 else .ok (a ^ (s % Q) % P)) else .error 8

theorem numE_up {a b c : World} {e : Ending} {r : Except Nat Nat} (h : NumE (Fresh b c) c e r) (hb : a.heap.size ≤ b.heap.size) : NumE (Fresh a c) c e r := by
  cases r with
  | error n => exact h
  | ok n =>
    obtain ⟨u, h1, h2⟩ := h
    exact ⟨u, h1, NumN.mono h2 (Fresh.mono hb (Nat.le_refl _)) (Same.refl _ _)⟩
theorem raw_all {S : Nat → Prop} {w : World} {n : Nat} {cs : List Value} (h : RawN.rep S w n cs) : RawN.rep (fun _ => True) w n cs := RawN.mono h (fun _ _ => trivial) (Same.refl _ _)

theorem numE_two {S : Nat → Prop} {w : World} {e : Ending} {r : Except Nat Nat} (h : NumE S w e r) : ∃ p q, e = .returned (.tuple #[p, q]) := by
  cases r with
  | error n => exact ⟨_, _, h⟩
  | ok n => obtain ⟨u, h1, _⟩ := h; exact ⟨_, _, h1⟩

set_option maxHeartbeats 2000000 in
theorem gmul_calls {S T T' : Nat → Prop} {w : World} {x : G4} {a b : Nat} {v va vb : Value} (h : GrpP.rep S w x [v]) (ha : RawN.rep T w a [va]) (hb : RawN.rep T' w b [vb]) (la : bitLen a ≤ 1000000) (lb : bitLen b ≤ 1000000) :
    Calls Try.prog 30 #[v, va, vb] w fun e w' => NumE (Fresh w w') w' e (gMulE x.1 x.2.1 a b) ∧ Below w.heap.size w w' := by
  rcases Bool.eq_false_or_eq_true (elB x.1 x.2.1 a) with hA | hA
  · have Hf := hid hA
    clear hA
    rcases Bool.eq_false_or_eq_true (elB x.1 x.2.1 b) with hA | hA
    · have Hg := hid hA
      clear hA
      go_enter Try.func30, Try.ntmps30
      go_wp2_with fail
      refine (gis_calls h ha la).mono ?_
      rintro e w1 ⟨rfl, hb1⟩
      rw [Hf.out]
      have h' := GrpP.below h hb1
      go_wp2_with fail
      refine (gis_calls h' (RawN.below hb hb1) lb).mono ?_
      rintro e w2 ⟨rfl, hb2⟩
      rw [Hg.out]
      have hB2 := below_trans hb1 hb2
      have h'' := GrpP.below h' hb2
      have ha2 := raw_all (RawN.below ha hB2)
      have hb2' := raw_all (RawN.below hb hB2)
      clear h h'
      obtain ⟨bb, pv, sv, A1, l1, c1, A2, l2, c2, rfl, hS, hbb, h0, h1, h2, h3, k0, k1, k2, k3, k4, h4⟩ := grp_open h''
      have hp := mod_fact h0
      clear k1 k2 k3 k4 h''
      go_wp2_with fail
      refine (mmul_calls h0 ha2 hb2').mono ?_
      rintro e w3 ⟨he, hb3⟩
      have hlt : ∀ {y}, elB x.1 x.2.1 y = true → ¬ B64 ^ 64 ≤ y := fun hy h => by
        have := lim_up (Nat.lt_trans (elB_iff.1 hy).lt hp.1) (show 32 ≤ 64 by omega); omega
      have hE : modMulE x.1 a b = gMulE x.1 x.2.1 a b := by
        unfold modMulE gMulE
        rw [Hf.out, Hg.out, if_neg (fun h => h.elim (hlt Hf.out) (hlt Hg.out))]
        rfl
      rw [hE] at he
      have he' := numE_up he hB2.size
      have hB3 := below_trans hB2 hb3
      clear hE he hlt k0
      obtain ⟨r1, r2, rfl⟩ := numE_two he'
      go_wp2_with fail
      go_ret2
      exact ⟨he', hB3⟩
    · have Hg := hid hA
      clear hA
      go_enter Try.func30, Try.ntmps30
      go_wp2_with fail
      refine (gis_calls h ha la).mono ?_
      rintro e w1 ⟨rfl, hb1⟩
      rw [Hf.out]
      have h' := GrpP.below h hb1
      go_wp2_with fail
      refine (gis_calls h' (RawN.below hb hb1) lb).mono ?_
      rintro e w2 ⟨rfl, hb2⟩
      rw [Hg.out]
      have hB2 := below_trans hb1 hb2
      go_wp2_with fail
      go_ret2
      refine ⟨?_, hB2⟩
      unfold gMulE
      rw [Hf.out, Hg.out]
      rfl
  · have Hf := hid hA
    clear hA
    go_enter Try.func30, Try.ntmps30
    go_wp2_with fail
    refine (gis_calls h ha la).mono ?_
    rintro e w1 ⟨rfl, hb1⟩
    rw [Hf.out]
    go_wp2_with fail
    go_ret2
    refine ⟨?_, hb1⟩
    unfold gMulE
    rw [Hf.out]
    rfl

set_option maxHeartbeats 2000000 in
theorem gexp_calls {S T T' : Nat → Prop} {w : World} {x : G4} {a s : Nat} {v va vs : Value} (h : GrpP.rep S w x [v]) (ha : RawN.rep T w a [va]) (hs : RawN.rep T' w s [vs]) (la : bitLen a ≤ 1000000) :
    Calls Try.prog 23 #[v, va, vs] w fun e w' => NumE (Fresh w w') w' e (gExpE x.1 x.2.1 a s) ∧ Below w.heap.size w w' := by
  rcases Bool.eq_false_or_eq_true (elB x.1 x.2.1 a) with hA | hA
  · have Hf := hid hA
    clear hA
    go_enter Try.func23, Try.ntmps23
    go_wp2_with fail
    refine (gis_calls h ha la).mono ?_
    rintro e w1 ⟨rfl, hb1⟩
    rw [Hf.out]
    have h' := GrpP.below h hb1
    have ha1 := raw_all (RawN.below ha hb1)
    have hs1 := raw_all (RawN.below hs hb1)
    clear h
    obtain ⟨bb, pv, sv, A1, l1, c1, A2, l2, c2, rfl, hS, hbb, h0, h1, h2, h3, k0, k1, k2, k3, k4, h4⟩ := grp_open h'
    have hp := mod_fact h0
    have hq := mod_fact h3
    clear k1 k2 k4
    go_wp2_with fail
    refine (reduce_calls h3 hs1).mono ?_
    rintro e w2 ⟨he, hb2⟩
    have hB2 := below_trans hb1 hb2
    by_cases hl : B64 ^ 64 ≤ s
    · have hE : ReduceE x.2.1 s = .error 2 := by unfold ReduceE; rw [if_pos hl]
      rw [hE] at he
      obtain rfl : e = .returned (.tuple #[.slice none 0 0, .iface 38 (.int .i64 2)]) := he
      have Hl := hid hl
      clear hE hl k0 k3
      go_wp2_with fail
      go_ret2
      refine ⟨?_, hB2⟩
      unfold gExpE
      rw [Hf.out, if_pos Hl.out]
      rfl
    · have hE : ReduceE x.2.1 s = .ok (s % x.2.1) := by unfold ReduceE; rw [if_neg hl]
      rw [hE] at he
      obtain ⟨u, rfl, hu⟩ := he
      rw [errV_zero]
      have k0' := (hb2.cell (p := ⟨bb, 0, none⟩) hbb).trans k0
      have h0' := ModP.below h0 hb2
      have ha2 := RawN.below ha1 hb2
      have hu2 := raw_all (num_raw hu)
      have Hl := hid hl
      clear hE hl k0 k3 hu
      go_wp2_with fail
      refine (mexp_calls h0' ha2 hu2).mono ?_
      rintro e w3 ⟨he, hb3⟩
      have hB3 := below_trans hB2 hb3
      have hE : modExpE x.1 a (s % x.2.1) = gExpE x.1 x.2.1 a s := by
        have h5 := lim_up (Nat.lt_trans (elB_iff.1 Hf.out).lt hp.1) (show 32 ≤ 64 by omega)
        have h6 := lim_up (Nat.lt_trans (Nat.mod_lt s (by omega : 0 < x.2.1)) hq.1) (show 32 ≤ 64 by omega)
        unfold modExpE gExpE
        rw [Hf.out, if_neg Hl.out, if_neg (fun h => h.elim (by omega) (by omega))]
        rfl
      rw [hE] at he
      have he' := numE_up he hB2.size
      clear hE he k0'
      obtain ⟨r1, r2, rfl⟩ := numE_two he'
      go_wp2_with fail
      go_ret2
      exact ⟨he', hB3⟩
  · have Hf := hid hA
    clear hA
    go_enter Try.func23, Try.ntmps23
    go_wp2_with fail
    refine (gis_calls h ha la).mono ?_
    rintro e w1 ⟨rfl, hb1⟩
    rw [Hf.out]
    go_wp2_with fail
    go_ret2
    refine ⟨?_, hb1⟩
    unfold gExpE
    rw [Hf.out]
    rfl

theorem gbase_calls {S T : Nat → Prop} {w : World} {x : G4} {s : Nat} {v vs : Value} (h : GrpP.rep S w x [v]) (hs : RawN.rep T w s [vs]) (lg : bitLen x.2.2.1 ≤ 1000000) :
    Calls Try.prog 22 #[v, vs] w fun e w' => NumE (Fresh w w') w' e (gExpE x.1 x.2.1 x.2.2.1 s) ∧ Below w.heap.size w w' := by
  obtain ⟨bb, pv, sv, A1, l1, c1, A2, l2, c2, rfl, hS, hbb, h0, h1, h2, h3, k0, k1, k2, k3, k4, h4⟩ := grp_open h
  clear k0 k1 k3 k4
  go_enter Try.func22, Try.ntmps22
  go_wp2_with fail
  refine (gexp_calls h (num_raw h2) hs lg).mono ?_
  rintro e w1 ⟨he', hB3⟩
  clear k2
  obtain ⟨r1, r2, rfl⟩ := numE_two he'
  go_wp2_with fail
  go_ret2
  exact ⟨he', hB3⟩

theorem el_gcd {P Q b : Nat} (h : Num.El P Q b) (hQ : 0 < Q) (_hP : 3 ≤ P) : Nat.gcd P (b % P) = 1 := by
  have h1 := h.back hQ
  have hd : Nat.gcd P (b % P) ∣ 1 := by
    have h2 : Nat.gcd P (b % P) ∣ b := by
      have := Nat.gcd_dvd_right P (b % P)
      rwa [Nat.mod_eq_of_lt h.lt] at this ⊢
    have h3 := Nat.gcd_dvd_left P (b % P)
    have h4 : Nat.gcd P (b % P) ∣ b * (b ^ (Q - 1) % P) % P := (Nat.dvd_mod_iff h3).2 (Nat.dvd_mul_right_of_dvd h2 _)
    rwa [h1] at h4
  exact Nat.dvd_one.1 hd

set_option maxHeartbeats 2000000 in
theorem gover_calls {S T T' : Nat → Prop} {w : World} {x : G4} {a b : Nat} {v va vb : Value} (h : GrpP.rep S w x [v]) (ha : RawN.rep T w a [va]) (hb : RawN.rep T' w b [vb]) (la : bitLen a ≤ 1000000) (lb : bitLen b ≤ 1000000) :
    Calls Try.prog 31 #[v, va, vb] w fun e w' => NumE (Fresh w w') w' e (gOverE x.1 x.2.1 a b) ∧ Below w.heap.size w w' := by
  rcases Bool.eq_false_or_eq_true (elB x.1 x.2.1 a) with hA | hA
  · have Hf := hid hA
    clear hA
    rcases Bool.eq_false_or_eq_true (elB x.1 x.2.1 b) with hA | hA
    · have Hg := hid hA
      clear hA
      go_enter Try.func31, Try.ntmps31
      go_wp2_with fail
      refine (gis_calls h ha la).mono ?_
      rintro e w1 ⟨rfl, hb1⟩
      rw [Hf.out]
      have h' := GrpP.below h hb1
      go_wp2_with fail
      refine (gis_calls h' (RawN.below hb hb1) lb).mono ?_
      rintro e w2 ⟨rfl, hb2⟩
      rw [Hg.out]
      have hB2 := below_trans hb1 hb2
      have h'' := GrpP.below h' hb2
      have ha2 := raw_all (RawN.below ha hB2)
      have hb2' := raw_all (RawN.below hb hB2)
      clear h h'
      obtain ⟨bb, pv, sv, A1, l1, c1, A2, l2, c2, rfl, hS, hbb, h0, h1, h2, h3, k0, k1, k2, k3, k4, h4⟩ := grp_open h''
      have hp := mod_fact h0
      have hq := mod_fact h3
      clear k1 k2 k3 k4 h''
      go_wp2_with fail
      refine (minv_calls h0 hb2').mono ?_
      rintro e w3 ⟨he, hb3⟩
      have hEa := elB_iff.1 Hf.out
      have hEb := elB_iff.1 Hg.out
      have hla : ¬ B64 ^ 64 ≤ a := by have := lim_up (Nat.lt_trans hEa.lt hp.1) (show 32 ≤ 64 by omega); omega
      have hlb : ¬ B64 ^ 64 ≤ b := by have := lim_up (Nat.lt_trans hEb.lt hp.1) (show 32 ≤ 64 by omega); omega
      unfold InvPost at he
      rw [if_neg hlb, if_neg (fun h => h (el_gcd hEb (by omega) hp.2.1))] at he
      obtain ⟨y, u, rfl, hu, hy, hy1⟩ := he
      have ey : y = b ^ (x.2.1 - 1) % x.1 := Num.inv_unique hy (Nat.mod_lt _ (by omega)) (by rw [Nat.mul_comm]; exact hy1) (hEb.back (by omega))
      have hly : ¬ B64 ^ 64 ≤ y := by have := lim_up (Nat.lt_trans hy hp.1) (show 32 ≤ 64 by omega); omega
      have hE : modMulE x.1 a y = gOverE x.1 x.2.1 a b := by
        unfold modMulE gOverE
        rw [Hf.out, Hg.out, if_neg (fun h => h.elim hla hly), ey]
        rfl
      have HE := hid hE
      have hB2' := below_trans hB2 hb3
      have k0' := (hb3.cell (p := ⟨bb, 0, none⟩) hbb).trans k0
      have h0' := ModP.below h0 hb3
      have ha3 := RawN.below ha2 hb3
      have hu3 := raw_all (num_raw hu)
      clear hE ey hy1 k0 hEa hEb hla hlb hly
      go_wp2_with fail
      refine (mmul_calls h0' ha3 hu3).mono ?_
      rintro e w4 ⟨he, hb4⟩
      rw [HE.out] at he
      have he' := numE_up he hB2'.size
      have hB3 := below_trans hB2' hb4
      clear he k0'
      obtain ⟨r1, r2, rfl⟩ := numE_two he'
      go_wp2_with fail
      go_ret2
      exact ⟨he', hB3⟩
    · have Hg := hid hA
      clear hA
      go_enter Try.func31, Try.ntmps31
      go_wp2_with fail
      refine (gis_calls h ha la).mono ?_
      rintro e w1 ⟨rfl, hb1⟩
      rw [Hf.out]
      have h' := GrpP.below h hb1
      go_wp2_with fail
      refine (gis_calls h' (RawN.below hb hb1) lb).mono ?_
      rintro e w2 ⟨rfl, hb2⟩
      rw [Hg.out]
      have hB2 := below_trans hb1 hb2
      go_wp2_with fail
      go_ret2
      refine ⟨?_, hB2⟩
      unfold gOverE
      rw [Hf.out, Hg.out]
      rfl
  · have Hf := hid hA
    clear hA
    go_enter Try.func31, Try.ntmps31
    go_wp2_with fail
    refine (gis_calls h ha la).mono ?_
    rintro e w1 ⟨rfl, hb1⟩
    rw [Hf.out]
    go_wp2_with fail
    go_ret2
    refine ⟨?_, hb1⟩
    unfold gOverE
    rw [Hf.out]
    rfl

end Go.Proofs.Ytphbacggmhjmgaa

/- The layer prime, second part: a step of a proof. -/
namespace Go.Proofs.Ytphbacggmhjmgaa
open Go.RowKit

theorem num_all_ {S : Nat → Prop} {w : World} {n : Nat} {cs : List Value} (h : NumN.rep S w n cs) : NumN.rep (fun _ => True) w n cs := NumN.mono h (fun _ _ => trivial) (Same.refl _ _)
theorem num_modall {S : Nat → Prop} {w : World} {m : Nat} {cs : List Value} (h : ModP.rep S w m cs) : ModP.rep (fun _ => True) w m cs := ModP.mono h (fun _ _ => trivial) (Same.refl _ _)
/-- three numbers, one behind the other -/
structure Norms (w wc : World) (p q a : Nat) (v3 v4 v5 : Value) : Prop where
  p : NumN.rep (fun _ => True) wc p [v3]
  q : NumN.rep (fun _ => True) wc q [v4]
  a : NumN.rep (fun _ => True) wc a [v5]
  low : Below w.heap.size w wc

theorem step2 {b32 b64 p q a : Nat} (h : b32 ≤ p ∨ b64 ≤ q ∨ b64 ≤ a) : Num.stepE b32 b64 p q a = 2 := by unfold Num.stepE; rw [if_pos h]
theorem step5 {b32 b64 p q a : Nat} (h : ¬ (b32 ≤ p ∨ b64 ≤ q ∨ b64 ≤ a)) (h5 : p % 2 = 0 ∨ p < 3) : Num.stepE b32 b64 p q a = 5 := by unfold Num.stepE; rw [if_neg h, if_pos h5]
theorem step7 {b32 b64 p q a : Nat} (h : ¬ (b32 ≤ p ∨ b64 ≤ q ∨ b64 ≤ a)) (h5 : ¬ (p % 2 = 0 ∨ p < 3)) (h7 : q ≤ 1 ∨ a ≤ 1 ∨ p - 1 < a ∨ q * q ≤ p ∨ (p - 1) % q ≠ 0 ∨ a ^ (p - 1) % p ≠ 1 ∨ Nat.gcd ((a ^ ((p - 1) / q) + (p - 1)) % p) p ≠ 1) :
    Num.stepE b32 b64 p q a = 7 := by unfold Num.stepE; rw [if_neg h, if_neg h5, if_pos h7]
theorem step0 {b32 b64 p q a : Nat} (h : ¬ (b32 ≤ p ∨ b64 ≤ q ∨ b64 ≤ a)) (h5 : ¬ (p % 2 = 0 ∨ p < 3)) (h7 : ¬ (q ≤ 1 ∨ a ≤ 1 ∨ p - 1 < a ∨ q * q ≤ p ∨ (p - 1) % q ≠ 0 ∨ a ^ (p - 1) % p ≠ 1 ∨ Nat.gcd ((a ^ ((p - 1) / q) + (p - 1)) % p) p ≠ 1)) :
    Num.stepE b32 b64 p q a = 0 := by unfold Num.stepE; rw [if_neg h, if_neg h5, if_neg h7]
/-- a number's slice: how long it is -/
theorem numn_open {S : Nat → Prop} {w : World} {n : Nat} {v : Value} (h : NumN.rep S w n [v]) : ∃ A l c, v = .slice A l c ∧ l ≤ c ∧ c ≤ 9223372036854775807 ∧ ∀ k, l ≤ k ↔ n < B64 ^ k := by
  obtain ⟨xs, hx, cx, rfl⟩ := h
  obtain ⟨A, c, rfl, h1, h2⟩ := sl_open hx
  exact ⟨A, _, c, rfl, h1, h2, fun k => Pl.canon_len_le B64_gt (num_dig hx) cx⟩

theorem cmp_le {m n : Nat} (h : m ≤ n) : Pl.cmp m n ≤ 0 := by
  rcases Nat.lt_or_ge m n with h1 | h1
  · rw [cmp_lt h1]; omega
  · rw [cmp_eq (by omega)]; omega
theorem cmp_not_le {m n : Nat} (h : ¬ m ≤ n) : ¬ Pl.cmp m n ≤ 0 := by rw [cmp_gt (by omega)]; omega
theorem one_lim : ¬ B64 ^ 64 ≤ 1 := by have := lim_up (show 1 < B64 ^ 1 by decide) (show 1 ≤ 64 by omega); omega

set_option maxHeartbeats 8000000 in
set_option maxRecDepth 100000 in
theorem sound_calls {T : Nat → Prop} {w : World} {p q a : Nat} {vp vq va : Value} (hp : RawN.rep T w p [vp]) (hq : RawN.rep T w q [vq]) (ha : RawN.rep T w a [va]) :
    Calls Try.prog 73 #[.agg #[vp, vq, va]] w fun e w' => e = .returned (.int .i64 ((Num.stepE (B64 ^ 32) (B64 ^ 64) p q a : Nat) : Int)) ∧ Below w.heap.size w w' := by
  obtain ⟨Ap, lp, cp, ep⟩ := num_one rfl hp
  obtain ⟨Aq, lq, cq, eq⟩ := num_one rfl hq
  obtain ⟨Aa, la, ca, ea⟩ := num_one rfl ha
  simp only [List.cons.injEq, and_true] at ep eq ea
  subst ep eq ea
  have hb0 := below_alloc (Below.refl w.heap.size w) (.cells #[.slice Ap lp cp, .slice Aq lq cq, .slice Aa la ca] 67)
  have hr0 := Row.new w 67 #[.slice Ap lp cp, .slice Aq lq cq, .slice Aa la ca]
  obtain ⟨W, hW⟩ : ∃ W, W = w.alloc (.cells #[.slice Ap lp cp, .slice Aq lq cq, .slice Aa la ca] 67) := ⟨_, rfl⟩
  have hbl : w.heap.size < W.heap.size := by rw [hW]; simp
  rw [← hW] at hb0 hr0
  have hp0 := RawN.below hp hb0
  have hq0 := RawN.below hq hb0
  have ha0 := RawN.below ha hb0
  go_enter Try.func73, Try.ntmps73
  go_upto_region 1 with (fail)
  rw [← hW]
  clear hW hp hq ha
  go_cut [3, 4, 5] from 18 (fun v3 v4 v5 wc => Norms w wc p q a v3 v4 v5)
  case first =>
    have c0 := hr0.cell 0 (by simp)
    have c1 := hr0.cell 1 (by simp)
    have c2 := hr0.cell 2 (by simp)
    simp only [List.getElem_cons_zero, List.getElem_cons_succ] at c0 c1 c2
    have hSW : Below W.heap.size W W.drew := (Below.refl _ _).drew
    go_region_held3 (fun w' => (w'.cell? ⟨w.heap.size, 0, none⟩ = some (.slice Ap lp cp) ∧ w'.cell? ⟨w.heap.size, 1, none⟩ = some (.slice Aq lq cq) ∧ w'.cell? ⟨w.heap.size, 2, none⟩ = some (.slice Aa la ca)) ∧ Below W.heap.size W w')
      (first | exact ⟨⟨c0, c1, c2⟩, hSW⟩ | exact hSD)
      (first
      | (go_at_call_of 39 (Value.slice Ap lp cp)
         have hH := ‹(_ ∧ _) ∧ Below W.heap.size W _›
         have hbX := hH.2
         refine (norm_calls (RawN.below hp0 hbX)).mono ?_
         rintro e wP ⟨⟨uP, rfl, huP⟩, hbP⟩
         have hlt : w.heap.size < _ := Nat.lt_of_lt_of_le hbl hbX.size
         have hSD := And.intro (And.intro ((hbP.cell (p := ⟨w.heap.size, 0, none⟩) hlt).trans hH.1.1) (And.intro ((hbP.cell (p := ⟨w.heap.size, 1, none⟩) hlt).trans hH.1.2.1) ((hbP.cell (p := ⟨w.heap.size, 2, none⟩) hlt).trans hH.1.2.2))) (below_trans hbX hbP)
         replace huP := num_all_ huP
         clear hH hbX hlt)
      | (go_at_call_of 39 (Value.slice Aq lq cq)
         have hH := ‹(_ ∧ _) ∧ Below W.heap.size W _›
         have hbX := hH.2
         refine (norm_calls (RawN.below hq0 hbX)).mono ?_
         rintro e wQ ⟨⟨uQ, rfl, huQ⟩, hbQ⟩
         have hlt : w.heap.size < _ := Nat.lt_of_lt_of_le hbl hbX.size
         have hSD := And.intro (And.intro ((hbQ.cell (p := ⟨w.heap.size, 0, none⟩) hlt).trans hH.1.1) (And.intro ((hbQ.cell (p := ⟨w.heap.size, 1, none⟩) hlt).trans hH.1.2.1) ((hbQ.cell (p := ⟨w.heap.size, 2, none⟩) hlt).trans hH.1.2.2))) (below_trans hbX hbQ)
         replace huQ := num_all_ huQ
         clear hH hbX hlt)
      | (go_at_call_of 39 (Value.slice Aa la ca)
         have hH := ‹(_ ∧ _) ∧ Below W.heap.size W _›
         have hbX := hH.2
         refine (norm_calls (RawN.below ha0 hbX)).mono ?_
         rintro e wA ⟨⟨uA, rfl, huA⟩, hbA⟩
         have hlt : w.heap.size < _ := Nat.lt_of_lt_of_le hbl hbX.size
         have hSD := And.intro (And.intro ((hbA.cell (p := ⟨w.heap.size, 0, none⟩) hlt).trans hH.1.1) (And.intro ((hbA.cell (p := ⟨w.heap.size, 1, none⟩) hlt).trans hH.1.2.1) ((hbA.cell (p := ⟨w.heap.size, 2, none⟩) hlt).trans hH.1.2.2))) (below_trans hbX hbA)
         replace huA := num_all_ huA
         clear hH hbX hlt)
      | fail)
    all_goals
      have hB := below_trans hb0 hSD.2
      go_wp2_with fail
      go_meet
      case rel => exact ⟨by first | exact huP | exact NumN.below huP hbQ | exact NumN.below huP hbA | exact NumN.below (NumN.below huP hbQ) hbA | exact NumN.below (NumN.below huP hbA) hbQ,
        by first | exact huQ | exact NumN.below huQ hbP | exact NumN.below huQ hbA | exact NumN.below (NumN.below huQ hbP) hbA | exact NumN.below (NumN.below huQ hbA) hbP,
        by first | exact huA | exact NumN.below huA hbP | exact NumN.below huA hbQ | exact NumN.below (NumN.below huA hbP) hbQ | exact NumN.below (NumN.below huA hbQ) hbP, hB⟩
  case rest =>
    obtain ⟨hP, hQ, hA, hB⟩ := hcut
    clear hr0 hb0 hp0 hq0 ha0 hbl W
    obtain ⟨P1, lp, cp, rfl, hp1, hp2, hpl⟩ := numn_open hP
    obtain ⟨Q1, lq, cq, rfl, hq1, hq2, hql⟩ := numn_open hQ
    obtain ⟨A1, la, ca, rfl, ha1, ha2, hal⟩ := numn_open hA
    have kp := hpl 32
    have kq := hql 64
    have ka := hal 64
    clear hpl hql hal
    by_cases e1 : 32 < lp
    · have Hs := hid (show Num.stepE (B64 ^ 32) (B64 ^ 64) p q a = 2 from step2 (.inl (by omega)))
      clear kp kq ka
      go_wp2_with fail
      go_ret
      exact ⟨by rw [Hs.out]; rfl, hB⟩
    by_cases e2 : 64 < lq
    · have Hs := hid (show Num.stepE (B64 ^ 32) (B64 ^ 64) p q a = 2 from step2 (.inr (.inl (by omega))))
      clear kp kq ka
      go_wp2_with fail
      go_ret
      exact ⟨by rw [Hs.out]; rfl, hB⟩
    by_cases e3 : 64 < la
    · have Hs := hid (show Num.stepE (B64 ^ 32) (B64 ^ 64) p q a = 2 from step2 (.inr (.inr (by omega))))
      clear kp kq ka
      go_wp2_with fail
      go_ret
      exact ⟨by rw [Hs.out]; rfl, hB⟩
    have h2 : ¬ (B64 ^ 32 ≤ p ∨ B64 ^ 64 ≤ q ∨ B64 ^ 64 ≤ a) := by omega
    have H2 := hid h2
    have Hp32 := hid (show p < B64 ^ 32 by omega)
    have Hq64 := hid (show q < B64 ^ 64 by omega)
    have Ha64 := hid (show a < B64 ^ 64 by omega)
    clear kp kq ka h2
    go_wp2_with fail
    refine (mnew_calls (num_raw hP)).mono ?_
    rintro e w1 ⟨he, hb1⟩
    unfold NewPost at he
    rw [if_neg (by have := Hp32.out; omega)] at he
    have hB1 := below_trans hB hb1
    by_cases e5 : p % 2 = 0 ∨ p < 3
    · rw [if_pos e5] at he
      obtain rfl : e = .returned (.tuple #[.pointer none, .iface 38 (.int .i64 5)]) := he
      have Hs := hid (show Num.stepE (B64 ^ 32) (B64 ^ 64) p q a = 5 from step5 H2.out e5)
      clear e5
      go_wp2_with fail
      go_ret
      exact ⟨by rw [Hs.out]; rfl, hB1⟩
    rw [if_neg e5] at he
    obtain ⟨mv, rfl, hM⟩ := he
    have H5 := hid e5
    have hp3 : 3 ≤ p := by omega
    clear e5
    replace hP := NumN.below hP hb1
    replace hQ := NumN.below hQ hb1
    replace hA := NumN.below hA hb1
    clear hB
    have hB := hB1
    clear hB1
    have hbo := below_alloc (Below.refl w1.heap.size w1) (.cells #[.int .u64 1] 65)
    have hone := raw_all (raw_one w1)
    have hpl : ¬ B64 ^ 64 ≤ p := by have := lim_up Hp32.out (show 32 ≤ 64 by omega); omega
    have Hsub := hid (show subE p 1 = .ok (p - 1) by unfold subE; rw [if_neg (fun h => h.elim hpl one_lim), if_neg (by omega)])
    have Hpl := hid hpl
    clear hpl
    replace hM := ModP.below (num_modall hM) hbo
    go_wp2_with fail
    refine (sub_calls (raw_all (num_raw (NumN.below hP hbo))) hone).mono ?_
    rintro e w2 ⟨he, hb2⟩
    rw [Hsub.out] at he
    obtain ⟨lv, rfl, hL⟩ := he
    rw [errV_zero]
    replace hL := num_all_ hL
    have hb12 := below_trans hbo hb2
    replace hP := NumN.below hP hb12
    replace hQ := NumN.below hQ hb12
    replace hA := NumN.below hA hb12
    replace hM := ModP.below hM hb2
    replace hone := RawN.below hone hb2
    replace hB := below_trans hB hb12
    clear hbo hb2 hb12 hb1
    by_cases e6 : q ≤ 1
    · have Hs := hid (show Num.stepE (B64 ^ 32) (B64 ^ 64) p q a = 7 from step7 H2.out H5.out (.inl e6))
      have hc := cmp_le e6
      go_wp2_with fail
      refine (cmp_calls (raw_all (num_raw hQ)) (hone)).mono ?_
      rintro e w3 ⟨rfl, hst⟩
      replace hP := NumN.below hP (hst.below)
      replace hQ := NumN.below hQ (hst.below)
      replace hA := NumN.below hA (hst.below)
      replace hM := ModP.below hM (hst.below)
      replace hone := RawN.below hone (hst.below)
      replace hB := below_trans hB (hst.below)
      replace hL := NumN.below hL hst.below
      clear hst
      go_wp2_with fail
      go_ret
      exact ⟨by rw [Hs.out]; rfl, hB⟩
    have hc6 := cmp_not_le e6
    go_wp2_with fail
    refine (cmp_calls (raw_all (num_raw hQ)) (hone)).mono ?_
    rintro e w3 ⟨rfl, hst⟩
    replace hP := NumN.below hP (hst.below)
    replace hQ := NumN.below hQ (hst.below)
    replace hA := NumN.below hA (hst.below)
    replace hM := ModP.below hM (hst.below)
    replace hone := RawN.below hone (hst.below)
    replace hB := below_trans hB (hst.below)
    replace hL := NumN.below hL hst.below
    clear hst
    by_cases e7 : a ≤ 1
    · have Hs := hid (show Num.stepE (B64 ^ 32) (B64 ^ 64) p q a = 7 from step7 H2.out H5.out (.inr (.inl e7)))
      have hc := cmp_le e7
      go_wp2_with fail
      refine (cmp_calls (raw_all (num_raw hA)) (hone)).mono ?_
      rintro e w4 ⟨rfl, hst⟩
      replace hP := NumN.below hP (hst.below)
      replace hQ := NumN.below hQ (hst.below)
      replace hA := NumN.below hA (hst.below)
      replace hM := ModP.below hM (hst.below)
      replace hone := RawN.below hone (hst.below)
      replace hB := below_trans hB (hst.below)
      replace hL := NumN.below hL hst.below
      clear hst
      go_wp2_with fail
      go_ret
      exact ⟨by rw [Hs.out]; rfl, hB⟩
    have hc7 := cmp_not_le e7
    go_wp2_with fail
    refine (cmp_calls (raw_all (num_raw hA)) (hone)).mono ?_
    rintro e w4 ⟨rfl, hst⟩
    replace hP := NumN.below hP (hst.below)
    replace hQ := NumN.below hQ (hst.below)
    replace hA := NumN.below hA (hst.below)
    replace hM := ModP.below hM (hst.below)
    replace hone := RawN.below hone (hst.below)
    replace hB := below_trans hB (hst.below)
    replace hL := NumN.below hL hst.below
    clear hst
    by_cases e8 : p - 1 < a
    · have Hs := hid (show Num.stepE (B64 ^ 32) (B64 ^ 64) p q a = 7 from step7 H2.out H5.out (.inr (.inr (.inl e8))))
      have hc : 0 < Pl.cmp a (p - 1) := by rw [cmp_gt e8]; omega
      go_wp2_with fail
      refine (cmp_calls (raw_all (num_raw hA)) (raw_all (num_raw hL))).mono ?_
      rintro e w5 ⟨rfl, hst⟩
      replace hP := NumN.below hP (hst.below)
      replace hQ := NumN.below hQ (hst.below)
      replace hA := NumN.below hA (hst.below)
      replace hM := ModP.below hM (hst.below)
      replace hone := RawN.below hone (hst.below)
      replace hB := below_trans hB (hst.below)
      replace hL := NumN.below hL hst.below
      clear hst
      go_wp2_with fail
      go_ret
      exact ⟨by rw [Hs.out]; rfl, hB⟩
    have hc8 : ¬ 0 < Pl.cmp a (p - 1) := by have := cmp_le (show a ≤ p - 1 by omega); omega
    go_wp2_with fail
    refine (cmp_calls (raw_all (num_raw hA)) (raw_all (num_raw hL))).mono ?_
    rintro e w5 ⟨rfl, hst⟩
    replace hP := NumN.below hP (hst.below)
    replace hQ := NumN.below hQ (hst.below)
    replace hA := NumN.below hA (hst.below)
    replace hM := ModP.below hM (hst.below)
    replace hone := RawN.below hone (hst.below)
    replace hB := below_trans hB (hst.below)
    replace hL := NumN.below hL hst.below
    clear hst
    have hql : ¬ B64 ^ 64 ≤ q := by have := Hq64.out; omega
    have Hmul := hid (show mulE q q = .ok (q * q) by unfold mulE; rw [if_neg (fun h => h.elim hql hql)])
    clear hql
    go_wp2_with fail
    clear hc6 hc7 hc8
    refine (mul_calls (num_raw hQ) (num_raw hQ)).mono ?_
    rintro e w6 ⟨he, hb6⟩
    rw [Hmul.out] at he
    obtain ⟨sv, rfl, hSq⟩ := he
    rw [errV_zero]
    replace hSq := num_all_ hSq
    replace hP := NumN.below hP (hb6)
    replace hQ := NumN.below hQ (hb6)
    replace hA := NumN.below hA (hb6)
    replace hM := ModP.below hM (hb6)
    replace hone := RawN.below hone (hb6)
    replace hB := below_trans hB (hb6)
    replace hL := NumN.below hL hb6
    clear hb6
    obtain ⟨D, hD⟩ : ∃ D, D = q * q := ⟨_, rfl⟩
    rw [← hD] at hSq
    have HD := hid hD
    clear hD
    by_cases e9 : D ≤ p
    · have Hs := hid (show Num.stepE (B64 ^ 32) (B64 ^ 64) p q a = 7 from step7 H2.out H5.out (.inr (.inr (.inr (.inl (HD.out ▸ e9))))))
      have hc := cmp_le e9
      go_wp2_with fail
      refine (cmp_calls (raw_all (num_raw hSq)) (raw_all (num_raw hP))).mono ?_
      rintro e w7 ⟨rfl, hst⟩
      replace hP := NumN.below hP (hst.below)
      replace hQ := NumN.below hQ (hst.below)
      replace hA := NumN.below hA (hst.below)
      replace hM := ModP.below hM (hst.below)
      replace hone := RawN.below hone (hst.below)
      replace hB := below_trans hB (hst.below)
      replace hL := NumN.below hL hst.below
      clear hst
      go_wp2_with fail
      go_ret
      exact ⟨by rw [Hs.out]; rfl, hB⟩
    have hc9 := cmp_not_le e9
    go_wp2_with fail
    refine (cmp_calls (raw_all (num_raw hSq)) (raw_all (num_raw hP))).mono ?_
    rintro e w7 ⟨rfl, hst⟩
    replace hP := NumN.below hP (hst.below)
    replace hQ := NumN.below hQ (hst.below)
    replace hA := NumN.below hA (hst.below)
    replace hM := ModP.below hM (hst.below)
    replace hone := RawN.below hone (hst.below)
    replace hB := below_trans hB (hst.below)
    replace hL := NumN.below hL hst.below
    clear hst
    have hql : ¬ B64 ^ 64 ≤ q := by have := Hq64.out; omega
    have hpl1 : ¬ B64 ^ 64 ≤ p - 1 := by have := Hpl.out; omega
    have Hql := hid hql
    have Hpl1 := hid hpl1
    clear hql hpl1 hSq
    go_wp2_with fail
    refine (div_calls (raw_all (num_raw hL)) (raw_all (num_raw hQ))).mono ?_
    rintro e w8 ⟨he, hb8⟩
    unfold DivPost at he
    rw [if_neg (fun h => h.elim Hpl1.out Hql.out), if_neg (by omega)] at he
    obtain ⟨kv, rv, rfl, hK, hR⟩ := he
    replace hK := num_all_ hK
    replace hP := NumN.below hP (hb8)
    replace hQ := NumN.below hQ (hb8)
    replace hA := NumN.below hA (hb8)
    replace hM := ModP.below hM (hb8)
    replace hone := RawN.below hone (hb8)
    replace hB := below_trans hB (hb8)
    replace hL := NumN.below hL hb8
    clear hb8 hc9
    obtain ⟨R1, lr, cr, rfl, hr1, hr2, hrl⟩ := numn_open hR
    have kr := hrl 0
    rw [Nat.pow_zero] at kr
    clear hrl hR
    by_cases e10 : 0 < lr
    · have Hs := hid (show Num.stepE (B64 ^ 32) (B64 ^ 64) p q a = 7 from step7 H2.out H5.out (.inr (.inr (.inr (.inr (.inl (by omega)))))))
      clear kr
      go_wp2_with fail
      go_ret
      exact ⟨by rw [Hs.out]; rfl, hB⟩
    have H10 := hid (show (p - 1) % q = 0 by omega)
    clear kr
    have Hexp := hid (show modExpE p a (p - 1) = .ok (a ^ (p - 1) % p) by unfold modExpE; rw [if_neg (fun h => h.elim (by have := Ha64.out; omega) Hpl1.out)])
    go_wp2_with fail
    refine (mexp_calls hM (raw_all (num_raw hA)) (raw_all (num_raw hL))).mono ?_
    rintro e w9 ⟨he, hb9⟩
    rw [Hexp.out] at he
    obtain ⟨xv, rfl, hX⟩ := he
    rw [errV_zero]
    replace hX := num_all_ hX
    replace hP := NumN.below hP (hb9)
    replace hQ := NumN.below hQ (hb9)
    replace hA := NumN.below hA (hb9)
    replace hM := ModP.below hM (hb9)
    replace hone := RawN.below hone (hb9)
    replace hB := below_trans hB (hb9)
    replace hL := NumN.below hL hb9
    replace hK := NumN.below hK hb9
    clear hb9
    obtain ⟨Y, hY⟩ : ∃ Y, Y = a ^ (p - 1) % p := ⟨_, rfl⟩
    rw [← hY] at hX
    have HY := hid hY
    clear hY
    by_cases e11 : Y = 1
    rotate_left
    · have Hs := hid (show Num.stepE (B64 ^ 32) (B64 ^ 64) p q a = 7 from step7 H2.out H5.out (.inr (.inr (.inr (.inr (.inr (.inl (HY.out ▸ e11))))))))
      have hc : (Pl.cmp Y 1 == 0) = false := by rw [beq_eq_false_iff_ne, ne_eq, Pl.cmp_zero]; exact e11
      clear e11
      go_wp2_with fail
      refine (cmp_calls (raw_all (num_raw hX)) (hone)).mono ?_
      rintro e w10 ⟨rfl, hst⟩
      replace hP := NumN.below hP (hst.below)
      replace hQ := NumN.below hQ (hst.below)
      replace hA := NumN.below hA (hst.below)
      replace hM := ModP.below hM (hst.below)
      replace hone := RawN.below hone (hst.below)
      replace hB := below_trans hB (hst.below)
      replace hL := NumN.below hL hst.below
      clear hst
      go_wp2_with fail
      go_ret
      exact ⟨by rw [Hs.out]; rfl, hB⟩
    have hc : Pl.cmp Y 1 = 0 := Pl.cmp_zero.2 e11
    have H11 := hid (e11 ▸ HY.out)
    go_wp2_with fail
    refine (cmp_calls (raw_all (num_raw hX)) hone).mono ?_
    rintro e w10 ⟨rfl, hst⟩
    rw [hc]
    clear hc e11
    replace hP := NumN.below hP (hst.below)
    replace hQ := NumN.below hQ (hst.below)
    replace hA := NumN.below hA (hst.below)
    replace hM := ModP.below hM (hst.below)
    replace hone := RawN.below hone (hst.below)
    replace hB := below_trans hB (hst.below)
    replace hL := NumN.below hL hst.below
    replace hK := NumN.below hK hst.below
    clear hst hX
    have hk64 : ¬ B64 ^ 64 ≤ (p - 1) / q := by have := Hpl1.out; have := Nat.div_le_self (p - 1) q; omega
    have Hexp2 := hid (show modExpE p a ((p - 1) / q) = .ok (a ^ ((p - 1) / q) % p) by unfold modExpE; rw [if_neg (fun h => h.elim (by have := Ha64.out; omega) hk64)])
    clear hk64
    go_wp2_with fail
    refine (mexp_calls hM (raw_all (num_raw hA)) (raw_all (num_raw hK))).mono ?_
    rintro e w11 ⟨he, hb11⟩
    rw [Hexp2.out] at he
    obtain ⟨yv, rfl, hX⟩ := he
    rw [errV_zero]
    replace hX := num_all_ hX
    replace hP := NumN.below hP (hb11)
    replace hQ := NumN.below hQ (hb11)
    replace hA := NumN.below hA (hb11)
    replace hM := ModP.below hM (hb11)
    replace hone := RawN.below hone (hb11)
    replace hB := below_trans hB (hb11)
    clear hb11 hL hK
    obtain ⟨X, hXd⟩ : ∃ X, X = a ^ ((p - 1) / q) % p := ⟨_, rfl⟩
    rw [← hXd] at hX
    have hXp : X < p := by rw [hXd]; exact Nat.mod_lt _ (by omega)
    have hx64 : ¬ B64 ^ 64 ≤ X := by have := Hpl.out; omega
    obtain ⟨Z, hZ⟩ : ∃ Z, Z = (X % p + p - 1 % p) % p := ⟨_, rfl⟩
    have Hs2 := hid (show modSubE p X 1 = .ok Z by unfold modSubE; rw [if_neg (fun h => h.elim hx64 one_lim), hZ])
    have hZp : Z < p := by rw [hZ]; exact Nat.mod_lt _ (by omega)
    have HZ := hid (show Z = (a ^ ((p - 1) / q) + (p - 1)) % p by
      rw [hZ, Nat.mod_eq_of_lt hXp, Nat.mod_eq_of_lt (show 1 < p by omega), hXd, Nat.add_sub_assoc (by omega), Nat.mod_add_mod])
    clear hXd hx64 hZ
    go_wp2_with fail
    refine (msub_calls hM (raw_all (num_raw hX)) hone).mono ?_
    rintro e w12 ⟨he, hb12⟩
    rw [Hs2.out] at he
    obtain ⟨zv, rfl, hZr⟩ := he
    rw [errV_zero]
    replace hZr := num_all_ hZr
    replace hP := NumN.below hP (hb12)
    replace hQ := NumN.below hQ (hb12)
    replace hA := NumN.below hA (hb12)
    replace hM := ModP.below hM (hb12)
    replace hone := RawN.below hone (hb12)
    replace hB := below_trans hB (hb12)
    clear hb12 hX
    have hz64 : ¬ B64 ^ 64 ≤ Z := by have := Hpl.out; omega
    go_wp2_with fail
    refine (minv_calls hM (raw_all (num_raw hZr))).mono ?_
    rintro e w13 ⟨he, hb13⟩
    have hB13 := below_trans hB hb13
    unfold InvPost at he
    rw [if_neg hz64, Nat.mod_eq_of_lt hZp] at he
    clear hz64 hb13
    by_cases e12 : Nat.gcd p Z = 1
    rotate_left
    · rw [if_pos e12] at he
      obtain rfl : e = .returned (.tuple #[.slice none 0 0, .iface 38 (.int .i64 6)]) := he
      have Hs := hid (show Num.stepE (B64 ^ 32) (B64 ^ 64) p q a = 7 from step7 H2.out H5.out (.inr (.inr (.inr (.inr (.inr (.inr (by rw [← HZ.out, Nat.gcd_comm]; exact e12))))))))
      clear e12
      go_wp2_with fail
      go_ret
      exact ⟨by rw [Hs.out]; rfl, hB13⟩
    rw [if_neg (fun h => h e12)] at he
    obtain ⟨y, u, rfl, hu, _, _⟩ := he
    have Hs := hid (show Num.stepE (B64 ^ 32) (B64 ^ 64) p q a = 0 from step0 H2.out H5.out (by
      have h9 := HD.out
      have h10 := H10.out
      have h11 := H11.out
      have h12 : Nat.gcd ((a ^ ((p - 1) / q) + (p - 1)) % p) p = 1 := by rw [← HZ.out, Nat.gcd_comm]; exact e12
      rintro (h | h | h | h | h | h | h)
      · omega
      · omega
      · omega
      · omega
      · exact h h10
      · exact h h11.symm
      · exact h h12))
    clear e12
    go_wp2_with fail
    go_ret
    exact ⟨by rw [Hs.out]; rfl, hB13⟩

end Go.Proofs.Ytphbacggmhjmgaa

/- The layer prime, third part: Check. -/
namespace Go.Proofs.Ytphbacggmhjmgaa
open Go.RowKit

abbrev Step3 := Nat × Nat × Nat
def StepS : Rep Step3 := RawN.pair (RawN.pair RawN)
theorem raw_val {S : Nat → Prop} {w : World} {n : Nat} {cs : List Value} (h : RawN.rep S w n cs) : ∃ A l c, cs = [.slice A l c] := num_one rfl h
/-- A step of a chain: its three cells. -/
theorem chain_at {S : Nat → Prop} {w : World} {xs : List Step3} {A : Option Addr} {n cap : Nat} (h : StepS.sl.rep S w xs [.slice A n cap]) (i : Nat) (hi : i < xs.length) :
    ∃ b o A1 l1 c1 A2 l2 c2 A3 l3 c3, A = some ⟨b, o, none⟩ ∧ S b ∧ b < w.heap.size ∧ RawN.rep S w xs[i].1 [.slice A1 l1 c1] ∧ RawN.rep S w xs[i].2.1 [.slice A2 l2 c2] ∧ RawN.rep S w xs[i].2.2 [.slice A3 l3 c3] ∧
      w.cell? ⟨b, o + i * 3, none⟩ = some (.slice A1 l1 c1) ∧ w.cell? ⟨b, o + i * 3 + 1, none⟩ = some (.slice A2 l2 c2) ∧ w.cell? ⟨b, o + i * 3 + 2, none⟩ = some (.slice A3 l3 c3) := by
  obtain ⟨b, o, ys, rfl, hb, ha, hr⟩ := sl_at h i hi
  have hlt := sl_lt h (by omega) b o rfl
  obtain ⟨a1, _, rfl, h1, a2, a3, rfl, h2, h3⟩ := hr
  obtain ⟨A1, l1, c1, rfl⟩ := raw_val h1
  obtain ⟨A2, l2, c2, rfl⟩ := raw_val h2
  obtain ⟨A3, l3, c3, rfl⟩ := raw_val h3
  exact ⟨b, o, A1, l1, c1, A2, l2, c2, A3, l3, c3, rfl, hb, hlt, h1, h2, h3, ha.cell 0 (by simp), ha.cell 1 (by simp), ha.cell 2 (by simp)⟩

section
variable {b32 b64 : Nat} {l : List Step3} {k : Nat}
theorem drop_one (h : k < l.length) : l.drop k = l[k] :: l.drop (k + 1) := List.drop_eq_getElem_cons h
theorem chain_bad (h : k < l.length) (hs : Num.stepE b32 b64 l[k].1 l[k].2.1 l[k].2.2 ≠ 0) : Num.chainE b32 b64 (l.drop k) k = (Num.stepE b32 b64 l[k].1 l[k].2.1 l[k].2.2, k) := by
  rw [drop_one h]
  generalize l.drop (k + 1) = r
  revert hs
  generalize l[k] = x
  obtain ⟨p, q, a⟩ := x
  intro hs
  cases r with
  | nil => unfold Num.chainE; rw [if_pos hs]
  | cons x r => obtain ⟨p', q', a'⟩ := x; unfold Num.chainE; rw [if_pos hs]
theorem chain_link (h : k + 1 < l.length) (hs : Num.stepE b32 b64 l[k].1 l[k].2.1 l[k].2.2 = 0) (hq : l[k].2.1 ≠ l[k + 1].1) : Num.chainE b32 b64 (l.drop k) k = (7, k) := by
  rw [drop_one (by omega), drop_one h]
  generalize l.drop (k + 1 + 1) = r
  revert hs hq
  generalize l[k] = x
  generalize l[k + 1] = y
  obtain ⟨p, q, a⟩ := x
  obtain ⟨p', q', a'⟩ := y
  intro hs hq
  unfold Num.chainE
  rw [if_neg (by simpa using hs), if_pos hq]
theorem chain_next (h : k + 1 < l.length) (hs : Num.stepE b32 b64 l[k].1 l[k].2.1 l[k].2.2 = 0) (hq : l[k].2.1 = l[k + 1].1) : Num.chainE b32 b64 (l.drop k) k = Num.chainE b32 b64 (l.drop (k + 1)) (k + 1) := by
  rw [drop_one (by omega : k < l.length), drop_one h]
  generalize l.drop (k + 1 + 1) = r
  revert hs hq
  generalize l[k] = x
  generalize l[k + 1] = y
  obtain ⟨p, q, a⟩ := x
  obtain ⟨p', q', a'⟩ := y
  intro hs hq
  conv => lhs; unfold Num.chainE
  rw [if_neg (by simpa using hs), if_neg (by simpa using hq)]
theorem chain_end (h : k + 1 = l.length) (hs : Num.stepE b32 b64 (l[k]'(by omega)).1 (l[k]'(by omega)).2.1 (l[k]'(by omega)).2.2 = 0) : Num.chainE b32 b64 (l.drop k) k = if Num.smallB (l[k]'(by omega)).2.1 then (0, 0) else (7, k) := by
  rw [drop_one (by omega : k < l.length), List.drop_of_length_le (by omega)]
  revert hs
  generalize l[k]'(by omega) = x
  obtain ⟨p, q, a⟩ := x
  intro hs
  unfold Num.chainE
  rw [if_neg (by simpa using hs)]
end
/-- an error at a place -/
def SpotIs (w w' : World) (i c : Nat) (v : Value) : Prop := ∃ g, v = .iface 108 (.pointer (some ⟨g, 0, none⟩)) ∧ Fresh w w' g ∧ Row w' g 110 [.int .u64 (i : Int), .iface 38 (.int .i64 (c : Int))]
def CheckPost (l : List Step3) (w : World) (e : Ending) (w' : World) : Prop :=
  if l.length = 0 ∨ 64 < l.length then e = .returned (.tuple #[.slice none 0 0, .iface 38 (.int .i64 1)])
  else if (Num.chainE (B64 ^ 32) (B64 ^ 64) l 0).1 = 0 then ∃ u, e = .returned (.tuple #[u, .nilIface]) ∧ NumN.rep (Fresh w w') w' (l.headD (0, 0, 0)).1 [u]
  else ∃ v, e = .returned (.tuple #[.slice none 0 0, v]) ∧ SpotIs w w' (Num.chainE (B64 ^ 32) (B64 ^ 64) l 0).2 (Num.chainE (B64 ^ 32) (B64 ^ 64) l 0).1 v

set_option maxHeartbeats 8000000 in
set_option maxRecDepth 100000 in
theorem check_calls {S : Nat → Prop} {w : World} {l : List Step3} {v : Value} (h : StepS.sl.rep S w l [v]) :
    Calls Try.prog 51 #[v] w fun e w' => CheckPost l w e w' ∧ Below w.heap.size w w' := by
  obtain ⟨A, cap, rfl, hcap, hcm⟩ := sl_open h
  by_cases h0 : l.length = 0 ∨ 64 < l.length
  · have hr : ∀ e w', e = .returned (.tuple #[.slice none 0 0, .iface 38 (.int .i64 1)]) → CheckPost l w e w' := fun e w' he => by unfold CheckPost; rw [if_pos h0]; exact he
    have Hr := hid hr
    clear hr
    rcases h0 with h0 | h0
    · have h1 : ((l.length : Int) == 0) = true := by rw [h0]; rfl
      clear h0
      go_enter Try.func51, Try.ntmps51
      go_wp2_with fail
      go_ret2
      exact ⟨Hr.out _ _ rfl, Below.refl _ _⟩
    · have h1 : ((l.length : Int) == 0) = false := by rw [beq_eq_false_iff_ne, ne_eq]; omega
      go_enter Try.func51, Try.ntmps51
      go_wp2_with fail
      go_ret2
      exact ⟨Hr.out _ _ rfl, Below.refl _ _⟩
  · have hl1 : 0 < l.length := by omega
    have hl2 : l.length ≤ 64 := by omega
    have H0 := hid h0
    have h1 : ((l.length : Int) == 0) = false := by rw [beq_eq_false_iff_ne, ne_eq]; omega
    clear h0
    go_enter Try.func51, Try.ntmps51
    go_wp2_with fail
    go_loopw [19] (fun iv wr => ∃ k : Nat, iv = .int .i64 (k : Int) ∧ k ≤ l.length ∧ Hid (Num.chainE (B64 ^ 32) (B64 ^ 64) l 0 = Num.chainE (B64 ^ 32) (B64 ^ 64) (l.drop k) k) ∧ Below w.heap.size w wr) (fun iv _ => l.length - (intOf iv).toNat)
    case atStart => exact ⟨0, rfl, by omega, by show _ = _; rw [List.drop_zero], Below.refl _ _⟩
    case round =>
      obtain ⟨k, rfl, hk, hE, hB⟩ := hrel
      obtain ⟨wo, rfl⟩ : ∃ wo : World, wo = wr := ⟨_, rfl⟩
      clear h1
      by_cases hlt : k < l.length
      · have h' := StepS.sl.below h hB
        obtain ⟨b, o, A1, l1, c1, A2, l2, c2, A3, l3, c3, rfl, hSb, hbl, r1, r2, r3, k1, k2, k3⟩ := chain_at h' k hlt
        have hb := below_alloc (Below.refl wo.heap.size wo) (.cells #[.slice A1 l1 c1, .slice A2 l2 c2, .slice A3 l3 c3] 67)
        have hr := Row.new wo 67 #[.slice A1 l1 c1, .slice A2 l2 c2, .slice A3 l3 c3]
        have hrl := hr.lt
        obtain ⟨C, hC⟩ : ∃ C, C = Num.stepE (B64 ^ 32) (B64 ^ 64) l[k].1 l[k].2.1 l[k].2.2 := ⟨_, rfl⟩
        go_wp2_with fail
        refine (sound_calls (RawN.below r1 hb) (RawN.below r2 hb) (RawN.below r3 hb)).mono ?_
        rintro e w2 ⟨rfl, hb2⟩
        rw [← hC]
        have hB2 := below_trans (below_trans hB hb) hb2
        have HC := hid hC
        clear hC
        by_cases hc : C = 0
        · have hC0 := hid (HC.out.symm.trans hc)
          subst hc
          have hr2 := hr.below hrl hb2
          have d1 := hr2.cell 1 (by simp)
          simp only [List.getElem_cons_zero, List.getElem_cons_succ] at d1
          have hbX := below_trans hb hb2
          go_wp2_with fail
          refine (norm_calls (RawN.below r2 hbX)).mono ?_
          rintro e w3 ⟨⟨u, rfl, hu⟩, hb3⟩
          have hB3 := below_trans hB2 hb3
          have hbY := below_trans hbX hb3
          clear hr hr2 d1 k1 k2 k3 hb hb2
          by_cases hn : k + 1 < l.length
          · obtain ⟨b', o', A1', l1', c1', A2', l2', c2', A3', l3', c3', e', _, hbl', r1', _, _, k1', _, _⟩ := chain_at h' (k + 1) hn
            simp only [Option.some.injEq, Addr.mk.injEq, and_true] at e'
            obtain ⟨rfl, rfl⟩ := e'
            have k1y := (hbY.cell (p := ⟨b, o + (k + 1) * 3, none⟩) hbl').trans k1'
            have r1y := RawN.below r1' hbY
            clear k1' r1'
            go_wp2_with fail
            by_cases hq : l[k].2.1 = l[k + 1].1
            · have hcz : Pl.cmp l[k].2.1 l[k + 1].1 = 0 := cmp_eq hq
              refine (cmp_calls (raw_all (num_raw hu)) (raw_all r1y)).mono ?_
              rintro e w4 ⟨rfl, hst⟩
              rw [hcz]
              have hE2 := hid (hE.out.trans (chain_next hn hC0.out hq))
              have hB4 := below_trans hB3 hst.below
              clear hq hcz k1y
              go_wp2_with fail
              go_roundw
              case rel => exact ⟨k + 1, by simp, by omega, hE2, hB4⟩
              case measure => simp [intOf]; omega
            · refine (cmp_calls (raw_all (num_raw hu)) (raw_all r1y)).mono ?_
              rintro e w4 ⟨rfl, hst⟩
              obtain ⟨cc, hcc⟩ : ∃ cc, cc = Pl.cmp l[k].2.1 l[k + 1].1 := ⟨_, rfl⟩
              rw [← hcc]
              have hcz : (cc == 0) = false := by rw [hcc, beq_eq_false_iff_ne, ne_eq, Pl.cmp_zero]; exact hq
              have hcz2 : (cc != 0) = true := by rw [bne, hcz]; rfl
              clear hcc
              have hE2 := hid (hE.out.trans (chain_link hn hC0.out hq))
              have hB4 := below_trans hB3 hst.below
              have hb5 := below_alloc hB4 (.cells #[.int .u64 (k : Int), .iface 38 (.int .i64 ((7 : Nat) : Int))] 110)
              clear hq k1y
              go_wp2_with fail
              go_ret2
              refine ⟨?_, hb5⟩
              unfold CheckPost
              rw [if_neg H0.out, hE2.out, if_neg (by omega)]
              exact ⟨_, rfl, _, rfl, ⟨hB4.size, by simp⟩, Row.new w4 110 #[_, _]⟩
          · have hk1 : k + 1 = l.length := by omega
            have hE2 := hE.out.trans (chain_end hk1 hC0.out)
            obtain ⟨q, hqd⟩ : ∃ q, q = l[k].2.1 := ⟨_, rfl⟩
            rw [← hqd] at hu hE2
            have hE3 := hid hE2
            obtain ⟨U1, lu, cu, rfl, hu1, hu2, hul⟩ := numn_open hu
            have u0 := hul 0
            have u1 := hul 1
            rw [Nat.pow_zero] at u0
            rw [Nat.pow_one] at u1
            clear hul hqd hE2
            by_cases hl1u : lu = 1
            · obtain ⟨xs, hx, cx, vx⟩ := id hu
              subst hl1u
              have hxl := (sl_cap hx).1
              obtain ⟨g, og, rfl, hg, hcell, hdig⟩ := num_at hx 0 (by omega)
              have hv : xs[0]'(by omega) = q := by
                match xs, hxl, vx with
                | [y], _, vx => rw [← vx]; simp [Pl.val]
              rw [hv] at hcell hdig
              rw [Nat.add_zero] at hcell
              clear u0 u1 hx cx vx hv hxl hu
              go_wp2_with fail
              refine (small_calls q hdig _).mono ?_
              rintro e w4 ⟨rfl, rfl⟩
              by_cases hsm : Num.smallB q = true
              · rw [hsm]
                have hE4 := hid (show Num.chainE (B64 ^ 32) (B64 ^ 64) l 0 = Num.chainE (B64 ^ 32) (B64 ^ 64) (l.drop (k + 1)) (k + 1) by rw [hE3.out, if_pos hsm, List.drop_of_length_le (by omega)]; rfl)
                clear hsm hcell
                go_wp2_with fail
                go_roundw
                case rel => exact ⟨k + 1, by rw [hk1], by omega, hE4, hB3⟩
                case measure => simp [intOf]; omega
              · have hsf : Num.smallB q = false := by simpa using hsm
                rw [hsf]
                have hE4 := hid (show Num.chainE (B64 ^ 32) (B64 ^ 64) l 0 = (7, k) by rw [hE3.out, if_neg hsm])
                have hb5 := below_alloc hB3 (.cells #[.int .u64 (k : Int), .iface 38 (.int .i64 ((7 : Nat) : Int))] 110)
                clear hsm hsf hcell
                go_wp2_with fail
                go_ret2
                refine ⟨?_, hb5⟩
                unfold CheckPost
                rw [if_neg H0.out, hE4.out, if_neg (by omega)]
                exact ⟨_, rfl, _, rfl, ⟨hB3.size, by simp⟩, Row.new w3 110 #[_, _]⟩
            · have hsf : Num.smallB q = false := smallB_out (by
                rcases Nat.lt_or_ge lu 1 with h | h
                · have := u0.1 (by omega); omega
                · have h3 : ¬ lu ≤ 1 := by omega
                  have h4 : B64 ≤ q := by
                    rcases Nat.lt_or_ge q B64 with h5 | h5
                    · exact absurd (u1.2 h5) h3
                    · exact h5
                  have h6 : (65536 : Nat) ≤ B64 := by decide
                  omega)
              have hE4 := hid (show Num.chainE (B64 ^ 32) (B64 ^ 64) l 0 = (7, k) by rw [hE3.out, hsf]; rfl)
              have hl1v : ((lu : Int) == 1) = false := by rw [beq_eq_false_iff_ne, ne_eq]; omega
              have hl1w : ((lu : Int) != 1) = true := by rw [bne, hl1v]; rfl
              have hb5 := below_alloc hB3 (.cells #[.int .u64 (k : Int), .iface 38 (.int .i64 ((7 : Nat) : Int))] 110)
              clear hsf u0 u1 hl1u
              go_wp2_with fail
              go_ret2
              refine ⟨?_, hb5⟩
              unfold CheckPost
              rw [if_neg H0.out, hE4.out, if_neg (by omega)]
              exact ⟨_, rfl, _, rfl, ⟨hB3.size, by simp⟩, Row.new w3 110 #[_, _]⟩
        · have c1 : ((C : Int) == 0) = false := by rw [beq_eq_false_iff_ne, ne_eq]; omega
          have hE2 := hid (show Num.chainE (B64 ^ 32) (B64 ^ 64) l 0 = (C, k) by rw [hE.out, chain_bad hlt (by rw [← HC.out]; exact hc), ← HC.out])
          have Hc := hid hc
          clear hc h h' k1 k2 k3 r1 r2 r3
          have hb3 := below_alloc hB2 (.cells #[.int .u64 (k : Int), .iface 38 (.int .i64 (C : Int))] 110)
          go_wp2_with fail
          go_ret2
          refine ⟨?_, hb3⟩
          unfold CheckPost
          rw [if_neg H0.out, hE2.out, if_neg Hc.out]
          exact ⟨_, rfl, _, rfl, ⟨hB2.size, by simp⟩, Row.new w2 110 #[_, _]⟩
      · have h' := StepS.sl.below h hB
        obtain ⟨b, o, A1, l1, c1, A2, l2, c2, A3, l3, c3, rfl, hSb, hbl, r1, r2, r3, k1, k2, k3⟩ := chain_at h' 0 hl1
        have hE2 := hid (show (Num.chainE (B64 ^ 32) (B64 ^ 64) l 0).1 = 0 by rw [hE.out, List.drop_of_length_le (by omega)]; rfl)
        have hd := hid (show (l.headD (0, 0, 0)).1 = l[0].1 by cases l with | nil => simp at hl1 | cons x l => rfl)
        rw [Nat.zero_mul, Nat.add_zero] at k1
        clear h h' k2 k3 r2 r3
        go_wp2_with fail
        refine (norm_calls r1).mono ?_
        rintro e w2 ⟨⟨u, rfl, hu⟩, hb2⟩
        have hB2 := below_trans hB hb2
        have hs := hB.size
        clear k1
        go_wp2_with fail
        go_ret2
        refine ⟨?_, hB2⟩
        unfold CheckPost
        rw [if_neg H0.out, if_pos hE2.out, hd.out]
        exact ⟨u, rfl, NumN.mono hu (Fresh.mono hs (Nat.le_refl _)) (Same.refl _ _)⟩

end Go.Proofs.Ytphbacggmhjmgaa
