/- The layer prime, second part: a step of a proof. -/
import Derived.Test.YtphbacggmhjmgaaGrpC
namespace Go.Proofs.Ytphbacggmhjmgaa
open Go.RowKit

theorem num_all_ {S : Nat → Prop} {w : World} {n : Nat} {cs : List Value} (h : NumN.rep S w n cs) : NumN.rep (fun _ => True) w n cs := NumN.mono h (fun _ _ => trivial) (Same.refl _ _)
theorem num_modall {S : Nat → Prop} {w : World} {m : Nat} {cs : List Value} (h : ModP.rep S w m cs) : ModP.rep (fun _ => True) w m cs := ModP.mono h (fun _ _ => trivial) (Same.refl _ _)
/-- three numbers, one behind the other -/
structure Norms (w wc : World) (p q a : Nat) (v3 v4 v5 : Value) : Prop where
  p : NumN.rep (fun _ => True) wc p [v3]
  q : NumN.rep (fun _ => True) wc q [v4]
  a : NumN.rep (fun _ => True) wc a [v5]
  low : Below w.heap.size w wc

theorem step2 {b32 b64 p q a : Nat} (h : b32 ≤ p ∨ b64 ≤ q ∨ b64 ≤ a) : Num.stepE b32 b64 p q a = 2 := by unfold Num.stepE; rw [if_pos h]
theorem step5 {b32 b64 p q a : Nat} (h : ¬ (b32 ≤ p ∨ b64 ≤ q ∨ b64 ≤ a)) (h5 : p % 2 = 0 ∨ p < 3) : Num.stepE b32 b64 p q a = 5 := by unfold Num.stepE; rw [if_neg h, if_pos h5]
theorem step7 {b32 b64 p q a : Nat} (h : ¬ (b32 ≤ p ∨ b64 ≤ q ∨ b64 ≤ a)) (h5 : ¬ (p % 2 = 0 ∨ p < 3)) (h7 : q ≤ 1 ∨ a ≤ 1 ∨ p - 1 < a ∨ q * q ≤ p ∨ (p - 1) % q ≠ 0 ∨ a ^ (p - 1) % p ≠ 1 ∨ Nat.gcd ((a ^ ((p - 1) / q) + (p - 1)) % p) p ≠ 1) :
    Num.stepE b32 b64 p q a = 7 := by unfold Num.stepE; rw [if_neg h, if_neg h5, if_pos h7]
theorem step0 {b32 b64 p q a : Nat} (h : ¬ (b32 ≤ p ∨ b64 ≤ q ∨ b64 ≤ a)) (h5 : ¬ (p % 2 = 0 ∨ p < 3)) (h7 : ¬ (q ≤ 1 ∨ a ≤ 1 ∨ p - 1 < a ∨ q * q ≤ p ∨ (p - 1) % q ≠ 0 ∨ a ^ (p - 1) % p ≠ 1 ∨ Nat.gcd ((a ^ ((p - 1) / q) + (p - 1)) % p) p ≠ 1)) :
    Num.stepE b32 b64 p q a = 0 := by unfold Num.stepE; rw [if_neg h, if_neg h5, if_neg h7]
/-- a number's slice: how long it is -/
theorem numn_open {S : Nat → Prop} {w : World} {n : Nat} {v : Value} (h : NumN.rep S w n [v]) : ∃ A l c, v = .slice A l c ∧ l ≤ c ∧ c ≤ 9223372036854775807 ∧ ∀ k, l ≤ k ↔ n < B64 ^ k := by
  obtain ⟨xs, hx, cx, rfl⟩ := h
  obtain ⟨A, c, rfl, h1, h2⟩ := sl_open hx
  exact ⟨A, _, c, rfl, h1, h2, fun k => Pl.canon_len_le B64_gt (num_dig hx) cx⟩

theorem cmp_le {m n : Nat} (h : m ≤ n) : Pl.cmp m n ≤ 0 := by
  rcases Nat.lt_or_ge m n with h1 | h1
  · rw [cmp_lt h1]; omega
  · rw [cmp_eq (by omega)]; omega
theorem cmp_not_le {m n : Nat} (h : ¬ m ≤ n) : ¬ Pl.cmp m n ≤ 0 := by rw [cmp_gt (by omega)]; omega
theorem one_lim : ¬ B64 ^ 64 ≤ 1 := by have := lim_up (show 1 < B64 ^ 1 by decide) (show 1 ≤ 64 by omega); omega

set_option maxHeartbeats 8000000 in
set_option maxRecDepth 100000 in
theorem sound_calls {T : Nat → Prop} {w : World} {p q a : Nat} {vp vq va : Value} (hp : RawN.rep T w p [vp]) (hq : RawN.rep T w q [vq]) (ha : RawN.rep T w a [va]) :
    Calls Try.prog 73 #[.agg #[vp, vq, va]] w fun e w' => e = .returned (.int .i64 ((Num.stepE (B64 ^ 32) (B64 ^ 64) p q a : Nat) : Int)) ∧ Below w.heap.size w w' := by
  obtain ⟨Ap, lp, cp, ep⟩ := num_one rfl hp
  obtain ⟨Aq, lq, cq, eq⟩ := num_one rfl hq
  obtain ⟨Aa, la, ca, ea⟩ := num_one rfl ha
  simp only [List.cons.injEq, and_true] at ep eq ea
  subst ep eq ea
  have hb0 := below_alloc (Below.refl w.heap.size w) (.cells #[.slice Ap lp cp, .slice Aq lq cq, .slice Aa la ca] 67)
  have hr0 := Row.new w 67 #[.slice Ap lp cp, .slice Aq lq cq, .slice Aa la ca]
  obtain ⟨W, hW⟩ : ∃ W, W = w.alloc (.cells #[.slice Ap lp cp, .slice Aq lq cq, .slice Aa la ca] 67) := ⟨_, rfl⟩
  have hbl : w.heap.size < W.heap.size := by rw [hW]; simp
  rw [← hW] at hb0 hr0
  have hp0 := RawN.below hp hb0
  have hq0 := RawN.below hq hb0
  have ha0 := RawN.below ha hb0
  go_enter Try.func73, Try.ntmps73
  go_upto_region 1 with (fail)
  rw [← hW]
  clear hW hp hq ha
  go_cut [3, 4, 5] from 18 (fun v3 v4 v5 wc => Norms w wc p q a v3 v4 v5)
  case first =>
    have c0 := hr0.cell 0 (by simp)
    have c1 := hr0.cell 1 (by simp)
    have c2 := hr0.cell 2 (by simp)
    simp only [List.getElem_cons_zero, List.getElem_cons_succ] at c0 c1 c2
    have hSW : Below W.heap.size W W.drew := (Below.refl _ _).drew
    go_region_held3 (fun w' => (w'.cell? ⟨w.heap.size, 0, none⟩ = some (.slice Ap lp cp) ∧ w'.cell? ⟨w.heap.size, 1, none⟩ = some (.slice Aq lq cq) ∧ w'.cell? ⟨w.heap.size, 2, none⟩ = some (.slice Aa la ca)) ∧ Below W.heap.size W w')
      (first | exact ⟨⟨c0, c1, c2⟩, hSW⟩ | exact hSD)
      (first
      | (go_at_call_of 39 (Value.slice Ap lp cp)
         have hH := ‹(_ ∧ _) ∧ Below W.heap.size W _›
         have hbX := hH.2
         refine (norm_calls (RawN.below hp0 hbX)).mono ?_
         rintro e wP ⟨⟨uP, rfl, huP⟩, hbP⟩
         have hlt : w.heap.size < _ := Nat.lt_of_lt_of_le hbl hbX.size
         have hSD := And.intro (And.intro ((hbP.cell (p := ⟨w.heap.size, 0, none⟩) hlt).trans hH.1.1) (And.intro ((hbP.cell (p := ⟨w.heap.size, 1, none⟩) hlt).trans hH.1.2.1) ((hbP.cell (p := ⟨w.heap.size, 2, none⟩) hlt).trans hH.1.2.2))) (below_trans hbX hbP)
         replace huP := num_all_ huP
         clear hH hbX hlt)
      | (go_at_call_of 39 (Value.slice Aq lq cq)
         have hH := ‹(_ ∧ _) ∧ Below W.heap.size W _›
         have hbX := hH.2
         refine (norm_calls (RawN.below hq0 hbX)).mono ?_
         rintro e wQ ⟨⟨uQ, rfl, huQ⟩, hbQ⟩
         have hlt : w.heap.size < _ := Nat.lt_of_lt_of_le hbl hbX.size
         have hSD := And.intro (And.intro ((hbQ.cell (p := ⟨w.heap.size, 0, none⟩) hlt).trans hH.1.1) (And.intro ((hbQ.cell (p := ⟨w.heap.size, 1, none⟩) hlt).trans hH.1.2.1) ((hbQ.cell (p := ⟨w.heap.size, 2, none⟩) hlt).trans hH.1.2.2))) (below_trans hbX hbQ)
         replace huQ := num_all_ huQ
         clear hH hbX hlt)
      | (go_at_call_of 39 (Value.slice Aa la ca)
         have hH := ‹(_ ∧ _) ∧ Below W.heap.size W _›
         have hbX := hH.2
         refine (norm_calls (RawN.below ha0 hbX)).mono ?_
         rintro e wA ⟨⟨uA, rfl, huA⟩, hbA⟩
         have hlt : w.heap.size < _ := Nat.lt_of_lt_of_le hbl hbX.size
         have hSD := And.intro (And.intro ((hbA.cell (p := ⟨w.heap.size, 0, none⟩) hlt).trans hH.1.1) (And.intro ((hbA.cell (p := ⟨w.heap.size, 1, none⟩) hlt).trans hH.1.2.1) ((hbA.cell (p := ⟨w.heap.size, 2, none⟩) hlt).trans hH.1.2.2))) (below_trans hbX hbA)
         replace huA := num_all_ huA
         clear hH hbX hlt)
      | fail)
    all_goals
      have hB := below_trans hb0 hSD.2
      go_wp2_with fail
      go_meet
      case rel => exact ⟨by first | exact huP | exact NumN.below huP hbQ | exact NumN.below huP hbA | exact NumN.below (NumN.below huP hbQ) hbA | exact NumN.below (NumN.below huP hbA) hbQ,
        by first | exact huQ | exact NumN.below huQ hbP | exact NumN.below huQ hbA | exact NumN.below (NumN.below huQ hbP) hbA | exact NumN.below (NumN.below huQ hbA) hbP,
        by first | exact huA | exact NumN.below huA hbP | exact NumN.below huA hbQ | exact NumN.below (NumN.below huA hbP) hbQ | exact NumN.below (NumN.below huA hbQ) hbP, hB⟩
  case rest =>
    obtain ⟨hP, hQ, hA, hB⟩ := hcut
    clear hr0 hb0 hp0 hq0 ha0 hbl W
    obtain ⟨P1, lp, cp, rfl, hp1, hp2, hpl⟩ := numn_open hP
    obtain ⟨Q1, lq, cq, rfl, hq1, hq2, hql⟩ := numn_open hQ
    obtain ⟨A1, la, ca, rfl, ha1, ha2, hal⟩ := numn_open hA
    have kp := hpl 32
    have kq := hql 64
    have ka := hal 64
    clear hpl hql hal
    by_cases e1 : 32 < lp
    · have Hs := hid (show Num.stepE (B64 ^ 32) (B64 ^ 64) p q a = 2 from step2 (.inl (by omega)))
      clear kp kq ka
      go_wp2_with fail
      go_ret
      exact ⟨by rw [Hs.out]; rfl, hB⟩
    by_cases e2 : 64 < lq
    · have Hs := hid (show Num.stepE (B64 ^ 32) (B64 ^ 64) p q a = 2 from step2 (.inr (.inl (by omega))))
      clear kp kq ka
      go_wp2_with fail
      go_ret
      exact ⟨by rw [Hs.out]; rfl, hB⟩
    by_cases e3 : 64 < la
    · have Hs := hid (show Num.stepE (B64 ^ 32) (B64 ^ 64) p q a = 2 from step2 (.inr (.inr (by omega))))
      clear kp kq ka
      go_wp2_with fail
      go_ret
      exact ⟨by rw [Hs.out]; rfl, hB⟩
    have h2 : ¬ (B64 ^ 32 ≤ p ∨ B64 ^ 64 ≤ q ∨ B64 ^ 64 ≤ a) := by omega
    have H2 := hid h2
    have Hp32 := hid (show p < B64 ^ 32 by omega)
    have Hq64 := hid (show q < B64 ^ 64 by omega)
    have Ha64 := hid (show a < B64 ^ 64 by omega)
    clear kp kq ka h2
    go_wp2_with fail
    refine (mnew_calls (num_raw hP)).mono ?_
    rintro e w1 ⟨he, hb1⟩
    unfold NewPost at he
    rw [if_neg (by have := Hp32.out; omega)] at he
    have hB1 := below_trans hB hb1
    by_cases e5 : p % 2 = 0 ∨ p < 3
    · rw [if_pos e5] at he
      obtain rfl : e = .returned (.tuple #[.pointer none, .iface 38 (.int .i64 5)]) := he
      have Hs := hid (show Num.stepE (B64 ^ 32) (B64 ^ 64) p q a = 5 from step5 H2.out e5)
      clear e5
      go_wp2_with fail
      go_ret
      exact ⟨by rw [Hs.out]; rfl, hB1⟩
    rw [if_neg e5] at he
    obtain ⟨mv, rfl, hM⟩ := he
    have H5 := hid e5
    have hp3 : 3 ≤ p := by omega
    clear e5
    replace hP := NumN.below hP hb1
    replace hQ := NumN.below hQ hb1
    replace hA := NumN.below hA hb1
    clear hB
    have hB := hB1
    clear hB1
    have hbo := below_alloc (Below.refl w1.heap.size w1) (.cells #[.int .u64 1] 65)
    have hone := raw_all (raw_one w1)
    have hpl : ¬ B64 ^ 64 ≤ p := by have := lim_up Hp32.out (show 32 ≤ 64 by omega); omega
    have Hsub := hid (show subE p 1 = .ok (p - 1) by unfold subE; rw [if_neg (fun h => h.elim hpl one_lim), if_neg (by omega)])
    have Hpl := hid hpl
    clear hpl
    replace hM := ModP.below (num_modall hM) hbo
    go_wp2_with fail
    refine (sub_calls (raw_all (num_raw (NumN.below hP hbo))) hone).mono ?_
    rintro e w2 ⟨he, hb2⟩
    rw [Hsub.out] at he
    obtain ⟨lv, rfl, hL⟩ := he
    rw [errV_zero]
    replace hL := num_all_ hL
    have hb12 := below_trans hbo hb2
    replace hP := NumN.below hP hb12
    replace hQ := NumN.below hQ hb12
    replace hA := NumN.below hA hb12
    replace hM := ModP.below hM hb2
    replace hone := RawN.below hone hb2
    replace hB := below_trans hB hb12
    clear hbo hb2 hb12 hb1
    by_cases e6 : q ≤ 1
    · have Hs := hid (show Num.stepE (B64 ^ 32) (B64 ^ 64) p q a = 7 from step7 H2.out H5.out (.inl e6))
      have hc := cmp_le e6
      go_wp2_with fail
      refine (cmp_calls (raw_all (num_raw hQ)) (hone)).mono ?_
      rintro e w3 ⟨rfl, hst⟩
      replace hP := NumN.below hP (hst.below)
      replace hQ := NumN.below hQ (hst.below)
      replace hA := NumN.below hA (hst.below)
      replace hM := ModP.below hM (hst.below)
      replace hone := RawN.below hone (hst.below)
      replace hB := below_trans hB (hst.below)
      replace hL := NumN.below hL hst.below
      clear hst
      go_wp2_with fail
      go_ret
      exact ⟨by rw [Hs.out]; rfl, hB⟩
    have hc6 := cmp_not_le e6
    go_wp2_with fail
    refine (cmp_calls (raw_all (num_raw hQ)) (hone)).mono ?_
    rintro e w3 ⟨rfl, hst⟩
    replace hP := NumN.below hP (hst.below)
    replace hQ := NumN.below hQ (hst.below)
    replace hA := NumN.below hA (hst.below)
    replace hM := ModP.below hM (hst.below)
    replace hone := RawN.below hone (hst.below)
    replace hB := below_trans hB (hst.below)
    replace hL := NumN.below hL hst.below
    clear hst
    by_cases e7 : a ≤ 1
    · have Hs := hid (show Num.stepE (B64 ^ 32) (B64 ^ 64) p q a = 7 from step7 H2.out H5.out (.inr (.inl e7)))
      have hc := cmp_le e7
      go_wp2_with fail
      refine (cmp_calls (raw_all (num_raw hA)) (hone)).mono ?_
      rintro e w4 ⟨rfl, hst⟩
      replace hP := NumN.below hP (hst.below)
      replace hQ := NumN.below hQ (hst.below)
      replace hA := NumN.below hA (hst.below)
      replace hM := ModP.below hM (hst.below)
      replace hone := RawN.below hone (hst.below)
      replace hB := below_trans hB (hst.below)
      replace hL := NumN.below hL hst.below
      clear hst
      go_wp2_with fail
      go_ret
      exact ⟨by rw [Hs.out]; rfl, hB⟩
    have hc7 := cmp_not_le e7
    go_wp2_with fail
    refine (cmp_calls (raw_all (num_raw hA)) (hone)).mono ?_
    rintro e w4 ⟨rfl, hst⟩
    replace hP := NumN.below hP (hst.below)
    replace hQ := NumN.below hQ (hst.below)
    replace hA := NumN.below hA (hst.below)
    replace hM := ModP.below hM (hst.below)
    replace hone := RawN.below hone (hst.below)
    replace hB := below_trans hB (hst.below)
    replace hL := NumN.below hL hst.below
    clear hst
    by_cases e8 : p - 1 < a
    · have Hs := hid (show Num.stepE (B64 ^ 32) (B64 ^ 64) p q a = 7 from step7 H2.out H5.out (.inr (.inr (.inl e8))))
      have hc : 0 < Pl.cmp a (p - 1) := by rw [cmp_gt e8]; omega
      go_wp2_with fail
      refine (cmp_calls (raw_all (num_raw hA)) (raw_all (num_raw hL))).mono ?_
      rintro e w5 ⟨rfl, hst⟩
      replace hP := NumN.below hP (hst.below)
      replace hQ := NumN.below hQ (hst.below)
      replace hA := NumN.below hA (hst.below)
      replace hM := ModP.below hM (hst.below)
      replace hone := RawN.below hone (hst.below)
      replace hB := below_trans hB (hst.below)
      replace hL := NumN.below hL hst.below
      clear hst
      go_wp2_with fail
      go_ret
      exact ⟨by rw [Hs.out]; rfl, hB⟩
    have hc8 : ¬ 0 < Pl.cmp a (p - 1) := by have := cmp_le (show a ≤ p - 1 by omega); omega
    go_wp2_with fail
    refine (cmp_calls (raw_all (num_raw hA)) (raw_all (num_raw hL))).mono ?_
    rintro e w5 ⟨rfl, hst⟩
    replace hP := NumN.below hP (hst.below)
    replace hQ := NumN.below hQ (hst.below)
    replace hA := NumN.below hA (hst.below)
    replace hM := ModP.below hM (hst.below)
    replace hone := RawN.below hone (hst.below)
    replace hB := below_trans hB (hst.below)
    replace hL := NumN.below hL hst.below
    clear hst
    have hql : ¬ B64 ^ 64 ≤ q := by have := Hq64.out; omega
    have Hmul := hid (show mulE q q = .ok (q * q) by unfold mulE; rw [if_neg (fun h => h.elim hql hql)])
    clear hql
    go_wp2_with fail
    clear hc6 hc7 hc8
    refine (mul_calls (num_raw hQ) (num_raw hQ)).mono ?_
    rintro e w6 ⟨he, hb6⟩
    rw [Hmul.out] at he
    obtain ⟨sv, rfl, hSq⟩ := he
    rw [errV_zero]
    replace hSq := num_all_ hSq
    replace hP := NumN.below hP (hb6)
    replace hQ := NumN.below hQ (hb6)
    replace hA := NumN.below hA (hb6)
    replace hM := ModP.below hM (hb6)
    replace hone := RawN.below hone (hb6)
    replace hB := below_trans hB (hb6)
    replace hL := NumN.below hL hb6
    clear hb6
    obtain ⟨D, hD⟩ : ∃ D, D = q * q := ⟨_, rfl⟩
    rw [← hD] at hSq
    have HD := hid hD
    clear hD
    by_cases e9 : D ≤ p
    · have Hs := hid (show Num.stepE (B64 ^ 32) (B64 ^ 64) p q a = 7 from step7 H2.out H5.out (.inr (.inr (.inr (.inl (HD.out ▸ e9))))))
      have hc := cmp_le e9
      go_wp2_with fail
      refine (cmp_calls (raw_all (num_raw hSq)) (raw_all (num_raw hP))).mono ?_
      rintro e w7 ⟨rfl, hst⟩
      replace hP := NumN.below hP (hst.below)
      replace hQ := NumN.below hQ (hst.below)
      replace hA := NumN.below hA (hst.below)
      replace hM := ModP.below hM (hst.below)
      replace hone := RawN.below hone (hst.below)
      replace hB := below_trans hB (hst.below)
      replace hL := NumN.below hL hst.below
      clear hst
      go_wp2_with fail
      go_ret
      exact ⟨by rw [Hs.out]; rfl, hB⟩
    have hc9 := cmp_not_le e9
    go_wp2_with fail
    refine (cmp_calls (raw_all (num_raw hSq)) (raw_all (num_raw hP))).mono ?_
    rintro e w7 ⟨rfl, hst⟩
    replace hP := NumN.below hP (hst.below)
    replace hQ := NumN.below hQ (hst.below)
    replace hA := NumN.below hA (hst.below)
    replace hM := ModP.below hM (hst.below)
    replace hone := RawN.below hone (hst.below)
    replace hB := below_trans hB (hst.below)
    replace hL := NumN.below hL hst.below
    clear hst
    have hql : ¬ B64 ^ 64 ≤ q := by have := Hq64.out; omega
    have hpl1 : ¬ B64 ^ 64 ≤ p - 1 := by have := Hpl.out; omega
    have Hql := hid hql
    have Hpl1 := hid hpl1
    clear hql hpl1 hSq
    go_wp2_with fail
    refine (div_calls (raw_all (num_raw hL)) (raw_all (num_raw hQ))).mono ?_
    rintro e w8 ⟨he, hb8⟩
    unfold DivPost at he
    rw [if_neg (fun h => h.elim Hpl1.out Hql.out), if_neg (by omega)] at he
    obtain ⟨kv, rv, rfl, hK, hR⟩ := he
    replace hK := num_all_ hK
    replace hP := NumN.below hP (hb8)
    replace hQ := NumN.below hQ (hb8)
    replace hA := NumN.below hA (hb8)
    replace hM := ModP.below hM (hb8)
    replace hone := RawN.below hone (hb8)
    replace hB := below_trans hB (hb8)
    replace hL := NumN.below hL hb8
    clear hb8 hc9
    obtain ⟨R1, lr, cr, rfl, hr1, hr2, hrl⟩ := numn_open hR
    have kr := hrl 0
    rw [Nat.pow_zero] at kr
    clear hrl hR
    by_cases e10 : 0 < lr
    · have Hs := hid (show Num.stepE (B64 ^ 32) (B64 ^ 64) p q a = 7 from step7 H2.out H5.out (.inr (.inr (.inr (.inr (.inl (by omega)))))))
      clear kr
      go_wp2_with fail
      go_ret
      exact ⟨by rw [Hs.out]; rfl, hB⟩
    have H10 := hid (show (p - 1) % q = 0 by omega)
    clear kr
    have Hexp := hid (show modExpE p a (p - 1) = .ok (a ^ (p - 1) % p) by unfold modExpE; rw [if_neg (fun h => h.elim (by have := Ha64.out; omega) Hpl1.out)])
    go_wp2_with fail
    refine (mexp_calls hM (raw_all (num_raw hA)) (raw_all (num_raw hL))).mono ?_
    rintro e w9 ⟨he, hb9⟩
    rw [Hexp.out] at he
    obtain ⟨xv, rfl, hX⟩ := he
    rw [errV_zero]
    replace hX := num_all_ hX
    replace hP := NumN.below hP (hb9)
    replace hQ := NumN.below hQ (hb9)
    replace hA := NumN.below hA (hb9)
    replace hM := ModP.below hM (hb9)
    replace hone := RawN.below hone (hb9)
    replace hB := below_trans hB (hb9)
    replace hL := NumN.below hL hb9
    replace hK := NumN.below hK hb9
    clear hb9
    obtain ⟨Y, hY⟩ : ∃ Y, Y = a ^ (p - 1) % p := ⟨_, rfl⟩
    rw [← hY] at hX
    have HY := hid hY
    clear hY
    by_cases e11 : Y = 1
    rotate_left
    · have Hs := hid (show Num.stepE (B64 ^ 32) (B64 ^ 64) p q a = 7 from step7 H2.out H5.out (.inr (.inr (.inr (.inr (.inr (.inl (HY.out ▸ e11))))))))
      have hc : (Pl.cmp Y 1 == 0) = false := by rw [beq_eq_false_iff_ne, ne_eq, Pl.cmp_zero]; exact e11
      clear e11
      go_wp2_with fail
      refine (cmp_calls (raw_all (num_raw hX)) (hone)).mono ?_
      rintro e w10 ⟨rfl, hst⟩
      replace hP := NumN.below hP (hst.below)
      replace hQ := NumN.below hQ (hst.below)
      replace hA := NumN.below hA (hst.below)
      replace hM := ModP.below hM (hst.below)
      replace hone := RawN.below hone (hst.below)
      replace hB := below_trans hB (hst.below)
      replace hL := NumN.below hL hst.below
      clear hst
      go_wp2_with fail
      go_ret
      exact ⟨by rw [Hs.out]; rfl, hB⟩
    have hc : Pl.cmp Y 1 = 0 := Pl.cmp_zero.2 e11
    have H11 := hid (e11 ▸ HY.out)
    go_wp2_with fail
    refine (cmp_calls (raw_all (num_raw hX)) hone).mono ?_
    rintro e w10 ⟨rfl, hst⟩
    rw [hc]
    clear hc e11
    replace hP := NumN.below hP (hst.below)
    replace hQ := NumN.below hQ (hst.below)
    replace hA := NumN.below hA (hst.below)
    replace hM := ModP.below hM (hst.below)
    replace hone := RawN.below hone (hst.below)
    replace hB := below_trans hB (hst.below)
    replace hL := NumN.below hL hst.below
    replace hK := NumN.below hK hst.below
    clear hst hX
    have hk64 : ¬ B64 ^ 64 ≤ (p - 1) / q := by have := Hpl1.out; have := Nat.div_le_self (p - 1) q; omega
    have Hexp2 := hid (show modExpE p a ((p - 1) / q) = .ok (a ^ ((p - 1) / q) % p) by unfold modExpE; rw [if_neg (fun h => h.elim (by have := Ha64.out; omega) hk64)])
    clear hk64
    go_wp2_with fail
    refine (mexp_calls hM (raw_all (num_raw hA)) (raw_all (num_raw hK))).mono ?_
    rintro e w11 ⟨he, hb11⟩
    rw [Hexp2.out] at he
    obtain ⟨yv, rfl, hX⟩ := he
    rw [errV_zero]
    replace hX := num_all_ hX
    replace hP := NumN.below hP (hb11)
    replace hQ := NumN.below hQ (hb11)
    replace hA := NumN.below hA (hb11)
    replace hM := ModP.below hM (hb11)
    replace hone := RawN.below hone (hb11)
    replace hB := below_trans hB (hb11)
    clear hb11 hL hK
    obtain ⟨X, hXd⟩ : ∃ X, X = a ^ ((p - 1) / q) % p := ⟨_, rfl⟩
    rw [← hXd] at hX
    have hXp : X < p := by rw [hXd]; exact Nat.mod_lt _ (by omega)
    have hx64 : ¬ B64 ^ 64 ≤ X := by have := Hpl.out; omega
    obtain ⟨Z, hZ⟩ : ∃ Z, Z = (X % p + p - 1 % p) % p := ⟨_, rfl⟩
    have Hs2 := hid (show modSubE p X 1 = .ok Z by unfold modSubE; rw [if_neg (fun h => h.elim hx64 one_lim), hZ])
    have hZp : Z < p := by rw [hZ]; exact Nat.mod_lt _ (by omega)
    have HZ := hid (show Z = (a ^ ((p - 1) / q) + (p - 1)) % p by
      rw [hZ, Nat.mod_eq_of_lt hXp, Nat.mod_eq_of_lt (show 1 < p by omega), hXd, Nat.add_sub_assoc (by omega), Nat.mod_add_mod])
    clear hXd hx64 hZ
    go_wp2_with fail
    refine (msub_calls hM (raw_all (num_raw hX)) hone).mono ?_
    rintro e w12 ⟨he, hb12⟩
    rw [Hs2.out] at he
    obtain ⟨zv, rfl, hZr⟩ := he
    rw [errV_zero]
    replace hZr := num_all_ hZr
    replace hP := NumN.below hP (hb12)
    replace hQ := NumN.below hQ (hb12)
    replace hA := NumN.below hA (hb12)
    replace hM := ModP.below hM (hb12)
    replace hone := RawN.below hone (hb12)
    replace hB := below_trans hB (hb12)
    clear hb12 hX
    have hz64 : ¬ B64 ^ 64 ≤ Z := by have := Hpl.out; omega
    go_wp2_with fail
    refine (minv_calls hM (raw_all (num_raw hZr))).mono ?_
    rintro e w13 ⟨he, hb13⟩
    have hB13 := below_trans hB hb13
    unfold InvPost at he
    rw [if_neg hz64, Nat.mod_eq_of_lt hZp] at he
    clear hz64 hb13
    by_cases e12 : Nat.gcd p Z = 1
    rotate_left
    · rw [if_pos e12] at he
      obtain rfl : e = .returned (.tuple #[.slice none 0 0, .iface 38 (.int .i64 6)]) := he
      have Hs := hid (show Num.stepE (B64 ^ 32) (B64 ^ 64) p q a = 7 from step7 H2.out H5.out (.inr (.inr (.inr (.inr (.inr (.inr (by rw [← HZ.out, Nat.gcd_comm]; exact e12))))))))
      clear e12
      go_wp2_with fail
      go_ret
      exact ⟨by rw [Hs.out]; rfl, hB13⟩
    rw [if_neg (fun h => h e12)] at he
    obtain ⟨y, u, rfl, hu, _, _⟩ := he
    have Hs := hid (show Num.stepE (B64 ^ 32) (B64 ^ 64) p q a = 0 from step0 H2.out H5.out (by
      have h9 := HD.out
      have h10 := H10.out
      have h11 := H11.out
      have h12 : Nat.gcd ((a ^ ((p - 1) / q) + (p - 1)) % p) p = 1 := by rw [← HZ.out, Nat.gcd_comm]; exact e12
      rintro (h | h | h | h | h | h | h)
      · omega
      · omega
      · omega
      · omega
      · exact h h10
      · exact h h11.symm
      · exact h h12))
    clear e12
    go_wp2_with fail
    go_ret
    exact ⟨by rw [Hs.out]; rfl, hB13⟩

end Go.Proofs.Ytphbacggmhjmgaa
