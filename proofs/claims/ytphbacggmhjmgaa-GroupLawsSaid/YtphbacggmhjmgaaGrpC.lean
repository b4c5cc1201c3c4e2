/- The layer group, third part: products, quotients, powers. -/
import Derived.Test.YtphbacggmhjmgaaGrpB
namespace Go.Proofs.Ytphbacggmhjmgaa
open Go.RowKit

def gMulE (P Q a b : Nat) : Except Nat Nat := if elB P Q a && elB P Q b then .ok (a * b % P) else .error 8
def gOverE (P Q a b : Nat) : Except Nat Nat := if elB P Q a && elB P Q b then .ok (a * (b ^ (Q - 1) % P) % P) else .error 8
def gExpE (P Q a s : Nat) : Except Nat Nat := if elB P Q a then (if B64 ^ 64 ≤ s then .error 2 else .ok (a ^ (s % Q) % P)) else .error 8

theorem numE_up {a b c : World} {e : Ending} {r : Except Nat Nat} (h : NumE (Fresh b c) c e r) (hb : a.heap.size ≤ b.heap.size) : NumE (Fresh a c) c e r := by
  cases r with
  | error n => exact h
  | ok n =>
    obtain ⟨u, h1, h2⟩ := h
    exact ⟨u, h1, NumN.mono h2 (Fresh.mono hb (Nat.le_refl _)) (Same.refl _ _)⟩
theorem raw_all {S : Nat → Prop} {w : World} {n : Nat} {cs : List Value} (h : RawN.rep S w n cs) : RawN.rep (fun _ => True) w n cs := RawN.mono h (fun _ _ => trivial) (Same.refl _ _)

theorem numE_two {S : Nat → Prop} {w : World} {e : Ending} {r : Except Nat Nat} (h : NumE S w e r) : ∃ p q, e = .returned (.tuple #[p, q]) := by
  cases r with
  | error n => exact ⟨_, _, h⟩
  | ok n => obtain ⟨u, h1, _⟩ := h; exact ⟨_, _, h1⟩

set_option maxHeartbeats 2000000 in
theorem gmul_calls {S T T' : Nat → Prop} {w : World} {x : G4} {a b : Nat} {v va vb : Value} (h : GrpP.rep S w x [v]) (ha : RawN.rep T w a [va]) (hb : RawN.rep T' w b [vb]) (la : bitLen a ≤ 1000000) (lb : bitLen b ≤ 1000000) :
    Calls Try.prog 30 #[v, va, vb] w fun e w' => NumE (Fresh w w') w' e (gMulE x.1 x.2.1 a b) ∧ Below w.heap.size w w' := by
  rcases Bool.eq_false_or_eq_true (elB x.1 x.2.1 a) with hA | hA
  · have Hf := hid hA
    clear hA
    rcases Bool.eq_false_or_eq_true (elB x.1 x.2.1 b) with hA | hA
    · have Hg := hid hA
      clear hA
      go_enter Try.func30, Try.ntmps30
      go_wp2_with fail
      refine (gis_calls h ha la).mono ?_
      rintro e w1 ⟨rfl, hb1⟩
      rw [Hf.out]
      have h' := GrpP.below h hb1
      go_wp2_with fail
      refine (gis_calls h' (RawN.below hb hb1) lb).mono ?_
      rintro e w2 ⟨rfl, hb2⟩
      rw [Hg.out]
      have hB2 := below_trans hb1 hb2
      have h'' := GrpP.below h' hb2
      have ha2 := raw_all (RawN.below ha hB2)
      have hb2' := raw_all (RawN.below hb hB2)
      clear h h'
      obtain ⟨bb, pv, sv, A1, l1, c1, A2, l2, c2, rfl, hS, hbb, h0, h1, h2, h3, k0, k1, k2, k3, k4, h4⟩ := grp_open h''
      have hp := mod_fact h0
      clear k1 k2 k3 k4 h''
      go_wp2_with fail
      refine (mmul_calls h0 ha2 hb2').mono ?_
      rintro e w3 ⟨he, hb3⟩
      have hlt : ∀ {y}, elB x.1 x.2.1 y = true → ¬ B64 ^ 64 ≤ y := fun hy h => by
        have := lim_up (Nat.lt_trans (elB_iff.1 hy).lt hp.1) (show 32 ≤ 64 by omega); omega
      have hE : modMulE x.1 a b = gMulE x.1 x.2.1 a b := by
        unfold modMulE gMulE
        rw [Hf.out, Hg.out, if_neg (fun h => h.elim (hlt Hf.out) (hlt Hg.out))]
        rfl
      rw [hE] at he
      have he' := numE_up he hB2.size
      have hB3 := below_trans hB2 hb3
      clear hE he hlt k0
      obtain ⟨r1, r2, rfl⟩ := numE_two he'
      go_wp2_with fail
      go_ret2
      exact ⟨he', hB3⟩
    · have Hg := hid hA
      clear hA
      go_enter Try.func30, Try.ntmps30
      go_wp2_with fail
      refine (gis_calls h ha la).mono ?_
      rintro e w1 ⟨rfl, hb1⟩
      rw [Hf.out]
      have h' := GrpP.below h hb1
      go_wp2_with fail
      refine (gis_calls h' (RawN.below hb hb1) lb).mono ?_
      rintro e w2 ⟨rfl, hb2⟩
      rw [Hg.out]
      have hB2 := below_trans hb1 hb2
      go_wp2_with fail
      go_ret2
      refine ⟨?_, hB2⟩
      unfold gMulE
      rw [Hf.out, Hg.out]
      rfl
  · have Hf := hid hA
    clear hA
    go_enter Try.func30, Try.ntmps30
    go_wp2_with fail
    refine (gis_calls h ha la).mono ?_
    rintro e w1 ⟨rfl, hb1⟩
    rw [Hf.out]
    go_wp2_with fail
    go_ret2
    refine ⟨?_, hb1⟩
    unfold gMulE
    rw [Hf.out]
    rfl

set_option maxHeartbeats 2000000 in
theorem gexp_calls {S T T' : Nat → Prop} {w : World} {x : G4} {a s : Nat} {v va vs : Value} (h : GrpP.rep S w x [v]) (ha : RawN.rep T w a [va]) (hs : RawN.rep T' w s [vs]) (la : bitLen a ≤ 1000000) :
    Calls Try.prog 23 #[v, va, vs] w fun e w' => NumE (Fresh w w') w' e (gExpE x.1 x.2.1 a s) ∧ Below w.heap.size w w' := by
  rcases Bool.eq_false_or_eq_true (elB x.1 x.2.1 a) with hA | hA
  · have Hf := hid hA
    clear hA
    go_enter Try.func23, Try.ntmps23
    go_wp2_with fail
    refine (gis_calls h ha la).mono ?_
    rintro e w1 ⟨rfl, hb1⟩
    rw [Hf.out]
    have h' := GrpP.below h hb1
    have ha1 := raw_all (RawN.below ha hb1)
    have hs1 := raw_all (RawN.below hs hb1)
    clear h
    obtain ⟨bb, pv, sv, A1, l1, c1, A2, l2, c2, rfl, hS, hbb, h0, h1, h2, h3, k0, k1, k2, k3, k4, h4⟩ := grp_open h'
    have hp := mod_fact h0
    have hq := mod_fact h3
    clear k1 k2 k4
    go_wp2_with fail
    refine (reduce_calls h3 hs1).mono ?_
    rintro e w2 ⟨he, hb2⟩
    have hB2 := below_trans hb1 hb2
    by_cases hl : B64 ^ 64 ≤ s
    · have hE : ReduceE x.2.1 s = .error 2 := by unfold ReduceE; rw [if_pos hl]
      rw [hE] at he
      obtain rfl : e = .returned (.tuple #[.slice none 0 0, .iface 38 (.int .i64 2)]) := he
      have Hl := hid hl
      clear hE hl k0 k3
      go_wp2_with fail
      go_ret2
      refine ⟨?_, hB2⟩
      unfold gExpE
      rw [Hf.out, if_pos Hl.out]
      rfl
    · have hE : ReduceE x.2.1 s = .ok (s % x.2.1) := by unfold ReduceE; rw [if_neg hl]
      rw [hE] at he
      obtain ⟨u, rfl, hu⟩ := he
      rw [errV_zero]
      have k0' := (hb2.cell (p := ⟨bb, 0, none⟩) hbb).trans k0
      have h0' := ModP.below h0 hb2
      have ha2 := RawN.below ha1 hb2
      have hu2 := raw_all (num_raw hu)
      have Hl := hid hl
      clear hE hl k0 k3 hu
      go_wp2_with fail
      refine (mexp_calls h0' ha2 hu2).mono ?_
      rintro e w3 ⟨he, hb3⟩
      have hB3 := below_trans hB2 hb3
      have hE : modExpE x.1 a (s % x.2.1) = gExpE x.1 x.2.1 a s := by
        have h5 := lim_up (Nat.lt_trans (elB_iff.1 Hf.out).lt hp.1) (show 32 ≤ 64 by omega)
        have h6 := lim_up (Nat.lt_trans (Nat.mod_lt s (by omega : 0 < x.2.1)) hq.1) (show 32 ≤ 64 by omega)
        unfold modExpE gExpE
        rw [Hf.out, if_neg Hl.out, if_neg (fun h => h.elim (by omega) (by omega))]
        rfl
      rw [hE] at he
      have he' := numE_up he hB2.size
      clear hE he k0'
      obtain ⟨r1, r2, rfl⟩ := numE_two he'
      go_wp2_with fail
      go_ret2
      exact ⟨he', hB3⟩
  · have Hf := hid hA
    clear hA
    go_enter Try.func23, Try.ntmps23
    go_wp2_with fail
    refine (gis_calls h ha la).mono ?_
    rintro e w1 ⟨rfl, hb1⟩
    rw [Hf.out]
    go_wp2_with fail
    go_ret2
    refine ⟨?_, hb1⟩
    unfold gExpE
    rw [Hf.out]
    rfl

theorem gbase_calls {S T : Nat → Prop} {w : World} {x : G4} {s : Nat} {v vs : Value} (h : GrpP.rep S w x [v]) (hs : RawN.rep T w s [vs]) (lg : bitLen x.2.2.1 ≤ 1000000) :
    Calls Try.prog 22 #[v, vs] w fun e w' => NumE (Fresh w w') w' e (gExpE x.1 x.2.1 x.2.2.1 s) ∧ Below w.heap.size w w' := by
  obtain ⟨bb, pv, sv, A1, l1, c1, A2, l2, c2, rfl, hS, hbb, h0, h1, h2, h3, k0, k1, k2, k3, k4, h4⟩ := grp_open h
  clear k0 k1 k3 k4
  go_enter Try.func22, Try.ntmps22
  go_wp2_with fail
  refine (gexp_calls h (num_raw h2) hs lg).mono ?_
  rintro e w1 ⟨he', hB3⟩
  clear k2
  obtain ⟨r1, r2, rfl⟩ := numE_two he'
  go_wp2_with fail
  go_ret2
  exact ⟨he', hB3⟩

theorem el_gcd {P Q b : Nat} (h : Num.El P Q b) (hQ : 0 < Q) (_hP : 3 ≤ P) : Nat.gcd P (b % P) = 1 := by
  have h1 := h.back hQ
  have hd : Nat.gcd P (b % P) ∣ 1 := by
    have h2 : Nat.gcd P (b % P) ∣ b := by
      have := Nat.gcd_dvd_right P (b % P)
      rwa [Nat.mod_eq_of_lt h.lt] at this ⊢
    have h3 := Nat.gcd_dvd_left P (b % P)
    have h4 : Nat.gcd P (b % P) ∣ b * (b ^ (Q - 1) % P) % P := (Nat.dvd_mod_iff h3).2 (Nat.dvd_mul_right_of_dvd h2 _)
    rwa [h1] at h4
  exact Nat.dvd_one.1 hd

set_option maxHeartbeats 2000000 in
theorem gover_calls {S T T' : Nat → Prop} {w : World} {x : G4} {a b : Nat} {v va vb : Value} (h : GrpP.rep S w x [v]) (ha : RawN.rep T w a [va]) (hb : RawN.rep T' w b [vb]) (la : bitLen a ≤ 1000000) (lb : bitLen b ≤ 1000000) :
    Calls Try.prog 31 #[v, va, vb] w fun e w' => NumE (Fresh w w') w' e (gOverE x.1 x.2.1 a b) ∧ Below w.heap.size w w' := by
  rcases Bool.eq_false_or_eq_true (elB x.1 x.2.1 a) with hA | hA
  · have Hf := hid hA
    clear hA
    rcases Bool.eq_false_or_eq_true (elB x.1 x.2.1 b) with hA | hA
    · have Hg := hid hA
      clear hA
      go_enter Try.func31, Try.ntmps31
      go_wp2_with fail
      refine (gis_calls h ha la).mono ?_
      rintro e w1 ⟨rfl, hb1⟩
      rw [Hf.out]
      have h' := GrpP.below h hb1
      go_wp2_with fail
      refine (gis_calls h' (RawN.below hb hb1) lb).mono ?_
      rintro e w2 ⟨rfl, hb2⟩
      rw [Hg.out]
      have hB2 := below_trans hb1 hb2
      have h'' := GrpP.below h' hb2
      have ha2 := raw_all (RawN.below ha hB2)
      have hb2' := raw_all (RawN.below hb hB2)
      clear h h'
      obtain ⟨bb, pv, sv, A1, l1, c1, A2, l2, c2, rfl, hS, hbb, h0, h1, h2, h3, k0, k1, k2, k3, k4, h4⟩ := grp_open h''
      have hp := mod_fact h0
      have hq := mod_fact h3
      clear k1 k2 k3 k4 h''
      go_wp2_with fail
      refine (minv_calls h0 hb2').mono ?_
      rintro e w3 ⟨he, hb3⟩
      have hEa := elB_iff.1 Hf.out
      have hEb := elB_iff.1 Hg.out
      have hla : ¬ B64 ^ 64 ≤ a := by have := lim_up (Nat.lt_trans hEa.lt hp.1) (show 32 ≤ 64 by omega); omega
      have hlb : ¬ B64 ^ 64 ≤ b := by have := lim_up (Nat.lt_trans hEb.lt hp.1) (show 32 ≤ 64 by omega); omega
      unfold InvPost at he
      rw [if_neg hlb, if_neg (fun h => h (el_gcd hEb (by omega) hp.2.1))] at he
      obtain ⟨y, u, rfl, hu, hy, hy1⟩ := he
      have ey : y = b ^ (x.2.1 - 1) % x.1 := Num.inv_unique hy (Nat.mod_lt _ (by omega)) (by rw [Nat.mul_comm]; exact hy1) (hEb.back (by omega))
      have hly : ¬ B64 ^ 64 ≤ y := by have := lim_up (Nat.lt_trans hy hp.1) (show 32 ≤ 64 by omega); omega
      have hE : modMulE x.1 a y = gOverE x.1 x.2.1 a b := by
        unfold modMulE gOverE
        rw [Hf.out, Hg.out, if_neg (fun h => h.elim hla hly), ey]
        rfl
      have HE := hid hE
      have hB2' := below_trans hB2 hb3
      have k0' := (hb3.cell (p := ⟨bb, 0, none⟩) hbb).trans k0
      have h0' := ModP.below h0 hb3
      have ha3 := RawN.below ha2 hb3
      have hu3 := raw_all (num_raw hu)
      clear hE ey hy1 k0 hEa hEb hla hlb hly
      go_wp2_with fail
      refine (mmul_calls h0' ha3 hu3).mono ?_
      rintro e w4 ⟨he, hb4⟩
      rw [HE.out] at he
      have he' := numE_up he hB2'.size
      have hB3 := below_trans hB2' hb4
      clear he k0'
      obtain ⟨r1, r2, rfl⟩ := numE_two he'
      go_wp2_with fail
      go_ret2
      exact ⟨he', hB3⟩
    · have Hg := hid hA
      clear hA
      go_enter Try.func31, Try.ntmps31
      go_wp2_with fail
      refine (gis_calls h ha la).mono ?_
      rintro e w1 ⟨rfl, hb1⟩
      rw [Hf.out]
      have h' := GrpP.below h hb1
      go_wp2_with fail
      refine (gis_calls h' (RawN.below hb hb1) lb).mono ?_
      rintro e w2 ⟨rfl, hb2⟩
      rw [Hg.out]
      have hB2 := below_trans hb1 hb2
      go_wp2_with fail
      go_ret2
      refine ⟨?_, hB2⟩
      unfold gOverE
      rw [Hf.out, Hg.out]
      rfl
  · have Hf := hid hA
    clear hA
    go_enter Try.func31, Try.ntmps31
    go_wp2_with fail
    refine (gis_calls h ha la).mono ?_
    rintro e w1 ⟨rfl, hb1⟩
    rw [Hf.out]
    go_wp2_with fail
    go_ret2
    refine ⟨?_, hb1⟩
    unfold gOverE
    rw [Hf.out]
    rfl

end Go.Proofs.Ytphbacggmhjmgaa
