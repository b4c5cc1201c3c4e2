/- The layer prime, third part: Check. -/
import Derived.Test.YtphbacggmhjmgaaPrB
namespace Go.Proofs.Ytphbacggmhjmgaa
open Go.RowKit

abbrev Step3 := Nat × Nat × Nat
def StepS : Rep Step3 := RawN.pair (RawN.pair RawN)
theorem raw_val {S : Nat → Prop} {w : World} {n : Nat} {cs : List Value} (h : RawN.rep S w n cs) : ∃ A l c, cs = [.slice A l c] := num_one rfl h
/-- A step of a chain: its three cells. -/
theorem chain_at {S : Nat → Prop} {w : World} {xs : List Step3} {A : Option Addr} {n cap : Nat} (h : StepS.sl.rep S w xs [.slice A n cap]) (i : Nat) (hi : i < xs.length) :
    ∃ b o A1 l1 c1 A2 l2 c2 A3 l3 c3, A = some ⟨b, o, none⟩ ∧ S b ∧ b < w.heap.size ∧ RawN.rep S w xs[i].1 [.slice A1 l1 c1] ∧ RawN.rep S w xs[i].2.1 [.slice A2 l2 c2] ∧ RawN.rep S w xs[i].2.2 [.slice A3 l3 c3] ∧
      w.cell? ⟨b, o + i * 3, none⟩ = some (.slice A1 l1 c1) ∧ w.cell? ⟨b, o + i * 3 + 1, none⟩ = some (.slice A2 l2 c2) ∧ w.cell? ⟨b, o + i * 3 + 2, none⟩ = some (.slice A3 l3 c3) := by
  obtain ⟨b, o, ys, rfl, hb, ha, hr⟩ := sl_at h i hi
  have hlt := sl_lt h (by omega) b o rfl
  obtain ⟨a1, _, rfl, h1, a2, a3, rfl, h2, h3⟩ := hr
  obtain ⟨A1, l1, c1, rfl⟩ := raw_val h1
  obtain ⟨A2, l2, c2, rfl⟩ := raw_val h2
  obtain ⟨A3, l3, c3, rfl⟩ := raw_val h3
  exact ⟨b, o, A1, l1, c1, A2, l2, c2, A3, l3, c3, rfl, hb, hlt, h1, h2, h3, ha.cell 0 (by simp), ha.cell 1 (by simp), ha.cell 2 (by simp)⟩

section
variable {b32 b64 : Nat} {l : List Step3} {k : Nat}
theorem drop_one (h : k < l.length) : l.drop k = l[k] :: l.drop (k + 1) := List.drop_eq_getElem_cons h
theorem chain_bad (h : k < l.length) (hs : Num.stepE b32 b64 l[k].1 l[k].2.1 l[k].2.2 ≠ 0) : Num.chainE b32 b64 (l.drop k) k = (Num.stepE b32 b64 l[k].1 l[k].2.1 l[k].2.2, k) := by
  rw [drop_one h]
  generalize l.drop (k + 1) = r
  revert hs
  generalize l[k] = x
  obtain ⟨p, q, a⟩ := x
  intro hs
  cases r with
  | nil => unfold Num.chainE; rw [if_pos hs]
  | cons x r => obtain ⟨p', q', a'⟩ := x; unfold Num.chainE; rw [if_pos hs]
theorem chain_link (h : k + 1 < l.length) (hs : Num.stepE b32 b64 l[k].1 l[k].2.1 l[k].2.2 = 0) (hq : l[k].2.1 ≠ l[k + 1].1) : Num.chainE b32 b64 (l.drop k) k = (7, k) := by
  rw [drop_one (by omega), drop_one h]
  generalize l.drop (k + 1 + 1) = r
  revert hs hq
  generalize l[k] = x
  generalize l[k + 1] = y
  obtain ⟨p, q, a⟩ := x
  obtain ⟨p', q', a'⟩ := y
  intro hs hq
  unfold Num.chainE
  rw [if_neg (by simpa using hs), if_pos hq]
theorem chain_next (h : k + 1 < l.length) (hs : Num.stepE b32 b64 l[k].1 l[k].2.1 l[k].2.2 = 0) (hq : l[k].2.1 = l[k + 1].1) : Num.chainE b32 b64 (l.drop k) k = Num.chainE b32 b64 (l.drop (k + 1)) (k + 1) := by
  rw [drop_one (by omega : k < l.length), drop_one h]
  generalize l.drop (k + 1 + 1) = r
  revert hs hq
  generalize l[k] = x
  generalize l[k + 1] = y
  obtain ⟨p, q, a⟩ := x
  obtain ⟨p', q', a'⟩ := y
  intro hs hq
  conv => lhs; unfold Num.chainE
  rw [if_neg (by simpa using hs), if_neg (by simpa using hq)]
theorem chain_end (h : k + 1 = l.length) (hs : Num.stepE b32 b64 (l[k]'(by omega)).1 (l[k]'(by omega)).2.1 (l[k]'(by omega)).2.2 = 0) : Num.chainE b32 b64 (l.drop k) k = if Num.smallB (l[k]'(by omega)).2.1 then (0, 0) else (7, k) := by
  rw [drop_one (by omega : k < l.length), List.drop_of_length_le (by omega)]
  revert hs
  generalize l[k]'(by omega) = x
  obtain ⟨p, q, a⟩ := x
  intro hs
  unfold Num.chainE
  rw [if_neg (by simpa using hs)]
end
/-- an error at a place -/
def SpotIs (w w' : World) (i c : Nat) (v : Value) : Prop := ∃ g, v = .iface 108 (.pointer (some ⟨g, 0, none⟩)) ∧ Fresh w w' g ∧ Row w' g 110 [.int .u64 (i : Int), .iface 38 (.int .i64 (c : Int))]
def CheckPost (l : List Step3) (w : World) (e : Ending) (w' : World) : Prop :=
  if l.length = 0 ∨ 64 < l.length then e = .returned (.tuple #[.slice none 0 0, .iface 38 (.int .i64 1)])
  else if (Num.chainE (B64 ^ 32) (B64 ^ 64) l 0).1 = 0 then ∃ u, e = .returned (.tuple #[u, .nilIface]) ∧ NumN.rep (Fresh w w') w' (l.headD (0, 0, 0)).1 [u]
  else ∃ v, e = .returned (.tuple #[.slice none 0 0, v]) ∧ SpotIs w w' (Num.chainE (B64 ^ 32) (B64 ^ 64) l 0).2 (Num.chainE (B64 ^ 32) (B64 ^ 64) l 0).1 v

set_option maxHeartbeats 8000000 in
set_option maxRecDepth 100000 in
theorem check_calls {S : Nat → Prop} {w : World} {l : List Step3} {v : Value} (h : StepS.sl.rep S w l [v]) :
    Calls Try.prog 51 #[v] w fun e w' => CheckPost l w e w' ∧ Below w.heap.size w w' := by
  obtain ⟨A, cap, rfl, hcap, hcm⟩ := sl_open h
  by_cases h0 : l.length = 0 ∨ 64 < l.length
  · have hr : ∀ e w', e = .returned (.tuple #[.slice none 0 0, .iface 38 (.int .i64 1)]) → CheckPost l w e w' := fun e w' he => by unfold CheckPost; rw [if_pos h0]; exact he
    have Hr := hid hr
    clear hr
    rcases h0 with h0 | h0
    · have h1 : ((l.length : Int) == 0) = true := by rw [h0]; rfl
      clear h0
      go_enter Try.func51, Try.ntmps51
      go_wp2_with fail
      go_ret2
      exact ⟨Hr.out _ _ rfl, Below.refl _ _⟩
    · have h1 : ((l.length : Int) == 0) = false := by rw [beq_eq_false_iff_ne, ne_eq]; omega
      go_enter Try.func51, Try.ntmps51
      go_wp2_with fail
      go_ret2
      exact ⟨Hr.out _ _ rfl, Below.refl _ _⟩
  · have hl1 : 0 < l.length := by omega
    have hl2 : l.length ≤ 64 := by omega
    have H0 := hid h0
    have h1 : ((l.length : Int) == 0) = false := by rw [beq_eq_false_iff_ne, ne_eq]; omega
    clear h0
    go_enter Try.func51, Try.ntmps51
    go_wp2_with fail
    go_loopw [19] (fun iv wr => ∃ k : Nat, iv = .int .i64 (k : Int) ∧ k ≤ l.length ∧ Hid (Num.chainE (B64 ^ 32) (B64 ^ 64) l 0 = Num.chainE (B64 ^ 32) (B64 ^ 64) (l.drop k) k) ∧ Below w.heap.size w wr) (fun iv _ => l.length - (intOf iv).toNat)
    case atStart => exact ⟨0, rfl, by omega, by show _ = _; rw [List.drop_zero], Below.refl _ _⟩
    case round =>
      obtain ⟨k, rfl, hk, hE, hB⟩ := hrel
      obtain ⟨wo, rfl⟩ : ∃ wo : World, wo = wr := ⟨_, rfl⟩
      clear h1
      by_cases hlt : k < l.length
      · have h' := StepS.sl.below h hB
        obtain ⟨b, o, A1, l1, c1, A2, l2, c2, A3, l3, c3, rfl, hSb, hbl, r1, r2, r3, k1, k2, k3⟩ := chain_at h' k hlt
        have hb := below_alloc (Below.refl wo.heap.size wo) (.cells #[.slice A1 l1 c1, .slice A2 l2 c2, .slice A3 l3 c3] 67)
        have hr := Row.new wo 67 #[.slice A1 l1 c1, .slice A2 l2 c2, .slice A3 l3 c3]
        have hrl := hr.lt
        obtain ⟨C, hC⟩ : ∃ C, C = Num.stepE (B64 ^ 32) (B64 ^ 64) l[k].1 l[k].2.1 l[k].2.2 := ⟨_, rfl⟩
        go_wp2_with fail
        refine (sound_calls (RawN.below r1 hb) (RawN.below r2 hb) (RawN.below r3 hb)).mono ?_
        rintro e w2 ⟨rfl, hb2⟩
        rw [← hC]
        have hB2 := below_trans (below_trans hB hb) hb2
        have HC := hid hC
        clear hC
        by_cases hc : C = 0
        · have hC0 := hid (HC.out.symm.trans hc)
          subst hc
          have hr2 := hr.below hrl hb2
          have d1 := hr2.cell 1 (by simp)
          simp only [List.getElem_cons_zero, List.getElem_cons_succ] at d1
          have hbX := below_trans hb hb2
          go_wp2_with fail
          refine (norm_calls (RawN.below r2 hbX)).mono ?_
          rintro e w3 ⟨⟨u, rfl, hu⟩, hb3⟩
          have hB3 := below_trans hB2 hb3
          have hbY := below_trans hbX hb3
          clear hr hr2 d1 k1 k2 k3 hb hb2
          by_cases hn : k + 1 < l.length
          · obtain ⟨b', o', A1', l1', c1', A2', l2', c2', A3', l3', c3', e', _, hbl', r1', _, _, k1', _, _⟩ := chain_at h' (k + 1) hn
            simp only [Option.some.injEq, Addr.mk.injEq, and_true] at e'
            obtain ⟨rfl, rfl⟩ := e'
            have k1y := (hbY.cell (p := ⟨b, o + (k + 1) * 3, none⟩) hbl').trans k1'
            have r1y := RawN.below r1' hbY
            clear k1' r1'
            go_wp2_with fail
            by_cases hq : l[k].2.1 = l[k + 1].1
            · have hcz : Pl.cmp l[k].2.1 l[k + 1].1 = 0 := cmp_eq hq
              refine (cmp_calls (raw_all (num_raw hu)) (raw_all r1y)).mono ?_
              rintro e w4 ⟨rfl, hst⟩
              rw [hcz]
              have hE2 := hid (hE.out.trans (chain_next hn hC0.out hq))
              have hB4 := below_trans hB3 hst.below
              clear hq hcz k1y
              go_wp2_with fail
              go_roundw
              case rel => exact ⟨k + 1, by simp, by omega, hE2, hB4⟩
              case measure => simp [intOf]; omega
            · refine (cmp_calls (raw_all (num_raw hu)) (raw_all r1y)).mono ?_
              rintro e w4 ⟨rfl, hst⟩
              obtain ⟨cc, hcc⟩ : ∃ cc, cc = Pl.cmp l[k].2.1 l[k + 1].1 := ⟨_, rfl⟩
              rw [← hcc]
              have hcz : (cc == 0) = false := by rw [hcc, beq_eq_false_iff_ne, ne_eq, Pl.cmp_zero]; exact hq
              have hcz2 : (cc != 0) = true := by rw [bne, hcz]; rfl
              clear hcc
              have hE2 := hid (hE.out.trans (chain_link hn hC0.out hq))
              have hB4 := below_trans hB3 hst.below
              have hb5 := below_alloc hB4 (.cells #[.int .u64 (k : Int), .iface 38 (.int .i64 ((7 : Nat) : Int))] 110)
              clear hq k1y
              go_wp2_with fail
              go_ret2
              refine ⟨?_, hb5⟩
              unfold CheckPost
              rw [if_neg H0.out, hE2.out, if_neg (by omega)]
              exact ⟨_, rfl, _, rfl, ⟨hB4.size, by simp⟩, Row.new w4 110 #[_, _]⟩
          · have hk1 : k + 1 = l.length := by omega
            have hE2 := hE.out.trans (chain_end hk1 hC0.out)
            obtain ⟨q, hqd⟩ : ∃ q, q = l[k].2.1 := ⟨_, rfl⟩
            rw [← hqd] at hu hE2
            have hE3 := hid hE2
            obtain ⟨U1, lu, cu, rfl, hu1, hu2, hul⟩ := numn_open hu
            have u0 := hul 0
            have u1 := hul 1
            rw [Nat.pow_zero] at u0
            rw [Nat.pow_one] at u1
            clear hul hqd hE2
            by_cases hl1u : lu = 1
            · obtain ⟨xs, hx, cx, vx⟩ := id hu
              subst hl1u
              have hxl := (sl_cap hx).1
              obtain ⟨g, og, rfl, hg, hcell, hdig⟩ := num_at hx 0 (by omega)
              have hv : xs[0]'(by omega) = q := by
                match xs, hxl, vx with
                | [y], _, vx => rw [← vx]; simp [Pl.val]
              rw [hv] at hcell hdig
              rw [Nat.add_zero] at hcell
              clear u0 u1 hx cx vx hv hxl hu
              go_wp2_with fail
              refine (small_calls q hdig _).mono ?_
              rintro e w4 ⟨rfl, rfl⟩
              by_cases hsm : Num.smallB q = true
              · rw [hsm]
                have hE4 := hid (show Num.chainE (B64 ^ 32) (B64 ^ 64) l 0 = Num.chainE (B64 ^ 32) (B64 ^ 64) (l.drop (k + 1)) (k + 1) by rw [hE3.out, if_pos hsm, List.drop_of_length_le (by omega)]; rfl)
                clear hsm hcell
                go_wp2_with fail
                go_roundw
                case rel => exact ⟨k + 1, by rw [hk1], by omega, hE4, hB3⟩
                case measure => simp [intOf]; omega
              · have hsf : Num.smallB q = false := by simpa using hsm
                rw [hsf]
                have hE4 := hid (show Num.chainE (B64 ^ 32) (B64 ^ 64) l 0 = (7, k) by rw [hE3.out, if_neg hsm])
                have hb5 := below_alloc hB3 (.cells #[.int .u64 (k : Int), .iface 38 (.int .i64 ((7 : Nat) : Int))] 110)
                clear hsm hsf hcell
                go_wp2_with fail
                go_ret2
                refine ⟨?_, hb5⟩
                unfold CheckPost
                rw [if_neg H0.out, hE4.out, if_neg (by omega)]
                exact ⟨_, rfl, _, rfl, ⟨hB3.size, by simp⟩, Row.new w3 110 #[_, _]⟩
            · have hsf : Num.smallB q = false := smallB_out (by
                rcases Nat.lt_or_ge lu 1 with h | h
                · have := u0.1 (by omega); omega
                · have h3 : ¬ lu ≤ 1 := by omega
                  have h4 : B64 ≤ q := by
                    rcases Nat.lt_or_ge q B64 with h5 | h5
                    · exact absurd (u1.2 h5) h3
                    · exact h5
                  have h6 : (65536 : Nat) ≤ B64 := by decide
                  omega)
              have hE4 := hid (show Num.chainE (B64 ^ 32) (B64 ^ 64) l 0 = (7, k) by rw [hE3.out, hsf]; rfl)
              have hl1v : ((lu : Int) == 1) = false := by rw [beq_eq_false_iff_ne, ne_eq]; omega
              have hl1w : ((lu : Int) != 1) = true := by rw [bne, hl1v]; rfl
              have hb5 := below_alloc hB3 (.cells #[.int .u64 (k : Int), .iface 38 (.int .i64 ((7 : Nat) : Int))] 110)
              clear hsf u0 u1 hl1u
              go_wp2_with fail
              go_ret2
              refine ⟨?_, hb5⟩
              unfold CheckPost
              rw [if_neg H0.out, hE4.out, if_neg (by omega)]
              exact ⟨_, rfl, _, rfl, ⟨hB3.size, by simp⟩, Row.new w3 110 #[_, _]⟩
        · have c1 : ((C : Int) == 0) = false := by rw [beq_eq_false_iff_ne, ne_eq]; omega
          have hE2 := hid (show Num.chainE (B64 ^ 32) (B64 ^ 64) l 0 = (C, k) by rw [hE.out, chain_bad hlt (by rw [← HC.out]; exact hc), ← HC.out])
          have Hc := hid hc
          clear hc h h' k1 k2 k3 r1 r2 r3
          have hb3 := below_alloc hB2 (.cells #[.int .u64 (k : Int), .iface 38 (.int .i64 (C : Int))] 110)
          go_wp2_with fail
          go_ret2
          refine ⟨?_, hb3⟩
          unfold CheckPost
          rw [if_neg H0.out, hE2.out, if_neg Hc.out]
          exact ⟨_, rfl, _, rfl, ⟨hB2.size, by simp⟩, Row.new w2 110 #[_, _]⟩
      · have h' := StepS.sl.below h hB
        obtain ⟨b, o, A1, l1, c1, A2, l2, c2, A3, l3, c3, rfl, hSb, hbl, r1, r2, r3, k1, k2, k3⟩ := chain_at h' 0 hl1
        have hE2 := hid (show (Num.chainE (B64 ^ 32) (B64 ^ 64) l 0).1 = 0 by rw [hE.out, List.drop_of_length_le (by omega)]; rfl)
        have hd := hid (show (l.headD (0, 0, 0)).1 = l[0].1 by cases l with | nil => simp at hl1 | cons x l => rfl)
        rw [Nat.zero_mul, Nat.add_zero] at k1
        clear h h' k2 k3 r2 r3
        go_wp2_with fail
        refine (norm_calls r1).mono ?_
        rintro e w2 ⟨⟨u, rfl, hu⟩, hb2⟩
        have hB2 := below_trans hB hb2
        have hs := hB.size
        clear k1
        go_wp2_with fail
        go_ret2
        refine ⟨?_, hB2⟩
        unfold CheckPost
        rw [if_neg H0.out, if_pos hE2.out, hd.out]
        exact ⟨u, rfl, NumN.mono hu (Fresh.mono hs (Nat.le_refl _)) (Same.refl _ _)⟩

end Go.Proofs.Ytphbacggmhjmgaa
