/- The references, chains that prove primes, second part: Check. -/
import Derived.Test.YtphbacggmhjmgaaRefG
namespace Go.Proofs.Ytphbacggmhjmgaa
open Go.RowKit

theorem dchain_at {S : Nat → Prop} {w : World} {xs : List DStep} {A : Option Addr} {n cap : Nat} (h : DStepS.sl.rep S w xs [.slice A n cap]) (i : Nat) (hi : i < xs.length) :
    ∃ b o A1 l1 c1 A2 l2 c2 A3 l3 c3, A = some ⟨b, o, none⟩ ∧ S b ∧ b < w.heap.size ∧ NatS.rep S w xs[i].1 [.slice A1 l1 c1] ∧ NatS.rep S w xs[i].2.1 [.slice A2 l2 c2] ∧ NatS.rep S w xs[i].2.2 [.slice A3 l3 c3] ∧
      w.cell? ⟨b, o + i * 3, none⟩ = some (.slice A1 l1 c1) ∧ w.cell? ⟨b, o + i * 3 + 1, none⟩ = some (.slice A2 l2 c2) ∧ w.cell? ⟨b, o + i * 3 + 2, none⟩ = some (.slice A3 l3 c3) := by
  obtain ⟨b, o, ys, rfl, hb, ha, hr⟩ := sl_at h i hi
  have hlt := sl_lt h (by omega) b o rfl
  obtain ⟨a1, _, rfl, h1, a2, a3, rfl, h2, h3⟩ := hr
  obtain ⟨A1, c1, cp1, e1, _⟩ := id h1
  obtain ⟨A2, c2, cp2, e2, _⟩ := id h2
  obtain ⟨A3, c3, cp3, e3, _⟩ := id h3
  subst e1 e2 e3
  exact ⟨b, o, A1, _, c1, A2, _, c2, A3, _, c3, rfl, hb, hlt, h1, h2, h3, ha.cell 0 (by simp), ha.cell 1 (by simp), ha.cell 2 (by simp)⟩

def RCheckPost (l : List Step3) (w : World) (e : Ending) (w' : World) : Prop :=
  if l.length = 0 ∨ 64 < l.length then e = .returned (.tuple #[.slice none 0 0, .int .i64 1, .int .i64 (-1)])
  else if (Num.chainE (B64 ^ 32) (B64 ^ 64) l 0).1 = 0 then ∃ u, e = .returned (.tuple #[u, .int .i64 0, .int .i64 (-1)]) ∧ NumN.rep (Fresh w w') w' (l.headD (0, 0, 0)).1 [u]
  else e = .returned (.tuple #[.slice none 0 0, .int .i64 ((Num.chainE (B64 ^ 32) (B64 ^ 64) l 0).1 : Int), .int .i64 ((Num.chainE (B64 ^ 32) (B64 ^ 64) l 0).2 : Int)])
/-- no number of it is told with too many digits -/
def Told (xs : List DStep) : Prop := ∀ t ∈ xs, t.1.length ≤ 20000 ∧ t.2.1.length ≤ 20000 ∧ t.2.2.length ≤ 20000
theorem val_small {xs : List Nat} (hd : Pl.Dig B64 xs) (h : xs.length ≤ 20000) : Small (Pl.val B64 xs) := small_limbs (k := xs.length) (Pl.val_lt hd) (by omega)
theorem of_dig {w : World} {S : Nat → Prop} {xs : List Nat} {A : Option Addr} {l cap : Nat} (h : NatS.rep S w xs [.slice A l cap]) (hl : xs.length ≤ 20000) :
    Calls Try.prog 16 #[.slice A l cap] w fun e w' => (∃ u, e = .returned u ∧ RefN.rep (Fresh w w') w' (Pl.val B64 xs) [u]) ∧ Below w.heap.size w w' := of_calls h hl

set_option maxHeartbeats 8000000 in
set_option maxRecDepth 100000 in
theorem rcheck_calls {S : Nat → Prop} {w : World} {xs : List DStep} {v : Value} (h : DStepS.sl.rep S w xs [v]) (ht : Told xs) :
    Calls Try.prog 60 #[v] w fun e w' => RCheckPost (xs.map dv) w e w' ∧ Below w.heap.size w w' := by
  obtain ⟨A, cap, rfl, hcap, hcm⟩ := sl_open h
  obtain ⟨l, hl⟩ : ∃ l, l = xs.map dv := ⟨_, rfl⟩
  have hll : l.length = xs.length := by rw [hl, List.length_map]
  have hat : ∀ (i : Nat) (h1 : i < xs.length), l[i]'(by omega) = dv xs[i] := fun i h1 => by simp only [hl, List.getElem_map]
  rw [← hl]
  clear hl
  replace hat := hid hat
  replace ht := hid ht
  by_cases h0 : l.length = 0 ∨ 64 < l.length
  · have hr : ∀ e w', e = .returned (.tuple #[.slice none 0 0, .int .i64 1, .int .i64 (-1)]) → RCheckPost l w e w' := fun e w' he => by unfold RCheckPost; rw [if_pos h0]; exact he
    have Hr := hid hr
    clear hr
    rcases h0 with h0 | h0
    · have h1 : ((xs.length : Int) == 0) = true := by rw [← hll, h0]; rfl
      clear h0
      go_enter Try.func60, Try.ntmps60
      go_wp2_with fail
      go_ret3
      exact ⟨Hr.out _ _ rfl, Below.refl _ _⟩
    · have h1 : ((xs.length : Int) == 0) = false := by rw [beq_eq_false_iff_ne, ne_eq]; omega
      have h2 : 64 < xs.length := by omega
      clear h0
      go_enter Try.func60, Try.ntmps60
      go_wp2_with fail
      go_ret3
      exact ⟨Hr.out _ _ rfl, Below.refl _ _⟩
  · have hl1 : 0 < xs.length := by omega
    have hl2 : xs.length ≤ 64 := by omega
    have H0 := hid h0
    have h1 : ((xs.length : Int) == 0) = false := by rw [beq_eq_false_iff_ne, ne_eq]; omega
    replace hll := hid hll
    clear h0
    go_enter Try.func60, Try.ntmps60
    go_wp2_with fail
    go_loopw [5, 6, 7, 8] (fun iv _ _ _ wr => ∃ k : Nat, iv = .int .i64 (k : Int) ∧ k ≤ xs.length ∧ Hid (Num.chainE (B64 ^ 32) (B64 ^ 64) l 0 = Num.chainE (B64 ^ 32) (B64 ^ 64) (l.drop k) k) ∧ Below w.heap.size w wr) (fun iv _ _ _ _ => xs.length - (intOf iv).toNat)
    case atStart => exact ⟨0, rfl, by omega, by show _ = _; rw [List.drop_zero], Below.refl _ _⟩
    case round =>
      obtain ⟨k, rfl, hk, hE, hB⟩ := hrel
      obtain ⟨wo, rfl⟩ : ∃ wo : World, wo = wr := ⟨_, rfl⟩
      clear h1
      have h' := DStepS.sl.below h hB
      by_cases hlt : k < xs.length
      · obtain ⟨b, o, A1, l1, c1, A2, l2, c2, A3, l3, c3, rfl, hSb, hbl, r1, r2, r3, k1, k2, k3⟩ := dchain_at h' k hlt
        have hlens := hid (ht.out xs[k] (List.getElem_mem hlt))
        obtain ⟨C, hC⟩ : ∃ C, C = Num.stepE (B64 ^ 32) (B64 ^ 64) (Pl.val B64 xs[k].1) (Pl.val B64 xs[k].2.1) (Pl.val B64 xs[k].2.2) := ⟨_, rfl⟩
        have hCl : C = Num.stepE (B64 ^ 32) (B64 ^ 64) (l[k]'(by rw [hll.out]; exact hlt)).1 (l[k]'(by rw [hll.out]; exact hlt)).2.1 (l[k]'(by rw [hll.out]; exact hlt)).2.2 := by rw [hC, hat.out k hlt]; rfl
        have hkl : k < l.length := by rw [hll.out]; exact hlt
        go_wp2_with fail
        refine (rstep_calls r1 r2 r3 hlens.out.1 hlens.out.2.1 hlens.out.2.2).mono ?_
        rintro e w2 ⟨rfl, hb2⟩
        rw [← hC]
        have hB2 := below_trans hB hb2
        replace hC := hid hC
        replace hCl := hid hCl
        by_cases hc : C = 0
        rotate_left
        · have c1 : ((C : Int) == 0) = false := by rw [beq_eq_false_iff_ne, ne_eq]; omega
          have c2 : ((C : Int) != 0) = true := by rw [bne, c1]; rfl
          have hE2 := hid (show Num.chainE (B64 ^ 32) (B64 ^ 64) l 0 = (C, k) by rw [hE.out, chain_bad hkl (by rw [← hCl.out]; exact hc), ← hCl.out])
          have Hc := hid hc
          clear hc h h' k1 k2 k3 r1 r2 r3
          go_wp2_with fail
          go_ret3
          refine ⟨?_, hB2⟩
          unfold RCheckPost
          rw [if_neg H0.out, hE2.out, if_neg Hc.out]
          rfl
        · have hC0 := hid (show Num.stepE (B64 ^ 32) (B64 ^ 64) (l[k]'hkl).1 (l[k]'hkl).2.1 (l[k]'hkl).2.2 = 0 by rw [← hCl.out]; exact hc)
          subst hc
          have k2' := (hb2.cell (p := ⟨b, o + k * 3 + 1, none⟩) hbl).trans k2
          clear k1 k2 k3
          obtain ⟨q, hqd⟩ : ∃ q, q = Pl.val B64 xs[k].2.1 := ⟨_, rfl⟩
          have hql := hid (show (l[k]'hkl).2.1 = q by rw [hat.out k hlt, hqd]; rfl)
          go_wp2_with fail
          refine (of_dig (NatS.below r2 hb2) hlens.out.2.1).mono ?_
          rintro e w3 ⟨⟨u, rfl, hu⟩, hb3⟩
          rw [← hqd] at hu
          have hB3 := below_trans hB2 hb3
          have hb03 := below_trans hb2 hb3
          clear k2' hqd
          by_cases hn : k + 1 < xs.length
          · obtain ⟨b', o', A1', l1', c1', A2', l2', c2', A3', l3', c3', e', _, hbl', r1', _, _, k1', _, _⟩ := dchain_at h' (k + 1) hn
            simp only [Option.some.injEq, Addr.mk.injEq, and_true] at e'
            obtain ⟨rfl, rfl⟩ := e'
            have hnl : k + 1 < l.length := by rw [hll.out]; exact hn
            have k1y := (hb03.cell (p := ⟨b, o + (k + 1) * 3, none⟩) hbl').trans k1'
            have r1y := NatS.below r1' hb03
            have hlens2 := hid (ht.out xs[k + 1] (List.getElem_mem hn))
            obtain ⟨p', hpd⟩ : ∃ p', p' = Pl.val B64 xs[k + 1].1 := ⟨_, rfl⟩
            have hpl := hid (show (l[k + 1]'hnl).1 = p' by rw [hat.out (k + 1) hn, hpd]; rfl)
            clear k1' r1'
            go_wp2_with fail
            refine (of_dig r1y hlens2.out.1).mono ?_
            rintro e w4 ⟨⟨u4, rfl, hu4⟩, hb4⟩
            rw [← hpd] at hu4
            have hB4 := below_trans hB3 hb4
            clear k1y hpd
            go_wp2_with fail
            refine (rcmp_calls (RefN.below hu hb4) hu4).mono ?_
            rintro e w5 ⟨rfl, hst⟩
            have hB5 := below_trans hB4 hst.below
            by_cases hq : q = p'
            · rw [cmp_eq hq]
              have hE2 := hid (hE.out.trans (chain_next hnl hC0.out (by rw [hql.out, hpl.out]; exact hq)))
              clear hq
              go_wp2_with fail
              go_roundw
              case rel => exact ⟨k + 1, by go_num, by omega, hE2, hB5⟩
              case measure => simp [intOf]; omega
            · have hc := cmp_ne0 hq
              have hc2 : (Pl.cmp q p' != 0) = true := by rw [bne, hc]; rfl
              have hE2 := hid (hE.out.trans (chain_link hnl hC0.out (by rw [hql.out, hpl.out]; exact hq)))
              clear hq
              go_wp2_with fail
              go_ret3
              refine ⟨?_, hB5⟩
              unfold RCheckPost
              rw [if_neg H0.out, hE2.out, if_neg (by omega)]
              rfl
          · have hk1 : k + 1 = xs.length := by omega
            have hE2 := hE.out.trans (chain_end (show k + 1 = l.length by rw [hll.out]; exact hk1) hC0.out)
            rw [hql.out] at hE2
            replace hE2 := hid hE2
            obtain ⟨QA, ql, qc, rfl, hq1, hq2, hq3, hq4⟩ := ref_low hu
            by_cases hql1 : ql = 1
            · obtain ⟨qb, qo, qd, rfl, hqc, hqd1, _, hqd2, _⟩ := hq4 (by rw [hql1]; exact Nat.one_pos)
              have hqd := hqd2 hql1
              subst hqd
              subst hql1
              have hwx : IntKind.u64.wrap (qd : Int) = (qd : Int) := by rw [IntKind.wrap_u64]; omega
              clear hq3 hq4 hqd2
              go_wp2_with fail
              refine (rsmall_calls qd (by unfold B64; omega) _).mono ?_
              rintro e w4 ⟨rfl, rfl⟩
              by_cases hsm : Num.smallB qd = true
              · rw [hsm]
                have hE4 := hid (show Num.chainE (B64 ^ 32) (B64 ^ 64) l 0 = Num.chainE (B64 ^ 32) (B64 ^ 64) (l.drop (k + 1)) (k + 1) by rw [hE2.out, if_pos hsm, List.drop_of_length_le (by rw [hll.out]; omega)]; rfl)
                clear hsm hqc
                go_wp2_with fail
                go_roundw
                case rel => exact ⟨k + 1, by go_num, by omega, hE4, hB3⟩
                case measure => simp [intOf]; omega
              · have hsf : Num.smallB qd = false := by simpa using hsm
                rw [hsf]
                have hE4 := hid (show Num.chainE (B64 ^ 32) (B64 ^ 64) l 0 = (7, k) by rw [hE2.out, if_neg hsm])
                clear hsm hsf hqc
                go_wp2_with fail
                go_ret3
                refine ⟨?_, hB3⟩
                unfold RCheckPost
                rw [if_neg H0.out, hE4.out, if_neg (by omega)]
                rfl
            · have hsf : Num.smallB q = false := smallB_out (by
                rcases Nat.eq_zero_or_pos ql with h | h
                · exact .inl (by rw [hq3.1 h]; decide)
                · obtain ⟨_, _, _, _, _, _, _, _, hbig⟩ := hq4 h
                  exact .inr (hbig (Nat.lt_of_le_of_ne h (fun e => hql1 e.symm))))
              have hE4 := hid (show Num.chainE (B64 ^ 32) (B64 ^ 64) l 0 = (7, k) by rw [hE2.out, hsf]; rfl)
              have hl1v : ((ql : Int) == 1) = false := by rw [beq_eq_false_iff_ne, ne_eq]; omega
              clear hsf hq3 hq4 hql1
              go_wp2_with fail
              go_ret3
              refine ⟨?_, hB3⟩
              unfold RCheckPost
              rw [if_neg H0.out, hE4.out, if_neg (by omega)]
              rfl
      · obtain ⟨b, o, A1, l1, c1, A2, l2, c2, A3, l3, c3, rfl, hSb, hbl, r1, r2, r3, k1, k2, k3⟩ := dchain_at h' 0 hl1
        have hlens := hid (ht.out xs[0] (List.getElem_mem hl1))
        have hE2 := hid (show (Num.chainE (B64 ^ 32) (B64 ^ 64) l 0).1 = 0 by rw [hE.out, List.drop_of_length_le (by rw [hll.out]; omega)]; rfl)
        have hd := hid (show (l.headD (0, 0, 0)).1 = Pl.val B64 xs[0].1 by
          have h1 := hat.out 0 hl1
          cases l with
          | nil => have h2 := hll.out; simp at h2; omega
          | cons y l => simp only [List.getElem_cons_zero] at h1; rw [List.headD_cons, h1]; rfl)
        rw [Nat.zero_mul, Nat.add_zero] at k1
        have hsm := val_small (num_dig r1) hlens.out.1
        clear h h' k2 k3 r2 r3
        go_wp2_with fail
        refine (of_dig r1 hlens.out.1).mono ?_
        rintro e w2 ⟨⟨u, rfl, hu⟩, hb2⟩
        have hB2 := below_trans hB hb2
        clear k1
        go_wp2_with fail
        refine (to_calls hu hsm).mono ?_
        rintro e w3 ⟨⟨u3, rfl, hu3⟩, hb3⟩
        have hB3 := below_trans hB2 hb3
        go_wp2_with fail
        go_ret3
        refine ⟨?_, hB3⟩
        unfold RCheckPost
        rw [if_neg H0.out, if_pos hE2.out, hd.out]
        exact ⟨u3, rfl, NumN.mono hu3 (Fresh.mono hB2.size (Nat.le_refl _)) (Same.refl _ _)⟩

end Go.Proofs.Ytphbacggmhjmgaa
