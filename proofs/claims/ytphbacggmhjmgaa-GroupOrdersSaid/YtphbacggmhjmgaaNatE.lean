/- The layer nat, fifth part: shifting. -/
import Derived.Test.YtphbacggmhjmgaaNatD
import Derived.RegionTactic
import Derived.BigRegion
namespace Go.Proofs.Ytphbacggmhjmgaa
open Go.RowKit

theorem or_low {c x s : Nat} (hs : s ≤ 63) (hc : c < 2 ^ s) : bits .or .u64 (c : Int) ((x * 2 ^ s % 18446744073709551616 : Nat) : Int) = ((c + x * 2 ^ s % 18446744073709551616 : Nat) : Int) := by
  have hp : 18446744073709551616 = 2 ^ s * 2 ^ (64 - s) := by rw [← Nat.pow_add, show s + (64 - s) = 64 by omega]
  have h64 : 2 ^ s ≤ 18446744073709551616 := by
    rw [hp]; exact Nat.le_mul_of_pos_right _ (Nat.two_pow_pos _)
  have hlt : x * 2 ^ s % 18446744073709551616 < 18446744073709551616 := Nat.mod_lt _ (by omega)
  rw [bits_or_u64_nat _ _ (by omega) hlt]
  congr 1
  have e : x * 2 ^ s % 18446744073709551616 = 2 ^ s * (x % 2 ^ (64 - s)) := by
    rw [hp, Nat.mul_comm x, Nat.mul_mod_mul_left]
  rw [e, Nat.or_comm, ← Nat.two_pow_add_eq_or_of_lt hc, Nat.add_comm]

theorem or_low_lt {c x s : Nat} (hs : s ≤ 63) (hc : c < 2 ^ s) : c + x * 2 ^ s % 18446744073709551616 < 18446744073709551616 := by
  have hp : 18446744073709551616 = 2 ^ s * 2 ^ (64 - s) := by rw [← Nat.pow_add, show s + (64 - s) = 64 by omega]
  have e : x * 2 ^ s % 18446744073709551616 = 2 ^ s * (x % 2 ^ (64 - s)) := by
    rw [hp, Nat.mul_comm x, Nat.mul_mod_mul_left]
  have h1 : x % 2 ^ (64 - s) + 1 ≤ 2 ^ (64 - s) := Nat.mod_lt _ (Nat.two_pow_pos _)
  have h2 := Nat.mul_le_mul_left (2 ^ s) h1
  rw [← hp, Nat.mul_add, Nat.mul_one] at h2
  omega

theorem hi_part {x s : Nat} (hs : s ≤ 63) (hx : x < 18446744073709551616) : x / 2 ^ (64 - s) < 2 ^ s ∧ x * 2 ^ s % 18446744073709551616 + 18446744073709551616 * (x / 2 ^ (64 - s)) = x * 2 ^ s := by
  have h := lo_split (lo := x) hs
  have hp2 : 2 ^ (64 - s) * 2 ^ s = 18446744073709551616 := by rw [← Nat.pow_add, show 64 - s + s = 64 by omega]
  constructor
  · rw [Nat.div_lt_iff_lt_mul (Nat.two_pow_pos _), Nat.mul_comm, hp2]; exact hx
  · omega

set_option maxHeartbeats 2000000 in
/-- nat.shift: the slice that it answers, and its memory: a row of the call's own -/
theorem shift_calls {w : World} {S : Nat → Prop} {p : List Nat} {v : Value} {s : Nat} (hs : s ≤ 63) (hP : NatS.rep S w p [v]) (lp : p.length ≤ 1000000) :
    Calls Try.prog 77 #[v, .int .i64 (s : Int)] w fun e w' => ∃ outs : List Nat, e = .returned (.slice (some ⟨w.heap.size, 0, none⟩) (p.length + 1) (p.length + 1)) ∧ outs.length = p.length + 1 ∧ Pl.Dig B64 outs ∧ Pl.val B64 outs = Pl.val B64 p * 2 ^ s
      ∧ Row w' w.heap.size 65 (nums .u64 outs) ∧ Below w.heap.size w w' := by
  have dp := num_dig hP
  obtain ⟨A, c1, rfl, hc1, hm1⟩ := sl_open hP
  have hmk : ∀ W : World, (Instr.makeSlice 24 (.int .i64 ((p.length : Int) + 1)) (.int .i64 ((p.length : Int) + 1))).run Try.prog W = .ok (.slice (some ⟨W.heap.size, 0, none⟩) (p.length + 1) (p.length + 1)) (W.alloc (.cells (zerosOf (.int .u64 0) (p.length + 1)) 65)) := fun W => run_make_u64 (p.length + 1) (by omega) W
  go_enter Try.func77, Try.ntmps77
  go_wp2
  go_loopw [14] (fun i wr => ∃ k : Nat, ∃ outs : List Nat, i = .int .i64 k ∧ k ≤ p.length ∧ outs.length = p.length + 1 ∧ Pl.Dig B64 outs ∧ Row wr w.heap.size 65 (nums .u64 outs)
    ∧ Hid (Pl.val B64 outs = Pl.val B64 (p.take k) * 2 ^ s) ∧ Hid (outs.getD k 0 < 2 ^ s) ∧ Hid (∀ t, k < t → outs.getD t 0 = 0) ∧ Below w.heap.size w wr) (fun i _ => (p.length - (intOf i).toNat))
  case atStart =>
    exact ⟨0, List.replicate (p.length + 1) 0, rfl, by omega, by simp, Pl.Dig.replicate B64_pos _, by rw [← zerosOf_num]; exact Row.new _ _ _, hid (by simp [Pl.val, Pl.val_replicate]),
      hid (by simp [List.getD_eq_getElem?_getD, Nat.two_pow_pos]), hid (by intro t _; simp [List.getD_eq_getElem?_getD, List.getElem?_replicate]; split <;> rfl), (Below.refl _ _).alloc (Nat.le_refl _) _⟩
  case round =>
    obtain ⟨k, outs, rfl, hk, hol, hod, hrow, hinv, hlow, hzero, hB⟩ := hrel
    by_cases hlt : k < p.length
    · obtain ⟨b, o, rfl, hS, hcell, hbd⟩ := num_at ((Rep.num .u64 B64).sl.old hP) k hlt
      have hcell0 := (hB.cell (p := ⟨b, o + k, none⟩) hS).trans hcell
      have hst := hrow.num (k := .u64) k (by omega)
      have hsf := hrow.frozen k
      have hlow' : outs[k]'(by omega) < 2 ^ s := by have := hlow.out; rwa [dec_at outs k (by omega)] at this
      obtain ⟨X, hX⟩ : ∃ X, X = p[k] * 2 ^ s % 18446744073709551616 := ⟨_, rfl⟩
      obtain ⟨H, hH⟩ : ∃ H, H = p[k] / 2 ^ (64 - s) := ⟨_, rfl⟩
      obtain ⟨h1, h2⟩ := hi_part (x := p[k]) hs hbd
      rw [← hX, ← hH] at h2
      rw [← hH] at h1
      obtain ⟨C, hC⟩ : ∃ C, C = outs[k]'(by omega) + X := ⟨_, rfl⟩
      have q1 : IntKind.u64.wrap ((p[k] : Int) * 2 ^ s) = (X : Int) := by rw [hX]; exact u64_mod (by push_cast; rfl)
      have q2 : bits .or .u64 ((outs[k]'(by omega) : Nat) : Int) (X : Int) = (C : Int) := by rw [hC, hX]; exact or_low hs hlow'
      have q3 : (p[k] : Int) / 2 ^ (64 - s) = (H : Int) := by rw [hH]; push_cast; rfl
      have hClt : C < B64 := by rw [hC, hX]; exact or_low_lt hs hlow'
      have hgk : outs.getD k 0 = outs[k]'(by omega) := dec_at outs k (by omega)
      have hg1 : outs[k + 1]'(by omega) = 0 := by have := hzero.out (k + 1) (by omega); rwa [dec_at outs (k + 1) (by omega)] at this
      have hrow1 := hrow.setNum (k := .u64) k C
      have hB1 := below_setCell hB (p := ⟨w.heap.size, k, none⟩) (Nat.le_refl _) (.int .u64 (C : Int))
      have hv1 := Pl.val_set B64 outs k C (by omega)
      have hd1 := hod.set k hClt
      rcases Nat.eq_zero_or_pos s with hs0 | hs0
      · have hH0 : H = 0 := by
          rw [hs0] at h1; omega
        have hvn : Hid (Pl.val B64 (outs.set k C) = Pl.val B64 (p.take (k + 1)) * 2 ^ s) := by
          show _ = _
          rw [Pl.val_take_succ B64 p k hlt, Nat.add_mul, ← hinv.out, Nat.mul_assoc, ← h2, hH0, Nat.mul_zero, Nat.add_zero]
          rw [hC, Nat.mul_add] at hv1
          rw [hC]; omega
        have hln : Hid ((outs.set k C).getD (k + 1) 0 < 2 ^ s) := by
          show _ < _
          rw [dec_at _ (k + 1) (by simp; omega), List.getElem_set_ne (by omega), hg1]; exact Nat.two_pow_pos _
        have hzn : Hid (∀ t, k + 1 < t → (outs.set k C).getD t 0 = 0) := by
          intro t ht
          have := hzero.out t (by omega)
          simp only [List.getD_eq_getElem?_getD] at this ⊢
          rwa [List.getElem?_set_ne (by omega)]
        have hsn : (s : Int) ≤ 0 := by omega
        have Hs0 := hid hs0
        clear hX hH hC hinv hlow hzero hgk hg1 hv1 h2 hH0 hs0
        go_wp2_with fail
        go_region
        go_wp2_with fail
        go_roundw
        case rel => exact ⟨k + 1, _, by go_num, by omega, by simpa using hol, hd1, hrow1, hvn, hln, hzn, hB1.drew⟩
        case measure => simp [intOf]; omega
      · have hHlt : H < B64 := by
          rw [hH]; exact Nat.lt_of_le_of_lt (Nat.div_le_self _ _) hbd
        have hst2 := hrow.num (k := .u64) (k + 1) (by omega)
        have hsf2 := hrow.frozen (k + 1)
        have hrow2 := hrow1.setNum (k := .u64) (k + 1) H
        have hB2 := below_setCell hB1 (p := ⟨w.heap.size, k + 1, none⟩) (Nat.le_refl _) (.int .u64 (H : Int))
        have hd2 := hd1.set (k + 1) hHlt
        have hv2 := Pl.val_set B64 (outs.set k C) (k + 1) H (by simp; omega)
        rw [List.getElem_set_ne (by omega), hg1] at hv2
        have hvn : Hid (Pl.val B64 ((outs.set k C).set (k + 1) H) = Pl.val B64 (p.take (k + 1)) * 2 ^ s) := by
          show _ = _
          rw [Pl.val_take_succ B64 p k hlt, Nat.add_mul, ← hinv.out, Nat.mul_assoc, ← h2, Nat.mul_add, ← Nat.mul_assoc, show 18446744073709551616 = B64 from rfl, show B64 ^ k * B64 = B64 ^ (k + 1) from (Nat.pow_succ ..).symm]
          rw [hC, Nat.mul_add] at hv1
          rw [hC] at hv2 ⊢
          omega
        have hln : Hid (((outs.set k C).set (k + 1) H).getD (k + 1) 0 < 2 ^ s) := by
          show _ < _
          rw [dec_at _ (k + 1) (by simp; omega), List.getElem_set_self]; exact h1
        have hzn : Hid (∀ t, k + 1 < t → ((outs.set k C).set (k + 1) H).getD t 0 = 0) := by
          intro t ht
          have := hzero.out t (by omega)
          simp only [List.getD_eq_getElem?_getD] at this ⊢
          rwa [List.getElem?_set_ne (by omega), List.getElem?_set_ne (by omega)]
        have hsn : (0 : Int) < (s : Int) := by omega
        clear hX hH hC hinv hlow hzero hgk hg1 hv1 hv2 h2
        go_wp2_with fail
        go_region
        go_wp2_with fail
        go_roundw
        case rel => exact ⟨k + 1, _, by go_num, by omega, by simpa using hol, hd2, hrow2, hvn, hln, hzn, hB2.drew⟩
        case measure => simp [intOf]; omega
    · obtain rfl : k = p.length := by omega
      have hv := hid (hinv.out)
      clear hinv
      go_wp2
      go_ret
      exact ⟨outs, rfl, hol, hod, by rw [hv.out, List.take_length], hrow, hB⟩

end Go.Proofs.Ytphbacggmhjmgaa
