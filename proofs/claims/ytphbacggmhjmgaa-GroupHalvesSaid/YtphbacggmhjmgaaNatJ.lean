/- The layer nat, last part: numbers of bytes, and bytes of numbers. -/
import Derived.Test.YtphbacggmhjmgaaNatI
import Derived.Test.YtphbacggmhjmgaaPlBytes
namespace Go.Proofs.Ytphbacggmhjmgaa
open Go.RowKit

theorem below_bs {w : World} (o : Obj) : Below w.heap.size w (w.alloc o) := below_alloc (Below.refl _ _) o
abbrev ByteS : Rep (List Nat) := (Rep.num .u8 256).sl

def fromE (n : Nat) (xs : List Nat) : Except Nat Nat := if 512 < n then .error 2 else .ok (Pl.be xs)

theorem pow_split (k : Nat) : 256 ^ k = B64 ^ (k / 8) * 2 ^ (8 * (k % 8)) := by
  rw [show B64 = 256 ^ 8 by decide, ← Nat.pow_mul, show (2 : Nat) ^ (8 * (k % 8)) = 256 ^ (k % 8) by rw [Nat.pow_mul], ← Nat.pow_add]
  congr 1; omega
/-- a byte more, where it belongs -/
theorem from_step {outs : List Nat} {V k x : Nat} (hd : Pl.Dig B64 outs) (hv : Pl.val B64 outs = V) (hV : V < 256 ^ k) (hk : k / 8 < outs.length) (hx : x < 256) :
    outs[k / 8] < 2 ^ (8 * (k % 8)) ∧ outs[k / 8] + x * 2 ^ (8 * (k % 8)) < B64 ∧ x * 2 ^ (8 * (k % 8)) < B64 ∧ Pl.val B64 (outs.set (k / 8) (outs[k / 8] + x * 2 ^ (8 * (k % 8)))) = V + 256 ^ k * x := by
  have h1 : outs[k / 8] < 2 ^ (8 * (k % 8)) := by
    have h := Pl.getD_val B64_pos hd (k / 8)
    rw [dec_at outs _ hk, hv] at h
    rw [h]
    refine Nat.lt_of_le_of_lt (Nat.mod_le _ _) ?_
    rw [Nat.div_lt_iff_lt_mul (Nat.pow_pos B64_pos), Nat.mul_comm, ← pow_split]; exact hV
  have h2 : 2 ^ (8 * (k % 8)) * 256 ≤ B64 := by
    have : 2 ^ (8 * (k % 8)) ≤ 2 ^ 56 := Nat.pow_le_pow_right (by omega) (by omega)
    unfold B64; omega
  have h3 : x * 2 ^ (8 * (k % 8)) + 2 ^ (8 * (k % 8)) ≤ 2 ^ (8 * (k % 8)) * 256 := by
    have := Nat.mul_le_mul_left (2 ^ (8 * (k % 8))) (show x + 1 ≤ 256 by omega)
    rw [Nat.mul_add, Nat.mul_one, Nat.mul_comm _ x] at this
    exact this
  refine ⟨h1, by omega, by have := Nat.two_pow_pos (8 * (k % 8)); omega, ?_⟩
  have h4 := Pl.val_set B64 outs (k / 8) (outs[k / 8] + x * 2 ^ (8 * (k % 8))) hk
  rw [Nat.mul_add, hv] at h4
  rw [pow_split, Nat.mul_assoc, Nat.mul_comm (2 ^ (8 * (k % 8))) x]
  omega
theorem low_bound {xs : List Nat} (h : Pl.Dig 256 xs) (k : Nat) (hk : k ≤ xs.length) : Pl.val 256 (xs.reverse.take k) < 256 ^ k := by
  have := Pl.val_lt ((Pl.dig_rev h).take k)
  rwa [List.length_take, List.length_reverse, Nat.min_eq_left hk] at this
theorem make_nat (m : Nat) (hm : m ≤ 1000000) : ∀ W : World, (Instr.makeSlice 24 (.int .i64 (m : Int)) (.int .i64 (m : Int))).run Try.prog W = .ok (.slice (some ⟨W.heap.size, 0, none⟩) m m) (W.alloc (.cells (zerosOf (.int .u64 0) m) 65)) := fun W => run_make_u64 m (by omega) W

set_option maxHeartbeats 2000000 in
theorem from_calls {w : World} {S : Nat → Prop} {xs : List Nat} {v : Value} (h : ByteS.rep S w xs [v]) :
    Calls Try.prog 35 #[v] w fun e w' => NumE (Fresh w w') w' e (fromE xs.length xs) ∧ Below w.heap.size w w' := by
  have hd := num_dig h
  obtain ⟨A, cap, rfl, hcap, hcm⟩ := sl_open h
  by_cases hl : 512 < xs.length
  · have hE : fromE xs.length xs = .error 2 := by unfold fromE; rw [if_pos hl]
    rw [hE]
    clear hE
    go_enter Try.func35, Try.ntmps35
    go_wp2
    go_ret2
    exact ⟨rfl, Below.refl _ _⟩
  · have hE : fromE xs.length xs = .ok (Pl.be xs) := by unfold fromE; rw [if_neg hl]
    rw [hE]
    clear hE
    obtain ⟨n, hn⟩ : ∃ n, n = (xs.length + 7) / 8 := ⟨_, rfl⟩
    have hmk := make_nat n (by omega)
    have q1 : ((xs.length : Int) + 7) / 8 = (n : Int) := by omega
    have Hn := hid hn
    clear hn
    go_enter Try.func35, Try.ntmps35
    go_wp2_with fail
    go_loopw [17] (fun i wr => ∃ k : Nat, ∃ outs : List Nat, i = .int .i64 (k : Int) ∧ k ≤ xs.length ∧ outs.length = n ∧ Pl.Dig B64 outs ∧ Row wr w.heap.size 65 (nums .u64 outs)
      ∧ Hid (Pl.val B64 outs = Pl.val 256 (xs.reverse.take k)) ∧ Below w.heap.size w wr) (fun i _ => (xs.length - (intOf i).toNat))
    case atStart =>
      exact ⟨0, List.replicate n 0, rfl, by omega, by simp, Pl.Dig.replicate B64_pos _, by rw [← zerosOf_num]; exact Row.new _ _ _, hid (by simp [Pl.val, Pl.val_replicate]), (Below.refl _ _).alloc (Nat.le_refl _) _⟩
    case round =>
      obtain ⟨k, outs, rfl, hk, hol, hod, hrow, hinv, hB⟩ := hrel
      by_cases hlt : k < xs.length
      · have hQn : k / 8 < outs.length := by have := Hn.out; omega
        obtain ⟨f1, f2, f3, f4⟩ := from_step (x := xs[xs.length - 1 - k]) hod rfl (by rw [hinv.out]; exact low_bound hd k hk) hQn (hd.at _ (by omega))
        obtain ⟨L, hL⟩ : ∃ L, L = xs.length - 1 - k := ⟨_, rfl⟩
        obtain ⟨Q, hQ⟩ : ∃ Q, Q = k / 8 := ⟨_, rfl⟩
        obtain ⟨R, hR⟩ : ∃ R, R = k % 8 := ⟨_, rfl⟩
        obtain ⟨s, hs⟩ : ∃ s, s = 8 * R := ⟨_, rfl⟩
        have hLl : L < xs.length := by omega
        have hs63 : s ≤ 63 := by omega
        have f5 : Hid (Pl.val 256 (xs.reverse.take (k + 1)) = Pl.val 256 (xs.reverse.take k) + 256 ^ k * xs[L]) := by
          show _ = _
          rw [Pl.be_low xs k hlt]; simp only [hL]
        have e1 : (k : Int) / 8 = (Q : Int) := by omega
        have e2 : (k : Int) % 8 = (R : Int) := by omega
        have e3 : (8 : Int) * (R : Int) = (s : Int) := by omega
        have i1 : IntKind.i64.wrap ((xs.length : Int) - 1) = ((xs.length - 1 : Nat) : Int) := by
          rw [show (xs.length : Int) - 1 = ((xs.length - 1 : Nat) : Int) by omega]; exact IntWalk.i64_in _ (by omega)
        have i2 : IntKind.i64.wrap (((xs.length - 1 : Nat) : Int) - (k : Int)) = (L : Int) := by
          rw [show ((xs.length - 1 : Nat) : Int) - (k : Int) = (L : Int) by omega]; exact IntWalk.i64_in _ (by omega)
        simp only [← hL, ← hQ, ← hR, ← hs] at f1 f2 f3 f4
        obtain ⟨x, hx⟩ : ∃ x, x = xs[L] := ⟨_, rfl⟩
        have hxb : x < 256 := by rw [hx]; exact hd.at _ _
        rw [← hx] at f2 f3 f4 f5
        obtain ⟨b, o, rfl, hS, hcell, hbd⟩ := num_at (ByteS.old h) L hLl
        rw [← hx] at hcell hbd
        have hcell0 := (hB.cell (p := ⟨b, o + L, none⟩) hS).trans hcell
        have hQl : Q < outs.length := by rw [hQ]; exact hQn
        have hst := hrow.num (k := .u64) Q hQl
        have hsf := hrow.frozen Q
        obtain ⟨X, hX⟩ : ∃ X, X = x * 2 ^ s := ⟨_, rfl⟩
        obtain ⟨C, hC⟩ : ∃ C, C = outs[Q] + X := ⟨_, rfl⟩
        rw [← hX] at f2 f3 f4
        have hXm : x * 2 ^ s % 18446744073709551616 = X := by rw [← hX]; exact Nat.mod_eq_of_lt f3
        have q1' : IntKind.u64.wrap ((x : Int) * 2 ^ s) = (X : Int) := by rw [← hXm]; exact u64_mod (by push_cast; rfl)
        have q2' : bits .or .u64 ((outs[Q] : Nat) : Int) (X : Int) = (C : Int) := by
          have := or_low (c := outs[Q]) (x := x) hs63 f1
          rw [hXm] at this; rw [this, hC]
        rw [← hC] at f2 f4
        have hrow1 := hrow.setNum (k := .u64) Q C
        have hd1 := hod.set Q f2
        have hv : Hid (Pl.val B64 (outs.set Q C) = Pl.val 256 (xs.reverse.take (k + 1))) := by
          show _ = _
          rw [f4, f5.out, hinv.out]
        have hB1 := below_setCell hB (p := ⟨w.heap.size, Q, none⟩) (Nat.le_refl _) (.int .u64 (C : Int))
        have hQc : Q < n := by omega
        clear f1 f4 f5 hX hC hXm hx hcell hQ hR hs hL hinv hQn f3
        go_wp2_with fail
        go_region
        go_wp2_with fail
        go_roundw
        case rel => exact ⟨k + 1, _, by go_num, by omega, by simpa using hol, hd1, hrow1, hv, hB1.drew⟩
        case measure => simp [intOf]; omega
      · have hfin : Hid (Pl.val B64 outs = Pl.be xs) := by
          show _ = _
          obtain rfl : k = xs.length := by omega
          rw [hinv.out]; exact Pl.be_all xs
        have hs := hrow.slNum (B := B64) (S := fun b => b = w.heap.size) rfl hod outs.length (Nat.le_refl _) (by omega) (by have := Hn.out; omega)
        have Hl := hid hol
        rw [hol] at hs
        clear hinv hol q1
        go_wp2_with fail
        refine (trim_calls hs).mono ?_
        rintro e w2 ⟨⟨u, rfl, hu⟩, rfl⟩
        go_wp2_with fail
        go_ret2
        exact ⟨⟨u, rfl, _, NatS.mono hu (by rintro b rfl; exact ⟨Nat.le_refl _, hrow.lt⟩) (Same.refl _ _), Pl.trim_canon _, by rw [Pl.trim_val]; exact hfin.out⟩, hB⟩

/-- bytes of a number -/
def BytesPost (n k : Nat) (w : World) (e : Ending) (w' : World) : Prop :=
  if 1024 < k then e = .returned (.tuple #[.slice none 0 0, errV 1])
  else if 8 * k < bitLen n then e = .returned (.tuple #[.slice none 0 0, errV 2])
  else ∃ u, e = .returned (.tuple #[u, .nilIface]) ∧ ByteS.rep (Fresh w w') w' (Pl.beL k n) [u]

theorem byte_cell {xs : List Nat} {n k : Nat} (hd : Pl.Dig B64 xs) (hv : Pl.val B64 xs = n) : xs.getD (k / 8) 0 / 2 ^ (8 * (k % 8)) % 256 = Pl.byteAt n k := by
  rw [Pl.getD_val B64_pos hd, hv]
  unfold Pl.byteAt
  rw [pow_split k, ← Nat.div_div_eq_div_mul]
  generalize n / B64 ^ (k / 8) = Y
  have h1 : B64 = 2 ^ (8 * (k % 8)) * 2 ^ (64 - 8 * (k % 8)) := by
    rw [← Nat.pow_add, show 8 * (k % 8) + (64 - 8 * (k % 8)) = 64 by omega]; rfl
  rw [h1, Nat.mod_mul_right_div_self]
  refine Nat.mod_mod_of_dvd _ ?_
  exact Nat.pow_dvd_pow 2 (show 8 ≤ 64 - 8 * (k % 8) by omega)
theorem byte_none {n k l : Nat} (h : n < B64 ^ l) (hk : l ≤ k / 8) : Pl.byteAt n k = 0 := by
  unfold Pl.byteAt
  rw [Nat.div_eq_of_lt]
  rw [pow_split]
  refine Nat.lt_of_lt_of_le h (Nat.le_trans (Nat.pow_le_pow_right B64_pos hk) (Nat.le_mul_of_pos_right _ (Nat.two_pow_pos _)))
theorem u8_wrap (a : Nat) : IntKind.u8.wrap (a : Int) = ((a % 256 : Nat) : Int) := by rw [IntKind.wrap_u8]; omega

set_option maxHeartbeats 2000000 in
theorem bytes_calls {w : World} {S : Nat → Prop} {n k : Nat} {v : Value} (h : RawN.rep S w n [v]) (hn : bitLen n ≤ 1000000) (hk : k ≤ 1000000) :
    Calls Try.prog 41 #[v, .int .i64 (k : Int)] w fun e w' => BytesPost n k w e w' ∧ Below w.heap.size w w' := by
  have hmk := run_make_one (P := Try.prog) 22 5 (.int .u8 0) 1 Try.underlying22 (by kernel_rfl) rfl k (by omega) (by omega)
  by_cases h1 : 1024 < k
  · have hp : ∀ w', BytesPost n k w (.returned (.tuple #[.slice none 0 0, errV 1])) w' := fun w' => by unfold BytesPost; rw [if_pos h1]
    go_enter Try.func41, Try.ntmps41
    go_wp2_with fail
    go_ret2
    exact ⟨hp _, Below.refl _ _⟩
  · by_cases h2 : 8 * k < bitLen n
    · have hp : ∀ w', BytesPost n k w (.returned (.tuple #[.slice none 0 0, errV 2])) w' := fun w' => by unfold BytesPost; rw [if_neg h1, if_pos h2]
      go_enter Try.func41, Try.ntmps41
      go_wp2_with fail
      refine (nbits_calls h hn).mono ?_
      rintro e w' ⟨rfl, rfl⟩
      go_wp2_with fail
      go_ret2
      exact ⟨hp _, Below.refl _ _⟩
    · have hp : ∀ w' u, ByteS.rep (Fresh w w') w' (Pl.beL k n) [u] → BytesPost n k w (.returned (.tuple #[u, .nilIface])) w' := fun w' u hu => by
        unfold BytesPost; rw [if_neg h1, if_neg h2]; exact ⟨u, rfl, hu⟩
      have Hp := hid hp
      clear hp
      obtain ⟨xs, hx, ex⟩ := id h
      have hd := num_dig hx
      have Ex := hid ex
      clear ex
      obtain ⟨A, cap, rfl, hcap, hcm⟩ := sl_open hx
      go_enter Try.func41, Try.ntmps41
      go_wp2_with fail
      refine (nbits_calls h hn).mono ?_
      rintro e w' ⟨rfl, rfl⟩
      go_wp2_with fail
      go_loopw [26] (fun i wr => ∃ j : Nat, i = .int .i64 (j : Int) ∧ j ≤ k ∧ Row wr w.heap.size 5 (nums .u8 (Pl.beP k j n)) ∧ Below w.heap.size w wr) (fun i _ => (k - (intOf i).toNat))
      case atStart => exact ⟨0, rfl, by omega, by rw [Pl.beP_zero, ← zerosOf_num]; exact Row.new _ _ _, (Below.refl _ _).alloc (Nat.le_refl _) _⟩
      case round =>
        obtain ⟨j, rfl, hj, hrow, hB⟩ := hrel
        by_cases hlt : j < k
        · obtain ⟨Q, hQ⟩ : ∃ Q, Q = j / 8 := ⟨_, rfl⟩
          have e1 : (j : Int) / 8 = (Q : Int) := by omega
          by_cases hQl : Q < xs.length
          · obtain ⟨R, hR⟩ : ∃ R, R = j % 8 := ⟨_, rfl⟩
            obtain ⟨s, hs⟩ : ∃ s, s = 8 * R := ⟨_, rfl⟩
            obtain ⟨L, hL⟩ : ∃ L, L = k - 1 - j := ⟨_, rfl⟩
            have hs63 : s ≤ 63 := by omega
            have hLk : L < k := by omega
            have hbyte := byte_cell (k := j) hd Ex.out
            rw [← hQ, ← hR, ← hs, dec_at xs Q hQl] at hbyte
            have e2 : (j : Int) % 8 = (R : Int) := by omega
            have e3 : (8 : Int) * (R : Int) = (s : Int) := by omega
            have i1 : IntKind.i64.wrap ((k : Int) - 1) = ((k - 1 : Nat) : Int) := by
              rw [show (k : Int) - 1 = ((k - 1 : Nat) : Int) by omega]; exact IntWalk.i64_in _ (by omega)
            have i2 : IntKind.i64.wrap (((k - 1 : Nat) : Int) - (j : Int)) = (L : Int) := by
              rw [show ((k - 1 : Nat) : Int) - (j : Int) = (L : Int) by omega]; exact IntWalk.i64_in _ (by omega)
            obtain ⟨b, o, rfl, hS, hcell, hbd⟩ := num_at (NatS.old hx) Q hQl
            have hcell0 := (hB.cell (p := ⟨b, o + Q, none⟩) hS).trans hcell
            obtain ⟨H, hH⟩ : ∃ H, H = xs[Q] / 2 ^ s := ⟨_, rfl⟩
            obtain ⟨D, hD⟩ : ∃ D, D = H % 256 := ⟨_, rfl⟩
            have q3 : (xs[Q] : Int) / 2 ^ s = (H : Int) := by rw [hH]; push_cast; rfl
            have q4 : IntKind.u8.wrap (H : Int) = (D : Int) := by rw [hD]; exact u8_wrap H
            rw [← hH, ← hD] at hbyte
            have hst := hrow.num (k := .u8) L (by rw [Pl.beP_length]; exact hLk)
            have hsf := hrow.frozen L
            have hrow1 := hrow.setNum (k := .u8) L D
            rw [hbyte, hL, Pl.beP_step hlt, ← hL, ← hbyte] at hrow1
            have hB1 := below_setCell hB (p := ⟨w.heap.size, L, none⟩) (Nat.le_refl _) (.int .u8 (D : Int))
            clear hcell hQ hR hs hL hH hD hbyte h1 h2
            go_wp2_with fail
            go_roundw
            case rel => exact ⟨j + 1, by go_num, by omega, hrow1, hB1⟩
            case measure => simp [intOf]; omega
          · have hz : Pl.byteAt n j = 0 := byte_none (l := xs.length) (by rw [← Ex.out]; exact Pl.val_lt hd) (by omega)
            rw [Pl.beP_skip hlt hz] at hrow
            clear hz hQ h1 h2
            go_wp2_with fail
            go_roundw
            case rel => exact ⟨j + 1, by go_num, by omega, hrow, hB⟩
            case measure => simp [intOf]; omega
        · obtain rfl : k = j := by omega
          have hs := hrow.slNum (B := 256) (S := Fresh w wr) ⟨Nat.le_refl _, hrow.lt⟩ (Pl.beP_dig _ _ _) k (by rw [Pl.beP_length]; omega) (by omega) (by rw [Pl.beP_length]; omega)
          rw [Pl.beP_length] at hs
          clear h1 h2
          go_wp2_with fail
          go_ret2
          exact ⟨Hp.out _ _ hs, hB⟩

end Go.Proofs.Ytphbacggmhjmgaa
