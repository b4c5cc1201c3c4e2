/- The layer nat, fourth part: dividing by one digit; shifting. -/
import Derived.Test.YtphbacggmhjmgaaNatC
import Derived.Test.YtphbacggmhjmgaaDiv
namespace Go.Proofs.Ytphbacggmhjmgaa
open Go.RowKit

theorem div64_still (hi lo y : Nat) (hhi : hi < y) (hlo : lo < B64) (hy : y < B64) (w : World) :
    Calls Try.prog 85 #[.int .u64 (hi : Int), .int .u64 (lo : Int), .int .u64 (y : Int)] w fun e w' => e = .returned (.tuple #[.int .u64 (((hi * B64 + lo) / y : Nat) : Int), .int .u64 (((hi * B64 + lo) % y : Nat) : Int)]) ∧ Still w w' :=
  (div64_calls hi lo y hhi hlo hy w).mono fun e w' ⟨he, n, hw⟩ => ⟨he, by subst hw; exact Still.drewN w n⟩

theorem val_set_drop {B : Nat} {xs : List Nat} {k d : Nat} (hk : k < xs.length) : Pl.val B ((xs.set k d).drop k) = d + B * Pl.val B (xs.drop (k + 1)) := by
  rw [Pl.val_drop B _ k (by simpa using hk), List.getElem_set_self, List.drop_set_of_lt (by omega)]

set_option maxHeartbeats 1000000 in
theorem short_calls {w : World} {S : Nat → Prop} {m d : Nat} {v : Value} (hd0 : 0 < d) (hd : d < B64) (ha : NumN.rep S w m [v]) (hm : m < B64 ^ 64) :
    Calls Try.prog 75 #[v, .int .u64 (d : Int)] w fun e w' => (∃ q r, e = .returned (.tuple #[q, r]) ∧ NumN.rep (Fresh w w') w' (m / d) [q] ∧ NumN.rep (Fresh w w') w' (m % d) [r]) ∧ Below w.heap.size w w' := by
  obtain ⟨p, hP, cp, ea⟩ := ha
  have lp := (Pl.canon_len_le (n := 64) B64_gt (num_dig hP) cp).2 (by rw [ea]; omega)
  have Ea := hid ea
  clear ea cp hm
  have dp := num_dig hP
  obtain ⟨A, c1, rfl, hc1, hm1⟩ := sl_open hP
  have hmk : ∀ W : World, (Instr.makeSlice 24 (.int .i64 (p.length : Int)) (.int .i64 (p.length : Int))).run Try.prog W = .ok (.slice (some ⟨W.heap.size, 0, none⟩) p.length p.length) (W.alloc (.cells (zerosOf (.int .u64 0) p.length) 65)) := fun W => run_make_u64 p.length (by omega) W
  go_enter Try.func75, Try.ntmps75
  go_wp2
  go_loopw [8, 7] (fun i r wr => ∃ k R : Nat, ∃ outs : List Nat, i = .int .i64 ((k : Int) - 1) ∧ r = .int .u64 R ∧ k ≤ p.length ∧ R < d ∧ outs.length = p.length ∧ Pl.Dig B64 outs ∧ Row wr w.heap.size 65 (nums .u64 outs)
    ∧ Hid (Pl.val B64 (outs.drop k) * d + R = Pl.val B64 (p.drop k)) ∧ Below w.heap.size w wr) (fun i _ _ => (intOf i + 1).toNat)
  case atStart =>
    exact ⟨p.length, 0, List.replicate p.length 0, rfl, rfl, Nat.le_refl _, hd0, by simp, Pl.Dig.replicate B64_pos _, by rw [← zerosOf_num]; exact Row.new _ _ _, hid (by rw [List.drop_of_length_le (by simp), List.drop_of_length_le (Nat.le_refl _)]; simp [Pl.val]), (Below.refl _ _).alloc (Nat.le_refl _) _⟩
  case round =>
    obtain ⟨k, R, outs, rfl, rfl, hk, hR, hol, hod, hrow, hinv, hB⟩ := hrel
    cases k with
    | succ k =>
      rw [show (((k + 1 : Nat) : Int) - 1) = (k : Int) by omega]
      obtain ⟨b, o, rfl, _, hcell, hbd⟩ := num_at ((Rep.num .u64 B64).sl.below hP hB) k hk
      have hi0 : (0 : Int) ≤ (k : Int) := by omega
      obtain ⟨Q, hQ⟩ : ∃ Q, Q = (R * B64 + p[k]) / d := ⟨_, rfl⟩
      obtain ⟨T, hT⟩ : ∃ T, T = (R * B64 + p[k]) % d := ⟨_, rfl⟩
      have hQlt : Q < B64 := by
        rw [hQ, Nat.div_lt_iff_lt_mul hd0]
        have : (R + 1) * B64 ≤ d * B64 := Nat.mul_le_mul_right _ hR
        rw [Nat.mul_comm B64 d]; rw [Nat.add_mul] at this; omega
      have hTlt : T < d := by rw [hT]; exact Nat.mod_lt _ hd0
      have hdm : R * B64 + p[k] = Q * d + T := by
        have := Nat.div_add_mod (R * B64 + p[k]) d
        rw [Nat.mul_comm d] at this
        rw [hQ, hT]; omega
      have hn1 : Hid (Pl.val B64 ((outs.set k Q).drop k) * d + T = Pl.val B64 (p.drop k)) := by
        show _ = _
        have h := hinv.out
        rw [val_set_drop (by omega), Pl.val_drop B64 p k hk, ← h, Nat.add_mul, Nat.mul_add, Nat.mul_assoc]
        have e : B64 * R = R * B64 := Nat.mul_comm _ _
        omega
      have HQ := hid hQ
      have HT := hid hT
      clear hQ hT hdm hinv
      go_wp2_with fail
      refine (div64_still R p[k] d hR hbd hd _).mono ?_
      rintro e w1 ⟨rfl, hst⟩
      rw [← HQ.out, ← HT.out]
      have hrow1 := hst.row hrow
      have hsc := hrow1.num (k := .u64) k (by omega)
      have hsf := hrow1.frozen k
      have hnew := hrow1.setNum (k := .u64) k Q
      have hB1 := below_setCell (below_trans hB hst.below) (p := ⟨w.heap.size, k, none⟩) (Nat.le_refl _) (.int .u64 (Q : Int))
      have hdn := hod.set k hQlt
      go_wp2
      go_roundw
      case rel => exact ⟨k, T, _, by go_num, rfl, by omega, hTlt, by simpa using hol, hdn, hnew, hn1, hB1⟩
      case measure => simp [intOf]
    | zero =>
      have hv := hinv.out
      rw [List.drop_zero, List.drop_zero, Ea.out] at hv
      have hq : Hid (Pl.val B64 outs = m / d) := by
        show _ = _
        rw [← hv, Nat.mul_comm, Nat.mul_add_div hd0, Nat.div_eq_of_lt hR, Nat.add_zero]
      have hr : Hid (R = m % d) := by
        show _ = _
        rw [← hv, Nat.mul_comm, Nat.mul_add_mod, Nat.mod_eq_of_lt hR]
      have hres := hrow.slNum (S := Fresh w wr) ⟨Nat.le_refl _, hrow.lt⟩ hod p.length (by omega) (by omega) (by omega)
      rw [hol] at hres
      clear hv hinv hrow
      go_wp2_with fail
      refine (trim_calls hres).mono ?_
      rintro e w' ⟨⟨u, rfl, hu⟩, rfl⟩
      have hRb : R < B64 := by omega
      have hl1 := lit1 wr R hRb
      have hB1 := (Below.refl wr.heap.size wr).alloc (Nat.le_refl _) (.cells #[.int .u64 (R : Int)] 65)
      have hu1 := (Rep.num .u64 B64).sl.below hu hB1
      have hB2 := hB.alloc hB.size (.cells #[.int .u64 (R : Int)] 65)
      have hl2 := (Rep.num .u64 B64).sl.mono hl1 (S' := Fresh w (wr.alloc (.cells #[.int .u64 (R : Int)] 65))) (by rintro b rfl; exact ⟨hB.size, by simp⟩) (Same.refl _ _)
      have hu2 := (Rep.num .u64 B64).sl.mono hu1 (S' := Fresh w (wr.alloc (.cells #[.int .u64 (R : Int)] 65))) (by rintro b ⟨h1, h2⟩; exact ⟨h1, by simp; omega⟩) (Same.refl _ _)
      clear hB1 hu1 hl1 hB
      go_wp2_with fail
      refine (trim_calls hl2).mono ?_
      rintro e w' ⟨⟨u', rfl, hu'⟩, rfl⟩
      go_wp2
      go_ret2
      exact ⟨⟨_, _, rfl, ⟨_, hu2, Pl.trim_canon _, by rw [Pl.trim_val]; exact hq.out⟩, ⟨_, hu', Pl.trim_canon _, by rw [Pl.trim_val, Pl.val_one]; exact hr.out⟩⟩, hB2⟩

end Go.Proofs.Ytphbacggmhjmgaa
