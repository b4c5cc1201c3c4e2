/- The layer nat, third part: products. -/
import Derived.Test.YtphbacggmhjmgaaNatB
namespace Go.Proofs.Ytphbacggmhjmgaa
open Go.RowKit

def mulE (m n : Nat) : Except Nat Nat := if B64 ^ 64 ≤ m ∨ B64 ^ 64 ≤ n then .error 2 else .ok (m * n)

theorem u64_wrap_nat {a b : Nat} (h : a + b < B64) : IntKind.u64.wrap ((a : Int) + (b : Int)) = ((a + b : Nat) : Int) := by
  unfold B64 at h; rw [IntKind.wrap_u64]; omega

/-- one digit of a row of a product -/
def stepLo (x y s c : Nat) : Nat := addLo (addLo (mulLo x y) s 0) c 0
def stepHi (x y s c : Nat) : Nat := mulHi x y + addHi (mulLo x y) s 0 + addHi (addLo (mulLo x y) s 0) c 0
theorem step_parts (x y s c : Nat) : stepLo x y s c + B64 * stepHi x y s c = x * y + s + c := by
  have h1 := mul_parts x y
  have h2 := add_parts (mulLo x y) s 0
  have h3 := add_parts (addLo (mulLo x y) s 0) c 0
  unfold stepLo stepHi
  rw [Nat.mul_add, Nat.mul_add]
  omega
theorem stepLo_lt (x y s c : Nat) : stepLo x y s c < B64 := addLo_lt _ _ _
theorem stepHi_lt {x y s c : Nat} (hx : x < B64) (hy : y < B64) (hs : s < B64) (hc : c < B64) : stepHi x y s c < B64 := by
  have h := step_parts x y s c
  have h1 : x * y ≤ (B64 - 1) * (B64 - 1) := Nat.mul_le_mul (by omega) (by omega)
  have h2 : B64 * stepHi x y s c < B64 * B64 := by
    unfold B64 at *; omega
  exact Nat.lt_of_mul_lt_mul_left h2

theorem set_zero {xs : List Nat} {a i d : Nat} (h : ∀ t (ht : t < xs.length), a ≤ t → xs[t] = 0) (hi : i < a) : ∀ t (ht : t < (xs.set i d).length), a ≤ t → (xs.set i d)[t] = 0 := by
  intro t ht ha
  rw [List.getElem_set_ne (by omega)]
  exact h t (by simpa using ht) ha

set_option maxHeartbeats 2000000 in
theorem mul_calls {w : World} {S : Nat → Prop} {m n : Nat} {va vb : Value} (ha : RawN.rep S w m [va]) (hb : RawN.rep S w n [vb]) :
    Calls Try.prog 79 #[va, vb] w fun e w' => NumE (Fresh w w') w' e (mulE m n) ∧ Below w.heap.size w w' := by
  by_cases hl : B64 ^ 64 ≤ m ∨ B64 ^ 64 ≤ n
  · rw [show mulE m n = .error 2 by unfold mulE; rw [if_pos hl]]
    go_enter Try.func79, Try.ntmps79
    go_wp2_with fail
    refine (both_long ha hb hl).mono ?_
    rintro e w' ⟨rfl, rfl⟩
    go_wp2
    go_ret2
    exact ⟨rfl, Below.refl _ _⟩
  · rw [show mulE m n = .ok (m * n) by unfold mulE; rw [if_neg hl]]
    go_enter Try.func79, Try.ntmps79
    go_wp2_with fail
    refine (both_ok ha hb (by omega) (by omega)).mono ?_
    rintro e w' ⟨⟨u, v, rfl, ⟨p, hP, cp, ea⟩, ⟨q, hQ, cq, eb⟩⟩, rfl⟩
    have lp := (Pl.canon_len_le (n := 64) B64_gt (num_dig hP) cp).2 (by rw [ea]; omega)
    have lq := (Pl.canon_len_le (n := 64) B64_gt (num_dig hQ) cq).2 (by rw [eb]; omega)
    clear ha hb hl cp cq
    have Ea := hid ea
    have Eb := hid eb
    clear ea eb
    have dp := num_dig hP
    have dq := num_dig hQ
    obtain ⟨A, c1, rfl, hc1, hm1⟩ := sl_open hP
    obtain ⟨A', c2, rfl, hc2, hm2⟩ := sl_open hQ
    have hmk : ∀ W : World, (Instr.makeSlice 24 (.int .i64 ((p.length : Int) + (q.length : Int))) (.int .i64 ((p.length : Int) + (q.length : Int)))).run Try.prog W = .ok (.slice (some ⟨W.heap.size, 0, none⟩) (p.length + q.length) (p.length + q.length)) (W.alloc (.cells (zerosOf (.int .u64 0) (p.length + q.length)) 65)) := fun W => run_make_u64 (p.length + q.length) (by omega) W
    go_wp2
    go_loopw [34] (fun i wr => ∃ k : Nat, ∃ outs : List Nat, i = .int .i64 k ∧ k ≤ p.length ∧ outs.length = p.length + q.length ∧ Pl.Dig B64 outs ∧ Row wr w.heap.size 65 (nums .u64 outs)
      ∧ Hid (Pl.val B64 outs = Pl.val B64 (p.take k) * Pl.val B64 q) ∧ Hid (∀ t (ht : t < outs.length), k + q.length ≤ t → outs[t] = 0) ∧ Below w.heap.size w wr) (fun i _ => (p.length - (intOf i).toNat))
    case atStart =>
      exact ⟨0, List.replicate (p.length + q.length) 0, rfl, by omega, by simp, Pl.Dig.replicate B64_pos _, by rw [← zerosOf_num]; exact Row.new _ _ _, hid (by simp [Pl.val, Pl.val_replicate]), hid (by simp), (Below.refl _ _).alloc (Nat.le_refl _) _⟩
    case round =>
      obtain ⟨k, outs, rfl, hk, hol, hod, hrow, hinv, hzero, hB⟩ := hrel
      obtain ⟨wo, rfl⟩ : ∃ wo : World, wo = wr := ⟨_, rfl⟩
      by_cases hlt : k < p.length
      · obtain ⟨b, o, rfl, _, hcell, hbd⟩ := num_at ((Rep.num .u64 B64).sl.below hP hB) k hlt
        go_wp2
        go_loopw [41, 10] (fun i c wr => ∃ j cc : Nat, ∃ outs : List Nat, i = .int .i64 j ∧ c = .int .u64 cc ∧ j ≤ q.length ∧ cc < B64 ∧ outs.length = p.length + q.length ∧ Pl.Dig B64 outs ∧ Row wr w.heap.size 65 (nums .u64 outs)
          ∧ Hid (Pl.val B64 outs + B64 ^ (k + j) * cc = Pl.val B64 (p.take k) * Pl.val B64 q + B64 ^ k * (p[k] * Pl.val B64 (q.take j))) ∧ Hid (∀ t (ht : t < outs.length), k + q.length ≤ t → outs[t] = 0) ∧ Below w.heap.size w wr) (fun i _ _ => (q.length - (intOf i).toNat))
        case atStart => exact ⟨0, 0, outs, rfl, rfl, by omega, B64_pos, hol, hod, hrow, hid (by rw [hinv.out]; simp [Pl.val]), hzero, hB⟩
        case round =>
          clear hrow hinv hod hzero hol hB outs
          obtain ⟨j, cc, outs, rfl, rfl, hj, hcc, hol, hod, hrow, hinv, hzero, hB⟩ := hrel
          by_cases hlj : j < q.length
          · obtain ⟨b', o', rfl, _, hcell', hbd'⟩ := num_at ((Rep.num .u64 B64).sl.below hQ hB) j hlj
            have hst := hrow.num (k := .u64) (k + j) (by omega)
            have hsf := hrow.frozen (k + j)
            have hod' := hod.at (k + j) (by omega)
            have e1 : (addLo (mulLo p[k] q[j]) (outs[k + j]'(by omega)) 0) < B64 := addLo_lt _ _ _
            have e2 := mulHi_le hbd hbd'
            have e3 := addHi_le (mulLo_lt p[k] q[j]) hod' (Nat.zero_le 1)
            have e4 := addHi_le e1 hcc (Nat.zero_le 1)
            have e5 := stepHi_lt hbd hbd' hod' hcc
            have hs1 : mulHi p[k] q[j] + addHi (mulLo p[k] q[j]) (outs[k + j]'(by omega)) 0 ≤ 18446744073709551615 := by unfold B64 at e2; omega
            have hs2 : mulHi p[k] q[j] + addHi (mulLo p[k] q[j]) (outs[k + j]'(by omega)) 0 + addHi (addLo (mulLo p[k] q[j]) (outs[k + j]'(by omega)) 0) cc 0 ≤ 18446744073709551615 := by have := e5; unfold stepHi B64 at this; omega
            have ha1 : ∀ W : World, (callFunc 65 #[.int .u64 (mulLo p[k] q[j] : Int), .int .u64 ((outs[k + j]'(by omega) : Nat) : Int), .int .u64 0]).run Try.prog W = .ok (.value (.tuple #[.int .u64 (addLo (mulLo p[k] q[j]) (outs[k + j]'(by omega)) 0 : Int), .int .u64 (addHi (mulLo p[k] q[j]) (outs[k + j]'(by omega)) 0 : Int)])) W := fun W => add64_run _ _ 0 (by omega) W
            have ha2 : ∀ W : World, (callFunc 65 #[.int .u64 (addLo (mulLo p[k] q[j]) (outs[k + j]'(by omega)) 0 : Int), .int .u64 (cc : Int), .int .u64 0]).run Try.prog W = .ok (.value (.tuple #[.int .u64 (stepLo p[k] q[j] (outs[k + j]'(by omega)) cc : Int), .int .u64 (addHi (addLo (mulLo p[k] q[j]) (outs[k + j]'(by omega)) 0) cc 0 : Int)])) W := fun W => add64_run _ _ 0 (by omega) W
            have hnew := hrow.setNum (k := .u64) (k + j) (stepLo p[k] q[j] (outs[k + j]'(by omega)) cc)
            have hB' := below_setCell hB (p := ⟨w.heap.size, k + j, none⟩) (Nat.le_refl _) (.int .u64 (stepLo p[k] q[j] (outs[k + j]'(by omega)) cc : Int))
            have hdn := hod.set (k + j) (stepLo_lt p[k] q[j] (outs[k + j]'(by omega)) cc)
            have hzn := hid (set_zero (d := stepLo p[k] q[j] (outs[k + j]'(by omega)) cc) hzero.out (show k + j < k + q.length by omega))
            have hvn : Hid (Pl.val B64 (outs.set (k + j) (stepLo p[k] q[j] (outs[k + j]'(by omega)) cc)) + B64 ^ (k + (j + 1)) * stepHi p[k] q[j] (outs[k + j]'(by omega)) cc = Pl.val B64 (p.take k) * Pl.val B64 q + B64 ^ k * (p[k] * Pl.val B64 (q.take (j + 1)))) := by
              have h1 := step_parts p[k] q[j] (outs[k + j]'(by omega)) cc
              have h2 := hinv.out
              have h3 := Pl.val_set B64 outs (k + j) (stepLo p[k] q[j] (outs[k + j]'(by omega)) cc) (by omega)
              show _ = _
              rw [Pl.val_take_succ B64 q j hlj, show k + (j + 1) = (k + j) + 1 by omega, Nat.pow_succ, Nat.mul_assoc]
              have h4 := congrArg (B64 ^ (k + j) * ·) h1
              simp only [Nat.mul_add] at h3 h4 ⊢
              have h5 : B64 ^ k * (p[k] * (B64 ^ j * q[j])) = B64 ^ (k + j) * (p[k] * q[j]) := by
                rw [Nat.pow_add, Nat.mul_left_comm p[k], Nat.mul_assoc]
              omega
            clear hinv hzero
            go_wp2_with fail
            refine (mul64_calls p[k] q[j] hbd hbd' _).mono ?_
            rintro e w' ⟨rfl, rfl⟩
            go_wp2
            go_roundw
            case rel => exact ⟨j + 1, _, _, by go_num, rfl, by omega, e5, by simpa using hol, hdn, hnew, hvn, hzn, hB'⟩
            case measure => simp [intOf]; omega
          · obtain rfl : j = q.length := by omega
            have hst := hrow.num (k := .u64) (k + q.length) (by omega)
            have hsf := hrow.frozen (k + q.length)
            have hnew := hrow.setNum (k := .u64) (k + q.length) cc
            have hB' := below_setCell hB (p := ⟨w.heap.size, k + q.length, none⟩) (Nat.le_refl _) (.int .u64 (cc : Int))
            have hdn := hod.set (k + q.length) hcc
            have hzn : Hid (∀ t (ht : t < (outs.set (k + q.length) cc).length), k + 1 + q.length ≤ t → (outs.set (k + q.length) cc)[t] = 0) := by
              intro t ht ha
              rw [List.getElem_set_ne (by omega)]
              exact hzero.out t (by simpa using ht) (by omega)
            have hvn : Hid (Pl.val B64 (outs.set (k + q.length) cc) = Pl.val B64 (p.take (k + 1)) * Pl.val B64 q) := by
              have h2 := hinv.out
              have h3 := Pl.val_set B64 outs (k + q.length) cc (by omega)
              rw [hzero.out (k + q.length) (by omega) (Nat.le_refl _)] at h3
              rw [Pl.val_take_all B64 q _ (Nat.le_refl _)] at h2
              show _ = _
              rw [Pl.val_take_succ B64 p k hlt, Nat.add_mul, Nat.mul_assoc]
              omega
            clear hinv hzero
            go_wp2
            go_roundw
            case rel => exact ⟨k + 1, _, by go_num, by omega, by simpa using hol, hdn, hnew, hvn, hzn, hB'⟩
            case measure => simp [intOf]; omega
      · obtain rfl : k = p.length := by omega
        have hval : Pl.val B64 outs = m * n := by
          have h2 := hinv.out
          rwa [Pl.val_take_all B64 p _ (Nat.le_refl _), Ea.out, Eb.out] at h2
        have Hval := hid hval
        have hres := hrow.slNum (S := Fresh w wo) ⟨Nat.le_refl _, hrow.lt⟩ hod (p.length + q.length) (by omega) (by omega) (by omega)
        rw [hol] at hres
        clear hval hrow hinv hzero
        go_wp2_with fail
        refine (trim_calls hres).mono ?_
        rintro e w' ⟨⟨u, rfl, hu⟩, rfl⟩
        go_wp2
        go_ret2
        exact ⟨⟨_, rfl, _, hu, Pl.trim_canon _, by rw [Pl.trim_val]; exact Hval.out⟩, hB⟩

end Go.Proofs.Ytphbacggmhjmgaa
