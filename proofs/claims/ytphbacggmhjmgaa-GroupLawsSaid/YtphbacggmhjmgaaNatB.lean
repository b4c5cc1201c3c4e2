/- The layer nat, second part: sums, differences, products. -/
import Derived.Test.YtphbacggmhjmgaaNatA
namespace Go.Proofs.Ytphbacggmhjmgaa
open Go.RowKit

/-- what a function with an error answers: a number in the blocks of S, or an error alone -/
def NumE (S : Nat → Prop) (w : World) (e : Ending) : Except Nat Nat → Prop
  | .ok n => ∃ u, e = .returned (.tuple #[u, errV 0]) ∧ NumN.rep S w n [u]
  | .error c => e = .returned (.tuple #[.slice none 0 0, errV c])

/-- 'make' of digits -/
theorem run_make_u64 (m : Nat) (hm : m * 8 ≤ 281474976710656) (W : World) :
    (Instr.makeSlice 24 (.int .i64 (m : Int)) (.int .i64 (m : Int))).run Try.prog W = .ok (.slice (some ⟨W.heap.size, 0, none⟩) m m) (W.alloc (.cells (zerosOf (.int .u64 0) m) 65)) :=
  run_make_one 24 65 (.int .u64 0) 8 Try.underlying24 info65 rfl m (by omega) (by omega) W


def addE (m n : Nat) : Except Nat Nat := if B64 ^ 64 ≤ m ∨ B64 ^ 64 ≤ n then .error 2 else .ok (m + n)

theorem pow_two_sixtyfour : (B64 : Nat) = 2 ^ 64 := by decide


set_option maxHeartbeats 1000000 in
theorem add_calls {w : World} {S : Nat → Prop} {m n : Nat} {va vb : Value} (ha : RawN.rep S w m [va]) (hb : RawN.rep S w n [vb]) :
    Calls Try.prog 36 #[va, vb] w fun e w' => NumE (Fresh w w') w' e (addE m n) ∧ Below w.heap.size w w' := by
  by_cases hl : B64 ^ 64 ≤ m ∨ B64 ^ 64 ≤ n
  · rw [show addE m n = .error 2 by unfold addE; rw [if_pos hl]]
    go_enter Try.func36, Try.ntmps36
    go_wp2_with fail
    refine (both_long ha hb hl).mono ?_
    rintro e w' ⟨rfl, rfl⟩
    go_wp2
    go_ret2
    exact ⟨rfl, Below.refl _ _⟩
  · rw [show addE m n = .ok (m + n) by unfold addE; rw [if_neg hl]]
    go_enter Try.func36, Try.ntmps36
    go_wp2_with fail
    refine (both_ok ha hb (by omega) (by omega)).mono ?_
    rintro e w' ⟨⟨u, v, rfl, ⟨p, hp, cp, ea⟩, ⟨q, hq, cq, eb⟩⟩, rfl⟩
    have lp := (Pl.canon_len_le (n := 64) B64_gt (num_dig hp) cp).2 (by rw [ea]; omega)
    have lq := (Pl.canon_len_le (n := 64) B64_gt (num_dig hq) cq).2 (by rw [eb]; omega)
    clear ha hb hl cp cq
    have Ea := hid ea
    have Eb := hid eb
    clear ea eb
    have dp := num_dig hp
    have dq := num_dig hq
    obtain ⟨A, c1, rfl, hc1, hm1⟩ := sl_open hp
    obtain ⟨A', c2, rfl, hc2, hm2⟩ := sl_open hq
    by_cases hsw : p.length < q.length
    · have hP := hq
      have hQ := hp
      have Hlen : Hid (p.length ≤ q.length) := by show _ ≤ _; omega
      have hmk : ∀ W : World, (Instr.makeSlice 24 (.int .i64 ((q.length : Int) + 1)) (.int .i64 ((q.length : Int) + 1))).run Try.prog W = .ok (.slice (some ⟨W.heap.size, 0, none⟩) (q.length + 1) (q.length + 1)) (W.alloc (.cells (zerosOf (.int .u64 0) (q.length + 1)) 65)) := fun W => run_make_u64 (q.length + 1) (by omega) W
      go_wp2
      go_loopw [34, 8] (fun i c wr => ∃ k cc : Nat, ∃ outs : List Nat, i = .int .i64 k ∧ c = .int .u64 cc ∧ k ≤ q.length ∧ cc ≤ 1 ∧ outs.length = q.length + 1 ∧ Pl.Dig B64 outs ∧ Row wr w.heap.size 65 (nums .u64 outs)
        ∧ Hid (Pl.val B64 (outs.take k) + B64 ^ k * cc = Pl.val B64 (q.take k) + Pl.val B64 (p.take k)) ∧ Below w.heap.size w wr) (fun i _ _ => (q.length - (intOf i).toNat))
      case atStart =>
        exact ⟨0, 0, List.replicate (q.length + 1) 0, rfl, rfl, by omega, by omega, by simp, Pl.Dig.replicate B64_pos _, by rw [← zerosOf_num]; exact Row.new _ _ _, hid (by simp [Pl.val]), (Below.refl _ _).alloc (Nat.le_refl _) _⟩
      case round =>
        obtain ⟨k, cc, outs, rfl, rfl, hk, hcc, hol, hod, hrow, hinv, hB⟩ := hrel
        by_cases hlt : k < q.length
        · obtain ⟨b, o, rfl, _, hcell, hbd⟩ := num_at ((Rep.num .u64 B64).sl.below hP hB) k hlt
          have hst := hrow.num (k := .u64) k (by omega)
          have hsf := hrow.frozen k
          by_cases hkq : k < p.length
          · obtain ⟨b', o', rfl, _, hcell', hbd'⟩ := num_at ((Rep.num .u64 B64).sl.below hQ hB) k hkq
            have hadd := fun W => add64_run q[k] p[k] cc hcc W
            go_wp2
            go_roundw
            case rel =>
              refine ⟨k + 1, addHi q[k] p[k] cc, outs.set k (addLo q[k] p[k] cc), by go_num, rfl, by omega, addHi_le hbd hbd' hcc, by simpa using hol, hod.set k (addLo_lt _ _ _), hrow.setNum k _, ?_, below_setCell hB (Nat.le_refl _) _⟩
              have h1 := add_parts q[k] p[k] cc
              have h2 := hinv.out
              show _ = _
              rw [Pl.val_take_set B64 outs k _ (by omega), Pl.val_take_succ B64 q k hlt, Pl.val_take_succ B64 p k hkq, Nat.pow_succ]
              have h3 := congrArg (B64 ^ k * ·) h1
              simp only [Nat.mul_add] at h3
              rw [Nat.mul_assoc]
              omega
            case measure => simp [intOf]; omega
          · have hadd : ∀ W : World, (callFunc 65 #[.int .u64 (q[k] : Int), .int .u64 0, .int .u64 (cc : Int)]).run Try.prog W = .ok (.value (.tuple #[.int .u64 (addLo q[k] 0 cc : Int), .int .u64 (addHi q[k] 0 cc : Int)])) W := fun W => add64_run q[k] 0 cc hcc W
            go_wp2
            go_roundw
            case rel =>
              refine ⟨k + 1, addHi q[k] 0 cc, outs.set k (addLo q[k] 0 cc), by go_num, rfl, by omega, addHi_le hbd B64_pos hcc, by simpa using hol, hod.set k (addLo_lt _ _ _), hrow.setNum k _, ?_, below_setCell hB (Nat.le_refl _) _⟩
              have h1 := add_parts q[k] 0 cc
              have h2 := hinv.out
              show _ = _
              rw [Pl.val_take_all B64 p k (by omega)] at h2
              rw [Pl.val_take_set B64 outs k _ (by omega), Pl.val_take_succ B64 q k hlt, Pl.val_take_all B64 p (k + 1) (by omega), Nat.pow_succ]
              have h3 := congrArg (B64 ^ k * ·) h1
              simp only [Nat.mul_add] at h3
              rw [Nat.mul_assoc]
              omega
            case measure => simp [intOf]; omega
        · obtain rfl : k = q.length := by omega
          have hst := hrow.num (k := .u64) q.length (by omega)
          have hsf := hrow.frozen q.length
          have hrow' := hrow.setNum (k := .u64) q.length cc
          have hB' := below_setCell hB (p := ⟨w.heap.size, q.length, none⟩) (Nat.le_refl _) (.int .u64 (cc : Int))
          have hres := hrow'.slNum (S := Fresh w (wr.setCell ⟨w.heap.size, q.length, none⟩ (.int .u64 (cc : Int)))) ⟨Nat.le_refl _, hrow'.lt⟩ (hod.set q.length (d := cc) (Nat.lt_of_le_of_lt hcc B64_gt)) (outs.set q.length cc).length (Nat.le_refl _) (by simp; omega) (by simp; omega)
          have hval : Pl.val B64 (outs.set q.length cc) = m + n := by
            have h2 := hinv.out
            have Hl := Hlen.out
            rw [Pl.val_take_all B64 q _ (Nat.le_refl _), Pl.val_take_all B64 p _ (by omega)] at h2
            have h3 := Pl.val_take_set B64 outs q.length cc (by omega)
            rw [Pl.val_take_all B64 _ _ (by simp; omega)] at h3
            have h4 := Ea.out
            have h5 := Eb.out
            omega
          have Hval := hid hval
          simp only [List.length_set, hol] at hres
          clear hval hB hrow hinv
          go_wp2_with fail
          refine (trim_calls hres).mono ?_
          rintro e w' ⟨⟨u, rfl, hu⟩, rfl⟩
          go_wp2
          go_ret2
          exact ⟨⟨_, rfl, _, hu, Pl.trim_canon _, by rw [Pl.trim_val]; exact Hval.out⟩, hB'⟩
      skip
    · have hP := hp
      have hQ := hq
      have Hlen : Hid (q.length ≤ p.length) := by show _ ≤ _; omega
      have hmk : ∀ W : World, (Instr.makeSlice 24 (.int .i64 ((p.length : Int) + 1)) (.int .i64 ((p.length : Int) + 1))).run Try.prog W = .ok (.slice (some ⟨W.heap.size, 0, none⟩) (p.length + 1) (p.length + 1)) (W.alloc (.cells (zerosOf (.int .u64 0) (p.length + 1)) 65)) := fun W => run_make_u64 (p.length + 1) (by omega) W
      go_wp2
      go_loopw [34, 8] (fun i c wr => ∃ k cc : Nat, ∃ outs : List Nat, i = .int .i64 k ∧ c = .int .u64 cc ∧ k ≤ p.length ∧ cc ≤ 1 ∧ outs.length = p.length + 1 ∧ Pl.Dig B64 outs ∧ Row wr w.heap.size 65 (nums .u64 outs)
        ∧ Hid (Pl.val B64 (outs.take k) + B64 ^ k * cc = Pl.val B64 (p.take k) + Pl.val B64 (q.take k)) ∧ Below w.heap.size w wr) (fun i _ _ => (p.length - (intOf i).toNat))
      case atStart =>
        exact ⟨0, 0, List.replicate (p.length + 1) 0, rfl, rfl, by omega, by omega, by simp, Pl.Dig.replicate B64_pos _, by rw [← zerosOf_num]; exact Row.new _ _ _, hid (by simp [Pl.val]), (Below.refl _ _).alloc (Nat.le_refl _) _⟩
      case round =>
        obtain ⟨k, cc, outs, rfl, rfl, hk, hcc, hol, hod, hrow, hinv, hB⟩ := hrel
        by_cases hlt : k < p.length
        · obtain ⟨b, o, rfl, _, hcell, hbd⟩ := num_at ((Rep.num .u64 B64).sl.below hP hB) k hlt
          have hst := hrow.num (k := .u64) k (by omega)
          have hsf := hrow.frozen k
          by_cases hkq : k < q.length
          · obtain ⟨b', o', rfl, _, hcell', hbd'⟩ := num_at ((Rep.num .u64 B64).sl.below hQ hB) k hkq
            have hadd := fun W => add64_run p[k] q[k] cc hcc W
            go_wp2
            go_roundw
            case rel =>
              refine ⟨k + 1, addHi p[k] q[k] cc, outs.set k (addLo p[k] q[k] cc), by go_num, rfl, by omega, addHi_le hbd hbd' hcc, by simpa using hol, hod.set k (addLo_lt _ _ _), hrow.setNum k _, ?_, below_setCell hB (Nat.le_refl _) _⟩
              have h1 := add_parts p[k] q[k] cc
              have h2 := hinv.out
              show _ = _
              rw [Pl.val_take_set B64 outs k _ (by omega), Pl.val_take_succ B64 p k hlt, Pl.val_take_succ B64 q k hkq, Nat.pow_succ]
              have h3 := congrArg (B64 ^ k * ·) h1
              simp only [Nat.mul_add] at h3
              rw [Nat.mul_assoc]
              omega
            case measure => simp [intOf]; omega
          · have hadd : ∀ W : World, (callFunc 65 #[.int .u64 (p[k] : Int), .int .u64 0, .int .u64 (cc : Int)]).run Try.prog W = .ok (.value (.tuple #[.int .u64 (addLo p[k] 0 cc : Int), .int .u64 (addHi p[k] 0 cc : Int)])) W := fun W => add64_run p[k] 0 cc hcc W
            go_wp2
            go_roundw
            case rel =>
              refine ⟨k + 1, addHi p[k] 0 cc, outs.set k (addLo p[k] 0 cc), by go_num, rfl, by omega, addHi_le hbd B64_pos hcc, by simpa using hol, hod.set k (addLo_lt _ _ _), hrow.setNum k _, ?_, below_setCell hB (Nat.le_refl _) _⟩
              have h1 := add_parts p[k] 0 cc
              have h2 := hinv.out
              show _ = _
              rw [Pl.val_take_all B64 q k (by omega)] at h2
              rw [Pl.val_take_set B64 outs k _ (by omega), Pl.val_take_succ B64 p k hlt, Pl.val_take_all B64 q (k + 1) (by omega), Nat.pow_succ]
              have h3 := congrArg (B64 ^ k * ·) h1
              simp only [Nat.mul_add] at h3
              rw [Nat.mul_assoc]
              omega
            case measure => simp [intOf]; omega
        · obtain rfl : k = p.length := by omega
          have hst := hrow.num (k := .u64) p.length (by omega)
          have hsf := hrow.frozen p.length
          have hrow' := hrow.setNum (k := .u64) p.length cc
          have hB' := below_setCell hB (p := ⟨w.heap.size, p.length, none⟩) (Nat.le_refl _) (.int .u64 (cc : Int))
          have hres := hrow'.slNum (S := Fresh w (wr.setCell ⟨w.heap.size, p.length, none⟩ (.int .u64 (cc : Int)))) ⟨Nat.le_refl _, hrow'.lt⟩ (hod.set p.length (d := cc) (Nat.lt_of_le_of_lt hcc B64_gt)) (outs.set p.length cc).length (Nat.le_refl _) (by simp; omega) (by simp; omega)
          have hval : Pl.val B64 (outs.set p.length cc) = m + n := by
            have h2 := hinv.out
            have Hl := Hlen.out
            rw [Pl.val_take_all B64 p _ (Nat.le_refl _), Pl.val_take_all B64 q _ (by omega)] at h2
            have h3 := Pl.val_take_set B64 outs p.length cc (by omega)
            rw [Pl.val_take_all B64 _ _ (by simp; omega)] at h3
            have h4 := Ea.out
            have h5 := Eb.out
            omega
          have Hval := hid hval
          simp only [List.length_set, hol] at hres
          clear hval hB hrow hinv
          go_wp2_with fail
          refine (trim_calls hres).mono ?_
          rintro e w' ⟨⟨u, rfl, hu⟩, rfl⟩
          go_wp2
          go_ret2
          exact ⟨⟨_, rfl, _, hu, Pl.trim_canon _, by rw [Pl.trim_val]; exact Hval.out⟩, hB'⟩
      skip


def subE (m n : Nat) : Except Nat Nat := if B64 ^ 64 ≤ m ∨ B64 ^ 64 ≤ n then .error 2 else if m < n then .error 3 else .ok (m - n)

set_option maxHeartbeats 1000000 in
theorem sub_calls {w : World} {S : Nat → Prop} {m n : Nat} {va vb : Value} (ha : RawN.rep S w m [va]) (hb : RawN.rep S w n [vb]) :
    Calls Try.prog 37 #[va, vb] w fun e w' => NumE (Fresh w w') w' e (subE m n) ∧ Below w.heap.size w w' := by
  by_cases hl : B64 ^ 64 ≤ m ∨ B64 ^ 64 ≤ n
  · rw [show subE m n = .error 2 by unfold subE; rw [if_pos hl]]
    go_enter Try.func37, Try.ntmps37
    go_wp2_with fail
    refine (both_long ha hb hl).mono ?_
    rintro e w' ⟨rfl, rfl⟩
    go_wp2
    go_ret2
    exact ⟨rfl, Below.refl _ _⟩
  by_cases hless : m < n
  · rw [show subE m n = .error 3 by unfold subE; rw [if_neg hl, if_pos hless]]
    go_enter Try.func37, Try.ntmps37
    go_wp2_with fail
    refine (both_ok ha hb (by omega) (by omega)).mono ?_
    rintro e w' ⟨⟨u, v, rfl, hp, hq⟩, rfl⟩
    go_wp2_with fail
    refine (cmp_calls (num_raw hp) (num_raw hq)).mono ?_
    rintro e w1 ⟨rfl, hst⟩
    rw [Pl.cmp_lt hless]
    go_wp2
    go_ret2
    exact ⟨rfl, hst.below⟩
  · rw [show subE m n = .ok (m - n) by unfold subE; rw [if_neg hl, if_neg hless]]
    have hc : 0 ≤ Pl.cmp m n := by have := @Pl.cmp_neg m n; omega
    go_enter Try.func37, Try.ntmps37
    go_wp2_with fail
    refine (both_ok ha hb (by omega) (by omega)).mono ?_
    rintro e w' ⟨⟨u, v, rfl, hp, hq⟩, rfl⟩
    go_wp2_with fail
    refine (cmp_calls (num_raw hp) (num_raw hq)).mono ?_
    rintro e w1 ⟨rfl, hst⟩
    obtain ⟨p, hP, cp, ea⟩ := hst.rep _ hp
    obtain ⟨q, hQ, cq, eb⟩ := hst.rep _ hq
    have lp := (Pl.canon_len_le (n := 64) B64_gt (num_dig hP) cp).2 (by rw [ea]; omega)
    have lq := Pl.canon_len B64_pos (num_dig hP) cq (show Pl.val B64 q ≤ Pl.val B64 p by omega)
    have hmn : n ≤ m := by omega
    clear ha hb hl cp cq hp hq hless
    have Ea := hid ea
    have Eb := hid eb
    clear ea eb
    have dp := num_dig hP
    have dq := num_dig hQ
    obtain ⟨A, c1, rfl, hc1, hm1⟩ := sl_open hP
    obtain ⟨A', c2, rfl, hc2, hm2⟩ := sl_open hQ
    have hB0 := hst.below
    have hsz := hid hst.size
    have hmk : ∀ W : World, (Instr.makeSlice 24 (.int .i64 (p.length : Int)) (.int .i64 (p.length : Int))).run Try.prog W = .ok (.slice (some ⟨W.heap.size, 0, none⟩) p.length p.length) (W.alloc (.cells (zerosOf (.int .u64 0) p.length) 65)) := fun W => run_make_u64 p.length (by omega) W
    go_wp2
    go_loopw [33, 8] (fun i c wr => ∃ k cc : Nat, ∃ outs : List Nat, i = .int .i64 k ∧ c = .int .u64 cc ∧ k ≤ p.length ∧ cc ≤ 1 ∧ outs.length = p.length ∧ Pl.Dig B64 outs ∧ Row wr w1.heap.size 65 (nums .u64 outs)
      ∧ Hid (Pl.val B64 (outs.take k) + Pl.val B64 (q.take k) = Pl.val B64 (p.take k) + B64 ^ k * cc) ∧ Below w1.heap.size w1 wr) (fun i _ _ => (p.length - (intOf i).toNat))
    case atStart =>
      exact ⟨0, 0, List.replicate p.length 0, rfl, rfl, by omega, by omega, by simp, Pl.Dig.replicate B64_pos _, by rw [← zerosOf_num]; exact Row.new _ _ _, hid (by simp [Pl.val]), (Below.refl _ _).alloc (Nat.le_refl _) _⟩
    case round =>
      obtain ⟨k, cc, outs, rfl, rfl, hk, hcc, hol, hod, hrow, hinv, hB⟩ := hrel
      by_cases hlt : k < p.length
      · obtain ⟨b, o, rfl, _, hcell, hbd⟩ := num_at ((Rep.num .u64 B64).sl.below hP hB) k hlt
        have hst := hrow.num (k := .u64) k (by omega)
        have hsf := hrow.frozen k
        by_cases hkq : k < q.length
        · obtain ⟨b', o', rfl, _, hcell', hbd'⟩ := num_at ((Rep.num .u64 B64).sl.below hQ hB) k hkq
          have hsub := fun W => sub64_run p[k] q[k] cc hcc W
          go_wp2
          go_roundw
          case rel =>
            refine ⟨k + 1, subHi p[k] q[k] cc, outs.set k (subLo p[k] q[k] cc), by go_num, rfl, by omega, subHi_le _ _ _, by simpa using hol, hod.set k (subLo_lt _ _ _), hrow.setNum k _, ?_, below_setCell hB (Nat.le_refl _) _⟩
            have h1 := sub_parts hbd hbd' hcc
            have h2 := hinv.out
            show _ = _
            rw [Pl.val_take_set B64 outs k _ (by omega), Pl.val_take_succ B64 p k hlt, Pl.val_take_succ B64 q k hkq, Nat.pow_succ]
            have h3 := congrArg (B64 ^ k * ·) h1
            simp only [Nat.mul_add] at h3
            rw [Nat.mul_assoc]
            omega
          case measure => simp [intOf]; omega
        · have hsub : ∀ W : World, (callFunc 66 #[.int .u64 (p[k] : Int), .int .u64 0, .int .u64 (cc : Int)]).run Try.prog W = .ok (.value (.tuple #[.int .u64 (subLo p[k] 0 cc : Int), .int .u64 (subHi p[k] 0 cc : Int)])) W := fun W => sub64_run p[k] 0 cc hcc W
          go_wp2
          go_roundw
          case rel =>
            refine ⟨k + 1, subHi p[k] 0 cc, outs.set k (subLo p[k] 0 cc), by go_num, rfl, by omega, subHi_le _ _ _, by simpa using hol, hod.set k (subLo_lt _ _ _), hrow.setNum k _, ?_, below_setCell hB (Nat.le_refl _) _⟩
            have h1 := sub_parts hbd B64_pos hcc
            have h2 := hinv.out
            show _ = _
            rw [Pl.val_take_all B64 q k (by omega)] at h2
            rw [Pl.val_take_set B64 outs k _ (by omega), Pl.val_take_succ B64 p k hlt, Pl.val_take_all B64 q (k + 1) (by omega), Nat.pow_succ]
            have h3 := congrArg (B64 ^ k * ·) h1
            simp only [Nat.mul_add] at h3
            rw [Nat.mul_assoc]
            omega
          case measure => simp [intOf]; omega
      · obtain rfl : k = p.length := by omega
        have hval : Pl.val B64 outs = m - n := by
          have h2 := hinv.out
          have h6 := Pl.val_lt hod
          rw [Pl.val_take_all B64 p _ (Nat.le_refl _), Pl.val_take_all B64 q _ (by omega), Pl.val_take_all B64 outs _ (by omega)] at h2
          rw [hol] at h6
          have h4 := Ea.out
          have h5 := Eb.out
          rcases Nat.eq_zero_or_pos cc with h0 | h0
          · subst h0; simp only [Nat.mul_zero] at h2; omega
          · have : cc = 1 := by omega
            subst this; simp only [Nat.mul_one] at h2; omega
        have Hval := hid hval
        have hres := hrow.slNum (S := Fresh w wr) ⟨by have := hsz.out; omega, hrow.lt⟩ hod p.length (by omega) (by omega) (by omega)
        rw [hol] at hres
        have hB' := below_trans hB0 hB
        clear hval hB hrow hinv
        go_wp2_with fail
        refine (trim_calls hres).mono ?_
        rintro e w' ⟨⟨u, rfl, hu⟩, rfl⟩
        go_wp2
        go_ret2
        exact ⟨⟨_, rfl, _, hu, Pl.trim_canon _, by rw [Pl.trim_val]; exact Hval.out⟩, hB'⟩


end Go.Proofs.Ytphbacggmhjmgaa
