/- The references' numbers, third part: sums, differences, products. -/
import Derived.Test.YtphbacggmhjmgaaRefB
namespace Go.Proofs.Ytphbacggmhjmgaa
open Go.RowKit

theorem val_take_getD (B : Nat) (xs : List Nat) (i : Nat) : Pl.val B (xs.take (i + 1)) = Pl.val B (xs.take i) + B ^ i * xs.getD i 0 := by
  rcases Nat.lt_or_ge i xs.length with h | h
  · rw [Pl.val_take_succ B xs i h, dec_at xs i h]
  · rw [List.take_of_length_le (by omega), List.take_of_length_le h, List.getD_eq_getElem?_getD, List.getElem?_eq_none h]; simp
theorem getD_lt {B : Nat} {xs : List Nat} (hd : Pl.Dig B xs) (hB : 0 < B) (i : Nat) : xs.getD i 0 < B := by
  rcases Nat.lt_or_ge i xs.length with h | h
  · rw [dec_at xs i h]; exact hd.at i h
  · rw [List.getD_eq_getElem?_getD, List.getElem?_eq_none h]; exact hB


set_option maxHeartbeats 4000000 in
set_option maxRecDepth 100000 in
theorem radd_calls {w : World} {S T : Nat → Prop} {m n : Nat} {va vb : Value} (ha : RefN.rep S w m [va]) (hb : RefN.rep T w n [vb]) (hm : Small m) (hn : Small n) :
    Calls Try.prog 42 #[va, vb] w fun e w' => (∃ u, e = .returned u ∧ RefN.rep (Fresh w w') w' (m + n) [u]) ∧ Below w.heap.size w w' := by
  obtain ⟨xs, hx, cx, ex⟩ := ha
  obtain ⟨ys, hy, cy, ey⟩ := hb
  have hdx := num_dig hx
  have hdy := num_dig hy
  have hlx := ref_len hdx cx ex hm
  have hly := ref_len hdy cy ey hn
  obtain ⟨A, c1, rfl, hc1, hm1⟩ := sl_open hx
  obtain ⟨A', c2, rfl, hc2, hm2⟩ := sl_open hy
  have Ex := hid ex
  have Ey := hid ey
  obtain ⟨M, hM⟩ : ∃ M, M = max xs.length ys.length := ⟨_, rfl⟩
  have hM1 : xs.length ≤ M := by omega
  have hM2 : ys.length ≤ M := by omega
  have hM3 : M ≤ 100000 := by omega
  clear ex ey hM hm hn cx cy
  go_enter Try.func42, Try.ntmps42
  go_wp2_with fail
  go_loopw [5, 6, 7] (fun ov cv iv wr => ∃ (i c : Nat) (ds : List Nat), iv = .int .i64 (i : Int) ∧ cv = .int .i64 (c : Int) ∧ (i ≤ M ∨ c = 0 ∧ i = M + 1) ∧ c ≤ 1 ∧ ds.length = i ∧ Pl.Dig 65536 ds ∧ Hid (Pl.val 65536 ds + 65536 ^ i * c = Pl.val 65536 (xs.take i) + Pl.val 65536 (ys.take i)) ∧ Own (Rep.num .i64 65536) w.heap.size 3 (fun _ => False) wr ds ov ∧ Below w.heap.size w wr) (fun _ _ iv _ => M + 2 - (intOf iv).toNat)
  case atStart => exact ⟨0, 0, [], rfl, rfl, .inl (by omega), by omega, rfl, Pl.Dig.nil _, hid (by simp [Pl.val]), Own.nil _ _ _ _ _, Below.refl _ _⟩
  case round =>
    obtain ⟨i, c, ds, rfl, rfl, hstop, hc, hdl, hdd, hinv, hown, hB⟩ := hrel
    obtain ⟨wo, rfl⟩ : ∃ wo : World, wo = wr := ⟨_, rfl⟩
    have hxo := (Rep.num .i64 65536).sl.below hx hB
    have hyo := (Rep.num .i64 65536).sl.below hy hB
    by_cases h1 : i < xs.length
    · obtain ⟨X, hX⟩ : ∃ X, X = xs.getD i 0 := ⟨_, rfl⟩
      obtain ⟨Y, hY⟩ : ∃ Y, Y = ys.getD i 0 := ⟨_, rfl⟩
      obtain ⟨D, hD⟩ : ∃ D, D = (X + Y + c) % 65536 := ⟨_, rfl⟩
      obtain ⟨C, hC⟩ : ∃ C, C = (X + Y + c) / 65536 := ⟨_, rfl⟩
      have hXb : X < 65536 := by rw [hX]; exact getD_lt hdx (by omega) i
      have hYb : Y < 65536 := by rw [hY]; exact getD_lt hdy (by omega) i
      have q1 : ((X : Int) + (Y : Int) + (c : Int)) % 65536 = (D : Int) := by omega
      have q2 : ((X : Int) + (Y : Int) + (c : Int)) / 65536 = (C : Int) := by omega
      have hDb : D < 65536 := by omega
      have hCb : C ≤ 1 := by omega
      have hinv2 : Hid (Pl.val 65536 (ds ++ [D]) + 65536 ^ (i + 1) * C = Pl.val 65536 (xs.take (i + 1)) + Pl.val 65536 (ys.take (i + 1))) := by
        show _ = _
        have h1 := hinv.out
        rw [Pl.val_snoc, hdl, val_take_getD, val_take_getD, ← hX, ← hY, Nat.pow_succ, Nat.mul_assoc]
        have h2 := congrArg (65536 ^ i * ·) (show D + 65536 * C = X + Y + c by omega)
        simp only [Nat.mul_add] at h2
        omega
      have hdl2 : Hid ((ds ++ [D]).length = i + 1) := by show _ = _; simp; omega
      have hds : (ds.length + 1) * 8 ≤ 140737488355328 := by omega
      have hdn := hdd.append (Pl.Dig.one hDb)
      have hstop2 : i + 1 ≤ M ∨ C = 0 ∧ i + 1 = M + 1 := by
        rcases Nat.lt_or_ge i M with h | h
        · exact .inl h
        · right
          have hX0 : X = 0 := by rw [hX, List.getD_eq_getElem?_getD, List.getElem?_eq_none (by omega)]; rfl
          have hY0 : Y = 0 := by rw [hY, List.getD_eq_getElem?_getD, List.getElem?_eq_none (by omega)]; rfl
          omega
      have HX := hid hX
      have HY := hid hY
      clear hX hY hD hC hinv hdl hstop
      go_wp2_with fail
      refine (at_calls hxo i (by omega)).mono ?_
      rintro e w2 ⟨rfl, rfl⟩
      rw [← HX.out]
      go_wp2_with fail
      refine (at_calls hyo i (by omega)).mono ?_
      rintro e w2 ⟨rfl, rfl⟩
      rw [← HY.out]
      go_wp2_with (at_builtin; refine wpList_push (B := 65536) rfl _ _ 35 3 rfl Try.underlying35 info3 wo D rfl _ ds rfl rfl hown hDb rfl hds hB ?_)
      intro v' w' hown' hb'
      go_wp2_with fail
      go_roundw
      case rel => exact ⟨i + 1, C, _, by go_num, by first | rfl | rw [q2], hstop2, hCb, hdl2.out, hdn, hinv2, hown', hb'⟩
      case measure => simp [intOf] <;> omega
      skip
    by_cases h2 : i < ys.length
    · obtain ⟨X, hX⟩ : ∃ X, X = xs.getD i 0 := ⟨_, rfl⟩
      obtain ⟨Y, hY⟩ : ∃ Y, Y = ys.getD i 0 := ⟨_, rfl⟩
      obtain ⟨D, hD⟩ : ∃ D, D = (X + Y + c) % 65536 := ⟨_, rfl⟩
      obtain ⟨C, hC⟩ : ∃ C, C = (X + Y + c) / 65536 := ⟨_, rfl⟩
      have hXb : X < 65536 := by rw [hX]; exact getD_lt hdx (by omega) i
      have hYb : Y < 65536 := by rw [hY]; exact getD_lt hdy (by omega) i
      have q1 : ((X : Int) + (Y : Int) + (c : Int)) % 65536 = (D : Int) := by omega
      have q2 : ((X : Int) + (Y : Int) + (c : Int)) / 65536 = (C : Int) := by omega
      have hDb : D < 65536 := by omega
      have hCb : C ≤ 1 := by omega
      have hinv2 : Hid (Pl.val 65536 (ds ++ [D]) + 65536 ^ (i + 1) * C = Pl.val 65536 (xs.take (i + 1)) + Pl.val 65536 (ys.take (i + 1))) := by
        show _ = _
        have h1 := hinv.out
        rw [Pl.val_snoc, hdl, val_take_getD, val_take_getD, ← hX, ← hY, Nat.pow_succ, Nat.mul_assoc]
        have h2 := congrArg (65536 ^ i * ·) (show D + 65536 * C = X + Y + c by omega)
        simp only [Nat.mul_add] at h2
        omega
      have hdl2 : Hid ((ds ++ [D]).length = i + 1) := by show _ = _; simp; omega
      have hds : (ds.length + 1) * 8 ≤ 140737488355328 := by omega
      have hdn := hdd.append (Pl.Dig.one hDb)
      have hstop2 : i + 1 ≤ M ∨ C = 0 ∧ i + 1 = M + 1 := by
        rcases Nat.lt_or_ge i M with h | h
        · exact .inl h
        · right
          have hX0 : X = 0 := by rw [hX, List.getD_eq_getElem?_getD, List.getElem?_eq_none (by omega)]; rfl
          have hY0 : Y = 0 := by rw [hY, List.getD_eq_getElem?_getD, List.getElem?_eq_none (by omega)]; rfl
          omega
      have HX := hid hX
      have HY := hid hY
      clear hX hY hD hC hinv hdl hstop
      go_wp2_with fail
      refine (at_calls hxo i (by omega)).mono ?_
      rintro e w2 ⟨rfl, rfl⟩
      rw [← HX.out]
      go_wp2_with fail
      refine (at_calls hyo i (by omega)).mono ?_
      rintro e w2 ⟨rfl, rfl⟩
      rw [← HY.out]
      go_wp2_with (at_builtin; refine wpList_push (B := 65536) rfl _ _ 35 3 rfl Try.underlying35 info3 wo D rfl _ ds rfl rfl hown hDb rfl hds hB ?_)
      intro v' w' hown' hb'
      go_wp2_with fail
      go_roundw
      case rel => exact ⟨i + 1, C, _, by go_num, by first | rfl | rw [q2], hstop2, hCb, hdl2.out, hdn, hinv2, hown', hb'⟩
      case measure => simp [intOf] <;> omega
      skip
    by_cases h3 : 0 < c
    · obtain ⟨X, hX⟩ : ∃ X, X = xs.getD i 0 := ⟨_, rfl⟩
      obtain ⟨Y, hY⟩ : ∃ Y, Y = ys.getD i 0 := ⟨_, rfl⟩
      obtain ⟨D, hD⟩ : ∃ D, D = (X + Y + c) % 65536 := ⟨_, rfl⟩
      obtain ⟨C, hC⟩ : ∃ C, C = (X + Y + c) / 65536 := ⟨_, rfl⟩
      have hXb : X < 65536 := by rw [hX]; exact getD_lt hdx (by omega) i
      have hYb : Y < 65536 := by rw [hY]; exact getD_lt hdy (by omega) i
      have q1 : ((X : Int) + (Y : Int) + (c : Int)) % 65536 = (D : Int) := by omega
      have q2 : ((X : Int) + (Y : Int) + (c : Int)) / 65536 = (C : Int) := by omega
      have hDb : D < 65536 := by omega
      have hCb : C ≤ 1 := by omega
      have hinv2 : Hid (Pl.val 65536 (ds ++ [D]) + 65536 ^ (i + 1) * C = Pl.val 65536 (xs.take (i + 1)) + Pl.val 65536 (ys.take (i + 1))) := by
        show _ = _
        have h1 := hinv.out
        rw [Pl.val_snoc, hdl, val_take_getD, val_take_getD, ← hX, ← hY, Nat.pow_succ, Nat.mul_assoc]
        have h2 := congrArg (65536 ^ i * ·) (show D + 65536 * C = X + Y + c by omega)
        simp only [Nat.mul_add] at h2
        omega
      have hdl2 : Hid ((ds ++ [D]).length = i + 1) := by show _ = _; simp; omega
      have hds : (ds.length + 1) * 8 ≤ 140737488355328 := by omega
      have hdn := hdd.append (Pl.Dig.one hDb)
      have hstop2 : i + 1 ≤ M ∨ C = 0 ∧ i + 1 = M + 1 := by
        rcases Nat.lt_or_ge i M with h | h
        · exact .inl h
        · right
          have hX0 : X = 0 := by rw [hX, List.getD_eq_getElem?_getD, List.getElem?_eq_none (by omega)]; rfl
          have hY0 : Y = 0 := by rw [hY, List.getD_eq_getElem?_getD, List.getElem?_eq_none (by omega)]; rfl
          omega
      have HX := hid hX
      have HY := hid hY
      clear hX hY hD hC hinv hdl hstop
      go_wp2_with fail
      refine (at_calls hxo i (by omega)).mono ?_
      rintro e w2 ⟨rfl, rfl⟩
      rw [← HX.out]
      go_wp2_with fail
      refine (at_calls hyo i (by omega)).mono ?_
      rintro e w2 ⟨rfl, rfl⟩
      rw [← HY.out]
      go_wp2_with (at_builtin; refine wpList_push (B := 65536) rfl _ _ 35 3 rfl Try.underlying35 info3 wo D rfl _ ds rfl rfl hown hDb rfl hds hB ?_)
      intro v' w' hown' hb'
      go_wp2_with fail
      go_roundw
      case rel => exact ⟨i + 1, C, _, by go_num, by first | rfl | rw [q2], hstop2, hCb, hdl2.out, hdn, hinv2, hown', hb'⟩
      case measure => simp [intOf] <;> omega
      skip
    · obtain rfl : c = 0 := by omega
      have hv := hinv.out
      rw [Nat.mul_zero, Nat.add_zero, List.take_of_length_le (by omega), List.take_of_length_le (by omega), Ex.out, Ey.out] at hv
      have Hv := hid hv
      have hsl := own_ref hown (by omega)
      clear hv hinv hdl hstop
      go_wp2_with fail
      refine (rtrim_calls hsl).mono ?_
      rintro e w' ⟨⟨u, rfl, hu⟩, rfl⟩
      go_wp2
      go_ret
      exact ⟨⟨_, rfl, _, hu, Pl.trim_canon _, by rw [Pl.trim_val]; exact Hv.out⟩, hB⟩


set_option maxHeartbeats 4000000 in
set_option maxRecDepth 100000 in
theorem rsub_calls {w : World} {S T : Nat → Prop} {m n : Nat} {va vb : Value} (ha : RefN.rep S w m [va]) (hb : RefN.rep T w n [vb]) (hm : Small m) (hnm : n ≤ m) :
    Calls Try.prog 28 #[va, vb] w fun e w' => (∃ u, e = .returned u ∧ RefN.rep (Fresh w w') w' (m - n) [u]) ∧ Below w.heap.size w w' := by
  obtain ⟨xs, hx, cx, ex⟩ := ha
  obtain ⟨ys, hy, cy, ey⟩ := hb
  have hdx := num_dig hx
  have hdy := num_dig hy
  have hlx := ref_len hdx cx ex hm
  have hly := Pl.canon_len (B := 65536) (by omega) hdx cy (show Pl.val 65536 ys ≤ Pl.val 65536 xs by rw [ex, ey]; exact hnm)
  obtain ⟨A, c1, rfl, hc1, hm1⟩ := sl_open hx
  obtain ⟨A', c2, rfl, hc2, hm2⟩ := sl_open hy
  have Ex := hid ex
  have Ey := hid ey
  clear ex ey hm cx cy
  go_enter Try.func28, Try.ntmps28
  go_wp2_with fail
  go_loopw [5, 6, 7] (fun ov cv iv wr => ∃ (i c : Nat) (ds : List Nat), iv = .int .i64 (i : Int) ∧ cv = .int .i64 (c : Int) ∧ i ≤ xs.length ∧ c ≤ 1 ∧ ds.length = i ∧ Pl.Dig 65536 ds ∧ Hid (Pl.val 65536 ds + Pl.val 65536 (ys.take i) = Pl.val 65536 (xs.take i) + 65536 ^ i * c) ∧ Own (Rep.num .i64 65536) w.heap.size 3 (fun _ => False) wr ds ov ∧ Below w.heap.size w wr) (fun _ _ iv _ => xs.length - (intOf iv).toNat)
  case atStart => exact ⟨0, 0, [], rfl, rfl, by omega, by omega, rfl, Pl.Dig.nil _, hid (by simp [Pl.val]), Own.nil _ _ _ _ _, Below.refl _ _⟩
  case round =>
    obtain ⟨i, c, ds, rfl, rfl, hi, hc, hdl, hdd, hinv, hown, hB⟩ := hrel
    obtain ⟨wo, rfl⟩ : ∃ wo : World, wo = wr := ⟨_, rfl⟩
    have hxo := (Rep.num .i64 65536).sl.below hx hB
    have hyo := (Rep.num .i64 65536).sl.below hy hB
    by_cases hlt : i < xs.length
    · obtain ⟨X, hX⟩ : ∃ X, X = xs.getD i 0 := ⟨_, rfl⟩
      obtain ⟨Y, hY⟩ : ∃ Y, Y = ys.getD i 0 := ⟨_, rfl⟩
      have hXb : X < 65536 := by rw [hX]; exact getD_lt hdx (by omega) i
      have hYb : Y < 65536 := by rw [hY]; exact getD_lt hdy (by omega) i
      by_cases hneg : X < Y + c
      · obtain ⟨D, hD⟩ : ∃ D, D = X + 65536 - Y - c := ⟨_, rfl⟩
        obtain ⟨C, hC⟩ : ∃ C, C = 1 := ⟨_, rfl⟩
        have q0 : (X : Int) - (Y : Int) - (c : Int) < 0 := by omega
        have q1 : (X : Int) - (Y : Int) - (c : Int) + 65536 = (D : Int) := by omega
        have hDb : D < 65536 := by omega
        have hCb : C ≤ 1 := by omega
        have HCC := hid hC
        have hinv2 : Hid (Pl.val 65536 (ds ++ [D]) + Pl.val 65536 (ys.take (i + 1)) = Pl.val 65536 (xs.take (i + 1)) + 65536 ^ (i + 1) * C) := by
          show _ = _
          have h1 := hinv.out
          rw [Pl.val_snoc, hdl, val_take_getD, val_take_getD, ← hX, ← hY, Nat.pow_succ, Nat.mul_assoc]
          have h2 := congrArg (65536 ^ i * ·) (show D + Y + c = X + 65536 * C by omega)
          simp only [Nat.mul_add] at h2
          omega
        have hdl2 : Hid ((ds ++ [D]).length = i + 1) := by show _ = _; simp; omega
        have hds : (ds.length + 1) * 8 ≤ 140737488355328 := by omega
        have hdn := hdd.append (Pl.Dig.one hDb)
        have HX := hid hX
        have HY := hid hY
        clear hX hY hD hC hinv hdl
        go_wp2_with fail
        refine (at_calls hxo i (by omega)).mono ?_
        rintro e w2 ⟨rfl, rfl⟩
        rw [← HX.out]
        go_wp2_with fail
        refine (at_calls hyo i (by omega)).mono ?_
        rintro e w2 ⟨rfl, rfl⟩
        rw [← HY.out]
        go_wp2_with (at_builtin; refine wpList_push (B := 65536) rfl _ _ 35 3 rfl Try.underlying35 info3 wo D rfl _ ds rfl rfl hown hDb rfl hds hB ?_)
        intro v' w' hown' hb'
        go_wp2_with fail
        go_roundw
        case rel => exact ⟨i + 1, C, _, by go_num, by rw [HCC.out]; rfl, by omega, hCb, hdl2.out, hdn, hinv2, hown', hb'⟩
        case measure => simp [intOf] <;> omega
        skip
      · obtain ⟨D, hD⟩ : ∃ D, D = X - Y - c := ⟨_, rfl⟩
        obtain ⟨C, hC⟩ : ∃ C, C = 0 := ⟨_, rfl⟩
        have q0 : ¬ (X : Int) - (Y : Int) - (c : Int) < 0 := by omega
        have q1 : (X : Int) - (Y : Int) - (c : Int) = (D : Int) := by omega
        have hDb : D < 65536 := by omega
        have hCb : C ≤ 1 := by omega
        have HCC := hid hC
        have hinv2 : Hid (Pl.val 65536 (ds ++ [D]) + Pl.val 65536 (ys.take (i + 1)) = Pl.val 65536 (xs.take (i + 1)) + 65536 ^ (i + 1) * C) := by
          show _ = _
          have h1 := hinv.out
          rw [Pl.val_snoc, hdl, val_take_getD, val_take_getD, ← hX, ← hY, Nat.pow_succ, Nat.mul_assoc]
          have h2 := congrArg (65536 ^ i * ·) (show D + Y + c = X + 65536 * C by omega)
          simp only [Nat.mul_add] at h2
          omega
        have hdl2 : Hid ((ds ++ [D]).length = i + 1) := by show _ = _; simp; omega
        have hds : (ds.length + 1) * 8 ≤ 140737488355328 := by omega
        have hdn := hdd.append (Pl.Dig.one hDb)
        have HX := hid hX
        have HY := hid hY
        clear hX hY hD hC hinv hdl
        go_wp2_with fail
        refine (at_calls hxo i (by omega)).mono ?_
        rintro e w2 ⟨rfl, rfl⟩
        rw [← HX.out]
        go_wp2_with fail
        refine (at_calls hyo i (by omega)).mono ?_
        rintro e w2 ⟨rfl, rfl⟩
        rw [← HY.out]
        go_wp2_with (at_builtin; refine wpList_push (B := 65536) rfl _ _ 35 3 rfl Try.underlying35 info3 wo D rfl _ ds rfl rfl hown hDb rfl hds hB ?_)
        intro v' w' hown' hb'
        go_wp2_with fail
        go_roundw
        case rel => exact ⟨i + 1, C, _, by go_num, by rw [HCC.out]; rfl, by omega, hCb, hdl2.out, hdn, hinv2, hown', hb'⟩
        case measure => simp [intOf] <;> omega
        skip
    · obtain rfl : i = xs.length := by omega
      have hv : Pl.val 65536 ds = m - n := by
        have h1 := hinv.out
        rw [List.take_of_length_le hly, List.take_length, Ex.out, Ey.out] at h1
        have h2 := Pl.val_lt hdd
        rw [hdl] at h2
        rcases Nat.eq_zero_or_pos c with h | h
        · subst h; omega
        · have : c = 1 := by omega
          subst this; omega
      have Hv := hid hv
      have hsl := own_ref hown (by omega)
      clear hv hinv hdl
      go_wp2_with fail
      refine (rtrim_calls hsl).mono ?_
      rintro e w' ⟨⟨u, rfl, hu⟩, rfl⟩
      go_wp2
      go_ret
      exact ⟨⟨_, rfl, _, hu, Pl.trim_canon _, by rw [Pl.trim_val]; exact Hv.out⟩, hB⟩

theorem run_make_num (m : Nat) (hm : m * 8 ≤ 281474976710656) (W : World) :
    (Instr.makeSlice 35 (.int .i64 (m : Int)) (.int .i64 (m : Int))).run Try.prog W = .ok (.slice (some ⟨W.heap.size, 0, none⟩) m m) (W.alloc (.cells (zerosOf (.int .i64 0) m) 3)) :=
  run_make_one 35 3 (.int .i64 0) 8 Try.underlying35 info3 rfl m (by omega) (by omega) W
theorem zero_set {xs : List Nat} {a i d : Nat} (h : ∀ t (ht : t < xs.length), a ≤ t → xs[t] = 0) (hi : i < a) : ∀ t (ht : t < (xs.set i d).length), a ≤ t → (xs.set i d)[t] = 0 := by
  intro t ht ha
  rw [List.getElem_set_ne (by omega)]
  exact h t (by simpa using ht) ha

theorem at_quiet {w : World} {S : Nat → Prop} {xs : List Nat} {v : Value} (h : IntS.rep S w xs [v]) (i Y : Nat) (hi : i ≤ 1000000000000) (hY : Hid (xs.getD i 0 = Y)) :
    Calls Try.prog 55 #[v, .int .i64 (i : Int)] w fun e w' => e = .returned (.int .i64 (Y : Int)) ∧ ∃ n, w' = w.drewN n := by
  rw [← hY.out]
  exact (at_calls h i hi).mono fun e w' ⟨h1, h2⟩ => ⟨h1, 0, h2.symm⟩
theorem still_below' {B : Nat} {w0 w w' : World} (h : Below B w0 w) (k : Still w w') : Below B w0 w' :=
  ⟨k.below.os.trans h.os, k.below.tape.trans h.tape, k.below.output.trans h.output, Nat.le_trans h.size k.below.size, fun b hb => by rw [k.heap]; exact h.block b hb⟩


set_option maxHeartbeats 4000000 in
set_option maxRecDepth 100000 in
theorem rmul_calls {w : World} {S T : Nat → Prop} {m n : Nat} {va vb : Value} (ha : RefN.rep S w m [va]) (hb : RefN.rep T w n [vb]) (hm : Small m) (hn : Small n) :
    Calls Try.prog 62 #[va, vb] w fun e w' => (∃ u, e = .returned u ∧ RefN.rep (Fresh w w') w' (m * n) [u]) ∧ Below w.heap.size w w' := by
  obtain ⟨xs, hx, cx, ex⟩ := ha
  obtain ⟨ys, hy, cy, ey⟩ := hb
  have hdx := num_dig hx
  have hdy := num_dig hy
  have hlx := ref_len hdx cx ex hm
  have hly := ref_len hdy cy ey hn
  obtain ⟨A, c1, rfl, hc1, hm1⟩ := sl_open hx
  obtain ⟨A', c2, rfl, hc2, hm2⟩ := sl_open hy
  have Ex := hid ex
  have Ey := hid ey
  have hmk : ∀ W : World, (Instr.makeSlice 35 (.int .i64 ((xs.length : Int) + (ys.length : Int) + 1)) (.int .i64 ((xs.length : Int) + (ys.length : Int) + 1))).run Try.prog W = .ok (.slice (some ⟨W.heap.size, 0, none⟩) (xs.length + ys.length + 1) (xs.length + ys.length + 1)) (W.alloc (.cells (zerosOf (.int .i64 0) (xs.length + ys.length + 1)) 3)) := fun W => run_make_num (xs.length + ys.length + 1) (by omega) W
  have hrow0 := Row.new w 3 (zerosOf (.int .i64 0) (xs.length + ys.length + 1))
  rw [zerosOf_num] at hrow0
  have hb0 := below_alloc (Below.refl w.heap.size w) (.cells (zerosOf (.int .i64 0) (xs.length + ys.length + 1)) 3)
  clear ex ey hm hn cx cy
  go_enter Try.func62, Try.ntmps62
  go_wp2_with fail
  go_loopw [6] (fun iv wr => ∃ (i : Nat) (os : List Nat), iv = .int .i64 (i : Int) ∧ i ≤ xs.length ∧ os.length = xs.length + ys.length + 1 ∧ Pl.Dig 65536 os ∧ Row wr w.heap.size 3 (nums .i64 os) ∧ Hid (Pl.val 65536 os = Pl.val 65536 (xs.take i) * n) ∧ Hid (∀ t (ht : t < os.length), i + ys.length ≤ t → os[t] = 0) ∧ Below w.heap.size w wr) (fun iv _ => xs.length - (intOf iv).toNat)
  case atStart => exact ⟨0, List.replicate (xs.length + ys.length + 1) 0, rfl, by omega, by simp, Pl.Dig.replicate (by omega) _, hrow0, hid (by rw [Pl.val_replicate]; simp [Pl.val]), hid (by intro t ht _; simp), hb0⟩
  case round =>
    clear hrow0 hb0 hmk
    obtain ⟨i, os, rfl, hi, hol, hod, hrow, hinv, hzero, hB⟩ := hrel
    obtain ⟨wo, rfl⟩ : ∃ wo : World, wo = wr := ⟨_, rfl⟩
    by_cases hlt : i < xs.length
    · go_wp2_with fail
      go_loopw [7, 8] (fun cv kv wr => ∃ (k c : Nat) (os : List Nat), kv = .int .i64 (k : Int) ∧ cv = .int .i64 (c : Int) ∧ (k ≤ ys.length ∨ c = 0 ∧ k = ys.length + 1) ∧ c < 65536 ∧ os.length = xs.length + ys.length + 1 ∧ Pl.Dig 65536 os ∧ Row wr w.heap.size 3 (nums .i64 os) ∧
        Hid (Pl.val 65536 os + 65536 ^ (i + k) * c = Pl.val 65536 (xs.take i) * n + 65536 ^ i * (xs[i] * Pl.val 65536 (ys.take k))) ∧ Hid (∀ t (ht : t < os.length), i + ys.length + (k - ys.length) ≤ t → os[t] = 0) ∧ Below w.heap.size w wr) (fun _ kv _ => ys.length + 2 - (intOf kv).toNat)
      case atStart => exact ⟨0, 0, os, rfl, rfl, .inl (by omega), by omega, hol, hod, hrow, hid (by simp [Pl.val, hinv.out]), hid (by simpa using hzero.out), hB⟩
      case round =>
        clear hrow hB hinv hzero hod hol os
        obtain ⟨k, c, os, rfl, rfl, hstop, hc, hol, hod, hrow, hinv, hzero, hB⟩ := hrel
        obtain ⟨wp, rfl⟩ : ∃ wp : World, wp = wr := ⟨_, rfl⟩
        by_cases h1 : k < ys.length
        · have hko : i + k < os.length := by omega
          have hcell1 := hrow.num (k := .i64) (i + k) hko
          have hf1 := hrow.frozen (i + k)
          obtain ⟨b1, o1, rfl, _, hxc, hxb⟩ := num_at ((Rep.num .i64 65536).sl.below hx hB) i hlt
          obtain ⟨X, hX⟩ : ∃ X, X = xs[i] := ⟨_, rfl⟩
          rw [← hX] at hxc hxb
          obtain ⟨Y, hY⟩ : ∃ Y, Y = ys.getD k 0 := ⟨_, rfl⟩
          have hYb : Y < 65536 := by rw [hY]; exact getD_lt hdy (by omega) k
          obtain ⟨O, hO⟩ : ∃ O, O = os[i + k] := ⟨_, rfl⟩
          have hOb : O < 65536 := by rw [hO]; exact hod.at (i + k) hko
          rw [← hO] at hcell1
          obtain ⟨Z, hZ⟩ : ∃ Z, Z = X * Y := ⟨_, rfl⟩
          have hZb : Z ≤ 65535 * 65535 := by rw [hZ]; exact Nat.mul_le_mul (by omega) (by omega)
          have q0 : (X : Int) * (Y : Int) = (Z : Int) := by rw [hZ]; push_cast; rfl
          obtain ⟨D, hD⟩ : ∃ D, D = (O + Z + c) % 65536 := ⟨_, rfl⟩
          obtain ⟨C, hC⟩ : ∃ C, C = (O + Z + c) / 65536 := ⟨_, rfl⟩
          obtain ⟨V, hV⟩ : ∃ V, V = O + Z + c := ⟨_, rfl⟩
          obtain ⟨U, hU⟩ : ∃ U, U = O + Z := ⟨_, rfl⟩
          have hVb : V ≤ 5000000000 := by omega
          have q1 : (V : Int) % 65536 = (D : Int) := by omega
          have q2 : (V : Int) / 65536 = (C : Int) := by omega
          have z1 : IntKind.i64.wrap ((i : Int) + (k : Int)) = ((i + k : Nat) : Int) := by rw [show (i : Int) + (k : Int) = ((i + k : Nat) : Int) by omega]; exact IntWalk.i64_in _ (by omega)
          have z2 : IntKind.i64.wrap ((X : Int) * (Y : Int)) = (Z : Int) := by rw [q0]; exact IntWalk.i64_in _ (by omega)
          have z3 : IntKind.i64.wrap ((O : Int) + (Z : Int)) = (U : Int) := by rw [hU]; push_cast; exact IntWalk.i64_in _ (by omega)
          have z4 : IntKind.i64.wrap ((U : Int) + (c : Int)) = (V : Int) := by rw [show (U : Int) + (c : Int) = (V : Int) by omega]; exact IntWalk.i64_in _ (by omega)
          have z5 : (0 : Int) ≤ ((i + k : Nat) : Int) := by omega
          have z6 : ((i + k : Nat) : Int) < (xs.length : Int) + (ys.length : Int) + 1 := by omega
          have z7 : (0 : Int) ≤ (i : Int) := by omega
          have z8 : (i : Int) < (xs.length : Int) := by omega
          have hDb : D < 65536 := by omega
          have hCb : C < 65536 := by omega
          have hinv2 : Hid (Pl.val 65536 (os.set (i + k) D) + 65536 ^ (i + (k + 1)) * C = Pl.val 65536 (xs.take i) * n + 65536 ^ i * (xs[i] * Pl.val 65536 (ys.take (k + 1)))) := by
            show _ = _
            have h1 := hinv.out
            have h2 := congrArg (65536 ^ (i + k) * ·) (show D + 65536 * C = O + X * Y + c by rw [← hZ]; omega)
            have h3 := Pl.val_set 65536 os (i + k) D hko
            rw [← hO] at h3
            rw [val_take_getD, ← hY, show i + (k + 1) = (i + k) + 1 by omega, Nat.pow_succ, Nat.mul_assoc]
            simp only [Nat.mul_add] at h2 ⊢
            have h5 : 65536 ^ i * (xs[i] * (65536 ^ k * Y)) = 65536 ^ (i + k) * (X * Y) := by rw [← hX, Nat.pow_add, Nat.mul_left_comm X, Nat.mul_assoc]
            omega
          have hrow2 := hrow.setNum (k := .i64) (i + k) D
          have hod2 := hod.set (i + k) hDb
          have hB2 := below_setCell hB (p := ⟨w.heap.size, i + k, none⟩) (Nat.le_refl _) (.int .i64 (D : Int))
          have hol2 : Hid ((os.set (i + k) D).length = xs.length + ys.length + 1) := by show _ = _; simpa using hol
          have hzero2 : Hid (∀ t (ht : t < (os.set (i + k) D).length), i + ys.length + (k + 1 - ys.length) ≤ t → (os.set (i + k) D)[t] = 0) := by
            have h0 := hzero.out
            rw [show k - ys.length = 0 by omega] at h0
            show ∀ t _, _
            rw [show k + 1 - ys.length = 0 by omega]
            exact zero_set h0 (by omega)
          have hstop2 : k + 1 ≤ ys.length ∨ C = 0 ∧ k + 1 = ys.length + 1 := .inl h1
          have HY := hid hY.symm
          have hyq := (Rep.num .i64 65536).sl.below hy hB
          clear hX hY hO hZ hD hC hinv hol hzero hV hU hrow2 hB2 q0
          obtain ⟨L, hL⟩ : ∃ L : Int, L = ((i + k : Nat) : Int) := ⟨_, rfl⟩
          obtain ⟨J, hJ⟩ : ∃ J : Nat, J = i + k := ⟨_, rfl⟩
          rw [← hJ] at hcell1 hf1 z1 z5 z6 hko hod2 hol2 hinv2 hzero2
          have HJ := hid hJ
          clear hJ hL L
          go_wp2_with fail
          go_quiet ((go_at_call 55; exact Calls.quiet_of (at_quiet (rep_drewN _ hyq _) k Y (by omega) HY)))
          obtain ⟨wq, hwq⟩ : ∃ wq, wq = wp.drewN nq := ⟨_, rfl⟩
          rw [← hwq]
          have hstq : Still wp wq := by rw [hwq]; exact Still.drewN _ _
          clear hwq z1 z2 z3 z4
          have hrowq := hstq.row hrow
          have hcq := hrowq.num (k := .i64) J hko
          have hfq := hrowq.frozen J
          have hrow2 := hrowq.setNum (k := .i64) J D
          have hB2 := below_setCell (still_below' hB hstq) (p := ⟨w.heap.size, J, none⟩) (Nat.le_refl _) (.int .i64 (D : Int))
          have z9 : (i : Int) + (k : Int) = (J : Int) := by have := HJ.out; omega
          clear hrow hB hcell1 hf1 hstq hrowq
          go_wp2_with fail
          go_roundw
          case rel => exact ⟨k + 1, C, os.set J D, by go_num, by first | rfl | rw [q2], hstop2, hCb, hol2.out, hod2, hrow2, hinv2, hzero2, hB2⟩
          case measure => simp [intOf] <;> omega
          skip
        by_cases h2 : 0 < c
        · have hk : k = ys.length := by omega
          have hko : i + k < os.length := by omega
          have hcell1 := hrow.num (k := .i64) (i + k) hko
          have hf1 := hrow.frozen (i + k)
          obtain ⟨b1, o1, rfl, _, hxc, hxb⟩ := num_at ((Rep.num .i64 65536).sl.below hx hB) i hlt
          obtain ⟨X, hX⟩ : ∃ X, X = xs[i] := ⟨_, rfl⟩
          rw [← hX] at hxc hxb
          obtain ⟨Y, hY⟩ : ∃ Y, Y = ys.getD k 0 := ⟨_, rfl⟩
          have hYb : Y < 65536 := by rw [hY]; exact getD_lt hdy (by omega) k
          obtain ⟨O, hO⟩ : ∃ O, O = os[i + k] := ⟨_, rfl⟩
          have hOb : O < 65536 := by rw [hO]; exact hod.at (i + k) hko
          rw [← hO] at hcell1
          obtain ⟨Z, hZ⟩ : ∃ Z, Z = X * Y := ⟨_, rfl⟩
          have hZb : Z ≤ 65535 * 65535 := by rw [hZ]; exact Nat.mul_le_mul (by omega) (by omega)
          have q0 : (X : Int) * (Y : Int) = (Z : Int) := by rw [hZ]; push_cast; rfl
          obtain ⟨D, hD⟩ : ∃ D, D = (O + Z + c) % 65536 := ⟨_, rfl⟩
          obtain ⟨C, hC⟩ : ∃ C, C = (O + Z + c) / 65536 := ⟨_, rfl⟩
          obtain ⟨V, hV⟩ : ∃ V, V = O + Z + c := ⟨_, rfl⟩
          obtain ⟨U, hU⟩ : ∃ U, U = O + Z := ⟨_, rfl⟩
          have hVb : V ≤ 5000000000 := by omega
          have q1 : (V : Int) % 65536 = (D : Int) := by omega
          have q2 : (V : Int) / 65536 = (C : Int) := by omega
          have z1 : IntKind.i64.wrap ((i : Int) + (k : Int)) = ((i + k : Nat) : Int) := by rw [show (i : Int) + (k : Int) = ((i + k : Nat) : Int) by omega]; exact IntWalk.i64_in _ (by omega)
          have z2 : IntKind.i64.wrap ((X : Int) * (Y : Int)) = (Z : Int) := by rw [q0]; exact IntWalk.i64_in _ (by omega)
          have z3 : IntKind.i64.wrap ((O : Int) + (Z : Int)) = (U : Int) := by rw [hU]; push_cast; exact IntWalk.i64_in _ (by omega)
          have z4 : IntKind.i64.wrap ((U : Int) + (c : Int)) = (V : Int) := by rw [show (U : Int) + (c : Int) = (V : Int) by omega]; exact IntWalk.i64_in _ (by omega)
          have z5 : (0 : Int) ≤ ((i + k : Nat) : Int) := by omega
          have z6 : ((i + k : Nat) : Int) < (xs.length : Int) + (ys.length : Int) + 1 := by omega
          have z7 : (0 : Int) ≤ (i : Int) := by omega
          have z8 : (i : Int) < (xs.length : Int) := by omega
          have hDb : D < 65536 := by omega
          have hCb : C < 65536 := by omega
          have hinv2 : Hid (Pl.val 65536 (os.set (i + k) D) + 65536 ^ (i + (k + 1)) * C = Pl.val 65536 (xs.take i) * n + 65536 ^ i * (xs[i] * Pl.val 65536 (ys.take (k + 1)))) := by
            show _ = _
            have h1 := hinv.out
            have h2 := congrArg (65536 ^ (i + k) * ·) (show D + 65536 * C = O + X * Y + c by rw [← hZ]; omega)
            have h3 := Pl.val_set 65536 os (i + k) D hko
            rw [← hO] at h3
            rw [val_take_getD, ← hY, show i + (k + 1) = (i + k) + 1 by omega, Nat.pow_succ, Nat.mul_assoc]
            simp only [Nat.mul_add] at h2 ⊢
            have h5 : 65536 ^ i * (xs[i] * (65536 ^ k * Y)) = 65536 ^ (i + k) * (X * Y) := by rw [← hX, Nat.pow_add, Nat.mul_left_comm X, Nat.mul_assoc]
            omega
          have hrow2 := hrow.setNum (k := .i64) (i + k) D
          have hod2 := hod.set (i + k) hDb
          have hB2 := below_setCell hB (p := ⟨w.heap.size, i + k, none⟩) (Nat.le_refl _) (.int .i64 (D : Int))
          have hol2 : Hid ((os.set (i + k) D).length = xs.length + ys.length + 1) := by show _ = _; simpa using hol
          have hzero2 : Hid (∀ t (ht : t < (os.set (i + k) D).length), i + ys.length + (k + 1 - ys.length) ≤ t → (os.set (i + k) D)[t] = 0) := by
            intro t ht ha
            rw [List.getElem_set_ne (by omega)]
            exact hzero.out t (by simpa using ht) (by omega)
          have hY0 : Y = 0 := by rw [hY, List.getD_eq_getElem?_getD, List.getElem?_eq_none (by omega)]; rfl
          have hO0 : O = 0 := by rw [hO]; exact hzero.out (i + k) hko (by omega)
          have hZ0 : Z = 0 := by rw [hZ, hY0, Nat.mul_zero]
          have hstop2 : k + 1 ≤ ys.length ∨ C = 0 ∧ k + 1 = ys.length + 1 := .inr (by omega)
          clear hY0 hO0 hZ0 hk
          have HY := hid hY.symm
          have hyq := (Rep.num .i64 65536).sl.below hy hB
          clear hX hY hO hZ hD hC hinv hol hzero hV hU hrow2 hB2 q0
          obtain ⟨L, hL⟩ : ∃ L : Int, L = ((i + k : Nat) : Int) := ⟨_, rfl⟩
          obtain ⟨J, hJ⟩ : ∃ J : Nat, J = i + k := ⟨_, rfl⟩
          rw [← hJ] at hcell1 hf1 z1 z5 z6 hko hod2 hol2 hinv2 hzero2
          have HJ := hid hJ
          clear hJ hL L
          go_wp2_with fail
          go_quiet ((go_at_call 55; exact Calls.quiet_of (at_quiet (rep_drewN _ hyq _) k Y (by omega) HY)))
          obtain ⟨wq, hwq⟩ : ∃ wq, wq = wp.drewN nq := ⟨_, rfl⟩
          rw [← hwq]
          have hstq : Still wp wq := by rw [hwq]; exact Still.drewN _ _
          clear hwq z1 z2 z3 z4
          have hrowq := hstq.row hrow
          have hcq := hrowq.num (k := .i64) J hko
          have hfq := hrowq.frozen J
          have hrow2 := hrowq.setNum (k := .i64) J D
          have hB2 := below_setCell (still_below' hB hstq) (p := ⟨w.heap.size, J, none⟩) (Nat.le_refl _) (.int .i64 (D : Int))
          have z9 : (i : Int) + (k : Int) = (J : Int) := by have := HJ.out; omega
          clear hrow hB hcell1 hf1 hstq hrowq
          go_wp2_with fail
          go_roundw
          case rel => exact ⟨k + 1, C, os.set J D, by go_num, by first | rfl | rw [q2], hstop2, hCb, hol2.out, hod2, hrow2, hinv2, hzero2, hB2⟩
          case measure => simp [intOf] <;> omega
          skip
        · obtain rfl : c = 0 := by omega
          have hinv2 : Hid (Pl.val 65536 os = Pl.val 65536 (xs.take (i + 1)) * n) := by
            show _ = _
            have h1 := hinv.out
            rw [Nat.mul_zero, Nat.add_zero, List.take_of_length_le (l := ys) (by omega), Ey.out] at h1
            rw [h1, Pl.val_take_succ 65536 xs i hlt, Nat.add_mul, Nat.mul_assoc]
          have hzero2 : Hid (∀ t (ht : t < os.length), i + 1 + ys.length ≤ t → os[t] = 0) := hid (fun t ht ha => hzero.out t ht (by omega))
          clear hinv hzero
          go_wp2_with fail
          go_roundw
          case rel => exact ⟨i + 1, os, by go_num, by omega, hol, hod, hrow, hinv2, hzero2, hB⟩
          case measure => simp [intOf] <;> omega
    · obtain rfl : i = xs.length := by omega
      have hv := hinv.out
      rw [List.take_length, Ex.out] at hv
      have Hv := hid hv
      have hsl := hrow.slNum (B := 65536) (S := Fresh w wo) ⟨Nat.le_refl _, hrow.lt⟩ hod (xs.length + ys.length + 1) (by omega) (by omega) (by omega)
      rw [hol] at hsl
      clear hv hinv hzero hol
      go_wp2_with fail
      refine (rtrim_calls hsl).mono ?_
      rintro e w' ⟨⟨u, rfl, hu⟩, rfl⟩
      go_wp2
      go_ret
      exact ⟨⟨_, rfl, _, hu, Pl.trim_canon _, by rw [Pl.trim_val]; exact Hv.out⟩, hB⟩

end Go.Proofs.Ytphbacggmhjmgaa
