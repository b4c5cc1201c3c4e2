/- The references' numbers, second part: of digits of 64 bits, and back; how two stand to one another. -/
import Derived.Test.YtphbacggmhjmgaaRefA
import Derived.Test.YtphbacggmhjmgaaDiv
namespace Go.Proofs.Ytphbacggmhjmgaa
open Go.RowKit

theorem B64_16 : B64 = 65536 ^ 4 := by decide
theorem B64_pow16 (i : Nat) : B64 ^ i = 65536 ^ (4 * i) := by rw [B64_16, ← Nat.pow_mul]

theorem u64_wrap_nat2 {a b : Nat} (h : a + b < B64) : IntKind.u64.wrap ((a : Int) + (b : Int)) = ((a + b : Nat) : Int) :=
  u64_eq (by push_cast; rfl) h
theorem own_ref {w w' : World} {ds : List Nat} {v : Value} (h : Own (Rep.num .i64 65536) w.heap.size 3 (fun _ => False) w' ds v) (hl : ds.length * 8 ≤ 140737488355328) : IntS.rep (Fresh w w') w' ds [v] :=
  (own_free (S' := Fresh w w') h).slFresh hl

set_option maxHeartbeats 2000000 in
theorem of_calls {w : World} {S : Nat → Prop} {xs : List Nat} {v : Value} (h : NatS.rep S w xs [v]) (hl : xs.length ≤ 20000) :
    Calls Try.prog 16 #[v] w fun e w' => (∃ u, e = .returned u ∧ RefN.rep (Fresh w w') w' (Pl.val B64 xs) [u]) ∧ Below w.heap.size w w' := by
  have hd := num_dig h
  obtain ⟨A, cap, rfl, hc, hm⟩ := sl_open h
  go_enter Try.func16, Try.ntmps16
  go_wp2_with fail
  go_loopw [3, 4] (fun ov iv wr => ∃ (i : Nat) (ds : List Nat), iv = .int .i64 (i : Int) ∧ i ≤ xs.length ∧ ds.length = 4 * i ∧ Pl.Dig 65536 ds ∧ Hid (Pl.val 65536 ds = Pl.val B64 (xs.take i)) ∧ Own (Rep.num .i64 65536) w.heap.size 3 (fun _ => False) wr ds ov ∧ Below w.heap.size w wr) (fun _ iv _ => xs.length - (intOf iv).toNat)
  case atStart => exact ⟨0, [], rfl, by omega, rfl, Pl.Dig.nil _, hid rfl, Own.nil _ _ _ _ _, Below.refl _ _⟩
  case round =>
    obtain ⟨i, ds, rfl, hi, hdl, hdd, hv, hown, hB⟩ := hrel
    obtain ⟨wo, rfl⟩ : ∃ wo : World, wo = wr := ⟨_, rfl⟩
    by_cases hlt : i < xs.length
    · obtain ⟨b, o, rfl, _, hcell, hbd⟩ := num_at ((Rep.num .u64 B64).sl.below h hB) i hlt
      obtain ⟨x, hx⟩ : ∃ x, x = xs[i] := ⟨_, rfl⟩
      rw [← hx] at hcell hbd
      have Hx := hid hx
      have Hdl := hid hdl
      clear hx hdl
      go_wp2_with fail
      go_loopw [3, 5, 6] (fun ov yv kv wr => ∃ (k y : Nat) (es : List Nat), kv = .int .i64 (k : Int) ∧ yv = .int .u64 (y : Int) ∧ k ≤ 4 ∧ y < B64 ∧ es.length = 4 * i + k ∧ Pl.Dig 65536 es ∧ Hid (Pl.val 65536 es + 65536 ^ (4 * i + k) * y = Pl.val 65536 ds + 65536 ^ (4 * i) * x) ∧ Hid (y * 65536 ^ k ≤ x) ∧ Own (Rep.num .i64 65536) w.heap.size 3 (fun _ => False) wr es ov ∧ Below w.heap.size w wr) (fun _ _ kv _ => 4 - (intOf kv).toNat)
      case atStart => exact ⟨0, x, ds, rfl, rfl, by omega, hbd, Hdl.out, hdd, hid rfl, hid (by simp), hown, hB⟩
      case round =>
        clear hown hB hcell
        obtain ⟨k, y, es, rfl, rfl, hk, hy, hel, hed, hinv, hle, hown, hB⟩ := hrel
        obtain ⟨wp, rfl⟩ : ∃ wp : World, wp = wr := ⟨_, rfl⟩
        have Hel := hid hel
        by_cases hk4 : k < 4
        · obtain ⟨D, hD⟩ : ∃ D, D = y % 65536 := ⟨_, rfl⟩
          obtain ⟨Y, hY⟩ : ∃ Y, Y = y / 65536 := ⟨_, rfl⟩
          have q1 : (y : Int) % 65536 = (D : Int) := by omega
          have q2 : (y : Int) / 65536 = (Y : Int) := by omega
          have q3 : IntKind.u64.wrap (Y : Int) = (Y : Int) := u64_eq rfl (by unfold B64 at hy; omega)
          have hDb : D < 65536 := by omega
          have hYb : Y < B64 := by omega
          have hinv2 : Hid (Pl.val 65536 (es ++ [D]) + 65536 ^ (4 * i + (k + 1)) * Y = Pl.val 65536 ds + 65536 ^ (4 * i) * x) := by
            show _ = _
            rw [← hinv.out, Pl.val_snoc, hel, show 4 * i + (k + 1) = (4 * i + k) + 1 by omega, Nat.pow_succ, Nat.mul_assoc, Nat.add_assoc, ← Nat.mul_add]
            congr 2; omega
          have hle2 : Hid (Y * 65536 ^ (k + 1) ≤ x) := by
            refine Nat.le_trans ?_ hle.out
            rw [Nat.pow_succ, Nat.mul_comm (65536 ^ k), ← Nat.mul_assoc]
            exact Nat.mul_le_mul_right _ (by omega)
          have hel2 : Hid ((es ++ [D]).length = 4 * i + (k + 1)) := by show _ = _; simp; omega
          have hes : (es.length + 1) * 8 ≤ 140737488355328 := by omega
          have hedn := hed.append (Pl.Dig.one hDb)
          clear hD hY hinv hle hel
          go_wp2_with (at_builtin; refine wpList_push (B := 65536) rfl _ _ 35 3 rfl Try.underlying35 info3 wp D rfl _ es rfl rfl hown hDb rfl hes hB ?_)
          intro v' w' hown' hb'
          go_wp2_with fail
          go_roundw
          case rel => exact ⟨k + 1, Y, _, by go_num, rfl, by omega, hYb, hel2.out, hedn, hinv2, hle2, hown', hb'⟩
          case measure => simp [intOf] <;> omega
        · obtain rfl : k = 4 := by omega
          have hy0 : y = 0 := by
            have := hle.out
            rw [Hx.out] at this
            have h2 := hd.at i hlt
            rw [← Hx.out] at h2 this
            rw [B64_16] at h2
            rcases Nat.eq_zero_or_pos y with h0 | h0
            · exact h0
            · have : 1 * 65536 ^ 4 ≤ y * 65536 ^ 4 := Nat.mul_le_mul_right _ h0
              omega
          have hv2 : Hid (Pl.val 65536 es = Pl.val B64 (xs.take (i + 1))) := by
            show _ = _
            have h1 := hinv.out
            rw [hy0, Nat.mul_zero, Nat.add_zero] at h1
            rw [h1, Pl.val_take_succ B64 xs i hlt, hv.out, Hx.out, B64_pow16]
          have hel2 : Hid (es.length = 4 * (i + 1)) := by show _ = _; omega
          clear hinv hle hel hy0 hv
          go_wp2_with fail
          go_roundw
          case rel => exact ⟨i + 1, es, by go_num, by omega, hel2.out, hed, hv2, hown, hB⟩
          case measure => simp [intOf] <;> omega
    · obtain rfl : i = xs.length := by omega
      have hv2 := hv.out
      rw [List.take_length] at hv2
      have Hv2 := hid hv2
      have hsl := own_ref hown (by omega)
      clear hv hv2 hdl
      go_wp2_with fail
      refine (rtrim_calls hsl).mono ?_
      rintro e w' ⟨⟨u, rfl, hu⟩, rfl⟩
      go_wp2
      go_ret
      exact ⟨⟨_, rfl, _, hu, Pl.trim_canon _, by rw [Pl.trim_val]; exact Hv2.out⟩, hB⟩

theorem of_num {w : World} {S : Nat → Prop} {n : Nat} {v : Value} (h : NumN.rep S w n [v]) (hn : n < B64 ^ 20000) :
    Calls Try.prog 16 #[v] w fun e w' => (∃ u, e = .returned u ∧ RefN.rep (Fresh w w') w' n [u]) ∧ Below w.heap.size w w' := by
  obtain ⟨xs, hx, hc, rfl⟩ := h
  exact of_calls hx ((Pl.canon_len_le B64_gt (num_dig hx) hc).2 hn)

set_option maxHeartbeats 1000000 in
theorem rcmp_calls {w : World} {S T : Nat → Prop} {m n : Nat} {va vb : Value} (ha : RefN.rep S w m [va]) (hb : RefN.rep T w n [vb]) :
    Calls Try.prog 48 #[va, vb] w fun e w' => e = .returned (.int .i64 (Pl.cmp m n)) ∧ Still w w' := by
  obtain ⟨p, hu, ca, ea⟩ := ha
  obtain ⟨q, hu', cb, eb⟩ := hb
  have da := num_dig hu
  have db := num_dig hu'
  have h16 : 0 < 65536 := by omega
  obtain ⟨A, c1, rfl, hc1, hm1⟩ := sl_open hu
  obtain ⟨A', c2, rfl, hc2, hm2⟩ := sl_open hu'
  have Ea := hid ea
  have Eb := hid eb
  clear ea eb
  go_enter Try.func48, Try.ntmps48
  rcases Nat.lt_trichotomy p.length q.length with hlt | heq | hgt
  · have hv := Pl.val_lt_of_len h16 da cb hlt
    rw [Ea.out, Eb.out] at hv
    have h1 : ((p.length : Int) == (q.length : Int)) = false := by simp; omega
    go_wp2
    go_ret
    exact ⟨ret_int (by unfold Pl.cmp; rw [if_pos hv]), Still.refl w⟩
  · have Heq := hid heq; clear heq
    have h1 : ((p.length : Int) == (q.length : Int)) = true := by have := Heq.out; simp; omega
    go_wp2
    go_loopw [5] (fun i wr => ∃ k : Nat, k ≤ p.length ∧ i = .int .i64 ((k : Int) - 1) ∧ Hid (Pl.val 65536 (p.drop k) = Pl.val 65536 (q.drop k)) ∧ Still w wr) (fun i _ => (intOf i + 1).toNat)
    case atStart => exact ⟨_, Nat.le_refl _, rfl, hid (by rw [List.drop_of_length_le (Nat.le_refl _), List.drop_of_length_le (by rw [Heq.out]; exact Nat.le_refl _)]), Still.refl w⟩
    case round =>
      obtain ⟨k, hk, rfl, hv, hst⟩ := hrel
      cases k with
      | zero =>
        have hv := hv.out
        rw [List.drop_zero, List.drop_zero, Ea.out, Eb.out] at hv
        subst hv
        go_wp2
        go_ret
        exact ⟨ret_int (by unfold Pl.cmp; rw [if_neg (by omega), if_neg (by omega)]), hst⟩
      | succ k =>
        have hk' : k < q.length := by have := Heq.out; omega
        obtain ⟨b, o, rfl, _, hcell, _⟩ := num_at (hst.rep _ hu) k (by omega)
        obtain ⟨b', o', rfl, _, hcell', _⟩ := num_at (hst.rep _ hu') k (by omega)
        rw [show (((k + 1 : Nat) : Int) - 1) = (k : Int) by omega]
        have hi0 : (0 : Int) ≤ (k : Int) := by omega
        have hi1 : (k : Int) < (p.length : Int) := by omega
        have hi2 : (k : Int) < (q.length : Int) := by omega
        rcases Nat.lt_trichotomy p[k] q[k] with hlt | he | hgt
        · have hx := Pl.val_lt_at da k hk hk' hv.out hlt
          rw [Ea.out, Eb.out] at hx
          go_wp2_with fail
          go_quiet (fail)
          go_wp2
          go_ret
          exact ⟨ret_int (by unfold Pl.cmp; rw [if_pos hx]), hst.trans (Still.drewN _ _)⟩
        · have hle : p[k] ≤ q[k] := by omega
          have hge : q[k] ≤ p[k] := by omega
          have hx : Hid (Pl.val 65536 (p.drop k) = Pl.val 65536 (q.drop k)) := by
            show _ = _
            rw [Pl.val_drop 65536 p k hk, Pl.val_drop 65536 q k hk', hv.out, he]
          clear he hv
          go_wp2_with fail
          go_quiet (fail)
          go_wp2_with fail
          go_quiet (fail)
          go_wp2
          go_roundw
          case rel => exact ⟨k, by omega, by go_num, hx, hst.trans (Still.drewN _ _)⟩
          case measure => simp [intOf]
        · have hx := Pl.val_lt_at db k hk' hk hv.out.symm hgt
          rw [Ea.out, Eb.out] at hx
          go_wp2_with fail
          go_quiet (fail)
          go_wp2_with fail
          go_quiet (fail)
          go_wp2
          go_ret
          exact ⟨ret_int (by unfold Pl.cmp; rw [if_neg (by omega), if_pos hx]), hst.trans ((Still.drewN _ _).trans (Still.drewN _ _))⟩
  · have hv := Pl.val_lt_of_len h16 db ca hgt
    rw [Ea.out, Eb.out] at hv
    have h1 : ((p.length : Int) == (q.length : Int)) = false := by simp; omega
    go_wp2
    go_ret
    exact ⟨ret_int (by unfold Pl.cmp; rw [if_neg (by omega), if_pos hv]), Still.refl w⟩

theorem take_drop_succ {xs : List Nat} {i k : Nat} (hi : i < xs.length) (hk : 0 < k) : (xs.drop i).take k = xs[i] :: (xs.drop (i + 1)).take (k - 1) := by
  rw [List.drop_eq_getElem_cons hi]
  obtain ⟨j, rfl⟩ : ∃ j, k = j + 1 := ⟨k - 1, by omega⟩
  rfl

set_option maxHeartbeats 2000000 in
set_option maxRecDepth 100000 in
theorem to_calls {w : World} {S : Nat → Prop} {n : Nat} {v : Value} (h0 : RefN.rep S w n [v]) (hn : Small n) :
    Calls Try.prog 12 #[v] w fun e w' => (∃ u, e = .returned u ∧ NumN.rep (Fresh w w') w' n [u]) ∧ Below w.heap.size w w' := by
  obtain ⟨xs, h, hcn, ea⟩ := h0
  have hd := num_dig h
  have hl := ref_len hd hcn ea hn
  clear hn
  obtain ⟨A, cap, rfl, hc, hm⟩ := sl_open h
  have Ea := hid ea
  clear ea
  go_enter Try.func12, Try.ntmps12
  go_wp2_with fail
  go_loopw [3, 4] (fun ov iv wr => ∃ (q : Nat) (ds : List Nat), iv = .int .i64 ((4 * q : Nat) : Int) ∧ 4 * q < xs.length + 4 ∧ ds.length = q ∧ Pl.Dig B64 ds ∧ Hid (Pl.val B64 ds = Pl.val 65536 (xs.take (4 * q))) ∧ Own (Rep.num .u64 B64) w.heap.size 65 (fun _ => False) wr ds ov ∧ Below w.heap.size w wr) (fun _ iv _ => xs.length + 4 - (intOf iv).toNat)
  case atStart => exact ⟨0, [], rfl, by omega, rfl, Pl.Dig.nil _, hid rfl, Own.nil _ _ _ _ _, Below.refl _ _⟩
  case round =>
    obtain ⟨q, ds, rfl, hq, hdl, hdd, hv, hown, hB⟩ := hrel
    obtain ⟨wo, rfl⟩ : ∃ wo : World, wo = wr := ⟨_, rfl⟩
    have Hdl := hid hdl
    clear hdl
    obtain ⟨i, hi⟩ : ∃ i, i = 4 * q := ⟨_, rfl⟩
    rw [← hi] at hq hv ⊢
    have Hi := hid hi
    clear hi
    by_cases hlt : i < xs.length
    · go_wp2_with fail
      go_loop [5, 6] (fun vv kv => ∃ (k d : Nat), kv = .int .i64 ((k : Int) - 1) ∧ vv = .int .u64 (d : Int) ∧ k ≤ 4 ∧ Hid (d = Pl.val 65536 ((xs.drop (i + k)).take (4 - k)))) (fun _ kv => (intOf kv + 1).toNat)
      case atStart => exact ⟨4, 0, rfl, rfl, by omega, hid (by rw [Nat.sub_self, List.take_zero]; rfl)⟩
      case round =>
        obtain ⟨k, d, rfl, rfl, hk, hdv⟩ := hrel
        have hdb : d < 65536 ^ (4 - k) := by
          rw [hdv.out]
          refine Nat.lt_of_lt_of_le (Pl.val_lt ((hd.drop _).take _)) (Nat.pow_le_pow_right (by omega) (by rw [List.length_take]; omega))
        cases k with
        | succ k =>
          rw [show (((k + 1 : Nat) : Int) - 1) = (k : Int) by omega]
          have hdb2 : d * 65536 < 65536 ^ (4 - k) := by
            have e : 65536 ^ (4 - k) = 65536 ^ (4 - (k + 1)) * 65536 := by rw [← Nat.pow_succ]; congr 1; omega
            rw [e]; omega
          have hdb4 : 65536 ^ (4 - k) ≤ 65536 ^ 4 := Nat.pow_le_pow_right (by omega) (by omega)
          rw [← B64_16] at hdb4
          obtain ⟨D, hD⟩ : ∃ D, D = d * 65536 := ⟨_, rfl⟩
          have q1 : IntKind.u64.wrap ((d : Int) * 65536) = (D : Int) := u64_eq (by rw [hD]; exact (Int.natCast_mul d 65536).symm) (by have h9 : B64 = 18446744073709551616 := rfl; omega)
          by_cases hin : i + k < xs.length
          · obtain ⟨b, o, rfl, _, hcell, hxb⟩ := num_at ((Rep.num .i64 65536).sl.below h hB) (i + k) hin
            obtain ⟨x, hx⟩ : ∃ x, x = xs[i + k] := ⟨_, rfl⟩
            rw [← hx] at hcell hxb
            obtain ⟨E, hE⟩ : ∃ E, E = D + x := ⟨_, rfl⟩
            have hEv : E = Pl.val 65536 ((xs.drop (i + k)).take (4 - k)) := by
              rw [take_drop_succ hin (by omega), Pl.val_cons, hE, hD, hx, hdv.out, show 4 - (k + 1) = 4 - k - 1 by omega, show i + (k + 1) = i + k + 1 by omega, Nat.mul_comm]; omega
            have hEb : E < B64 := by
              rw [hEv]
              refine Nat.lt_of_lt_of_le (Pl.val_lt ((hd.drop _).take _)) (Nat.le_trans (Nat.pow_le_pow_right (by omega) (by rw [List.length_take]; omega)) hdb4)
            have q2 : IntKind.u64.wrap ((D : Int) + (x : Int)) = (E : Int) := by rw [hE]; exact u64_wrap_nat2 (by omega)
            have q4 : IntKind.u64.wrap (x : Int) = (x : Int) := u64_eq rfl (by omega)
            have HEv := hid hEv
            clear hD hE hx hEv hdv hdb hdb2 hdb4
            go_wp2_with fail
            go_round
            case rel => exact ⟨k, E, rfl, rfl, by omega, HEv⟩
            case measure => simp [intOf]
          · have hD0 : D = 0 := by
              rw [hD, hdv.out, List.drop_of_length_le (by omega)]; simp [Pl.val]
            have hDv : Hid (D = Pl.val 65536 ((xs.drop (i + k)).take (4 - k))) := by
              show _ = _
              rw [hD0, List.drop_of_length_le (by omega)]; simp [Pl.val]
            clear hD hD0 hdv hdb hdb2 hdb4
            go_wp2_with fail
            go_round
            case rel => exact ⟨k, D, rfl, rfl, by omega, hDv⟩
            case measure => simp [intOf]
        | zero =>
          have hdb' : d < B64 := by rw [B64_16]; exact hdb
          have hv2 : Hid (Pl.val B64 (ds ++ [d]) = Pl.val 65536 (xs.take (4 * (q + 1)))) := by
            show _ = _
            have h1 : xs.take (4 * (q + 1)) = xs.take i ++ (xs.drop i).take 4 := by
              rw [show 4 * (q + 1) = i + 4 by have := Hi.out; omega, List.take_add]
            have h2 : (xs.take i).length = i := by rw [List.length_take]; omega
            have h3 := hdv.out
            rw [Nat.add_zero, Nat.sub_zero] at h3
            rw [Pl.val_snoc, hv.out, h1, Pl.val_append, h2, ← h3, Hdl.out, B64_pow16, ← Hi.out]
          have hdn := hdd.append (Pl.Dig.one hdb')
          have hds : (ds.length + 1) * 8 ≤ 140737488355328 := by have := Hdl.out; have := Hi.out; omega
          have hln : Hid ((ds ++ [d]).length = q + 1) := by show _ = _; have := Hdl.out; simp; omega
          have hi4 : Hid ((i : Int) + 4 = ((4 * (q + 1) : Nat) : Int)) := by show _ = _; have := Hi.out; omega
          have hq2 : 4 * (q + 1) < xs.length + 4 := by have := Hi.out; omega
          clear hv hdv hdb
          go_wp2_with (at_builtin; refine wpList_push (B := B64) rfl _ _ 23 65 rfl Try.underlying23 info65 wo d rfl _ ds rfl rfl hown hdb' rfl hds hB ?_)
          intro v' w' hown' hb'
          go_wp2_with fail
          rw [hi4.out]
          go_roundw
          case rel => exact ⟨q + 1, _, rfl, hq2, hln.out, hdn, hv2, hown', hb'⟩
          case measure =>
            have := Hi.out
            simp [intOf]
            omega
    · have hv2 := hv.out
      rw [List.take_of_length_le (by omega), Ea.out] at hv2
      have hds : ds.length * 8 ≤ 140737488355328 := by have := Hdl.out; have := Hi.out; omega
      have hsl := (own_free (S' := Fresh w wo) hown).slFresh hds
      have hcan : Pl.Canon ds := by
        refine Pl.canon_of_last fun hp he => ?_
        have h1 := Pl.val_take_succ B64 ds (ds.length - 1) (by omega)
        rw [show ds.length - 1 + 1 = ds.length by omega, List.take_length, he, Nat.mul_zero, Nat.add_zero] at h1
        have h2 := Pl.val_lt (hdd.take (ds.length - 1))
        rw [List.length_take, Nat.min_eq_left (by omega), ← h1, hv2, B64_pow16, ← Ea.out] at h2
        have hxp : 0 < xs.length := by
          rcases Nat.eq_zero_or_pos xs.length with h | h
          · have := Hi.out; have := Hdl.out; omega
          · exact h
        have h3 := hcn.ge (B := 65536) hxp
        have h4 : 65536 ^ (4 * (ds.length - 1)) ≤ 65536 ^ (xs.length - 1) := Nat.pow_le_pow_right (by omega) (by have := Hi.out; have := Hdl.out; omega)
        omega
      have Hv2 := hid hv2
      clear hv hv2
      go_wp2_with fail
      go_ret
      exact ⟨⟨_, rfl, ds, hsl, hcan, Hv2.out⟩, hB⟩

end Go.Proofs.Ytphbacggmhjmgaa
