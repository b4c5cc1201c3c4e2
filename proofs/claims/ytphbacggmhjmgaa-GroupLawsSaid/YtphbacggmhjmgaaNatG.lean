/- The layer nat, seventh part: one digit of a quotient, guessed and mended. -/
import Derived.Test.YtphbacggmhjmgaaNatF
namespace Go.Proofs.Ytphbacggmhjmgaa
open Go.RowKit

def DigitPost (g : Nat) (pre us post vs : List Nat) (w w' : World) (e : Ending) : Prop :=
  ∃ us', us'.length = us.length ∧ Pl.Dig B64 us' ∧ Row w' g 65 (nums .u64 (pre ++ us' ++ post)) ∧ w.grownBy w' (some g) ∧
    e = .returned (.int .u64 ((Pl.val B64 us / Pl.val B64 vs : Nat) : Int)) ∧ Pl.val B64 us' = Pl.val B64 us % Pl.val B64 vs

theorem div64_named (hi lo y Q R : Nat) (hQ : Hid (Q = (hi * B64 + lo) / y)) (hR : Hid (R = (hi * B64 + lo) % y)) (hhi : hi < y) (hlo : lo < B64) (hy : y < B64) (w : World) :
    Calls Try.prog 85 #[.int .u64 (hi : Int), .int .u64 (lo : Int), .int .u64 (y : Int)] w fun e w' => e = .returned (.tuple #[.int .u64 (Q : Int), .int .u64 (R : Int)]) ∧ ∃ n, w' = w.drewN n := by
  rw [hQ.out, hR.out]; exact div64_calls hi lo y hhi hlo hy w
theorem mul64_named (x y H L : Nat) (hH : Hid (H = mulHi x y)) (hL : Hid (L = mulLo x y)) (hx : x < B64) (hy : y < B64) (w : World) :
    Calls Try.prog 86 #[.int .u64 (x : Int), .int .u64 (y : Int)] w fun e w' => e = .returned (.tuple #[.int .u64 (H : Int), .int .u64 (L : Int)]) ∧ w = w' := by
  rw [hH.out, hL.out]; exact mul64_calls x y hx hy w

/-- a number's three highest digits -/
theorem val_top3 {B : Nat} {us : List Nat} {n : Nat} (hn : us.length = n + 3) : Pl.val B us = Pl.val B (us.take n) + B ^ n * (us[n] + B * (us[n + 1] + B * us[n + 2])) := by
  rw [Pl.val_take_drop B us n (by omega), Pl.val_drop B us n (by omega), Pl.val_drop B us (n + 1) (by omega), Pl.val_drop B us (n + 2) (by omega), List.drop_of_length_le (by omega)]
  simp [Pl.val]
theorem val_top2 {B : Nat} {us : List Nat} {n : Nat} (hn : us.length = n + 2) : Pl.val B us = Pl.val B (us.take n) + B ^ n * (us[n] + B * us[n + 1]) := by
  rw [Pl.val_take_drop B us n (by omega), Pl.val_drop B us n (by omega), Pl.val_drop B us (n + 1) (by omega), List.drop_of_length_le (by omega)]
  simp [Pl.val]

theorem div_of_bounds {a b q : Nat} (h1 : q * b ≤ a) (h2 : a < (q + 1) * b) : a / b = q := by
  have hb : 0 < b := by
    rcases Nat.eq_zero_or_pos b with h | h
    · subst h; simp at h2
    · exact h
  apply Nat.le_antisymm
  · have := (Nat.div_lt_iff_lt_mul hb).2 h2
    omega
  · exact (Nat.le_div_iff_mul_le hb).2 h1

set_option maxHeartbeats 8000000 in
set_option maxRecDepth 100000 in
theorem digit_calls {w : World} {S : Nat → Prop} {pre us post vs : List Nat} {g o n cap : Nat} {v : Value} (hrow : Row w g 65 (nums .u64 (pre ++ us ++ post))) (ho : o = pre.length) (hn : us.length = n + 3) (hvn : vs.length = n + 2)
    (hcap : n + 3 ≤ cap) (hcap' : cap ≤ 9223372036854775807) (hn2 : n ≤ 999990) (hud : Pl.Dig B64 us) (hV : NatS.rep S w vs [v]) (hS : ∀ b, S b → b ≠ g) (hlt : Pl.val B64 us < B64 * Pl.val B64 vs) :
    Calls Try.prog 78 #[.slice (some ⟨g, o, none⟩) (n + 3) cap, v] w fun e w' => DigitPost g pre us post vs w w' e := by
  have hvd := num_dig hV
  have Ho := hid ho
  have Hn := hid hn
  have Hvn := hid hvn
  have u3 := val_top3 (B := B64) hn
  have v2 := val_top2 (B := B64) hvn
  have lu := Pl.val_lt (hud.take n)
  have lu' : Pl.val B64 (us.take n) < B64 ^ n := by rwa [List.length_take, Nat.min_eq_left (by omega)] at lu
  obtain ⟨A, c1, rfl, hc1, hm1⟩ := sl_open hV
  rw [hvn] at hV hc1 ⊢
  obtain ⟨b, of, rfl, hSb, hcv1, hv1⟩ := num_at hV (n + 1) (by omega)
  have hcv0 := (num_all hV n (by omega)).2
  have hv0 := hvd.at n (by omega)
  have hcu2 := hrow.segCell o ho (n + 2) (by omega)
  have hcu1 := hrow.segCell o ho (n + 1) (by omega)
  have hcu0 := hrow.segCell o ho n (by omega)
  have hu2 := hud.at (n + 2) (by omega)
  have hu1 := hud.at (n + 1) (by omega)
  have hu0 := hud.at n (by omega)
  obtain ⟨U2, hU2⟩ : ∃ x, x = us[n + 2]'(by omega) := ⟨_, rfl⟩
  obtain ⟨U1, hU1⟩ : ∃ x, x = us[n + 1]'(by omega) := ⟨_, rfl⟩
  obtain ⟨U0, hU0⟩ : ∃ x, x = us[n]'(by omega) := ⟨_, rfl⟩
  obtain ⟨V1, hV1⟩ : ∃ x, x = vs[n + 1]'(by omega) := ⟨_, rfl⟩
  obtain ⟨V0, hV0⟩ : ∃ x, x = vs[n]'(by omega) := ⟨_, rfl⟩
  rw [← hU2] at hcu2 hu2 u3
  rw [← hU1] at hcu1 hu1 u3
  rw [← hU0] at hcu0 hu0 u3
  rw [← hV1] at hcv1 hv1 v2
  rw [← hV0] at hcv0 hv0 v2
  obtain ⟨LU, hLU⟩ : ∃ x, x = Pl.val B64 (us.take n) := ⟨_, rfl⟩
  obtain ⟨LV, hLV⟩ : ∃ x, x = Pl.val B64 (vs.take n) := ⟨_, rfl⟩
  rw [← hLU] at lu' u3
  rw [← hLV] at v2
  have Hu3 := hid u3
  have Hv2 := hid v2
  clear hU2 hU1 hU0 hV1 hV0 hLU hLV u3 v2 lu ho hn hvn
  have i1 : (0 : Int) ≤ (n : Int) := by omega
  go_enter Try.func78, Try.ntmps78
  go_wp2_with fail
  go_quiet (fail)
  obtain ⟨w1, hw1⟩ : ∃ w1, w1 = w.drewN nq := ⟨_, rfl⟩
  rw [← hw1]
  have hst : Still w w1 := by rw [hw1]; exact Still.drewN _ _
  clear hw1
  go_upto_if 22 with (fail)
  go_cut [6] (fun q wc => ∃ Q : Nat, q = .int .u64 Q ∧ Q < B64 ∧ Hid (Pl.val B64 us < (Q + 1) * Pl.val B64 vs) ∧ Still w wc)
  case first =>
    by_cases hA : U2 < V1
    · have d2 := (hst.cell _).trans hcu2
      have d1 := (hst.cell _).trans hcu1
      have d0 := (hst.cell _).trans hcv1
      obtain ⟨Q0, hQ0⟩ : ∃ Q, Q = (U2 * B64 + U1) / V1 := ⟨_, rfl⟩
      obtain ⟨R0, hR0⟩ : ∃ R, R = (U2 * B64 + U1) % V1 := ⟨_, rfl⟩
      have hR0lt : R0 < V1 := by rw [hR0]; exact Nat.mod_lt _ (by omega)
      have hQ0lt : Q0 < B64 := by
        rw [hQ0, Nat.div_lt_iff_lt_mul (by omega)]
        have : (U2 + 1) * B64 ≤ V1 * B64 := Nat.mul_le_mul_right _ hA
        rw [Nat.mul_comm B64 V1]; rw [Nat.add_mul] at this; omega
      have hsum : Q0 * V1 + R0 = U2 * B64 + U1 := by
        have := Nat.div_add_mod (U2 * B64 + U1) V1
        rw [hQ0, hR0, Nat.mul_comm]; exact this
      have hov := hid (Pl.guess_first hR0lt hsum hu0 lu' Hu3.out Hv2.out)
      have HQ0 := hid hQ0
      have HR0 := hid hR0
      have Hsum := hid hsum
      clear hQ0 hR0 hsum
      have hd : decide (U2 < V1) = true := by simp [hA]
      rw [hd]
      clear hd
      repeat go_step
      go_quiet ((go_at_call 85; exact Calls.quiet_of (div64_named U2 U1 V1 Q0 R0 HQ0 HR0 hA hu1 hv1 _)))
      obtain ⟨w2, hw2⟩ : ∃ w2, w2 = w1.drewN nq := ⟨_, rfl⟩
      rw [← hw2]
      have hst2 : Still w w2 := by rw [hw2]; exact hst.trans (Still.drewN _ _)
      clear hw2 d2 d1 d0
      have d2 := (hst2.cell _).trans hcu0
      have d1 := (hst2.cell _).trans hcv0
      have d0 := (hst2.cell _).trans hcv1
      rw [show n + 2 - 1 = n + 1 from rfl]
      go_wp2_with fail
      go_loop [6, 7] (fun q r => ∃ Q R : Nat, q = .int .u64 Q ∧ r = .int .u64 R ∧ Q < B64 ∧ R < B64 ∧ Hid (Q * V1 + R = U2 * B64 + U1) ∧ Hid (Pl.val B64 us < (Q + 1) * Pl.val B64 vs)) (fun q _ => (intOf q).toNat)
      case atStart => exact ⟨_, _, rfl, rfl, hQ0lt, by omega, Hsum, hov⟩
      case round =>
        clear Hsum hov HQ0 HR0 hQ0lt hR0lt
        obtain ⟨Q, R, rfl, rfl, hQ, hR, hsum, hov⟩ := hrel
        obtain ⟨H, hH⟩ : ∃ x, x = mulHi Q V0 := ⟨_, rfl⟩
        obtain ⟨L, hL⟩ : ∃ x, x = mulLo Q V0 := ⟨_, rfl⟩
        have hparts := mul_parts Q V0
        rw [← hH, ← hL] at hparts
        have hLlt : L < B64 := by rw [hL]; exact mulLo_lt _ _
        have HH := hid hH
        have HL := hid hL
        have Hparts := hid hparts
        clear hH hL hparts
        go_wp2_with fail
        refine (mul64_named Q V0 H L HH HL hQ hv0 _).mono ?_
        rintro e w' ⟨rfl, rfl⟩
        rcases Nat.lt_trichotomy H R with hHR | hHR | hHR
        · go_wp2_with fail
          go_meet
          case rel => exact ⟨Q, rfl, hQ, hov, hst2⟩
        · have e1 : ((H : Int) == (R : Int)) = true := by simp [hHR]
          by_cases hLU : L ≤ U0
          · have e2 : R ≤ H := by omega
            have HHR := hid hHR
            clear hHR
            go_wp2_with fail
            go_meet
            case rel => exact ⟨Q, rfl, hQ, hov, hst2⟩
          · have e2 : R ≤ H := by omega
            have hcond : R * B64 + U0 < Q * V0 := by have := Hparts.out; rw [← this, hHR, Nat.mul_comm B64 R]; omega
            have HHR := hid hHR
            clear hHR
            have hov2 := Pl.guess_over hsum.out lu' Hu3.out Hv2.out hcond
            have hQ1 : 0 < Q := by
              rcases Nat.eq_zero_or_pos Q with h | h
              · subst h; simp at hov2
              · exact h
            obtain ⟨Q', hQ'⟩ : ∃ Q', Q' = Q - 1 := ⟨_, rfl⟩
            have y1 : IntKind.u64.wrap ((Q : Int) - 1) = (Q' : Int) := u64_eq (by omega) (by unfold B64 at hQ; omega)
            have hovn : Hid (Pl.val B64 us < (Q' + 1) * Pl.val B64 vs) := by
              show _ < _
              rw [show Q' + 1 = Q by omega]; exact hov2
            have hQlt : Q' < Q := by omega
            have hsumn : Q' * V1 + (R + V1) = U2 * B64 + U1 := by
              have h1 := hsum.out
              have h2 : Q * V1 = Q' * V1 + V1 := by rw [show Q = Q' + 1 by omega, Nat.add_mul, Nat.one_mul]
              omega
            by_cases hcar : R + V1 < B64
            · have ha : ∀ W : World, (callFunc 65 #[.int .u64 (R : Int), .int .u64 (V1 : Int), .int .u64 0]).run Try.prog W = .ok (.value (.tuple #[.int .u64 ((R + V1 : Nat) : Int), .int .u64 0])) W := fun W => by
                rw [show (0 : Int) = ((0 : Nat) : Int) from rfl, add64_run R V1 0 (by omega) W, addLo, addHi, Nat.add_zero, Nat.mod_eq_of_lt hcar, Nat.div_eq_of_lt hcar]
              obtain ⟨RV, hRV⟩ : ∃ x, x = R + V1 := ⟨_, rfl⟩
              rw [← hRV] at ha hcar hsumn
              have Hsumn := hid hsumn
              clear hov hsum hQ' hRV hsumn hov2 hcond
              go_wp2_with fail
              go_round
              case rel => exact ⟨Q', RV, rfl, rfl, by omega, hcar, Hsumn, hovn⟩
              case measure => simp [intOf]; omega
            · obtain ⟨RV, hRV⟩ : ∃ x, x = addLo R V1 0 := ⟨_, rfl⟩
              have hone : addHi R V1 0 = 1 := by
                have h1 := add_parts R V1 0
                have h2 := addLo_lt R V1 0
                have h3 := addHi_le hR hv1 (Nat.zero_le 1)
                rcases Nat.eq_zero_or_pos (addHi R V1 0) with h | h
                · rw [h] at h1; omega
                · omega
              have ha : ∀ W : World, (callFunc 65 #[.int .u64 (R : Int), .int .u64 (V1 : Int), .int .u64 0]).run Try.prog W = .ok (.value (.tuple #[.int .u64 (RV : Int), .int .u64 1])) W := fun W => by
                rw [show (0 : Int) = ((0 : Nat) : Int) from rfl, add64_run R V1 0 (by omega) W, hone, hRV]; rfl
              clear hov hsum hQ' hRV hsumn hov2 hcond hone
              go_wp2_with fail
              go_meet
              case rel => exact ⟨Q', rfl, by omega, hovn, hst2⟩
        · have e1 : ((H : Int) == (R : Int)) = false := by simp; omega
          have hcond : R * B64 + U0 < Q * V0 := by
            have h1 := Hparts.out
            have h2 : B64 * (R + 1) ≤ B64 * H := Nat.mul_le_mul_left _ hHR
            rw [Nat.mul_add, Nat.mul_one] at h2
            rw [Nat.mul_comm R]; omega
          have hov2 := Pl.guess_over hsum.out lu' Hu3.out Hv2.out hcond
          have hQ1 : 0 < Q := by
            rcases Nat.eq_zero_or_pos Q with h | h
            · subst h; simp at hov2
            · exact h
          obtain ⟨Q', hQ'⟩ : ∃ Q', Q' = Q - 1 := ⟨_, rfl⟩
          have y1 : IntKind.u64.wrap ((Q : Int) - 1) = (Q' : Int) := u64_eq (by omega) (by unfold B64 at hQ; omega)
          have hovn : Hid (Pl.val B64 us < (Q' + 1) * Pl.val B64 vs) := by
            show _ < _
            rw [show Q' + 1 = Q by omega]; exact hov2
          have hQlt : Q' < Q := by omega
          have hsumn : Q' * V1 + (R + V1) = U2 * B64 + U1 := by
            have h1 := hsum.out
            have h2 : Q * V1 = Q' * V1 + V1 := by rw [show Q = Q' + 1 by omega, Nat.add_mul, Nat.one_mul]
            omega
          by_cases hcar : R + V1 < B64
          · have ha : ∀ W : World, (callFunc 65 #[.int .u64 (R : Int), .int .u64 (V1 : Int), .int .u64 0]).run Try.prog W = .ok (.value (.tuple #[.int .u64 ((R + V1 : Nat) : Int), .int .u64 0])) W := fun W => by
              rw [show (0 : Int) = ((0 : Nat) : Int) from rfl, add64_run R V1 0 (by omega) W, addLo, addHi, Nat.add_zero, Nat.mod_eq_of_lt hcar, Nat.div_eq_of_lt hcar]
            obtain ⟨RV, hRV⟩ : ∃ x, x = R + V1 := ⟨_, rfl⟩
            rw [← hRV] at ha hcar hsumn
            have Hsumn := hid hsumn
            clear hov hsum hQ' hRV hsumn hov2 hcond
            go_wp2_with fail
            go_round
            case rel => exact ⟨Q', RV, rfl, rfl, by omega, hcar, Hsumn, hovn⟩
            case measure => simp [intOf]; omega
          · obtain ⟨RV, hRV⟩ : ∃ x, x = addLo R V1 0 := ⟨_, rfl⟩
            have hone : addHi R V1 0 = 1 := by
              have h1 := add_parts R V1 0
              have h2 := addLo_lt R V1 0
              have h3 := addHi_le hR hv1 (Nat.zero_le 1)
              rcases Nat.eq_zero_or_pos (addHi R V1 0) with h | h
              · rw [h] at h1; omega
              · omega
            have ha : ∀ W : World, (callFunc 65 #[.int .u64 (R : Int), .int .u64 (V1 : Int), .int .u64 0]).run Try.prog W = .ok (.value (.tuple #[.int .u64 (RV : Int), .int .u64 1])) W := fun W => by
              rw [show (0 : Int) = ((0 : Nat) : Int) from rfl, add64_run R V1 0 (by omega) W, hone, hRV]; rfl
            clear hov hsum hQ' hRV hsumn hov2 hcond hone
            go_wp2_with fail
            go_meet
            case rel => exact ⟨Q', rfl, by omega, hovn, hst2⟩
    · have hd : decide (U2 < V1) = false := by simp [hA]
      rw [hd]
      clear hd
      go_step
      go_step
      go_step
      go_step
      go_meet
      case rel =>
        refine ⟨B64 - 1, rfl, by have := B64_pos; omega, ?_, hst⟩
        show _ < _
        rw [show B64 - 1 + 1 = B64 by have := B64_pos; omega]; exact hlt
  case rest =>
    obtain ⟨Q, rfl, hQ, hov, hstc⟩ := hcut
    have hg0 := hstc.grown (some g)
    have hrow0 := hstc.row hrow
    go_wp2_with fail
    go_loopw [6] (fun q wr => ∃ Q : Nat, q = .int .u64 Q ∧ Q < B64 ∧ Hid (Pl.val B64 us < (Q + 1) * Pl.val B64 vs) ∧ Row wr g 65 (nums .u64 (pre ++ us ++ post)) ∧ w.grownBy wr (some g)) (fun q _ => (intOf q).toNat)
    case atStart => exact ⟨Q, rfl, hQ, hov, hrow0, hg0⟩
    case round =>
      clear hov hQ hrow0 hg0 Q
      obtain ⟨Q, rfl, hQ, hov, hrowr, hgr⟩ := hrel
      have hVr := (Rep.num .u64 B64).sl.grown hV hgr (fun b hb => by have := hS b hb; simpa using this)
      go_wp2_with fail
      refine (less_calls hrowr Ho.out (n := n + 2) Hn.out Hvn.out hcap hcap' (by omega) hud hVr hS hQ).mono ?_
      rintro e w' ⟨us', hl', hd', hrow', hg', ⟨hle, rfl, hv⟩ | ⟨hgt, rfl, rfl⟩⟩
      · have hfin : DigitPost g pre us post vs w w' (.returned (.int .u64 (Q : Int))) := by
          refine ⟨us', hl', hd', hrow', grown_trans hgr hg', ?_, ?_⟩
          · rw [div_of_bounds hle hov.out]
          · have h1 := hov.out
            rw [Nat.add_mul, Nat.one_mul] at h1
            have h2 : Pl.val B64 us = Pl.val B64 vs * Q + Pl.val B64 us' := by rw [Nat.mul_comm]; omega
            rw [h2, Nat.mul_add_mod, Nat.mod_eq_of_lt (by omega)]
        have Hl' := hid hl'
        have Hv := hid hv
        clear hl' hv
        go_wp2_with fail
        go_ret
        exact hfin
      · have hpos : 0 < Q := by
          rcases Nat.eq_zero_or_pos Q with h | h
          · subst h; simp at hgt
          · exact h
        obtain ⟨Q', hQ'⟩ : ∃ Q', Q' = Q - 1 := ⟨_, rfl⟩
        have w1 : IntKind.u64.wrap ((Q : Int) - 1) = (Q' : Int) := u64_eq (by omega) (by unfold B64 at hQ; omega)
        have hov' : Hid (Pl.val B64 us' < (Q' + 1) * Pl.val B64 vs) := by
          show _ < _
          rw [show Q' + 1 = Q by omega]; exact hgt
        have hlt' : Q' < Q := by omega
        have Hl' := hid hl'
        clear hQ' hl' hov
        go_wp2_with fail
        go_roundw
        case rel => exact ⟨Q', rfl, by omega, hov', hrow', grown_trans hgr hg'⟩
        case measure => simp [intOf]; omega

end Go.Proofs.Ytphbacggmhjmgaa
