/- The layer nat, third part: digit, Div, Bits, Bit, From, Bytes. -/
import Derived.Test.YtphbacggmhjmgaaNatQ
import Derived.Test.YtphbacggmhjmgaaPlA
import Derived.Deep.RegionHeld3
import Derived.Outline

/- The layer nat, seventh part: one digit of a quotient, guessed and mended. -/
namespace Go.Proofs.Ytphbacggmhjmgaa
open Go.RowKit

def DigitPost (g : Nat) (pre us post vs : List Nat) (w w' : World) (e : Ending) : Prop :=
  ∃ us', us'.length = us.length ∧ Pl.Dig B64 us' ∧ Row w' g 65 (nums .u64 (pre ++ us' ++ post)) ∧ w.grownBy w' (some g) ∧
    e = .returned (.int .u64 ((Pl.val B64 us / Pl.val B64 vs : Nat) : Int)) ∧ Pl.val B64 us' = Pl.val B64 us % Pl.val B64 vs

theorem div64_named (hi lo y Q R : Nat) (hQ : Hid (Q = (hi * B64 + lo) / y)) (hR : Hid (R = (hi * B64 + lo) % y)) (hhi : hi < y) (hlo : lo < B64) (hy : y < B64) (w : World) :
    Calls Try.prog 85 #[.int .u64 (hi : Int), .int .u64 (lo : Int), .int .u64 (y : Int)] w fun e w' => e = .returned (.tuple #[.int .u64 (Q : Int), .int .u64 (R : Int)]) ∧ ∃ n, w' = w.drewN n := by
  rw [hQ.out, hR.out]; exact div64_calls hi lo y hhi hlo hy w
theorem mul64_named (x y H L : Nat) (hH : Hid (H = mulHi x y)) (hL : Hid (L = mulLo x y)) (hx : x < B64) (hy : y < B64) (w : World) :
    Calls Try.prog 86 #[.int .u64 (x : Int), .int .u64 (y : Int)] w fun e w' => e = .returned (.tuple #[.int .u64 (H : Int), .int .u64 (L : Int)]) ∧ w = w' := by
  rw [hH.out, hL.out]; exact mul64_calls x y hx hy w

/-- a number's three highest digits -/
theorem val_top3 {B : Nat} {us : List Nat} {n : Nat} (hn : us.length = n + 3) : Pl.val B us = Pl.val B (us.take n) + B ^ n * (us[n] + B * (us[n + 1] + B * us[n + 2])) := by
  rw [Pl.val_take_drop B us n (by omega), Pl.val_drop B us n (by omega), Pl.val_drop B us (n + 1) (by omega), Pl.val_drop B us (n + 2) (by omega), List.drop_of_length_le (by omega)]
  simp [Pl.val]
theorem val_top2 {B : Nat} {us : List Nat} {n : Nat} (hn : us.length = n + 2) : Pl.val B us = Pl.val B (us.take n) + B ^ n * (us[n] + B * us[n + 1]) := by
  rw [Pl.val_take_drop B us n (by omega), Pl.val_drop B us n (by omega), Pl.val_drop B us (n + 1) (by omega), List.drop_of_length_le (by omega)]
  simp [Pl.val]

theorem div_of_bounds {a b q : Nat} (h1 : q * b ≤ a) (h2 : a < (q + 1) * b) : a / b = q := by
  have hb : 0 < b := by
    rcases Nat.eq_zero_or_pos b with h | h
    · subst h; simp at h2
    · exact h
  apply Nat.le_antisymm
  · have := (Nat.div_lt_iff_lt_mul hb).2 h2
    omega
  · exact (Nat.le_div_iff_mul_le hb).2 h1

set_option maxHeartbeats 8000000 in
set_option maxRecDepth 100000 in
theorem digit_calls {w : World} {S : Nat → Prop} {pre us post vs : List Nat} {g o n cap : Nat} {v : Value} (hrow : Row w g 65 (nums .u64 (pre ++ us ++ post))) (ho : o = pre.length) (hn : us.length = n + 3) (hvn : vs.length = n + 2)
    (hcap : n + 3 ≤ cap) (hcap' : cap ≤ 9223372036854775807) (hn2 : n ≤ 999990) (hud : Pl.Dig B64 us) (hV : NatS.rep S w vs [v]) (hS : ∀ b, S b → b ≠ g) (hlt : Pl.val B64 us < B64 * Pl.val B64 vs) :
    Calls Try.prog 78 #[.slice (some ⟨g, o, none⟩) (n + 3) cap, v] w fun e w' => DigitPost g pre us post vs w w' e := by
  have hvd := num_dig hV
  have Ho := hid ho
  have Hn := hid hn
  have Hvn := hid hvn
  have u3 := val_top3 (B := B64) hn
  have v2 := val_top2 (B := B64) hvn
  have lu := Pl.val_lt (hud.take n)
  have lu' : Pl.val B64 (us.take n) < B64 ^ n := by rwa [List.length_take, Nat.min_eq_left (by omega)] at lu
  obtain ⟨A, c1, rfl, hc1, hm1⟩ := sl_open hV
  rw [hvn] at hV hc1 ⊢
  obtain ⟨b, of, rfl, hSb, hcv1, hv1⟩ := num_at hV (n + 1) (by omega)
  have hcv0 := (num_all hV n (by omega)).2
  have hv0 := hvd.at n (by omega)
  have hcu2 := hrow.segCell o ho (n + 2) (by omega)
  have hcu1 := hrow.segCell o ho (n + 1) (by omega)
  have hcu0 := hrow.segCell o ho n (by omega)
  have hu2 := hud.at (n + 2) (by omega)
  have hu1 := hud.at (n + 1) (by omega)
  have hu0 := hud.at n (by omega)
  obtain ⟨U2, hU2⟩ : ∃ x, x = us[n + 2]'(by omega) := ⟨_, rfl⟩
  obtain ⟨U1, hU1⟩ : ∃ x, x = us[n + 1]'(by omega) := ⟨_, rfl⟩
  obtain ⟨U0, hU0⟩ : ∃ x, x = us[n]'(by omega) := ⟨_, rfl⟩
  obtain ⟨V1, hV1⟩ : ∃ x, x = vs[n + 1]'(by omega) := ⟨_, rfl⟩
  obtain ⟨V0, hV0⟩ : ∃ x, x = vs[n]'(by omega) := ⟨_, rfl⟩
  rw [← hU2] at hcu2 hu2 u3
  rw [← hU1] at hcu1 hu1 u3
  rw [← hU0] at hcu0 hu0 u3
  rw [← hV1] at hcv1 hv1 v2
  rw [← hV0] at hcv0 hv0 v2
  obtain ⟨LU, hLU⟩ : ∃ x, x = Pl.val B64 (us.take n) := ⟨_, rfl⟩
  obtain ⟨LV, hLV⟩ : ∃ x, x = Pl.val B64 (vs.take n) := ⟨_, rfl⟩
  rw [← hLU] at lu' u3
  rw [← hLV] at v2
  have Hu3 := hid u3
  have Hv2 := hid v2
  clear hU2 hU1 hU0 hV1 hV0 hLU hLV u3 v2 lu ho hn hvn
  have i1 : (0 : Int) ≤ (n : Int) := by omega
  go_enter Try.func78, Try.ntmps78
  go_wp2_with fail
  go_quiet (fail)
  obtain ⟨w1, hw1⟩ : ∃ w1, w1 = w.drewN nq := ⟨_, rfl⟩
  rw [← hw1]
  have hst : Still w w1 := by rw [hw1]; exact Still.drewN _ _
  clear hw1
  go_upto_if 22 with (fail)
  go_cut [6] (fun q wc => ∃ Q : Nat, q = .int .u64 Q ∧ Q < B64 ∧ Hid (Pl.val B64 us < (Q + 1) * Pl.val B64 vs) ∧ Still w wc)
  case first =>
    by_cases hA : U2 < V1
    · have d2 := (hst.cell _).trans hcu2
      have d1 := (hst.cell _).trans hcu1
      have d0 := (hst.cell _).trans hcv1
      obtain ⟨Q0, hQ0⟩ : ∃ Q, Q = (U2 * B64 + U1) / V1 := ⟨_, rfl⟩
      obtain ⟨R0, hR0⟩ : ∃ R, R = (U2 * B64 + U1) % V1 := ⟨_, rfl⟩
      have hR0lt : R0 < V1 := by rw [hR0]; exact Nat.mod_lt _ (by omega)
      have hQ0lt : Q0 < B64 := by
        rw [hQ0, Nat.div_lt_iff_lt_mul (by omega)]
        have : (U2 + 1) * B64 ≤ V1 * B64 := Nat.mul_le_mul_right _ hA
        rw [Nat.mul_comm B64 V1]; rw [Nat.add_mul] at this; omega
      have hsum : Q0 * V1 + R0 = U2 * B64 + U1 := by
        have := Nat.div_add_mod (U2 * B64 + U1) V1
        rw [hQ0, hR0, Nat.mul_comm]; exact this
      have hov := hid (Pl.guess_first hR0lt hsum hu0 lu' Hu3.out Hv2.out)
      have HQ0 := hid hQ0
      have HR0 := hid hR0
      have Hsum := hid hsum
      clear hQ0 hR0 hsum
      have hd : decide (U2 < V1) = true := by simp [hA]
      rw [hd]
      clear hd
      repeat go_step
      go_quiet ((go_at_call 85; exact Calls.quiet_of (div64_named U2 U1 V1 Q0 R0 HQ0 HR0 hA hu1 hv1 _)))
      obtain ⟨w2, hw2⟩ : ∃ w2, w2 = w1.drewN nq := ⟨_, rfl⟩
      rw [← hw2]
      have hst2 : Still w w2 := by rw [hw2]; exact hst.trans (Still.drewN _ _)
      clear hw2 d2 d1 d0
      have d2 := (hst2.cell _).trans hcu0
      have d1 := (hst2.cell _).trans hcv0
      have d0 := (hst2.cell _).trans hcv1
      rw [show n + 2 - 1 = n + 1 from rfl]
      go_wp2_with fail
      go_loop [6, 7] (fun q r => ∃ Q R : Nat, q = .int .u64 Q ∧ r = .int .u64 R ∧ Q < B64 ∧ R < B64 ∧ Hid (Q * V1 + R = U2 * B64 + U1) ∧ Hid (Pl.val B64 us < (Q + 1) * Pl.val B64 vs)) (fun q _ => (intOf q).toNat)
      case atStart => exact ⟨_, _, rfl, rfl, hQ0lt, by omega, Hsum, hov⟩
      case round =>
        clear Hsum hov HQ0 HR0 hQ0lt hR0lt
        obtain ⟨Q, R, rfl, rfl, hQ, hR, hsum, hov⟩ := hrel
        obtain ⟨H, hH⟩ : ∃ x, x = mulHi Q V0 := ⟨_, rfl⟩
        obtain ⟨L, hL⟩ : ∃ x, x = mulLo Q V0 := ⟨_, rfl⟩
        have hparts := mul_parts Q V0
        rw [← hH, ← hL] at hparts
        have hLlt : L < B64 := by rw [hL]; exact mulLo_lt _ _
        have HH := hid hH
        have HL := hid hL
        have Hparts := hid hparts
        clear hH hL hparts
        go_wp2_with fail
        refine (mul64_named Q V0 H L HH HL hQ hv0 _).mono ?_
        rintro e w' ⟨rfl, rfl⟩
        rcases Nat.lt_trichotomy H R with hHR | hHR | hHR
        · go_wp2_with fail
          go_meet
          case rel => exact ⟨Q, rfl, hQ, hov, hst2⟩
        · have e1 : ((H : Int) == (R : Int)) = true := by simp [hHR]
          by_cases hLU : L ≤ U0
          · have e2 : R ≤ H := by omega
            have HHR := hid hHR
            clear hHR
            go_wp2_with fail
            go_meet
            case rel => exact ⟨Q, rfl, hQ, hov, hst2⟩
          · have e2 : R ≤ H := by omega
            have hcond : R * B64 + U0 < Q * V0 := by have := Hparts.out; rw [← this, hHR, Nat.mul_comm B64 R]; omega
            have HHR := hid hHR
            clear hHR
            have hov2 := Pl.guess_over hsum.out lu' Hu3.out Hv2.out hcond
            have hQ1 : 0 < Q := by
              rcases Nat.eq_zero_or_pos Q with h | h
              · subst h; simp at hov2
              · exact h
            obtain ⟨Q', hQ'⟩ : ∃ Q', Q' = Q - 1 := ⟨_, rfl⟩
            have y1 : IntKind.u64.wrap ((Q : Int) - 1) = (Q' : Int) := u64_eq (by omega) (by unfold B64 at hQ; omega)
            have hovn : Hid (Pl.val B64 us < (Q' + 1) * Pl.val B64 vs) := by
              show _ < _
              rw [show Q' + 1 = Q by omega]; exact hov2
            have hQlt : Q' < Q := by omega
            have hsumn : Q' * V1 + (R + V1) = U2 * B64 + U1 := by
              have h1 := hsum.out
              have h2 : Q * V1 = Q' * V1 + V1 := by rw [show Q = Q' + 1 by omega, Nat.add_mul, Nat.one_mul]
              omega
            by_cases hcar : R + V1 < B64
            · have ha : ∀ W : World, (callFunc 65 #[.int .u64 (R : Int), .int .u64 (V1 : Int), .int .u64 0]).run Try.prog W = .ok (.value (.tuple #[.int .u64 ((R + V1 : Nat) : Int), .int .u64 0])) W := fun W => by
                rw [show (0 : Int) = ((0 : Nat) : Int) from rfl, add64_run R V1 0 (by omega) W, addLo, addHi, Nat.add_zero, Nat.mod_eq_of_lt hcar, Nat.div_eq_of_lt hcar]
              obtain ⟨RV, hRV⟩ : ∃ x, x = R + V1 := ⟨_, rfl⟩
              rw [← hRV] at ha hcar hsumn
              have Hsumn := hid hsumn
              clear hov hsum hQ' hRV hsumn hov2 hcond
              go_wp2_with fail
              go_round
              case rel => exact ⟨Q', RV, rfl, rfl, by omega, hcar, Hsumn, hovn⟩
              case measure => simp [intOf]; omega
            · obtain ⟨RV, hRV⟩ : ∃ x, x = addLo R V1 0 := ⟨_, rfl⟩
              have hone : addHi R V1 0 = 1 := by
                have h1 := add_parts R V1 0
                have h2 := addLo_lt R V1 0
                have h3 := addHi_le hR hv1 (Nat.zero_le 1)
                rcases Nat.eq_zero_or_pos (addHi R V1 0) with h | h
                · rw [h] at h1; omega
                · omega
              have ha : ∀ W : World, (callFunc 65 #[.int .u64 (R : Int), .int .u64 (V1 : Int), .int .u64 0]).run Try.prog W = .ok (.value (.tuple #[.int .u64 (RV : Int), .int .u64 1])) W := fun W => by
                rw [show (0 : Int) = ((0 : Nat) : Int) from rfl, add64_run R V1 0 (by omega) W, hone, hRV]; rfl
              clear hov hsum hQ' hRV hsumn hov2 hcond hone
              go_wp2_with fail
              go_meet
              case rel => exact ⟨Q', rfl, by omega, hovn, hst2⟩
        · have e1 : ((H : Int) == (R : Int)) = false := by simp; omega
          have hcond : R * B64 + U0 < Q * V0 := by
            have h1 := Hparts.out
            have h2 : B64 * (R + 1) ≤ B64 * H := Nat.mul_le_mul_left _ hHR
            rw [Nat.mul_add, Nat.mul_one] at h2
            rw [Nat.mul_comm R]; omega
          have hov2 := Pl.guess_over hsum.out lu' Hu3.out Hv2.out hcond
          have hQ1 : 0 < Q := by
            rcases Nat.eq_zero_or_pos Q with h | h
            · subst h; simp at hov2
            · exact h
          obtain ⟨Q', hQ'⟩ : ∃ Q', Q' = Q - 1 := ⟨_, rfl⟩
          have y1 : IntKind.u64.wrap ((Q : Int) - 1) = (Q' : Int) := u64_eq (by omega) (by unfold B64 at hQ; omega)
          have hovn : Hid (Pl.val B64 us < (Q' + 1) * Pl.val B64 vs) := by
            show _ < _
            rw [show Q' + 1 = Q by omega]; exact hov2
          have hQlt : Q' < Q := by omega
          have hsumn : Q' * V1 + (R + V1) = U2 * B64 + U1 := by
            have h1 := hsum.out
            have h2 : Q * V1 = Q' * V1 + V1 := by rw [show Q = Q' + 1 by omega, Nat.add_mul, Nat.one_mul]
            omega
          by_cases hcar : R + V1 < B64
          · have ha : ∀ W : World, (callFunc 65 #[.int .u64 (R : Int), .int .u64 (V1 : Int), .int .u64 0]).run Try.prog W = .ok (.value (.tuple #[.int .u64 ((R + V1 : Nat) : Int), .int .u64 0])) W := fun W => by
              rw [show (0 : Int) = ((0 : Nat) : Int) from rfl, add64_run R V1 0 (by omega) W, addLo, addHi, Nat.add_zero, Nat.mod_eq_of_lt hcar, Nat.div_eq_of_lt hcar]
            obtain ⟨RV, hRV⟩ : ∃ x, x = R + V1 := ⟨_, rfl⟩
            rw [← hRV] at ha hcar hsumn
            have Hsumn := hid hsumn
            clear hov hsum hQ' hRV hsumn hov2 hcond
            go_wp2_with fail
            go_round
            case rel => exact ⟨Q', RV, rfl, rfl, by omega, hcar, Hsumn, hovn⟩
            case measure => simp [intOf]; omega
          · obtain ⟨RV, hRV⟩ : ∃ x, x = addLo R V1 0 := ⟨_, rfl⟩
            have hone : addHi R V1 0 = 1 := by
              have h1 := add_parts R V1 0
              have h2 := addLo_lt R V1 0
              have h3 := addHi_le hR hv1 (Nat.zero_le 1)
              rcases Nat.eq_zero_or_pos (addHi R V1 0) with h | h
              · rw [h] at h1; omega
              · omega
            have ha : ∀ W : World, (callFunc 65 #[.int .u64 (R : Int), .int .u64 (V1 : Int), .int .u64 0]).run Try.prog W = .ok (.value (.tuple #[.int .u64 (RV : Int), .int .u64 1])) W := fun W => by
              rw [show (0 : Int) = ((0 : Nat) : Int) from rfl, add64_run R V1 0 (by omega) W, hone, hRV]; rfl
            clear hov hsum hQ' hRV hsumn hov2 hcond hone
            go_wp2_with fail
            go_meet
            case rel => exact ⟨Q', rfl, by omega, hovn, hst2⟩
    · have hd : decide (U2 < V1) = false := by simp [hA]
      rw [hd]
      clear hd
      go_step
      go_step
      go_step
      go_step
      go_meet
      case rel =>
        refine ⟨B64 - 1, rfl, by have := B64_pos; omega, ?_, hst⟩
        show _ < _
        rw [show B64 - 1 + 1 = B64 by have := B64_pos; omega]; exact hlt
  case rest =>
    obtain ⟨Q, rfl, hQ, hov, hstc⟩ := hcut
    have hg0 := hstc.grown (some g)
    have hrow0 := hstc.row hrow
    go_wp2_with fail
    go_loopw [6] (fun q wr => ∃ Q : Nat, q = .int .u64 Q ∧ Q < B64 ∧ Hid (Pl.val B64 us < (Q + 1) * Pl.val B64 vs) ∧ Row wr g 65 (nums .u64 (pre ++ us ++ post)) ∧ w.grownBy wr (some g)) (fun q _ => (intOf q).toNat)
    case atStart => exact ⟨Q, rfl, hQ, hov, hrow0, hg0⟩
    case round =>
      clear hov hQ hrow0 hg0 Q
      obtain ⟨Q, rfl, hQ, hov, hrowr, hgr⟩ := hrel
      have hVr := (Rep.num .u64 B64).sl.grown hV hgr (fun b hb => by have := hS b hb; simpa using this)
      go_wp2_with fail
      refine (less_calls hrowr Ho.out (n := n + 2) Hn.out Hvn.out hcap hcap' (by omega) hud hVr hS hQ).mono ?_
      rintro e w' ⟨us', hl', hd', hrow', hg', ⟨hle, rfl, hv⟩ | ⟨hgt, rfl, rfl⟩⟩
      · have hfin : DigitPost g pre us post vs w w' (.returned (.int .u64 (Q : Int))) := by
          refine ⟨us', hl', hd', hrow', grown_trans hgr hg', ?_, ?_⟩
          · rw [div_of_bounds hle hov.out]
          · have h1 := hov.out
            rw [Nat.add_mul, Nat.one_mul] at h1
            have h2 : Pl.val B64 us = Pl.val B64 vs * Q + Pl.val B64 us' := by rw [Nat.mul_comm]; omega
            rw [h2, Nat.mul_add_mod, Nat.mod_eq_of_lt (by omega)]
        have Hl' := hid hl'
        have Hv := hid hv
        clear hl' hv
        go_wp2_with fail
        go_ret
        exact hfin
      · have hpos : 0 < Q := by
          rcases Nat.eq_zero_or_pos Q with h | h
          · subst h; simp at hgt
          · exact h
        obtain ⟨Q', hQ'⟩ : ∃ Q', Q' = Q - 1 := ⟨_, rfl⟩
        have w1 : IntKind.u64.wrap ((Q : Int) - 1) = (Q' : Int) := u64_eq (by omega) (by unfold B64 at hQ; omega)
        have hov' : Hid (Pl.val B64 us' < (Q' + 1) * Pl.val B64 vs) := by
          show _ < _
          rw [show Q' + 1 = Q by omega]; exact hgt
        have hlt' : Q' < Q := by omega
        have Hl' := hid hl'
        clear hQ' hl' hov
        go_wp2_with fail
        go_roundw
        case rel => exact ⟨Q', rfl, by omega, hov', hrow', grown_trans hgr hg'⟩
        case measure => simp [intOf]; omega

end Go.Proofs.Ytphbacggmhjmgaa

/- The layer nat, eighth part: a quotient and a rest. -/
namespace Go.Proofs.Ytphbacggmhjmgaa
open Go.RowKit

/-- what nat.Div answers -/
def DivPost (m n : Nat) (w : World) (e : Ending) (w' : World) : Prop :=
  if B64 ^ 64 ≤ m ∨ B64 ^ 64 ≤ n then e = .returned (.tuple #[.slice none 0 0, .slice none 0 0, errV 2])
  else if n = 0 then e = .returned (.tuple #[.slice none 0 0, .slice none 0 0, errV 4])
  else ∃ q r, e = .returned (.tuple #[q, r, .nilIface]) ∧ NumN.rep (Fresh w w') w' (m / n) [q] ∧ NumN.rep (Fresh w w') w' (m % n) [r]

theorem canon_zero {xs : List Nat} (hc : Pl.Canon xs) (h : Pl.val B64 xs = 0) : xs.length = 0 := by
  rcases Nat.eq_zero_or_pos xs.length with h0 | h0
  · exact h0
  · have := hc.val_pos B64_pos h0; omega

theorem rep_drew {α : Type} (r : Rep α) {S : Nat → Prop} {w : World} {x : α} {cs : List Value} (h : r.rep S w x cs) : r.rep S w.drew x cs := r.mono h (fun _ h => h) (fun _ _ => rfl)

theorem top_lt {p : List Nat} {s : Nat} (hp : 0 < p.length) (hd : Pl.Dig B64 p) (hs : s = 64 - Lib.bitLen p[p.length - 1]) : Pl.val B64 p * 2 ^ s < B64 ^ p.length := by
  have h1 := Pl.val_take_succ B64 p (p.length - 1) (by omega)
  rw [show p.length - 1 + 1 = p.length by omega, List.take_length] at h1
  have h2 := Pl.val_lt (hd.take (p.length - 1))
  rw [List.length_take, Nat.min_eq_left (by omega)] at h2
  have h3 := hd.at (p.length - 1) (by omega)
  have h4 := bitLen_lt p[p.length - 1] (by unfold B64 at h3; omega)
  have h5 := bitLen_le p[p.length - 1] h3
  have h6 : (p[p.length - 1] + 1) * 2 ^ s ≤ B64 := by
    have : (p[p.length - 1] + 1) * 2 ^ s ≤ 2 ^ Lib.bitLen p[p.length - 1] * 2 ^ s := Nat.mul_le_mul_right _ h4
    rw [← Nat.pow_add, show Lib.bitLen p[p.length - 1] + s = 64 by omega] at this
    exact this
  have h7 : Pl.val B64 p < B64 ^ (p.length - 1) * (p[p.length - 1] + 1) := by rw [Nat.mul_add]; omega
  have h8 : Pl.val B64 p * 2 ^ s < B64 ^ (p.length - 1) * (p[p.length - 1] + 1) * 2 ^ s := Nat.mul_lt_mul_of_pos_right h7 (Nat.two_pow_pos _)
  have h9 : B64 ^ (p.length - 1) * ((p[p.length - 1] + 1) * 2 ^ s) ≤ B64 ^ (p.length - 1) * B64 := Nat.mul_le_mul_left _ h6
  rw [← Nat.pow_succ, show (p.length - 1).succ = p.length by omega] at h9
  rw [Nat.mul_assoc] at h8
  omega

theorem row_newAt (w : World) (e : TypeId) (cs : Array Value) (n : Nat) (hn : n = w.heap.size) : Row (w.alloc (.cells cs e)) n e cs.toList := by
  subst hn; exact Row.new w e cs

/-- behind the two shifts: a's digits, b's digits -/
def Shifted (w : World) (m n a b s : Nat) (u v : Value) (wc : World) : Prop :=
  ∃ gu gv us vs, u = .slice (some ⟨gu, 0, none⟩) (m + 1) (m + 1) ∧ v = .slice (some ⟨gv, 0, none⟩) n (n + 1) ∧ gu ≠ gv ∧ w.heap.size ≤ gu ∧ w.heap.size ≤ gv ∧ us.length = m + 1 ∧ Pl.Dig B64 us ∧ Pl.val B64 us = a * 2 ^ s ∧
    Row wc gu 65 (nums .u64 us) ∧ vs.length = n + 1 ∧ Pl.Dig B64 vs ∧ Pl.val B64 vs = b * 2 ^ s ∧ Row wc gv 65 (nums .u64 vs) ∧ Below w.heap.size w wc

set_option maxHeartbeats 8000000 in
set_option maxRecDepth 100000 in
theorem div_main {w : World} {S : Nat → Prop} {m n : Nat} {va vb : Value} (ha : RawN.rep S w m [va]) (hb : RawN.rep S w n [vb]) (hm : m < B64 ^ 64) (hn : B64 ≤ n) (hnm : n ≤ m) :
    Calls Try.prog 52 #[va, vb] w fun e w' => DivPost m n w e w' ∧ Below w.heap.size w w' := by
  have hc : 0 ≤ Pl.cmp m n := by have := @Pl.cmp_neg m n; omega
  go_enter Try.func52, Try.ntmps52
  go_wp2_with fail
  refine (both_ok ha hb (by omega) (by omega)).mono ?_
  rintro e w' ⟨⟨u, v, rfl, hp, hq⟩, rfl⟩
  obtain ⟨p, hP, cp, ea⟩ := id hp
  obtain ⟨q, hQ, cq, eb⟩ := id hq
  have lp := (Pl.canon_len_le (n := 64) B64_gt (num_dig hP) cp).2 (by rw [ea]; exact hm)
  have lq := Pl.canon_len B64_pos (num_dig hP) cq (show Pl.val B64 q ≤ Pl.val B64 p by rw [ea, eb]; exact hnm)
  have lq2 : ¬ q.length ≤ 1 := by
    intro h
    have := (Pl.canon_len_le (n := 1) B64_gt (num_dig hQ) cq).1 h
    rw [Nat.pow_one, eb] at this; omega
  have e0 : ((q.length : Int) == 0) = false := by rw [beq_eq_false_iff_ne]; omega
  have e1 : ((q.length : Int) == 1) = false := by rw [beq_eq_false_iff_ne]; omega
  obtain ⟨A, c1, rfl, hc1, hm1⟩ := sl_open hP
  obtain ⟨A', c2, rfl, hc2, hm2⟩ := sl_open hQ
  have Ea := hid ea
  have Eb := hid eb
  clear ea eb ha hb
  have dq := num_dig hQ
  have dp := num_dig hP
  go_wp2_with fail
  refine (cmp_calls (num_raw hp) (num_raw hq)).mono ?_
  rintro e w1 ⟨rfl, hst⟩
  have hB1 := hst.below
  have hsz := hid hst.size
  have hP1 := hst.rep _ hP
  have hQ1 := hst.rep _ hQ
  obtain ⟨b, o, rfl, _, hcell, hbd⟩ := num_at hQ1 (q.length - 1) (by omega)
  have i1 : IntKind.i64.wrap ((q.length : Int) - 1) = ((q.length - 1 : Nat) : Int) := by
    rw [show (q.length : Int) - 1 = ((q.length - 1 : Nat) : Int) by omega]; exact IntWalk.i64_in _ (by omega)
  clear hP hQ hp hq hst
  go_wp2_with fail
  refine (lz64_calls q[q.length - 1] hbd _).mono ?_
  rintro e w' ⟨rfl, rfl⟩
  obtain ⟨s, hs⟩ : ∃ s, s = 64 - Lib.bitLen q[q.length - 1] := ⟨_, rfl⟩
  rw [← hs]
  have hs63 : s ≤ 63 := by
    have h1 := cq.last (by omega)
    have h2 := bitLen_lt q[q.length - 1] (by unfold B64 at hbd; omega)
    rcases Nat.eq_zero_or_pos (Lib.bitLen q[q.length - 1]) with h0 | h0
    · rw [h0] at h2; omega
    · omega
  have htop := hid (top_lt (by omega) dq hs)
  have Hs := hid hs
  clear hs
  have hz1 : (0 : Int) ≤ (q.length : Int) := by omega
  have hz2 : (q.length : Int) ≤ (q.length : Int) + 1 := by omega
  go_upto_region 12 with (fail)
  go_cut [11, 12] (fun u v wc => Shifted w1 p.length q.length m n s u v wc)
  case first =>
    go_region_held3 (fun _ => True) (trivial)
      (first
      | (go_at_call_of 77 (Value.slice A p.length c1)
         refine (shift_calls hs63 (rep_drew _ hP1) (by omega)).mono ?_
         rintro e wa ⟨ua, rfl, ha1, ha2, ha3, ha4, ha5⟩)
      | (go_at_call_of 77 (Value.slice (some ⟨b, o, none⟩) q.length c2)
         refine (shift_calls hs63 ((Rep.num .u64 B64).sl.below (rep_drew _ hQ1) ha5) (by omega)).mono ?_
         rintro e wb ⟨ub, rfl, hb1, hb2, hb3, hb4, hb5⟩)
      | fail)
    go_wp2_with fail
    go_meet
    case rel =>
      have ha6 : Below w1.heap.size w1 wa := ⟨ha5.os, ha5.tape, ha5.output, ha5.size, ha5.block⟩
      have hsa := ha6.size
      refine ⟨w1.heap.size, wa.heap.size, ua, ub, rfl, rfl, ?_, Nat.le_refl _, hsa, ha1, ha2, by rw [ha3, Ea.out], ha4.below ha4.lt hb5, hb1, hb2, by rw [hb3, Eb.out], hb4, ?_⟩
      · have hx : w1.heap.size < wa.heap.size := ha4.lt
        omega
      · exact below_trans ha6 hb5
  case rest =>
    obtain ⟨gu, gv, us, vs, rfl, rfl, hne, hgu, hgv, hul, hud, hUv, hrowu, hvl, hvd, hVv, hrowv, hB2⟩ := hcut
    have hmk : ∀ W : World, (Instr.makeSlice 24 (.int .i64 ((p.length : Int) - (q.length : Int) + 1)) (.int .i64 ((p.length : Int) - (q.length : Int) + 1))).run Try.prog W = .ok (.slice (some ⟨W.heap.size, 0, none⟩) (p.length - q.length + 1) (p.length - q.length + 1)) (W.alloc (.cells (zerosOf (.int .u64 0) (p.length - q.length + 1)) 65)) := fun W => by
      have := run_make_u64 (p.length - q.length + 1) (by omega) W
      rwa [show ((p.length - q.length + 1 : Nat) : Int) = (p.length : Int) - (q.length : Int) + 1 by omega] at this
    go_wp2_with fail
    have hwcs : w1.heap.size ≤ wc.heap.size := hB2.size
    have hguc := hrowu.lt
    have hgvc := hrowv.lt
    obtain ⟨gq, hgq⟩ : ∃ gq, gq = wc.heap.size := ⟨_, rfl⟩
    rw [← hgq]
    have hq1 : gu ≠ gq := by omega
    have hq2 : gv ≠ gq := by omega
    have hq3 : w1.heap.size ≤ gq := by omega
    have hrowq := row_newAt wc 65 (zerosOf (.int .u64 0) (p.length - q.length + 1)) gq hgq
    rw [zerosOf_num] at hrowq
    have hwq := below_alloc hB2 (.cells (zerosOf (.int .u64 0) (p.length - q.length + 1)) 65)
    have hV2 := Pl.val_lt hvd
    have hVb : Pl.val B64 vs < B64 ^ q.length := by rw [hVv, ← Eb.out]; exact htop.out
    have hVz := Pl.val_take_drop B64 vs q.length (by omega)
    have hVd : Pl.val B64 (vs.drop q.length) = 0 := by
      rcases Nat.eq_zero_or_pos (Pl.val B64 (vs.drop q.length)) with h | h
      · exact h
      · have : B64 ^ q.length * 1 ≤ B64 ^ q.length * Pl.val B64 (vs.drop q.length) := Nat.mul_le_mul_left _ h
        omega
    have hVt : Pl.val B64 (vs.take q.length) = n * 2 ^ s := by rw [← hVv, hVz, hVd]; simp
    have hvt : (vs.take q.length).length = q.length := by rw [List.length_take]; omega
    have hfirst := Pl.long_first hUv (show m < B64 ^ p.length by rw [← Ea.out]; exact Pl.val_lt dp) (show B64 ^ (q.length - 1) ≤ n by rw [← Eb.out]; exact cq.ge (by omega)) (by omega) lq (Nat.two_pow_pos s) (by omega)
    have hVlt : n * 2 ^ s ≤ B64 ^ q.length := by rw [← hVv]; omega
    obtain ⟨vt, hvte⟩ : ∃ vt, vt = vs.take q.length := ⟨_, rfl⟩
    rw [← hvte] at hVt hvt
    have hvtd : Pl.Dig B64 vt := by rw [hvte]; exact hvd.take _
    have HVt := hid hVt
    have Hvt := hid hvt
    have Hvte := hid hvte
    have HVlt := hid hVlt
    have Hfirst := hid hfirst
    have HUv := hid hUv
    have Hul := hid hul
    have Hvl := hid hvl
    clear hVt hvt hvte hVlt hfirst hUv hul hvl hV2 hVb hVz hVd hVv hgq hmk
    go_loopw [15] (fun jv wr => ∃ k : Nat, ∃ us outs : List Nat, jv = .int .i64 ((k : Int) - 1) ∧ k ≤ p.length - q.length + 1 ∧ us.length = p.length + 1 ∧ Pl.Dig B64 us ∧ outs.length = p.length - q.length + 1 ∧ Pl.Dig B64 outs ∧ Row wr gu 65 (nums .u64 us) ∧ Row wr gq 65 (nums .u64 outs) ∧ Row wr gv 65 (nums .u64 vs)
      ∧ Hid (Pl.val B64 us + B64 ^ k * (Pl.val B64 (outs.drop k) * (n * 2 ^ s)) = m * 2 ^ s) ∧ Hid (Pl.val B64 (us.drop k) < n * 2 ^ s) ∧ Below w1.heap.size w1 wr) (fun jv _ => (intOf jv + 1).toNat)
    case atStart =>
      refine ⟨p.length - q.length + 1, us, List.replicate (p.length - q.length + 1) 0, by congr 1; omega, Nat.le_refl _, Hul.out, hud, by simp, Pl.Dig.replicate B64_pos _, hrowu.alloc _, hrowq, hrowv.alloc _, ?_, Hfirst, hwq⟩
      show _ = _
      rw [List.drop_of_length_le (by simp), HUv.out]
      simp [Pl.val]
    case round =>
      clear hrowu hrowq hrowv hwq Hfirst HUv Hul hud hB2 hwcs hguc hgvc us
      obtain ⟨k, us, outs, rfl, hk, hul, hud, hol, hod, hrowu, hrowq, hrowv, hinv, hlow, hB2⟩ := hrel
      obtain ⟨wo, rfl⟩ : ∃ wo : World, wo = wr := ⟨_, rfl⟩
      have Hul := hid hul
      have Hol := hid hol
      clear hul hol
      cases k with
      | succ j =>
        rw [show (((j + 1 : Nat) : Int) - 1) = (j : Int) by omega]
        have hj0 : (0 : Int) ≤ (j : Int) := by omega
        have hjq : (j : Int) + (q.length : Int) ≤ (p.length : Int) := by omega
        obtain ⟨pre, hpre⟩ : ∃ x, x = us.take j := ⟨_, rfl⟩
        obtain ⟨mid, hmid⟩ : ∃ x, x = (us.drop j).take (q.length + 1) := ⟨_, rfl⟩
        obtain ⟨post, hpost⟩ : ∃ x, x = us.drop (j + q.length + 1) := ⟨_, rfl⟩
        have husp : us = pre ++ mid ++ post := by
          rw [hpre, hmid, hpost, List.append_assoc, show j + q.length + 1 = j + (q.length + 1) from Nat.add_assoc _ _ _, ← List.drop_drop, List.take_append_drop, List.take_append_drop]
        have hprel : pre.length = j := by have := Hul.out; rw [hpre, List.length_take]; omega
        have hmidl : mid.length = q.length - 2 + 3 := by have := Hul.out; rw [hmid, List.length_take, List.length_drop]; omega
        obtain ⟨k1, k2, k3⟩ := Pl.long_pick (n := q.length) hud (show j < us.length by have := Hul.out; omega) HVlt.out hlow.out
        rw [← hmid] at k1 k2
        rw [← hpost] at k3
        have hmidd : Pl.Dig B64 mid := by rw [hmid]; exact (hud.drop _).take _
        have hpred : Pl.Dig B64 pre := by rw [hpre]; exact hud.take _
        have hpostd : Pl.Dig B64 post := by rw [hpost]; exact hud.drop _
        have hrowu' : Row wo gu 65 (nums .u64 (pre ++ mid ++ post)) := by rw [← husp]; exact hrowu
        have hvsp : vs = [] ++ vt ++ vs.drop q.length := by rw [Hvte.out, List.nil_append, List.take_append_drop]
        have hrowv' : Row wo gv 65 (nums .u64 ([] ++ vt ++ vs.drop q.length)) := by rw [← hvsp]; exact hrowv
        have hVs := Row.seg (S := fun b => b = gv) hrowv' rfl hvtd 0 q.length (q.length + 1) rfl Hvt.out.symm (by omega) (by omega) (by omega)
        have hQlt : Pl.val B64 mid / Pl.val B64 vt < B64 := by
          rw [HVt.out]; exact Nat.div_lt_of_lt_mul (by rw [Nat.mul_comm]; exact k1)
        have hinv' : Hid (Pl.val B64 (pre ++ mid ++ post) + B64 ^ (j + 1) * (Pl.val B64 (List.drop (j + 1) outs) * (n * 2 ^ s)) = m * 2 ^ s) := by rw [← husp]; exact hinv
        have hpl : pre.length + mid.length + post.length = p.length + 1 := by
          have := congrArg List.length husp
          rw [List.length_append, List.length_append, Hul.out] at this
          exact this.symm
        have hVpos : 0 < Pl.val B64 vt := by
          rw [HVt.out]; exact Nat.mul_pos (by omega) (Nat.two_pow_pos _)
        have Hmidl := hid hmidl
        have Hprel := hid hprel
        have K1 := hid k1
        have K3 := hid k3
        have Hpl := hid hpl
        have hjo : j < outs.length := by have := Hol.out; omega
        clear hinv hlow husp hprel hmidl k1 k2 k3 hpl hmid hpre hpost hvsp hrowu hrowv' Hul
        go_wp2_with fail
        rw [show j + q.length + 1 - j = q.length - 2 + 3 by omega]
        refine (digit_calls (n := q.length - 2) (S := fun b => b = gv) hrowu' Hprel.out.symm Hmidl.out (by rw [Hvt.out]; omega) (by omega) (by omega) (by omega) hmidd hVs (fun b hb => by rw [hb]; omega) (by rw [HVt.out]; exact K1.out)).mono ?_
        rintro e w4 ⟨us', hl', hd', hrow4, hg4, rfl, hv'⟩
        have hrowq4 := hrowq.grown hg4 (by simp; omega)
        have hrowv4 := hrowv.grown hg4 (by simp; omega)
        have hst := hrowq4.num (k := .u64) j hjo
        have hsf := hrowq4.frozen j
        obtain ⟨Q, hQ⟩ : ∃ Q, Q = Pl.val B64 mid / Pl.val B64 vt := ⟨_, rfl⟩
        rw [← hQ] at hQlt ⊢
        have hrowq5 := hrowq4.setNum (k := .u64) j Q
        have hrowu5 := hrow4.other (a := ⟨gq, j, none⟩) hq1 (.int .u64 (Q : Int))
        have hrowv5 := hrowv4.other (a := ⟨gq, j, none⟩) hq2 (.int .u64 (Q : Int))
        have hB5 := below_setCell (below_grown hB2 hg4 hgu) (p := ⟨gq, j, none⟩) hq3 (.int .u64 (Q : Int))
        have hinv5 : Hid (Pl.val B64 (pre ++ us' ++ post) + B64 ^ j * (Pl.val B64 ((outs.set j Q).drop j) * (n * 2 ^ s)) = m * 2 ^ s) := by
          refine Pl.long_step Hprel.out hjo K3.out ?_ hinv'.out
          rw [← HVt.out, hv', hQ, Nat.mul_comm]
          exact (Nat.div_add_mod _ _).symm
        have hlow5 : Hid (Pl.val B64 ((pre ++ us' ++ post).drop j) < n * 2 ^ s) := by
          show _ < _
          rw [Pl.long_rest Hprel.out K3.out, hv', ← HVt.out]
          exact Nat.mod_lt _ hVpos
        have hud5 : Pl.Dig B64 (pre ++ us' ++ post) := (hpred.append hd').append hpostd
        have hlen5 : (pre ++ us' ++ post).length = p.length + 1 := by
          rw [List.length_append, List.length_append, hl']; exact Hpl.out
        have Hlen5 := hid hlen5
        clear hl' hQ hv' hlen5 hinv'
        go_wp2_with fail
        go_roundw
        case rel => exact ⟨j, pre ++ us' ++ post, outs.set j Q, rfl, by omega, Hlen5.out, hud5, by rw [List.length_set]; exact Hol.out, hod.set j hQlt, hrowu5, hrowq5, hrowv5, hinv5, hlow5, hB5⟩
        case measure => simp [intOf]
      | zero =>
        obtain ⟨hqv, hrv⟩ := Pl.long_end (Nat.two_pow_pos s) (show 0 < n by omega) (by have := hlow.out; rwa [List.drop_zero] at this) hinv.out
        have hut : Pl.val B64 (us.take q.length) = m % n * 2 ^ s := by
          have h1 := Pl.val_drop_zero HVlt.out hlow.out
          rw [List.drop_zero] at h1
          rw [← hrv, Pl.val_take_drop B64 us q.length (by have := Hul.out; omega), h1]; simp
        have husp : us = [] ++ us.take q.length ++ us.drop q.length := by rw [List.nil_append, List.take_append_drop]
        have hrowu' : Row wo gu 65 (nums .u64 ([] ++ us.take q.length ++ us.drop q.length)) := by rw [← husp]; exact hrowu
        have hUs := Row.seg (S := fun b => b = gu) hrowu' rfl (hud.take q.length) 0 q.length (p.length + 1) rfl (by have := Hul.out; rw [List.length_take]; omega) (by omega) (by omega) (by omega)
        have Hqv := hid hqv
        clear hinv hlow hqv hrv husp hrowu' hrowu hrowv
        go_wp2_with fail
        refine (trim_calls hUs).mono ?_
        rintro e w' ⟨⟨u, rfl, hu⟩, rfl⟩
        have hrc := Pl.trim_canon (us.take q.length)
        have hrd := Pl.trim_dig (hud.take q.length)
        have hrv := Pl.trim_val B64 (us.take q.length)
        have hrl : (Pl.trim (us.take q.length)).length ≤ q.length := by
          rw [Pl.trim_length]
          exact Nat.le_trans (Pl.trimN_le _ _) (by rw [List.length_take]; omega)
        rw [hut] at hrv
        obtain ⟨r, hr⟩ : ∃ r, r = Pl.trim (us.take q.length) := ⟨_, rfl⟩
        rw [← hr] at hu hrc hrd hrv hrl
        obtain ⟨A3, c3, rfl, hc3, hm3⟩ := sl_open hu
        have Hrv := hid hrv
        have hmk : ∀ W : World, (Instr.makeSlice 24 (.int .i64 (r.length : Int)) (.int .i64 (r.length : Int))).run Try.prog W = .ok (.slice (some ⟨W.heap.size, 0, none⟩) r.length r.length) (W.alloc (.cells (zerosOf (.int .u64 0) r.length) 65)) := fun W => run_make_u64 r.length (by omega) W
        have hwos : w1.heap.size ≤ wo.heap.size := hB2.size
        have hgqo := hrowq.lt
        clear hrv hr hut hud hUs Hul us
        go_wp2_with fail
        have hrow0 := Row.new wo 65 (zerosOf (.int .u64 0) r.length)
        rw [zerosOf_num] at hrow0
        go_loopw [109] (fun iv wr => ∃ k : Nat, ∃ ys : List Nat, iv = .int .i64 (k : Int) ∧ k ≤ r.length ∧ ys.length = r.length ∧ Pl.Dig B64 ys ∧ Row wr wo.heap.size 65 (nums .u64 ys)
          ∧ Hid (Pl.val B64 (ys.take k) + B64 ^ k * (Pl.val B64 (r.drop k) / 2 ^ s) = m % n) ∧ Below wo.heap.size wo wr) (fun iv _ => r.length - (intOf iv).toNat)
        case atStart =>
          refine ⟨0, List.replicate r.length 0, rfl, by omega, by simp, Pl.Dig.replicate B64_pos _, hrow0, ?_, below_alloc (Below.refl _ _) _⟩
          show _ = _
          rw [List.drop_zero, Hrv.out, Nat.mul_div_cancel _ (Nat.two_pow_pos s)]; simp [Pl.val]
        case round =>
          clear hrow0 hmk Hrv
          obtain ⟨k, ys, rfl, hk, hyl, hyd, hrow, hinv, hB3⟩ := hrel
          by_cases hlt : k < r.length
          · obtain ⟨b', o', rfl, hS', hcell', hbd'⟩ := num_at ((Rep.num .u64 B64).sl.below hu hB3) k hlt
            clear hS'
            have hst := hrow.num (k := .u64) k (by omega)
            have hsf := hrow.frozen k
            have hDE : B64 = 2 ^ s * 2 ^ (64 - s) := by rw [← Nat.pow_add, show s + (64 - s) = 64 by omega]; rfl
            have hlt9 := Pl.down_lt (X := Pl.val B64 (r.drop (k + 1))) hDE (Nat.two_pow_pos s) hbd'
            obtain ⟨H, hH⟩ : ∃ H, H = r[k] / 2 ^ s := ⟨_, rfl⟩
            have q3 : (r[k] : Int) / 2 ^ s = (H : Int) := by rw [hH]; push_cast; rfl
            obtain ⟨C, hC⟩ : ∃ C, C = r[k] / 2 ^ s + 2 ^ (64 - s) * (Pl.val B64 (r.drop (k + 1)) % 2 ^ s) := ⟨_, rfl⟩
            rw [← hC] at hlt9
            have hinv9 := hid (Pl.down_inv hDE (Nat.two_pow_pos s) hlt (by omega) hC hinv.out)
            have hrow9 := hrow.setNum (k := .u64) k C
            have hB9 := below_setCell hB3 (p := ⟨wo.heap.size, k, none⟩) (Nat.le_refl _) (.int .u64 (C : Int))
            have hyd9 := hyd.set k hlt9
            have hk9 : (k : Int) < (r.length : Int) := by omega
            have hk8 : (0 : Int) ≤ (k : Int) := by omega
            by_cases hplain : s = 0 ∨ r.length ≤ k + 1
            · have hCH : C = H := by
                rw [hC, hH]
                rcases hplain with h | h
                · rw [h]; simp [Nat.mod_one]
                · rw [Pl.down_mod_end h]; simp
              rw [hCH] at hinv9 hrow9 hB9 hyd9
              clear hinv hC hH hDE hlt9 hCH
              by_cases hs0 : s = 0
              · have hs1 : ¬ (0 : Int) < (s : Int) := by omega
                have Hs0 := hid hs0
                clear hs0 hplain
                go_wp2_with fail
                go_roundw
                case rel => exact ⟨k + 1, _, by go_num, by omega, by simpa using hyl, hyd9, hrow9, hinv9, hB9⟩
                case measure => simp [intOf]; omega
              · have hs1 : (0 : Int) < (s : Int) := by omega
                have hk7 : ¬ (k : Int) + 1 < (r.length : Int) := by omega
                clear hplain
                go_wp2_with fail
                go_roundw
                case rel => exact ⟨k + 1, _, by go_num, by omega, by simpa using hyl, hyd9, hrow9, hinv9, hB9⟩
                case measure => simp [intOf]; omega
            · have hk1 : k + 1 < r.length := by omega
              obtain ⟨_, _, hx, hS2, hcell2, hbd2⟩ := num_at ((Rep.num .u64 B64).sl.below hu hB3) (k + 1) hk1
              clear hS2
              injection hx with hx
              injection hx with hx1 hx2
              subst hx1 hx2
              obtain ⟨X, hX⟩ : ∃ X, X = r[k + 1] * 2 ^ (64 - s) % 18446744073709551616 := ⟨_, rfl⟩
              have hXe : X = 2 ^ (64 - s) * (Pl.val B64 (r.drop (k + 1)) % 2 ^ s) := by
                rw [hX, Pl.down_mod hDE (by omega), show 18446744073709551616 = 2 ^ s * 2 ^ (64 - s) from hDE, Nat.mul_mod_mul_right, Nat.mul_comm]
              have hHlt : H < 2 ^ (64 - s) := by
                rw [hH, Nat.div_lt_iff_lt_mul (Nat.two_pow_pos s), Nat.mul_comm, ← hDE]; exact hbd'
              have q1 : IntKind.u64.wrap ((r[k + 1] : Int) * 2 ^ (64 - s)) = (X : Int) := by rw [hX]; exact u64_mod (by push_cast; rfl)
              have q2 : bits .or .u64 (H : Int) (X : Int) = (C : Int) := by
                rw [hX, or_low (by omega) hHlt, hC, ← hH, ← hXe, hX]
              have hrow8 := hrow.setNum (k := .u64) k H
              have hB8 := below_setCell hB3 (p := ⟨wo.heap.size, k, none⟩) (Nat.le_refl _) (.int .u64 (H : Int))
              have hrow7 := hrow8.setNum (k := .u64) k C
              have hB7 := below_setCell hB8 (p := ⟨wo.heap.size, k, none⟩) (Nat.le_refl _) (.int .u64 (C : Int))
              rw [List.set_set] at hrow7
              have hs1 : (0 : Int) < (s : Int) := by omega
              have hk7 : (k : Int) + 1 < (r.length : Int) := by omega
              clear hinv hC hH hDE hlt9 hXe hX hplain hrow9 hB9
              go_wp2_with fail
              go_region
              go_wp2_with fail
              go_roundw
              case rel => exact ⟨k + 1, _, by go_num, by omega, by simpa using hyl, hyd9, hrow7, hinv9, hB7.drew⟩
              case measure => simp [intOf]; omega
          · obtain rfl : k = r.length := by omega
            have hv := hinv.out
            rw [List.drop_of_length_le (Nat.le_refl _), List.take_of_length_le (by omega)] at hv
            have hv1 : Pl.val B64 ys = m % n := by rw [← hv]; simp [Pl.val]
            have Hv1 := hid hv1
            have hyb := hyl
            have hwr := hB3.size
            have hrq := hrowq.below hgqo hB3
            have hQs := hrq.slNum (S := Fresh w wr) ⟨by have := hsz.out; omega, hrq.lt⟩ hod (p.length - q.length + 1) (by have := Hol.out; omega) (by omega) (by have := Hol.out; omega)
            have hYs := hrow.slNum (S := Fresh w wr) ⟨by have := hsz.out; omega, hrow.lt⟩ hyd r.length (by omega) (by omega) (by omega)
            rw [Hol.out] at hQs
            rw [hyl] at hYs
            have hBf : Below w.heap.size w wr := below_trans hB1 (below_trans hB2 hB3)
            clear hv hv1 hinv hyl hyb hrow hB3 hrq
            go_wp2_with fail
            refine (trim_calls hQs).mono ?_
            rintro e w' ⟨⟨uq, rfl, huq⟩, rfl⟩
            go_wp2_with fail
            refine (trim_calls hYs).mono ?_
            rintro e w' ⟨⟨ur, rfl, hur⟩, rfl⟩
            go_wp2_with fail
            go_ret3
            refine ⟨?_, hBf⟩
            unfold DivPost
            rw [if_neg (by omega), if_neg (by omega)]
            exact ⟨_, _, rfl, ⟨_, huq, Pl.trim_canon _, by rw [Pl.trim_val]; exact Hqv.out⟩, ⟨_, hur, Pl.trim_canon _, by rw [Pl.trim_val]; exact Hv1.out⟩⟩

set_option maxHeartbeats 1000000 in
theorem div_calls {w : World} {S : Nat → Prop} {m n : Nat} {va vb : Value} (ha : RawN.rep S w m [va]) (hb : RawN.rep S w n [vb]) :
    Calls Try.prog 52 #[va, vb] w fun e w' => DivPost m n w e w' ∧ Below w.heap.size w w' := by
  by_cases hl : B64 ^ 64 ≤ m ∨ B64 ^ 64 ≤ n
  · go_enter Try.func52, Try.ntmps52
    go_wp2_with fail
    refine (both_long ha hb hl).mono ?_
    rintro e w' ⟨rfl, rfl⟩
    go_wp2
    go_ret3
    exact ⟨by unfold DivPost; rw [if_pos hl]; rfl, Below.refl _ _⟩
  by_cases hn0 : n = 0
  · go_enter Try.func52, Try.ntmps52
    go_wp2_with fail
    refine (both_ok ha hb (by omega) (by omega)).mono ?_
    rintro e w' ⟨⟨u, v, rfl, hp, ⟨q, hQ, cq, eb⟩⟩, rfl⟩
    have hq0 := canon_zero cq (by rw [eb]; exact hn0)
    obtain ⟨A', c2, rfl, hc2, hm2⟩ := sl_open hQ
    rw [hq0]
    have Hn0 := hid hn0
    have Hq0 := hid hq0
    have Eb := hid eb
    clear hn0 hq0 eb
    go_wp2
    go_ret3
    exact ⟨by unfold DivPost; rw [if_neg hl, if_pos Hn0.out]; rfl, Below.refl _ _⟩
  by_cases hless : m < n
  · go_enter Try.func52, Try.ntmps52
    go_wp2_with fail
    refine (both_ok ha hb (by omega) (by omega)).mono ?_
    rintro e w' ⟨⟨u, v, rfl, hp, hq⟩, rfl⟩
    obtain ⟨p, hP, cp, ea⟩ := id hp
    obtain ⟨q, hQ, cq, eb⟩ := id hq
    have hql : 0 < q.length := by
      rcases Nat.eq_zero_or_pos q.length with h | h
      · obtain rfl := List.eq_nil_of_length_eq_zero h
        exact absurd eb.symm hn0
      · exact h
    obtain ⟨A', c2, rfl, hc2, hm2⟩ := sl_open hQ
    have e0 : ((q.length : Int) == 0) = false := by rw [beq_eq_false_iff_ne]; omega
    have Ea := hid ea
    have Eb := hid eb
    clear ea eb
    go_wp2_with fail
    refine (cmp_calls (num_raw hp) (num_raw hq)).mono ?_
    rintro e w1 ⟨rfl, hst⟩
    have hP1 := hst.rep _ hP
    have hB1 := hst.below
    rw [Pl.cmp_lt hless]
    have Hless := hid hless
    clear hst hP hp hq hless
    go_wp2_with fail
    refine (clone_calls hP1).mono ?_
    rintro e w2 ⟨⟨u', rfl, hu'⟩, hB2⟩
    go_wp2
    go_ret3
    refine ⟨?_, below_trans hB1 hB2⟩
    unfold DivPost
    rw [if_neg hl, if_neg hn0]
    refine ⟨_, _, rfl, ?_, ⟨p, NatS.mono hu' (Fresh.mono hB1.size (Nat.le_refl _)) (Same.refl _ _), cp, ?_⟩⟩
    · rw [Nat.div_eq_of_lt Hless.out]; exact NumN.zero _ _
    · rw [Ea.out, Nat.mod_eq_of_lt Hless.out]
  by_cases hbig : B64 ≤ n
  · exact div_main ha hb (by omega) hbig (by omega)
  · have hc : 0 ≤ Pl.cmp m n := by have := @Pl.cmp_neg m n; omega
    go_enter Try.func52, Try.ntmps52
    go_wp2_with fail
    refine (both_ok ha hb (by omega) (by omega)).mono ?_
    rintro e w' ⟨⟨u, v, rfl, hp, hq⟩, rfl⟩
    obtain ⟨q, hQ, cq, eb⟩ := id hq
    have hql : q.length = 1 := by
      have h1 := (Pl.canon_len_le (n := 1) B64_gt (num_dig hQ) cq).2 (by rw [eb, Nat.pow_one]; omega)
      rcases Nat.eq_zero_or_pos q.length with h | h
      · obtain rfl := List.eq_nil_of_length_eq_zero h
        exact absurd eb.symm hn0
      · omega
    obtain ⟨d, rfl⟩ : ∃ d, q = [d] := List.length_eq_one_iff.1 hql
    obtain rfl : d = n := by rw [← eb, Pl.val_one]
    clear eb hql
    obtain ⟨A', c2, rfl, hc2, hm2⟩ := sl_open hQ
    simp only [List.length_singleton] at hQ hq hc2 ⊢
    go_wp2_with fail
    refine (cmp_calls (num_raw hp) (num_raw hq)).mono ?_
    rintro e w1 ⟨rfl, hst⟩
    have hp1 := hst.rep _ hp
    have hQ1 := hst.rep _ hQ
    have hB1 := hst.below
    obtain ⟨b, o, rfl, _, hcell, hbd⟩ := num_at hQ1 0 (by simp)
    have hcell' : w1.cell? ⟨b, o, none⟩ = some (.int .u64 (d : Int)) := by simpa using hcell
    clear hst hp hq hQ hcell
    go_wp2_with fail
    refine (short_calls (by omega) (by omega) hp1 (by omega)).mono ?_
    rintro e w2 ⟨⟨q', r', rfl, hq', hr'⟩, hB2⟩
    go_wp2
    go_ret3
    refine ⟨?_, below_trans hB1 hB2⟩
    unfold DivPost
    rw [if_neg hl, if_neg hn0]
    exact ⟨_, _, rfl, NumN.mono hq' (Fresh.mono hB1.size (Nat.le_refl _)) (Same.refl _ _), NumN.mono hr' (Fresh.mono hB1.size (Nat.le_refl _)) (Same.refl _ _)⟩

theorem div_ok {w : World} {S : Nat → Prop} {m n : Nat} {va vb : Value} (ha : RawN.rep S w m [va]) (hb : RawN.rep S w n [vb]) (hm : m < B64 ^ 64) (hn : n < B64 ^ 64) (h0 : 0 < n) :
    Calls Try.prog 52 #[va, vb] w fun e w' => (∃ q r, e = .returned (.tuple #[q, r, .nilIface]) ∧ NumN.rep (Fresh w w') w' (m / n) [q] ∧ NumN.rep (Fresh w w') w' (m % n) [r]) ∧ Below w.heap.size w w' := by
  refine (div_calls ha hb).mono fun e w' ⟨h, hw⟩ => ⟨?_, hw⟩
  unfold DivPost at h
  rwa [if_neg (by omega), if_neg (by omega)] at h

end Go.Proofs.Ytphbacggmhjmgaa

/- The layer nat, ninth part: bits. -/
namespace Go.Proofs.Ytphbacggmhjmgaa
open Go.RowKit

/-- how many bits a number has -/
def bits2 : Nat → Nat → Nat
  | 0, _ => 0
  | f + 1, n => if n = 0 then 0 else bits2 f (n / 2) + 1
theorem bits2_spec : ∀ (f n : Nat), n < 2 ^ f → n < 2 ^ bits2 f n ∧ (n ≠ 0 → 2 ^ bits2 f n ≤ 2 * n)
  | 0, n, h => by
    have : n = 0 := by simpa using h
    subst this; simp [bits2]
  | f + 1, n, h => by
    unfold bits2
    split
    · rename_i h0; subst h0; simp
    · rename_i h0
      have hh : n / 2 < 2 ^ f := by rw [Nat.pow_succ] at h; omega
      obtain ⟨h1, h2⟩ := bits2_spec f (n / 2) hh
      rw [Nat.pow_succ]
      refine ⟨by omega, fun _ => ?_⟩
      by_cases h3 : n / 2 = 0
      · rw [h3] at h1 h2 ⊢
        have : bits2 f 0 = 0 := by cases f <;> simp [bits2]
        rw [this]; omega
      · have := h2 h3; omega
/-- the number of bits: the least l with n below 2 to the l -/
def bitLen (n : Nat) : Nat := bits2 n n
theorem bitLen_spec (n : Nat) : n < 2 ^ bitLen n ∧ (n ≠ 0 → 2 ^ bitLen n ≤ 2 * n) := bits2_spec n n (Nat.lt_two_pow_self)
theorem bitLen_unique {n l : Nat} (h1 : n < 2 ^ l) (h2 : n ≠ 0 → 2 ^ l ≤ 2 * n) (h3 : n = 0 → l = 0) : l = bitLen n := by
  obtain ⟨k1, k2⟩ := bitLen_spec n
  rcases Nat.eq_zero_or_pos n with h | h
  · subst h; rw [h3 rfl]; rfl
  · have a1 := h2 (by omega)
    have a2 := k2 (by omega)
    have b1 : l < bitLen n + 1 := (Nat.pow_lt_pow_iff_right (a := 2) (by omega)).1 (by rw [Nat.pow_succ]; omega)
    have b2 : bitLen n < l + 1 := (Nat.pow_lt_pow_iff_right (a := 2) (by omega)).1 (by rw [Nat.pow_succ]; omega)
    omega
theorem bitLen_le_iff {n l : Nat} : bitLen n ≤ l ↔ n < 2 ^ l := by
  obtain ⟨k1, k2⟩ := bitLen_spec n
  constructor
  · intro h; exact Nat.lt_of_lt_of_le k1 (Nat.pow_le_pow_right (by omega) h)
  · intro h
    rcases Nat.eq_zero_or_pos n with h0 | h0
    · subst h0; exact Nat.zero_le _
    · have a2 := k2 (by omega)
      have : bitLen n < l + 1 := (Nat.pow_lt_pow_iff_right (a := 2) (by omega)).1 (by rw [Nat.pow_succ]; omega)
      omega

theorem bitLen_top {p : List Nat} (hp : 0 < p.length) (hd : Pl.Dig B64 p) (hc : Pl.Canon p) : 64 * (p.length - 1) + Lib.bitLen p[p.length - 1] = bitLen (Pl.val B64 p) := by
  have h1 := Pl.val_take_succ B64 p (p.length - 1) (by omega)
  rw [show p.length - 1 + 1 = p.length by omega, List.take_length] at h1
  have h2 := Pl.val_lt (hd.take (p.length - 1))
  rw [List.length_take, Nat.min_eq_left (by omega)] at h2
  have h3 := hd.at (p.length - 1) (by omega)
  have h4 := bitLen_lt p[p.length - 1] (by unfold B64 at h3; omega)
  have h5 := bitLen_ge p[p.length - 1] (by unfold B64 at h3; omega) (hc.last hp)
  have e : B64 ^ (p.length - 1) = 2 ^ (64 * (p.length - 1)) := by rw [Nat.pow_mul]; rfl
  apply bitLen_unique
  · rw [Nat.pow_add, ← e]
    have : B64 ^ (p.length - 1) * (p[p.length - 1] + 1) ≤ B64 ^ (p.length - 1) * 2 ^ Lib.bitLen p[p.length - 1] := Nat.mul_le_mul_left _ h4
    rw [Nat.mul_add] at this; omega
  · intro _
    rw [Nat.pow_add, ← e]
    have : B64 ^ (p.length - 1) * 2 ^ Lib.bitLen p[p.length - 1] ≤ B64 ^ (p.length - 1) * (2 * p[p.length - 1]) := Nat.mul_le_mul_left _ h5
    rw [Nat.mul_left_comm] at this; omega
  · intro h0
    have := hc.val_pos B64_pos hp
    omega

theorem nbits_calls {w : World} {S : Nat → Prop} {n : Nat} {v : Value} (ha : RawN.rep S w n [v]) (hn : bitLen n ≤ 1000000) :
    Calls Try.prog 45 #[v] w fun e w' => e = .returned (.int .i64 (bitLen n : Int)) ∧ w = w' := by
  obtain ⟨xs, ha, ea⟩ := ha
  rw [← Pl.trim_val] at ea
  have Ea := hid ea
  clear ea
  go_enter Try.func45, Try.ntmps45
  go_wp2_with fail
  refine (trim_calls ha).mono ?_
  rintro e w' ⟨⟨u, rfl, hu⟩, rfl⟩
  have hc := Pl.trim_canon xs
  generalize Pl.trim xs = p at *
  have hd := num_dig hu
  obtain ⟨A, c1, rfl, hc1, hm1⟩ := sl_open hu
  rcases Nat.eq_zero_or_pos p.length with h0 | h0
  · obtain rfl := List.eq_nil_of_length_eq_zero h0
    have e0 := Ea.out
    simp only [List.length_nil]
    go_wp2
    go_ret
    exact ⟨by rw [← e0]; rfl, rfl⟩
  · have ht := bitLen_top h0 hd hc
    rw [Ea.out] at ht
    obtain ⟨b, o, rfl, _, hcell, hbd⟩ := num_at hu (p.length - 1) (by omega)
    have e0 : ((p.length : Int) == 0) = false := by rw [beq_eq_false_iff_ne]; omega
    have hl64 := bitLen_le p[p.length - 1] hbd
    have i1 : IntKind.i64.wrap ((p.length : Int) - 1) = ((p.length - 1 : Nat) : Int) := by
      rw [show (p.length : Int) - 1 = ((p.length - 1 : Nat) : Int) by omega]; exact IntWalk.i64_in _ (by omega)
    have Ht := hid ht
    have hpl : p.length ≤ 1000000 := by omega
    clear ht hn
    go_wp2_with fail
    refine (len64_calls p[p.length - 1] hbd _).mono ?_
    rintro e w' ⟨rfl, rfl⟩
    go_wp2
    go_ret
    exact ⟨ret_int (by have := Ht.out; omega), rfl⟩

theorem and_one (h : Nat) (hh : h < B64) : bits .and .u64 (h : Int) 1 = ((h % 2 : Nat) : Int) := by
  rw [show (1 : Int) = ((1 : Nat) : Int) from rfl, bits_and_u64_nat h 1 hh (by omega), Nat.and_one_is_mod]
theorem val_bit {xs : List Nat} (hd : Pl.Dig B64 xs) (i : Nat) : (Pl.val B64 xs).testBit i = ((xs.getD (i / 64) 0) / 2 ^ (i % 64) % 2 == 1) := by
  have e : Pl.val B64 xs / 2 ^ i % 2 = xs.getD (i / 64) 0 / 2 ^ (i % 64) % 2 := by
    have h1 : 2 ^ i = B64 ^ (i / 64) * 2 ^ (i % 64) := by
      rw [show B64 = 2 ^ 64 from rfl, ← Nat.pow_mul, ← Nat.pow_add]; congr 1; omega
    rw [h1, ← Nat.div_div_eq_div_mul]
    have h2 : Pl.val B64 xs / B64 ^ (i / 64) = Pl.val B64 (xs.drop (i / 64)) := by
      rcases Nat.lt_or_ge xs.length (i / 64) with h | h
      · rw [List.drop_of_length_le (by omega), Nat.div_eq_of_lt (Nat.lt_of_lt_of_le (Pl.val_lt hd) (Nat.pow_le_pow_right B64_pos (by omega)))]; rfl
      · rw [Pl.val_take_drop B64 xs (i / 64) h, Nat.add_mul_div_left _ _ (Nat.pow_pos B64_pos), Nat.div_eq_of_lt, Nat.zero_add]
        have := Pl.val_lt (hd.take (i / 64))
        rwa [List.length_take, Nat.min_eq_left h] at this
    rw [h2]
    rcases Nat.lt_or_ge (i / 64) xs.length with h | h
    · rw [Pl.val_drop B64 xs _ h, dec_at xs _ h]
      generalize Pl.val B64 (xs.drop (i / 64 + 1)) = X
      have h3 : B64 = 2 ^ (i % 64) * (2 * 2 ^ (63 - i % 64)) := by
        rw [← Nat.pow_succ', ← Nat.pow_add, show i % 64 + (63 - i % 64).succ = 64 by omega]; rfl
      rw [h3, Nat.mul_assoc, Nat.add_mul_div_left _ _ (Nat.two_pow_pos _), Nat.mul_assoc, Nat.add_mul_mod_self_left]
    · rw [List.drop_of_length_le h, List.getD_eq_getElem?_getD, List.getElem?_eq_none h]; rfl
  rw [Nat.testBit_eq_decide_div_mod_eq, e]
  rfl

theorem nbit_calls {w : World} {S : Nat → Prop} {n : Nat} {v : Value} (ha : RawN.rep S w n [v]) (i : Nat) (hi : i ≤ 1000000000000) :
    Calls Try.prog 70 #[v, .int .i64 (i : Int)] w fun e w' => e = .returned (.bool (n.testBit i)) ∧ w = w' := by
  obtain ⟨xs, ha, ea⟩ := ha
  have hd := num_dig ha
  have hv := val_bit hd i
  rw [ea] at hv
  obtain ⟨A, c1, rfl, hc1, hm1⟩ := sl_open ha
  obtain ⟨Q, hQ⟩ : ∃ Q, Q = i / 64 := ⟨_, rfl⟩
  obtain ⟨R, hR⟩ : ∃ R, R = i % 64 := ⟨_, rfl⟩
  have e1 : (i : Int) / 64 = (Q : Int) := by omega
  have e2 : (i : Int) % 64 = (R : Int) := by omega
  have hR2 : R ≤ 63 := by omega
  rw [← hQ, ← hR] at hv
  have Ea := hid ea
  have Hv := hid hv
  clear ea hv hQ hR
  by_cases hlt : Q < xs.length
  · obtain ⟨b, o, rfl, _, hcell, hbd⟩ := num_at ha Q hlt
    obtain ⟨H, hH⟩ : ∃ H, H = xs[Q] / 2 ^ R := ⟨_, rfl⟩
    have q3 : (xs[Q] : Int) / 2 ^ R = (H : Int) := by rw [hH]; push_cast; rfl
    have hHb : H < B64 := by rw [hH]; exact Nat.lt_of_le_of_lt (Nat.div_le_self _ _) hbd
    have q4 := and_one H hHb
    have hres : n.testBit i = (((H % 2 : Nat) : Int) == 1) := by
      rw [Hv.out, dec_at xs Q hlt, ← hH, Bool.eq_iff_iff, beq_iff_eq, beq_iff_eq]; omega
    obtain ⟨B2, hB2⟩ : ∃ B2, B2 = H % 2 := ⟨_, rfl⟩
    rw [← hB2] at q4 hres
    rw [hres]
    clear hH hB2 hres
    go_enter Try.func70, Try.ntmps70
    go_wp2
    go_ret
    exact ⟨rfl, rfl⟩
  · have hres : n.testBit i = false := by
      rw [Hv.out, List.getD_eq_getElem?_getD, List.getElem?_eq_none (by omega)]
      simp
    rw [hres]
    clear hres
    go_enter Try.func70, Try.ntmps70
    go_wp2
    go_ret
    exact ⟨rfl, rfl⟩

end Go.Proofs.Ytphbacggmhjmgaa

/- The layer nat, last part: numbers of bytes, and bytes of numbers. -/
namespace Go.Proofs.Ytphbacggmhjmgaa
open Go.RowKit

theorem below_bs {w : World} (o : Obj) : Below w.heap.size w (w.alloc o) := below_alloc (Below.refl _ _) o
abbrev ByteS : Rep (List Nat) := (Rep.num .u8 256).sl

def fromE (n : Nat) (xs : List Nat) : Except Nat Nat := if 512 < n then .error 2 else .ok (Pl.be xs)

theorem pow_split (k : Nat) : 256 ^ k = B64 ^ (k / 8) * 2 ^ (8 * (k % 8)) := by
  rw [show B64 = 256 ^ 8 by decide, ← Nat.pow_mul, show (2 : Nat) ^ (8 * (k % 8)) = 256 ^ (k % 8) by rw [Nat.pow_mul], ← Nat.pow_add]
  congr 1; omega
/-- a byte more, where it belongs -/
theorem from_step {outs : List Nat} {V k x : Nat} (hd : Pl.Dig B64 outs) (hv : Pl.val B64 outs = V) (hV : V < 256 ^ k) (hk : k / 8 < outs.length) (hx : x < 256) :
    outs[k / 8] < 2 ^ (8 * (k % 8)) ∧ outs[k / 8] + x * 2 ^ (8 * (k % 8)) < B64 ∧ x * 2 ^ (8 * (k % 8)) < B64 ∧ Pl.val B64 (outs.set (k / 8) (outs[k / 8] + x * 2 ^ (8 * (k % 8)))) = V + 256 ^ k * x := by
  have h1 : outs[k / 8] < 2 ^ (8 * (k % 8)) := by
    have h := Pl.getD_val B64_pos hd (k / 8)
    rw [dec_at outs _ hk, hv] at h
    rw [h]
    refine Nat.lt_of_le_of_lt (Nat.mod_le _ _) ?_
    rw [Nat.div_lt_iff_lt_mul (Nat.pow_pos B64_pos), Nat.mul_comm, ← pow_split]; exact hV
  have h2 : 2 ^ (8 * (k % 8)) * 256 ≤ B64 := by
    have : 2 ^ (8 * (k % 8)) ≤ 2 ^ 56 := Nat.pow_le_pow_right (by omega) (by omega)
    unfold B64; omega
  have h3 : x * 2 ^ (8 * (k % 8)) + 2 ^ (8 * (k % 8)) ≤ 2 ^ (8 * (k % 8)) * 256 := by
    have := Nat.mul_le_mul_left (2 ^ (8 * (k % 8))) (show x + 1 ≤ 256 by omega)
    rw [Nat.mul_add, Nat.mul_one, Nat.mul_comm _ x] at this
    exact this
  refine ⟨h1, by omega, by have := Nat.two_pow_pos (8 * (k % 8)); omega, ?_⟩
  have h4 := Pl.val_set B64 outs (k / 8) (outs[k / 8] + x * 2 ^ (8 * (k % 8))) hk
  rw [Nat.mul_add, hv] at h4
  rw [pow_split, Nat.mul_assoc, Nat.mul_comm (2 ^ (8 * (k % 8))) x]
  omega
theorem low_bound {xs : List Nat} (h : Pl.Dig 256 xs) (k : Nat) (hk : k ≤ xs.length) : Pl.val 256 (xs.reverse.take k) < 256 ^ k := by
  have := Pl.val_lt ((Pl.dig_rev h).take k)
  rwa [List.length_take, List.length_reverse, Nat.min_eq_left hk] at this
theorem make_nat (m : Nat) (hm : m ≤ 1000000) : ∀ W : World, (Instr.makeSlice 24 (.int .i64 (m : Int)) (.int .i64 (m : Int))).run Try.prog W = .ok (.slice (some ⟨W.heap.size, 0, none⟩) m m) (W.alloc (.cells (zerosOf (.int .u64 0) m) 65)) := fun W => run_make_u64 m (by omega) W

set_option maxHeartbeats 2000000 in
theorem from_calls {w : World} {S : Nat → Prop} {xs : List Nat} {v : Value} (h : ByteS.rep S w xs [v]) :
    Calls Try.prog 35 #[v] w fun e w' => NumE (Fresh w w') w' e (fromE xs.length xs) ∧ Below w.heap.size w w' := by
  have hd := num_dig h
  obtain ⟨A, cap, rfl, hcap, hcm⟩ := sl_open h
  by_cases hl : 512 < xs.length
  · have hE : fromE xs.length xs = .error 2 := by unfold fromE; rw [if_pos hl]
    rw [hE]
    clear hE
    go_enter Try.func35, Try.ntmps35
    go_wp2
    go_ret2
    exact ⟨rfl, Below.refl _ _⟩
  · have hE : fromE xs.length xs = .ok (Pl.be xs) := by unfold fromE; rw [if_neg hl]
    rw [hE]
    clear hE
    obtain ⟨n, hn⟩ : ∃ n, n = (xs.length + 7) / 8 := ⟨_, rfl⟩
    have hmk := make_nat n (by omega)
    have q1 : ((xs.length : Int) + 7) / 8 = (n : Int) := by omega
    have Hn := hid hn
    clear hn
    go_enter Try.func35, Try.ntmps35
    go_wp2_with fail
    go_loopw [17] (fun i wr => ∃ k : Nat, ∃ outs : List Nat, i = .int .i64 (k : Int) ∧ k ≤ xs.length ∧ outs.length = n ∧ Pl.Dig B64 outs ∧ Row wr w.heap.size 65 (nums .u64 outs)
      ∧ Hid (Pl.val B64 outs = Pl.val 256 (xs.reverse.take k)) ∧ Below w.heap.size w wr) (fun i _ => (xs.length - (intOf i).toNat))
    case atStart =>
      exact ⟨0, List.replicate n 0, rfl, by omega, by simp, Pl.Dig.replicate B64_pos _, by rw [← zerosOf_num]; exact Row.new _ _ _, hid (by simp [Pl.val, Pl.val_replicate]), (Below.refl _ _).alloc (Nat.le_refl _) _⟩
    case round =>
      obtain ⟨k, outs, rfl, hk, hol, hod, hrow, hinv, hB⟩ := hrel
      by_cases hlt : k < xs.length
      · have hQn : k / 8 < outs.length := by have := Hn.out; omega
        obtain ⟨f1, f2, f3, f4⟩ := from_step (x := xs[xs.length - 1 - k]) hod rfl (by rw [hinv.out]; exact low_bound hd k hk) hQn (hd.at _ (by omega))
        obtain ⟨L, hL⟩ : ∃ L, L = xs.length - 1 - k := ⟨_, rfl⟩
        obtain ⟨Q, hQ⟩ : ∃ Q, Q = k / 8 := ⟨_, rfl⟩
        obtain ⟨R, hR⟩ : ∃ R, R = k % 8 := ⟨_, rfl⟩
        obtain ⟨s, hs⟩ : ∃ s, s = 8 * R := ⟨_, rfl⟩
        have hLl : L < xs.length := by omega
        have hs63 : s ≤ 63 := by omega
        have f5 : Hid (Pl.val 256 (xs.reverse.take (k + 1)) = Pl.val 256 (xs.reverse.take k) + 256 ^ k * xs[L]) := by
          show _ = _
          rw [Pl.be_low xs k hlt]; simp only [hL]
        have e1 : (k : Int) / 8 = (Q : Int) := by omega
        have e2 : (k : Int) % 8 = (R : Int) := by omega
        have e3 : (8 : Int) * (R : Int) = (s : Int) := by omega
        have i1 : IntKind.i64.wrap ((xs.length : Int) - 1) = ((xs.length - 1 : Nat) : Int) := by
          rw [show (xs.length : Int) - 1 = ((xs.length - 1 : Nat) : Int) by omega]; exact IntWalk.i64_in _ (by omega)
        have i2 : IntKind.i64.wrap (((xs.length - 1 : Nat) : Int) - (k : Int)) = (L : Int) := by
          rw [show ((xs.length - 1 : Nat) : Int) - (k : Int) = (L : Int) by omega]; exact IntWalk.i64_in _ (by omega)
        simp only [← hL, ← hQ, ← hR, ← hs] at f1 f2 f3 f4
        obtain ⟨x, hx⟩ : ∃ x, x = xs[L] := ⟨_, rfl⟩
        have hxb : x < 256 := by rw [hx]; exact hd.at _ _
        rw [← hx] at f2 f3 f4 f5
        obtain ⟨b, o, rfl, hS, hcell, hbd⟩ := num_at (ByteS.old h) L hLl
        rw [← hx] at hcell hbd
        have hcell0 := (hB.cell (p := ⟨b, o + L, none⟩) hS).trans hcell
        have hQl : Q < outs.length := by rw [hQ]; exact hQn
        have hst := hrow.num (k := .u64) Q hQl
        have hsf := hrow.frozen Q
        obtain ⟨X, hX⟩ : ∃ X, X = x * 2 ^ s := ⟨_, rfl⟩
        obtain ⟨C, hC⟩ : ∃ C, C = outs[Q] + X := ⟨_, rfl⟩
        rw [← hX] at f2 f3 f4
        have hXm : x * 2 ^ s % 18446744073709551616 = X := by rw [← hX]; exact Nat.mod_eq_of_lt f3
        have q1' : IntKind.u64.wrap ((x : Int) * 2 ^ s) = (X : Int) := by rw [← hXm]; exact u64_mod (by push_cast; rfl)
        have q2' : bits .or .u64 ((outs[Q] : Nat) : Int) (X : Int) = (C : Int) := by
          have := or_low (c := outs[Q]) (x := x) hs63 f1
          rw [hXm] at this; rw [this, hC]
        rw [← hC] at f2 f4
        have hrow1 := hrow.setNum (k := .u64) Q C
        have hd1 := hod.set Q f2
        have hv : Hid (Pl.val B64 (outs.set Q C) = Pl.val 256 (xs.reverse.take (k + 1))) := by
          show _ = _
          rw [f4, f5.out, hinv.out]
        have hB1 := below_setCell hB (p := ⟨w.heap.size, Q, none⟩) (Nat.le_refl _) (.int .u64 (C : Int))
        have hQc : Q < n := by omega
        clear f1 f4 f5 hX hC hXm hx hcell hQ hR hs hL hinv hQn f3
        go_wp2_with fail
        go_region
        go_wp2_with fail
        go_roundw
        case rel => exact ⟨k + 1, _, by go_num, by omega, by simpa using hol, hd1, hrow1, hv, hB1.drew⟩
        case measure => simp [intOf]; omega
      · have hfin : Hid (Pl.val B64 outs = Pl.be xs) := by
          show _ = _
          obtain rfl : k = xs.length := by omega
          rw [hinv.out]; exact Pl.be_all xs
        have hs := hrow.slNum (B := B64) (S := fun b => b = w.heap.size) rfl hod outs.length (Nat.le_refl _) (by omega) (by have := Hn.out; omega)
        have Hl := hid hol
        rw [hol] at hs
        clear hinv hol q1
        go_wp2_with fail
        refine (trim_calls hs).mono ?_
        rintro e w2 ⟨⟨u, rfl, hu⟩, rfl⟩
        go_wp2_with fail
        go_ret2
        exact ⟨⟨u, rfl, _, NatS.mono hu (by rintro b rfl; exact ⟨Nat.le_refl _, hrow.lt⟩) (Same.refl _ _), Pl.trim_canon _, by rw [Pl.trim_val]; exact hfin.out⟩, hB⟩

/-- bytes of a number -/
def BytesPost (n k : Nat) (w : World) (e : Ending) (w' : World) : Prop :=
  if 1024 < k then e = .returned (.tuple #[.slice none 0 0, errV 1])
  else if 8 * k < bitLen n then e = .returned (.tuple #[.slice none 0 0, errV 2])
  else ∃ u, e = .returned (.tuple #[u, .nilIface]) ∧ ByteS.rep (Fresh w w') w' (Pl.beL k n) [u]

theorem byte_cell {xs : List Nat} {n k : Nat} (hd : Pl.Dig B64 xs) (hv : Pl.val B64 xs = n) : xs.getD (k / 8) 0 / 2 ^ (8 * (k % 8)) % 256 = Pl.byteAt n k := by
  rw [Pl.getD_val B64_pos hd, hv]
  unfold Pl.byteAt
  rw [pow_split k, ← Nat.div_div_eq_div_mul]
  generalize n / B64 ^ (k / 8) = Y
  have h1 : B64 = 2 ^ (8 * (k % 8)) * 2 ^ (64 - 8 * (k % 8)) := by
    rw [← Nat.pow_add, show 8 * (k % 8) + (64 - 8 * (k % 8)) = 64 by omega]; rfl
  rw [h1, Nat.mod_mul_right_div_self]
  refine Nat.mod_mod_of_dvd _ ?_
  exact Nat.pow_dvd_pow 2 (show 8 ≤ 64 - 8 * (k % 8) by omega)
theorem byte_none {n k l : Nat} (h : n < B64 ^ l) (hk : l ≤ k / 8) : Pl.byteAt n k = 0 := by
  unfold Pl.byteAt
  rw [Nat.div_eq_of_lt]
  rw [pow_split]
  refine Nat.lt_of_lt_of_le h (Nat.le_trans (Nat.pow_le_pow_right B64_pos hk) (Nat.le_mul_of_pos_right _ (Nat.two_pow_pos _)))
theorem u8_wrap (a : Nat) : IntKind.u8.wrap (a : Int) = ((a % 256 : Nat) : Int) := by rw [IntKind.wrap_u8]; omega

set_option maxHeartbeats 2000000 in
theorem bytes_calls {w : World} {S : Nat → Prop} {n k : Nat} {v : Value} (h : RawN.rep S w n [v]) (hn : bitLen n ≤ 1000000) (hk : k ≤ 1000000) :
    Calls Try.prog 41 #[v, .int .i64 (k : Int)] w fun e w' => BytesPost n k w e w' ∧ Below w.heap.size w w' := by
  have hmk := run_make_one (P := Try.prog) 22 5 (.int .u8 0) 1 Try.underlying22 (by kernel_rfl) rfl k (by omega) (by omega)
  by_cases h1 : 1024 < k
  · have hp : ∀ w', BytesPost n k w (.returned (.tuple #[.slice none 0 0, errV 1])) w' := fun w' => by unfold BytesPost; rw [if_pos h1]
    go_enter Try.func41, Try.ntmps41
    go_wp2_with fail
    go_ret2
    exact ⟨hp _, Below.refl _ _⟩
  · by_cases h2 : 8 * k < bitLen n
    · have hp : ∀ w', BytesPost n k w (.returned (.tuple #[.slice none 0 0, errV 2])) w' := fun w' => by unfold BytesPost; rw [if_neg h1, if_pos h2]
      go_enter Try.func41, Try.ntmps41
      go_wp2_with fail
      refine (nbits_calls h hn).mono ?_
      rintro e w' ⟨rfl, rfl⟩
      go_wp2_with fail
      go_ret2
      exact ⟨hp _, Below.refl _ _⟩
    · have hp : ∀ w' u, ByteS.rep (Fresh w w') w' (Pl.beL k n) [u] → BytesPost n k w (.returned (.tuple #[u, .nilIface])) w' := fun w' u hu => by
        unfold BytesPost; rw [if_neg h1, if_neg h2]; exact ⟨u, rfl, hu⟩
      have Hp := hid hp
      clear hp
      obtain ⟨xs, hx, ex⟩ := id h
      have hd := num_dig hx
      have Ex := hid ex
      clear ex
      obtain ⟨A, cap, rfl, hcap, hcm⟩ := sl_open hx
      go_enter Try.func41, Try.ntmps41
      go_wp2_with fail
      refine (nbits_calls h hn).mono ?_
      rintro e w' ⟨rfl, rfl⟩
      go_wp2_with fail
      go_loopw [26] (fun i wr => ∃ j : Nat, i = .int .i64 (j : Int) ∧ j ≤ k ∧ Row wr w.heap.size 5 (nums .u8 (Pl.beP k j n)) ∧ Below w.heap.size w wr) (fun i _ => (k - (intOf i).toNat))
      case atStart => exact ⟨0, rfl, by omega, by rw [Pl.beP_zero, ← zerosOf_num]; exact Row.new _ _ _, (Below.refl _ _).alloc (Nat.le_refl _) _⟩
      case round =>
        obtain ⟨j, rfl, hj, hrow, hB⟩ := hrel
        by_cases hlt : j < k
        · obtain ⟨Q, hQ⟩ : ∃ Q, Q = j / 8 := ⟨_, rfl⟩
          have e1 : (j : Int) / 8 = (Q : Int) := by omega
          by_cases hQl : Q < xs.length
          · obtain ⟨R, hR⟩ : ∃ R, R = j % 8 := ⟨_, rfl⟩
            obtain ⟨s, hs⟩ : ∃ s, s = 8 * R := ⟨_, rfl⟩
            obtain ⟨L, hL⟩ : ∃ L, L = k - 1 - j := ⟨_, rfl⟩
            have hs63 : s ≤ 63 := by omega
            have hLk : L < k := by omega
            have hbyte := byte_cell (k := j) hd Ex.out
            rw [← hQ, ← hR, ← hs, dec_at xs Q hQl] at hbyte
            have e2 : (j : Int) % 8 = (R : Int) := by omega
            have e3 : (8 : Int) * (R : Int) = (s : Int) := by omega
            have i1 : IntKind.i64.wrap ((k : Int) - 1) = ((k - 1 : Nat) : Int) := by
              rw [show (k : Int) - 1 = ((k - 1 : Nat) : Int) by omega]; exact IntWalk.i64_in _ (by omega)
            have i2 : IntKind.i64.wrap (((k - 1 : Nat) : Int) - (j : Int)) = (L : Int) := by
              rw [show ((k - 1 : Nat) : Int) - (j : Int) = (L : Int) by omega]; exact IntWalk.i64_in _ (by omega)
            obtain ⟨b, o, rfl, hS, hcell, hbd⟩ := num_at (NatS.old hx) Q hQl
            have hcell0 := (hB.cell (p := ⟨b, o + Q, none⟩) hS).trans hcell
            obtain ⟨H, hH⟩ : ∃ H, H = xs[Q] / 2 ^ s := ⟨_, rfl⟩
            obtain ⟨D, hD⟩ : ∃ D, D = H % 256 := ⟨_, rfl⟩
            have q3 : (xs[Q] : Int) / 2 ^ s = (H : Int) := by rw [hH]; push_cast; rfl
            have q4 : IntKind.u8.wrap (H : Int) = (D : Int) := by rw [hD]; exact u8_wrap H
            rw [← hH, ← hD] at hbyte
            have hst := hrow.num (k := .u8) L (by rw [Pl.beP_length]; exact hLk)
            have hsf := hrow.frozen L
            have hrow1 := hrow.setNum (k := .u8) L D
            rw [hbyte, hL, Pl.beP_step hlt, ← hL, ← hbyte] at hrow1
            have hB1 := below_setCell hB (p := ⟨w.heap.size, L, none⟩) (Nat.le_refl _) (.int .u8 (D : Int))
            clear hcell hQ hR hs hL hH hD hbyte h1 h2
            go_wp2_with fail
            go_roundw
            case rel => exact ⟨j + 1, by go_num, by omega, hrow1, hB1⟩
            case measure => simp [intOf]; omega
          · have hz : Pl.byteAt n j = 0 := byte_none (l := xs.length) (by rw [← Ex.out]; exact Pl.val_lt hd) (by omega)
            rw [Pl.beP_skip hlt hz] at hrow
            clear hz hQ h1 h2
            go_wp2_with fail
            go_roundw
            case rel => exact ⟨j + 1, by go_num, by omega, hrow, hB⟩
            case measure => simp [intOf]; omega
        · obtain rfl : k = j := by omega
          have hs := hrow.slNum (B := 256) (S := Fresh w wr) ⟨Nat.le_refl _, hrow.lt⟩ (Pl.beP_dig _ _ _) k (by rw [Pl.beP_length]; omega) (by omega) (by rw [Pl.beP_length]; omega)
          rw [Pl.beP_length] at hs
          clear h1 h2
          go_wp2_with fail
          go_ret2
          exact ⟨Hp.out _ _ hs, hB⟩

end Go.Proofs.Ytphbacggmhjmgaa
