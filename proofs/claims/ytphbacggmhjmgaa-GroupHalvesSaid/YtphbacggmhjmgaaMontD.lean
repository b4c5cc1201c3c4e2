/- The layer mont, fourth part: sums, differences, products. -/
import Derived.Test.YtphbacggmhjmgaaMontC
namespace Go.Proofs.Ytphbacggmhjmgaa
open Go.RowKit

theorem limbs_mono {a b : Nat} (h : a < b) : limbs a ≤ limbs b := limbs_le_iff.2 (Nat.lt_trans h (limbs_le_iff.1 (Nat.le_refl _)))
theorem wide_num {w : World} {S T : Nat → Prop} {m x n : Nat} {v va : Value} (hn : Hid (n = limbs m)) (hM : ModP.rep S w m [v]) (ha : NumN.rep T w x [va]) (hx : x < m) :
    Calls Try.prog 68 #[v, va] w fun e w' => (∃ u, e = .returned u ∧ (WideN n).rep (Fresh w w') w' x [u]) ∧ Below w.heap.size w w' := by
  obtain ⟨xs, hxs, hc, rfl⟩ := ha
  have := canon_limbs (num_dig hxs) hc
  have := limbs_mono hx
  exact wide_calls hM hxs n hn (by rw [hn.out]; omega)
theorem wide_raw {S : Nat → Prop} {w : World} {n x : Nat} {cs : List Value} (h : (WideN n).rep S w x cs) : RawN.rep S w x cs := by
  obtain ⟨xs, h1, _, h2⟩ := h; exact ⟨xs, h1, h2⟩
theorem below_drew (w : World) : Below w.heap.size w w.drew := ⟨rfl, rfl, rfl, Nat.le_refl _, fun _ _ => rfl⟩

def modAddE (m a b : Nat) : Except Nat Nat := if B64 ^ 64 ≤ a ∨ B64 ^ 64 ≤ b then .error 2 else .ok ((a + b) % m)
def modSubE (m a b : Nat) : Except Nat Nat := if B64 ^ 64 ≤ a ∨ B64 ^ 64 ≤ b then .error 2 else .ok ((a % m + m - b % m) % m)
def modMulE (m a b : Nat) : Except Nat Nat := if B64 ^ 64 ≤ a ∨ B64 ^ 64 ≤ b then .error 2 else .ok (a * b % m)

theorem numE_long {S : Nat → Prop} {w : World} : NumE S w (.returned (.tuple #[.slice none 0 0, .iface 38 (.int .i64 2)])) (.error 2) := rfl

theorem mod_fact {S : Nat → Prop} {w : World} {m : Nat} {v : Value} (h : ModP.rep S w m [v]) : m < B64 ^ 32 ∧ 3 ≤ m ∧ m % 2 = 1 := by
  obtain ⟨g, A, cap, inv, tv, ms, rfl, hS, c0, c1, c2, hms, hinv, htv, hcap, hcm, hpos, hok⟩ := mod_open h
  exact ⟨mod_lt (num_dig hms) hok, hok.big, hok.odd⟩
theorem B32_2 : 2 * B64 ^ 32 < B64 ^ 64 := by
  have h : B64 ^ 64 = B64 ^ 32 * B64 ^ 32 := by rw [← Nat.pow_add]
  have h2 : B64 ≤ B64 ^ 32 := Nat.le_self_pow (by omega) _
  rw [h]
  exact Nat.mul_lt_mul_of_pos_right (Nat.lt_of_lt_of_le (by unfold B64; omega) h2) (Nat.pow_pos B64_pos)
theorem B32_mul {a b : Nat} (ha : a < B64 ^ 32) (hb : b < B64 ^ 32) : a * b < B64 ^ 64 := by
  have h : B64 ^ 64 = B64 ^ 32 * B64 ^ 32 := by rw [← Nat.pow_add]
  rw [h]; exact Nat.mul_lt_mul'' ha hb

theorem mod_add_sub {X Y m : Nat} (hX : X < m) (hY : Y < m) (h : ¬ X + Y < m) : (X + Y) % m = X + Y - m := by
  rw [Nat.mod_eq_sub_mod (by omega), Nat.mod_eq_of_lt (by omega)]

set_option maxHeartbeats 1000000 in
theorem madd_calls {w : World} {S T : Nat → Prop} {m a b : Nat} {v va vb : Value} (hM : ModP.rep S w m [v]) (ha : RawN.rep T w a [va]) (hb : RawN.rep T w b [vb]) :
    Calls Try.prog 29 #[v, va, vb] w fun e w' => NumE (Fresh w w') w' e (modAddE m a b) ∧ Below w.heap.size w w' := by
  by_cases hl : B64 ^ 64 ≤ a ∨ B64 ^ 64 ≤ b
  · rw [show modAddE m a b = .error 2 by unfold modAddE; rw [if_pos hl]]
    go_enter Try.func29, Try.ntmps29
    go_wp2_with fail
    refine (pair_long hM ha hb hl).mono ?_
    rintro e w1 ⟨rfl, hb1⟩
    go_wp2
    go_ret2
    exact ⟨rfl, hb1⟩
  · rw [show modAddE m a b = .ok ((a + b) % m) by unfold modAddE; rw [if_neg hl]]
    obtain ⟨hm32, hm3, _⟩ := mod_fact hM
    have hle := B32_2
    have hxm := Nat.mod_lt a (show 0 < m by omega)
    have hym := Nat.mod_lt b (show 0 < m by omega)
    have hsum : addE (a % m) (b % m) = .ok (a % m + b % m) := by unfold addE; rw [if_neg (by omega)]
    have Hsum := hid hsum
    clear hsum
    go_enter Try.func29, Try.ntmps29
    go_wp2_with fail
    refine (pair_ok hM ha hb (by omega) (by omega)).mono ?_
    rintro e w1 ⟨⟨x, y, rfl, hx, hy⟩, hb1⟩
    go_wp2_with fail
    refine (add_calls (num_raw hx) (num_raw hy)).mono ?_
    rintro e w2 ⟨he, hb2⟩
    rw [Hsum.out] at he
    obtain ⟨s, rfl, hs⟩ := he
    rw [errV_zero]
    have hb2' := below_trans hb1 hb2
    have hM2 := ModP.old (ModP.below hM hb2')
    obtain ⟨g, A, cap, inv, tv, ms, rfl, hS, c0, c1, c2, hms, hinv, htv, hcap, hcm, hpos, hok⟩ := mod_open hM2
    have hmn := num_raw (mod_num hms hok)
    have hs2 := NumN.old hs
    have hm0 := hok.big
    by_cases hless : a % m + b % m < m
    · have hPl : Pl.cmp (a % m + b % m) m = -1 := Pl.cmp_lt hless
      have hres : a % m + b % m = (a + b) % m := by rw [Nat.add_mod, Nat.mod_eq_of_lt hless]
      have HPl := hid hPl
      have Hres := hid hres
      clear hPl hres
      go_wp2_with fail
      refine (cmp_calls (num_raw hs2) hmn).mono ?_
      rintro e w3 ⟨rfl, hst⟩
      rw [HPl.out]
      have hb3 := below_trans hb2' hst.below
      have hs3 := hst.rep _ hs
      have hsz := hst.size
      rw [Hres.out] at hs3
      go_wp2
      go_ret2
      exact ⟨⟨_, rfl, NumN.mono hs3 (Fresh.mono hb1.size (by omega)) (Same.refl _ _)⟩, hb3⟩
    · have hPl : 0 ≤ Pl.cmp (a % m + b % m) m := by have := @Pl.cmp_neg (a % m + b % m) m; omega
      have hres : subE (a % m + b % m) m = .ok ((a + b) % m) := by
        unfold subE
        rw [if_neg (by omega), if_neg hless, Nat.add_mod, mod_add_sub hxm hym hless]
      obtain ⟨cv, hcv⟩ : ∃ cv, cv = Pl.cmp (a % m + b % m) m := ⟨_, rfl⟩
      rw [← hcv] at hPl
      have Hcv := hid hcv
      have Hres := hid hres
      clear hcv hres
      go_wp2_with fail
      refine (cmp_calls (num_raw hs2) hmn).mono ?_
      rintro e w3 ⟨rfl, hst⟩
      rw [← Hcv.out]
      have hb3 := below_trans hb2' hst.below
      have hs3 := hst.rep _ hs2
      have hmn3 := hst.rep _ hmn
      have k0 := (hst.cell ⟨g, 0, none⟩).trans c0
      go_wp2_with fail
      refine (sub_calls (num_raw hs3) hmn3).mono ?_
      rintro e w4 ⟨he, hb4⟩
      rw [Hres.out] at he
      obtain ⟨r, rfl, hr⟩ := he
      rw [errV_zero]
      go_wp2
      go_ret2
      exact ⟨⟨_, rfl, NumN.mono hr (Fresh.mono hb3.size (Nat.le_refl _)) (Same.refl _ _)⟩, below_trans hb3 hb4⟩

set_option maxHeartbeats 1000000 in
theorem msub_calls {w : World} {S T : Nat → Prop} {m a b : Nat} {v va vb : Value} (hM : ModP.rep S w m [v]) (ha : RawN.rep T w a [va]) (hb : RawN.rep T w b [vb]) :
    Calls Try.prog 81 #[v, va, vb] w fun e w' => NumE (Fresh w w') w' e (modSubE m a b) ∧ Below w.heap.size w w' := by
  by_cases hl : B64 ^ 64 ≤ a ∨ B64 ^ 64 ≤ b
  · rw [show modSubE m a b = .error 2 by unfold modSubE; rw [if_pos hl]]
    go_enter Try.func81, Try.ntmps81
    go_wp2_with fail
    refine (pair_long hM ha hb hl).mono ?_
    rintro e w1 ⟨rfl, hb1⟩
    go_wp2
    go_ret2
    exact ⟨rfl, hb1⟩
  · rw [show modSubE m a b = .ok ((a % m + m - b % m) % m) by unfold modSubE; rw [if_neg hl]]
    obtain ⟨hm32, hm3, _⟩ := mod_fact hM
    have hle := B32_2
    have hxm := Nat.mod_lt a (show 0 < m by omega)
    have hym := Nat.mod_lt b (show 0 < m by omega)
    obtain ⟨X, hX⟩ : ∃ X, X = a % m := ⟨_, rfl⟩
    obtain ⟨Y, hY⟩ : ∃ Y, Y = b % m := ⟨_, rfl⟩
    rw [← hX] at hxm ⊢
    rw [← hY] at hym ⊢
    have HX := hid hX
    have HY := hid hY
    clear hX hY
    go_enter Try.func81, Try.ntmps81
    go_wp2_with fail
    refine (pair_ok hM ha hb (by omega) (by omega)).mono ?_
    rintro e w1 ⟨⟨x, y, rfl, hx, hy⟩, hb1⟩
    rw [← HX.out] at hx
    rw [← HY.out] at hy
    have hM1 := ModP.old (ModP.below hM hb1)
    obtain ⟨g, A, cap, inv, tv, ms, rfl, hS, c0, c1, c2, hms, hinv, htv, hcap, hcm, hpos, hok⟩ := mod_open hM1
    have hmn := num_raw (mod_num hms hok)
    have hx1 := num_raw (NumN.old hx)
    have hy1 := num_raw (NumN.old hy)
    by_cases hless : X < Y
    · have hPl : Pl.cmp X Y = -1 := Pl.cmp_lt hless
      have hsum : addE X m = .ok (X + m) := by unfold addE; rw [if_neg (by omega)]
      have hres : subE (X + m) Y = .ok ((X + m - Y) % m) := by
        unfold subE
        rw [if_neg (by omega), if_neg (by omega), Nat.mod_eq_of_lt (by omega)]
      have HPl := hid hPl
      have Hsum := hid hsum
      have Hres := hid hres
      clear hPl hsum hres
      go_wp2_with fail
      refine (cmp_calls hx1 hy1).mono ?_
      rintro e w2 ⟨rfl, hst⟩
      rw [HPl.out]
      have hb2 := below_trans hb1 hst.below
      have hx2 := hst.rep _ hx1
      have hy2 := hst.rep _ hy1
      have hmn2 := hst.rep _ hmn
      have k0 := (hst.cell ⟨g, 0, none⟩).trans c0
      go_wp2_with fail
      refine (add_calls hx2 hmn2).mono ?_
      rintro e w3 ⟨he, hb3⟩
      rw [Hsum.out] at he
      obtain ⟨s, rfl, hs⟩ := he
      rw [errV_zero]
      have hb3' := below_trans hb2 hb3
      have hs3 := num_raw (NumN.old hs)
      have hy3 := RawN.old (RawN.below hy2 hb3)
      go_wp2_with fail
      refine (sub_calls hs3 hy3).mono ?_
      rintro e w4 ⟨he, hb4⟩
      rw [Hres.out] at he
      obtain ⟨r, rfl, hr⟩ := he
      rw [errV_zero]
      go_wp2
      go_ret2
      exact ⟨⟨_, rfl, NumN.mono hr (Fresh.mono hb3'.size (Nat.le_refl _)) (Same.refl _ _)⟩, below_trans hb3' hb4⟩
    · have hPl : 0 ≤ Pl.cmp X Y := by have := @Pl.cmp_neg X Y; omega
      have hres : subE X Y = .ok ((X + m - Y) % m) := by
        unfold subE
        rw [if_neg (by omega), if_neg (by omega), show X + m - Y = (X - Y) + m by omega, Nat.add_mod_right, Nat.mod_eq_of_lt (by omega)]
      obtain ⟨cv, hcv⟩ : ∃ cv, cv = Pl.cmp X Y := ⟨_, rfl⟩
      rw [← hcv] at hPl
      have Hcv := hid hcv
      have Hres := hid hres
      clear hcv hres
      go_wp2_with fail
      refine (cmp_calls hx1 hy1).mono ?_
      rintro e w2 ⟨rfl, hst⟩
      rw [← Hcv.out]
      have hb2 := below_trans hb1 hst.below
      have hx2 := hst.rep _ hx1
      have hy2 := hst.rep _ hy1
      go_wp2_with fail
      refine (sub_calls hx2 hy2).mono ?_
      rintro e w4 ⟨he, hb4⟩
      rw [Hres.out] at he
      obtain ⟨r, rfl, hr⟩ := he
      rw [errV_zero]
      go_wp2
      go_ret2
      exact ⟨⟨_, rfl, NumN.mono hr (Fresh.mono hb2.size (Nat.le_refl _)) (Same.refl _ _)⟩, below_trans hb2 hb4⟩

end Go.Proofs.Ytphbacggmhjmgaa
