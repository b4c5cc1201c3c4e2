/- The layer mont, fifth part: a product's rest; what is made. -/
import Derived.Test.YtphbacggmhjmgaaMontD
import Derived.Deep.RegionHeld3
namespace Go.Proofs.Ytphbacggmhjmgaa
open Go.RowKit

theorem rep_of_drew {α : Type} (r : Rep α) {S : Nat → Prop} {w : World} {x : α} {cs : List Value} (h : r.rep S w x cs) (W : World) (hW : Below w.heap.size w W) : r.rep S W x cs := r.below h hW

set_option maxHeartbeats 2000000 in
theorem mmul_calls {w : World} {S T : Nat → Prop} {m a b : Nat} {v va vb : Value} (hM : ModP.rep S w m [v]) (ha : RawN.rep T w a [va]) (hb : RawN.rep T w b [vb]) :
    Calls Try.prog 57 #[v, va, vb] w fun e w' => NumE (Fresh w w') w' e (modMulE m a b) ∧ Below w.heap.size w w' := by
  by_cases hl : B64 ^ 64 ≤ a ∨ B64 ^ 64 ≤ b
  · rw [show modMulE m a b = .error 2 by unfold modMulE; rw [if_pos hl]]
    go_enter Try.func57, Try.ntmps57
    go_wp2_with fail
    refine (pair_long hM ha hb hl).mono ?_
    rintro e w1 ⟨rfl, hb1⟩
    go_wp2
    go_ret2
    exact ⟨rfl, hb1⟩
  · rw [show modMulE m a b = .ok (a * b % m) by unfold modMulE; rw [if_neg hl]]
    go_enter Try.func57, Try.ntmps57
    go_wp2_with fail
    refine (pair_ok hM ha hb (by omega) (by omega)).mono ?_
    rintro e w1 ⟨⟨x, y, rfl, hx, hy⟩, hb1⟩
    have hM1 := ModP.old (ModP.below hM hb1)
    obtain ⟨g, A, cap, inv, tv, ms, rfl, hg, c0, c1, c2, hms, hinv, htv, hcap, hcm, hpos, hok⟩ := mod_open hM1
    have hm0 := hok.big
    have hxm := Nat.mod_lt a (show 0 < m by omega)
    have hym := Nat.mod_lt b (show 0 < m by omega)
    have htm := Nat.mod_lt (B64 ^ ms.length * B64 ^ ms.length) (show 0 < m by omega)
    have hres := Pl.mont_all (R := B64 ^ ms.length) (Pl.rinv_spec (n := ms.length) hok.odd (by omega)) a b
    have hn : Hid (ms.length = limbs m) := mod_limbs (num_dig hms) hok
    obtain ⟨n, hnn⟩ : ∃ n, n = ms.length := ⟨_, rfl⟩
    rw [← hnn] at hn htv htm hres
    obtain ⟨X, hX⟩ : ∃ X, X = a % m := ⟨_, rfl⟩
    obtain ⟨Y, hY⟩ : ∃ Y, Y = b % m := ⟨_, rfl⟩
    obtain ⟨Z, hZ⟩ : ∃ Z, Z = B64 ^ n * B64 ^ n % m := ⟨_, rfl⟩
    rw [← hX, ← hY, ← hZ] at hres
    rw [← hX] at hx hxm
    rw [← hY] at hy hym
    rw [← hZ] at htv htm
    have hM1' := rep_drew _ hM1
    have hx1 := rep_drew _ hx
    have hy1 := rep_drew _ hy
    have ht1 := rep_drew _ htv
    have hp1 := Nat.mod_lt (X * Z * Pl.rinv m n) (show 0 < m by omega)
    have hgd : g < w1.drew.heap.size := hg
    have Hres := hid hres
    clear hX hY hZ hnn hres hM hM1 hx hy htv
    go_wp2_with fail
    go_region_held3 (fun w' => w'.cell? ⟨g, 2, none⟩ = some tv) (first | exact c2 | exact k2 | exact k3 | exact k4 | exact k5 | exact k6 | exact k7)
      (first
      | (go_at_call 68
         with_reducible refine (wide_num hn hM1' hx1 hxm).mono ?_
         rintro e w2 ⟨⟨u2, rfl, hu2⟩, hb2⟩
         have k2 := (hb2.cell (p := ⟨g, 2, none⟩) hgd).trans c2)
      | (go_at_call 68
         with_reducible refine (wide_num hn (ModP.below hM1' hb2) (NumN.below ht1 hb2) htm).mono ?_
         rintro e w3 ⟨⟨u3, rfl, hu3⟩, hb3⟩
         have hb3' := below_trans hb2 hb3
         have k3 := (hb3'.cell (p := ⟨g, 2, none⟩) hgd).trans c2)
      | (go_at_call 69
         with_reducible refine (product_calls n hn (ModP.below hM1' hb3') ((WideN n).old ((WideN n).below hu2 hb3)) ((WideN n).old hu3) hxm).mono ?_
         rintro e w4 ⟨⟨u4, rfl, hu4⟩, hb4⟩
         have hb4' := below_trans hb3' hb4
         have k4 := (hb4'.cell (p := ⟨g, 2, none⟩) hgd).trans c2)
      | (go_at_call 68
         with_reducible refine (wide_num hn (ModP.below hM1' hb4') (NumN.below hy1 hb4') hym).mono ?_
         rintro e w5 ⟨⟨u5, rfl, hu5⟩, hb5⟩
         have hb5' := below_trans hb4' hb5
         have k5 := (hb5'.cell (p := ⟨g, 2, none⟩) hgd).trans c2)
      | (go_at_call 69
         with_reducible refine (product_calls n hn (ModP.below hM1' hb5') ((WideN n).old ((WideN n).below hu4 hb5)) ((WideN n).old hu5) hp1).mono ?_
         rintro e w6 ⟨⟨u6, rfl, hu6⟩, hb6⟩
         have hb6' := below_trans hb5' hb6
         have k6 := (hb6'.cell (p := ⟨g, 2, none⟩) hgd).trans c2)
      | (go_at_call 39
         with_reducible refine (norm_calls (wide_raw hu6)).mono ?_
         rintro e w7 ⟨⟨u7, rfl, hu7⟩, hb7⟩
         have hb7' := below_trans hb6' hb7
         have k7 := (hb7'.cell (p := ⟨g, 2, none⟩) hgd).trans c2)
      | fail)
    rw [Hres.out] at hu7
    go_wp2_with fail
    go_ret2
    have hB : Below w.heap.size w w7 := below_trans (below_trans hb1 (below_drew w1)) hb7'
    exact ⟨⟨_, rfl, NumN.mono hu7 (Fresh.mono (by have := (below_trans (below_trans hb1 (below_drew w1)) hb6').size; omega) (Nat.le_refl _)) (Same.refl _ _)⟩, hB⟩

end Go.Proofs.Ytphbacggmhjmgaa
