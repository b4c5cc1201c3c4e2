/- The layer mont, eighth part: what makes 1 of a number. -/
import Derived.Test.YtphbacggmhjmgaaMontG
import Derived.Deep.LoopGhost
namespace Go.Proofs.Ytphbacggmhjmgaa
open Go.RowKit

/-- what mont.Mod.Inverse answers -/
def InvPost (m a : Nat) (w : World) (e : Ending) (w' : World) : Prop :=
  if B64 ^ 64 ≤ a then e = .returned (.tuple #[.slice none 0 0, errV 2])
  else if Nat.gcd m (a % m) ≠ 1 then e = .returned (.tuple #[.slice none 0 0, errV 6])
  else ∃ y u, e = .returned (.tuple #[u, .nilIface]) ∧ NumN.rep (Fresh w w') w' y [u] ∧ y < m ∧ y * a % m = 1

/-- so many times x, up to the modulus -/
def Times (m x s u : Nat) : Prop := ∃ k : Int, (s : Int) * x = u + m * k
theorem times_step {m x s t u v q p nx : Nat} (hm : 0 < m) (hs : Times m x s u) (ht : Times m x t v) (hq : q = u / v) (hp : p = q * t % m) (hn : nx = (s % m + m - p % m) % m) : Times m x nx (u % v) := by
  obtain ⟨k1, h1⟩ := hs
  obtain ⟨k2, h2⟩ := ht
  have e1 : (u : Int) = v * q + (u % v : Nat) := by rw [hq]; exact_mod_cast (Nat.div_add_mod u v).symm
  obtain ⟨k3, h3⟩ : ∃ k : Int, (p : Int) = q * t + m * k := by
    refine ⟨-((q * t / m : Nat) : Int), ?_⟩
    have := Nat.div_add_mod (q * t) m
    rw [← hp] at this
    have h : ((m * (q * t / m) + p : Nat) : Int) = ((q * t : Nat) : Int) := by exact_mod_cast this
    push_cast at h ⊢
    rw [Int.mul_neg]; omega
  obtain ⟨k4, h4⟩ : ∃ k : Int, (nx : Int) = s - p + m * k := by
    have a1 := Nat.div_add_mod s m
    have a2 := Nat.div_add_mod p m
    have a3 := Nat.div_add_mod (s % m + m - p % m) m
    have a4 := Nat.mod_lt p hm
    rw [← hn] at a3
    refine ⟨1 - ((s / m : Nat) : Int) + ((p / m : Nat) : Int) - (((s % m + m - p % m) / m : Nat) : Int), ?_⟩
    have b1 : ((m * (s / m) + s % m : Nat) : Int) = (s : Int) := by exact_mod_cast a1
    have b2 : ((m * (p / m) + p % m : Nat) : Int) = (p : Int) := by exact_mod_cast a2
    have b3 : ((m * ((s % m + m - p % m) / m) + nx : Nat) : Int) = ((s % m + m - p % m : Nat) : Int) := by exact_mod_cast a3
    have b4 : ((s % m + m - p % m : Nat) : Int) = ((s % m : Nat) : Int) + m - ((p % m : Nat) : Int) := by omega
    rw [b4] at b3
    simp only [Int.natCast_add, Int.natCast_mul] at b1 b2 b3
    simp only [Int.mul_add, Int.mul_sub, Int.mul_one]
    generalize (m : Int) * ((s / m : Nat) : Int) = z1 at *
    generalize (m : Int) * ((p / m : Nat) : Int) = z2 at *
    generalize (m : Int) * (((s % m + m - p % m) / m : Nat) : Int) = z3 at *
    omega
  refine ⟨k1 - q * k2 - k3 * x + k4 * x, ?_⟩
  have e2 : (nx : Int) * x = s * x - q * (t * x) - m * k3 * x + m * k4 * x := by
    rw [h4, h3]
    simp only [Int.sub_mul, Int.add_mul, Int.mul_assoc]
    omega
  rw [e2, h1, h2, e1]
  simp only [Int.mul_add, Int.mul_sub, Int.add_mul, Int.mul_assoc, Int.mul_left_comm, Int.mul_comm]
  omega
theorem times_one {m x s : Nat} (hm : 1 < m) (h : Times m x s 1) : s * x % m = 1 := by
  obtain ⟨k, h⟩ := h
  have : ((s * x : Nat) : Int) % m = (1 : Int) % m := by
    push_cast
    rw [h]
    push_cast
    rw [Int.add_mul_emod_self_left]
  have h2 : s * x % m = 1 % m := by exact_mod_cast this
  rw [h2, Nat.mod_eq_of_lt hm]

set_option maxHeartbeats 8000000 in
set_option maxRecDepth 100000 in
theorem minv_main {w : World} {S T : Nat → Prop} {m a : Nat} {v va : Value} (hM : ModP.rep S w m [v]) (ha : RawN.rep T w a [va]) (hal : a < B64 ^ 64) :
    Calls Try.prog 58 #[v, va] w fun e w' => InvPost m a w e w' ∧ Below w.heap.size w w' := by
  go_enter Try.func58, Try.ntmps58
  go_wp2_with fail
  refine (pair_ok hM ha (num_raw (NumN.zero T w)) hal (Nat.pow_pos B64_pos)).mono ?_
  rintro e w1 ⟨⟨xv, yv, rfl, hx, _⟩, hb1⟩
  have hM1 := ModP.old (ModP.below hM hb1)
  obtain ⟨g, A, cap, inv, tv, ms, rfl, hg, c0, c1, c2, hms, hinv, htv, hcap, hcm, hpos, hok⟩ := mod_open hM1
  have hm0 := hok.big
  have hm32 := mod_lt (num_dig hms) hok
  have hle := B32_2
  have hxm := Nat.mod_lt a (show 0 < m by omega)
  have hmn := num_raw (mod_num hms hok)
  obtain ⟨X, hX⟩ : ∃ X, X = a % m := ⟨_, rfl⟩
  rw [← hX] at hx hxm
  have HX := hid hX
  clear hX hinv htv hM ha
  go_wp2_with fail
  refine (norm_calls hmn).mono ?_
  rintro e w2 ⟨⟨uv, rfl, hu⟩, hb2⟩
  have hb12 := below_trans hb1 hb2
  have hx2 := NumN.old (NumN.below hx hb2)
  have hM2 := rep_up hM1 hb2
  have hba := below_alloc (Below.refl w2.heap.size w2) (.cells #[.int .u64 1] 65)
  have hone := lit_one w2
  have hone' : NumN.rep (Fresh w (w2.alloc (.cells #[.int .u64 1] 65))) (w2.alloc (.cells #[.int .u64 1] 65)) 1 [.slice (some ⟨w2.heap.size, 0, none⟩) 1 1] :=
    ⟨[1], NatS.mono (lit1 w2 1 B64_gt) (by rintro b rfl; exact ⟨hb12.size, by simp⟩) (Same.refl _ _), by simp [Pl.Canon], Pl.val_one _ _⟩
  go_wp2_with fail
  go_loopg [9, 10, 11, 12] X (fun k uv vv sv tv wr => ∃ (U V s t : Nat), k = V ∧ NumN.rep (· < wr.heap.size) wr U [uv] ∧ NumN.rep (· < wr.heap.size) wr V [vv] ∧ NumN.rep (Fresh w wr) wr s [sv] ∧ NumN.rep (Fresh w wr) wr t [tv] ∧
    Hid (Nat.gcd U V = Nat.gcd m X) ∧ Hid (Times m X s U) ∧ Hid (Times m X t V) ∧ U ≤ m ∧ V ≤ m ∧ s < m ∧ t < m ∧ Below w2.heap.size w2 wr)
  case atStart =>
    refine ⟨m, X, 0, 1, rfl, rep_up (NumN.old hu) hba, rep_up hx2 hba, NumN.zero _ _, hone', hid rfl, ?_, ?_, by omega, by omega, by omega, by omega, hba⟩
    · exact ⟨-1, by simp; omega⟩
    · exact ⟨0, by simp⟩
  case round =>
    clear hx hx2 hu hone hone' hba hmn hb2
    obtain ⟨V, rfl⟩ : ∃ V, V = gk := ⟨_, rfl⟩
    obtain ⟨U, _, s, t, rfl, hU, hV, hs, ht, hgcd, hts, htt, hUm, hVm, hsm, htm, hB⟩ := hrel
    obtain ⟨wo, rfl⟩ : ∃ wo : World, wo = wr := ⟨_, rfl⟩
    have hMo := rep_up hM2 hB
    have hBo := below_trans hb12 hB
    by_cases h0 : 0 < V
    · obtain ⟨vs, hvs, hvc, hvv⟩ := id hV
      have hvl : 0 < vs.length := by
        rcases Nat.eq_zero_or_pos vs.length with h | h
        · obtain rfl := List.eq_nil_of_length_eq_zero h
          rw [Pl.val_nil] at hvv; omega
        · exact h
      obtain ⟨vA, vcap, rfl, hvcap, hvcm⟩ := sl_open hvs
      have hUV := Nat.div_le_self U V
      have hmod := Nat.mod_lt U h0
      have hmulE : modMulE m (U / V) t = .ok (U / V * t % m) := by unfold modMulE; rw [if_neg (by omega)]
      have hpm := Nat.mod_lt (U / V * t) (show 0 < m by omega)
      have hsubE : modSubE m s (U / V * t % m) = .ok ((s % m + m - U / V * t % m % m) % m) := by unfold modSubE; rw [if_neg (by omega)]
      have hnm := Nat.mod_lt (s % m + m - U / V * t % m % m) (show 0 < m by omega)
      have hts2 : Hid (Times m X ((s % m + m - U / V * t % m % m) % m) (U % V)) := times_step (by omega) hts.out htt.out rfl rfl rfl
      have hg2 : Hid (Nat.gcd V (U % V) = Nat.gcd m X) := by
        show _ = _
        rw [← hgcd.out, Nat.gcd_comm U V, Nat.gcd_rec V U, Nat.gcd_comm]
      have Hmul := hid hmulE
      have Hsub := hid hsubE
      clear hmulE hsubE hvc hvv hvs hts hgcd
      go_wp2_with fail
      refine (div_ok (num_raw hU) (num_raw hV) (by omega) (by omega) h0).mono ?_
      rintro e w3 ⟨⟨qv, rv, rfl, hq, hr⟩, hb3⟩
      go_wp2_with fail
      refine (mmul_calls (T := fun b => b < w3.heap.size) (ModP.below hMo hb3) (num_raw (NumN.old hq)) (num_raw (NumN.old (NumN.below ht hb3)))).mono ?_
      rintro e w4 ⟨he, hb4⟩
      rw [Hmul.out] at he
      obtain ⟨pv, rfl, hp⟩ := he
      rw [errV_zero]
      have hb34 := below_trans hb3 hb4
      go_wp2_with fail
      refine (msub_calls (T := fun b => b < w4.heap.size) (ModP.below hMo hb34) (num_raw (NumN.old (NumN.below hs hb34))) (num_raw (NumN.old hp))).mono ?_
      rintro e w5 ⟨he, hb5⟩
      rw [Hsub.out] at he
      obtain ⟨nv, rfl, hn⟩ := he
      rw [errV_zero]
      have hb35 := below_trans hb34 hb5
      have hb45 := below_trans hb4 hb5
      have hB5 := below_trans hB hb35
      have hV5 := rep_up hV hb35
      have hR5 := rep_up (NumN.old hr) hb45
      have ht5 := NumN.mono (NumN.below ht hb35) (S' := Fresh w w5) (Fresh.mono (Nat.le_refl _) hb35.size) (Same.refl _ _)
      have hn5 := NumN.mono hn (S' := Fresh w w5) (Fresh.mono (by have := hBo.size; have := hb34.size; omega) (Nat.le_refl _)) (Same.refl _ _)
      clear hU hV hs ht hq hr hp hn
      go_wp2_with fail
      go_roundg (U % V)
      case rel => exact ⟨V, U % V, t, _, rfl, hV5, hR5, ht5, hn5, hg2, htt, hts2, hVm, by omega, htm, hnm, hB5⟩
      case measure => omega
    · obtain rfl : V = 0 := by omega
      obtain ⟨vs, hvs, hvc, hvv⟩ := id hV
      have hvl := canon_zero hvc hvv
      obtain ⟨vA, vcap, rfl, hvcap, hvcm⟩ := sl_open hvs
      have hg1 := hgcd.out
      rw [Nat.gcd_zero_right] at hg1
      rw [hvl]
      have hba := below_alloc (Below.refl wo.heap.size wo) (.cells #[.int .u64 1] 65)
      have hone := lit_one wo
      have hU1 := rep_up hU hba
      have hBa := below_trans hBo hba
      have hs1 := NumN.below hs hba
      have Hg1 := hid hg1
      have Hvl := hid hvl
      clear hg1 hvl hvs hvc hvv hgcd htt
      by_cases hu1 : U = 1
      · have hPl : Pl.cmp U 1 = 0 := by rw [hu1]; rfl
        have HPl := hid hPl
        have Hu1 := hid hu1
        clear hPl hu1
        go_wp2_with fail
        refine (cmp_calls (num_raw hU1) (num_raw hone)).mono ?_
        rintro e w6 ⟨rfl, hst⟩
        rw [HPl.out]
        have hs6 := hst.rep _ hs1
        have hB6 := still_below hBa hst
        have hsz := hst.size
        go_wp2_with fail
        go_ret2
        refine ⟨?_, hB6⟩
        unfold InvPost
        rw [if_neg (by omega), if_neg (by rw [← HX.out, ← Hg1.out, Hu1.out]; simp)]
        refine ⟨s, _, rfl, NumN.mono hs6 (Fresh.mono (Nat.le_refl _) (by simp at hsz; omega)) (Same.refl _ _), hsm, ?_⟩
        have h1 := hts.out
        rw [Hu1.out] at h1
        have h2 := times_one (by omega) h1
        rw [HX.out] at h2
        rw [← h2, Nat.mul_mod s (a % m), Nat.mod_mod, ← Nat.mul_mod]
      · have hPl : ((Pl.cmp U 1 : Int) == 0) = false := by rw [beq_eq_false_iff_ne]; intro h; exact hu1 (Pl.cmp_zero.1 h)
        have hPl2 : Pl.cmp U 1 ≠ 0 := by intro h; exact hu1 (Pl.cmp_zero.1 h)
        have hPl3 : ((Pl.cmp U 1 : Int) != 0) = true := by rw [bne_iff_ne]; exact hPl2
        obtain ⟨cv, hcv⟩ : ∃ cv, cv = Pl.cmp U 1 := ⟨_, rfl⟩
        rw [← hcv] at hPl hPl2 hPl3
        have Hcv := hid hcv
        have Hu1 := hid hu1
        clear hcv hu1
        go_wp2_with fail
        refine (cmp_calls (num_raw hU1) (num_raw hone)).mono ?_
        rintro e w6 ⟨rfl, hst⟩
        rw [← Hcv.out]
        have hB6 := still_below hBa hst
        go_wp2_with fail
        go_ret2
        refine ⟨?_, hB6⟩
        unfold InvPost
        rw [if_neg (by omega), if_pos (by rw [← HX.out, ← Hg1.out]; exact Hu1.out)]
        rfl

theorem minv_calls {w : World} {S T : Nat → Prop} {m a : Nat} {v va : Value} (hM : ModP.rep S w m [v]) (ha : RawN.rep T w a [va]) :
    Calls Try.prog 58 #[v, va] w fun e w' => InvPost m a w e w' ∧ Below w.heap.size w w' := by
  by_cases hl : B64 ^ 64 ≤ a
  · go_enter Try.func58, Try.ntmps58
    go_wp2_with fail
    refine (pair_long hM ha (num_raw (NumN.zero T w)) (.inl hl)).mono ?_
    rintro e w1 ⟨rfl, hb1⟩
    go_wp2
    go_ret2
    exact ⟨by unfold InvPost; rw [if_pos hl]; rfl, hb1⟩
  · exact minv_main hM ha (by omega)

end Go.Proofs.Ytphbacggmhjmgaa
