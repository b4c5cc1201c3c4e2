/- The layer mont, seventh part: powers, four bits at a time. -/
import Derived.Test.YtphbacggmhjmgaaMontF
namespace Go.Proofs.Ytphbacggmhjmgaa
open Go.RowKit

def modExpE (m a e : Nat) : Except Nat Nat := if B64 ^ 64 ≤ a ∨ B64 ^ 64 ≤ e then .error 2 else .ok (a ^ e % m)

/-- the powers that are made ahead: the first k of them -/
def Tab (n m x R tb k : Nat) (cs : List Value) (wr : World) : Prop :=
  cs.length = 16 ∧ Row wr tb 102 cs ∧ (∀ i, i < k → ∃ A l c, cs[i]? = some (.slice A l c) ∧ (WideN n).rep (fun b => b ≠ tb ∧ b < wr.heap.size) wr (x ^ i * R % m) [.slice A l c]) ∧ ∀ i, i < 16 → ∃ A l c, cs[i]? = some (.slice A l c)

theorem Tab.below {n m x R tb k : Nat} {cs : List Value} {w w' : World} (h : Tab n m x R tb k cs w) (hb : Below w.heap.size w w') : Tab n m x R tb k cs w' := by
  obtain ⟨h1, h2, h3, h4⟩ := h
  refine ⟨h1, h2.below h2.lt hb, fun i hi => ?_, h4⟩
  obtain ⟨A, l, c, e, hr⟩ := h3 i hi
  exact ⟨A, l, c, e, (WideN n).mono hr (fun b hb' => ⟨hb'.1, Nat.lt_of_lt_of_le hb'.2 hb.size⟩) (fun b hb' => hb.block b hb'.2)⟩
theorem Tab.cell {n m x R tb k : Nat} {cs : List Value} {w : World} (h : Tab n m x R tb k cs w) (i : Nat) (hi : i < k) (hi2 : i < 16) :
    ∃ A l c, w.cell? ⟨tb, i, none⟩ = some (.slice A l c) ∧ (WideN n).rep (· < w.heap.size) w (x ^ i * R % m) [.slice A l c] := by
  obtain ⟨h1, h2, h3, h4⟩ := h
  obtain ⟨A, l, c, e, hr⟩ := h3 i hi
  refine ⟨A, l, c, ?_, (WideN n).old hr⟩
  have h5 := h2.cell i (by omega)
  rw [List.getElem?_eq_getElem (by omega)] at e
  rw [h5, e]
theorem Tab.put {n m x R tb k : Nat} {cs : List Value} {w : World} (h : Tab n m x R tb k cs w) (hk : k < 16) {S : Nat → Prop} {A : Option Addr} {l c : Nat} (hr : (WideN n).rep S w (x ^ k * R % m) [.slice A l c]) (hS : ∀ b, S b → b ≠ tb) :
    Tab n m x R tb (k + 1) (cs.set k (.slice A l c)) (w.setCell ⟨tb, k, none⟩ (.slice A l c)) := by
  obtain ⟨h1, h2, h3, h4⟩ := h
  have hsame : Same (fun b => b ≠ tb ∧ b < w.heap.size) w (w.setCell ⟨tb, k, none⟩ (.slice A l c)) := same_setCell (Same.refl _ _) (fun b hb => hb.1) _
  refine ⟨by simpa using h1, h2.set k _, fun i hi => ?_, fun i hi => ?_⟩
  · by_cases e : i = k
    · subst e
      exact ⟨A, l, c, by rw [List.getElem?_set_self (by omega)], (WideN n).mono ((WideN n).live hr) (fun b hb => ⟨hS b hb.1, by simpa using hb.2⟩) (Same.mono hsame (fun b hb => ⟨hS b hb.1, hb.2⟩))⟩
    · obtain ⟨A', l', c', e', hr'⟩ := h3 i (by omega)
      exact ⟨A', l', c', by rw [List.getElem?_set_ne (by omega)]; exact e', (WideN n).mono hr' (fun b hb => ⟨hb.1, by simpa using hb.2⟩) hsame⟩
  · by_cases e : i = k
    · subst e
      exact ⟨A, l, c, by rw [List.getElem?_set_self (by omega)]⟩
    · obtain ⟨A', l', c', e'⟩ := h4 i hi
      exact ⟨A', l', c', by rw [List.getElem?_set_ne (by omega)]; exact e'⟩

theorem wide_open {S : Nat → Prop} {w : World} {n x : Nat} {v : Value} (h : (WideN n).rep S w x [v]) : ∃ A l c, v = .slice A l c := by
  obtain ⟨xs, hx, _⟩ := h
  obtain ⟨A, c, rfl, _⟩ := sl_open hx
  exact ⟨_, _, _, rfl⟩

theorem tab_first {n m x R : Nat} {w : World} {A : Option Addr} {l c : Nat} (h : (WideN n).rep (· < w.heap.size) w (x ^ 0 * R % m) [.slice A l c]) :
    Tab n m x R w.heap.size 1 (.slice A l c :: List.replicate 15 (.slice none 0 0)) (w.alloc (.cells #[.slice A l c, .slice none 0 0, .slice none 0 0, .slice none 0 0, .slice none 0 0, .slice none 0 0, .slice none 0 0, .slice none 0 0, .slice none 0 0, .slice none 0 0, .slice none 0 0, .slice none 0 0, .slice none 0 0, .slice none 0 0, .slice none 0 0, .slice none 0 0] 102)) := by
  refine ⟨rfl, Row.new w _ _, fun i hi => ?_, fun i hi => ?_⟩
  · obtain rfl : i = 0 := by omega
    exact ⟨A, l, c, rfl, (WideN n).mono h (fun b hb => ⟨by omega, by simp; omega⟩) (Same.of_below (below_alloc (Below.refl _ _) _))⟩
  · cases i with
    | zero => exact ⟨A, l, c, rfl⟩
    | succ i => exact ⟨none, 0, 0, by rw [List.getElem?_cons_succ, List.getElem?_replicate, if_pos (by omega)]⟩

/-- one bit more of an exponent -/
theorem bit_more' (e I c : Nat) (hc : c < I) : e / 2 ^ (I - (c + 1)) = 2 * (e / 2 ^ (I - c)) + (e.testBit (I - (c + 1))).toNat := by
  have h1 : 2 ^ (I - c) = 2 ^ (I - (c + 1)) * 2 := by rw [← Nat.pow_succ]; congr 1; omega
  rw [h1, ← Nat.div_div_eq_div_mul, Nat.testBit_eq_decide_div_mod_eq]
  generalize e / 2 ^ (I - (c + 1)) = y
  by_cases h : y % 2 = 1
  · simp [h]; omega
  · simp [h]; omega

theorem rep_up {α : Type} {r : Rep α} {w w' : World} {x : α} {cs : List Value} (h : r.rep (· < w.heap.size) w x cs) (hb : Below w.heap.size w w') : r.rep (· < w'.heap.size) w' x cs := r.old (r.below h hb)

/-- what a power's reckoning holds throughout -/
structure ExpKit (W : World) (m n x e R : Nat) (v one base ve : Value) : Prop where
  mod : ModP.rep (· < W.heap.size) W m [v]
  one : (WideN n).rep (· < W.heap.size) W 1 [one]
  base : (WideN n).rep (· < W.heap.size) W (x * R % m) [base]
  exp : RawN.rep (· < W.heap.size) W e [ve]
theorem ExpKit.below {W W' : World} {m n x e R : Nat} {v one base ve : Value} (h : ExpKit W m n x e R v one base ve) (hb : Below W.heap.size W W') : ExpKit W' m n x e R v one base ve :=
  ⟨rep_up h.mod hb, rep_up h.one hb, rep_up h.base hb, rep_up h.exp hb⟩

theorem lit_one (w : World) : NumN.rep (· < (w.alloc (.cells #[.int .u64 1] 65)).heap.size) (w.alloc (.cells #[.int .u64 1] 65)) 1 [.slice (some ⟨w.heap.size, 0, none⟩) 1 1] := by
  have h := lit1 w 1 B64_gt
  exact ⟨[1], NatS.mono h (by rintro b rfl; simp) (Same.refl _ _), by simp [Pl.Canon], Pl.val_one _ _⟩

theorem two_pow64 (n k l : Nat) (hl : l = 64 * k) (h : n < B64 ^ k) : n < 2 ^ l := by
  subst hl; rw [show B64 = 2 ^ 64 from rfl, ← Nat.pow_mul] at h; exact h
theorem bitLen_bound {e : Nat} (h : e < B64 ^ 64) : bitLen e ≤ 4096 := by
  rw [bitLen_le_iff]
  exact two_pow64 e 64 4096 rfl h

set_option maxHeartbeats 8000000 in
set_option maxRecDepth 100000 in
theorem mexp_main {w : World} {S T : Nat → Prop} {m a ex : Nat} {v va vb : Value} (hM : ModP.rep S w m [v]) (ha : RawN.rep T w a [va]) (hb : RawN.rep T w ex [vb]) (hal : a < B64 ^ 64) (hbl : ex < B64 ^ 64) :
    Calls Try.prog 46 #[v, va, vb] w fun e w' => NumE (Fresh w w') w' e (.ok (a ^ ex % m)) ∧ Below w.heap.size w w' := by
  go_enter Try.func46, Try.ntmps46
  go_wp2_with fail
  refine (pair_ok hM ha hb hal hbl).mono ?_
  rintro e w1 ⟨⟨x, y, rfl, hx, _⟩, hb1⟩
  have hM1 := ModP.old (ModP.below hM hb1)
  obtain ⟨g, A, cap, inv, tv, ms, rfl, hg, c0, c1, c2, hms, hinv, htv, hcap, hcm, hpos, hok⟩ := mod_open hM1
  have hm0 := hok.big
  have hxm := Nat.mod_lt a (show 0 < m by omega)
  have htm := Nat.mod_lt (B64 ^ ms.length * B64 ^ ms.length) (show 0 < m by omega)
  have hri := Pl.rinv_spec (n := ms.length) hok.odd (by omega)
  have hn : Hid (ms.length = limbs m) := mod_limbs (num_dig hms) hok
  obtain ⟨n, hnn⟩ : ∃ n, n = ms.length := ⟨_, rfl⟩
  rw [← hnn] at hn htv htm hri
  obtain ⟨R, hR⟩ : ∃ R, R = B64 ^ n := ⟨_, rfl⟩
  have hri : R * Pl.rinv m n % m = 1 := by rw [hR]; exact hri
  rw [← hR] at htv htm
  obtain ⟨X, hX⟩ : ∃ X, X = a % m := ⟨_, rfl⟩
  rw [← hX] at hx hxm
  have hfin : Hid (a ^ ex % m = X ^ ex % m) := by show _ = _; rw [hX, ← Nat.pow_mod]
  obtain ⟨Z, hZ⟩ : ∃ Z, Z = R * R % m := ⟨_, rfl⟩
  rw [← hZ] at htv htm
  have Hri := hid hri
  have HZ := hid hZ
  have hexp := RawN.old (RawN.below hb hb1)
  have hx1 := NumN.old hx
  clear hri hZ hX hR hnn hms hcap hpos hM ha hb hx
  have hba := below_alloc (Below.refl w1.heap.size w1) (.cells #[.int .u64 1] 65)
  have hone := lit_one w1
  have h1m : 1 < m := by omega
  go_wp2_with fail
  refine (wide_num hn (rep_up hM1 hba) hone h1m).mono ?_
  rintro e w2 ⟨⟨one, rfl, hu1⟩, hb2⟩
  have hb2' := below_trans hba hb2
  have hM2 := rep_drew _ (rep_up hM1 hb2')
  have hx2 := rep_drew _ (rep_up hx1 hb2')
  have ht2 := rep_drew _ (rep_up htv hb2')
  have hu1' := rep_drew _ ((WideN n).old hu1)
  have he2 := rep_drew _ (rep_up hexp hb2')
  have k2 := (hb2'.cell (p := ⟨g, 2, none⟩) hg).trans c2
  have hgd : g < w2.drew.heap.size := by have := hb2'.size; show g < w2.heap.size; omega
  have hb2d : Below w.heap.size w w2.drew := (below_trans (below_trans hb1 hb2') (below_drew w2))
  have hp1 := Nat.mod_lt (X * Z * Pl.rinv m n) (show 0 < m by omega)
  have hp2 := Nat.mod_lt (1 * Z * Pl.rinv m n) (show 0 < m by omega)
  clear hba hone hu1 hb2 hb2' hM1 hx1 htv hexp
  go_wp2_with fail
  go_region_held3 (fun w' => w'.cell? ⟨g, 2, none⟩ = some tv) (first | exact k2 | exact k3 | exact k4 | exact k5)
    (first
    | (go_at_call 68
       with_reducible refine (wide_num hn hM2 hx2 hxm).mono ?_
       rintro e w3 ⟨⟨u3, rfl, hu3⟩, hb3⟩
       have k3 := (hb3.cell (p := ⟨g, 2, none⟩) hgd).trans k2)
    | (go_at_call 68
       with_reducible refine (wide_num hn (ModP.below hM2 hb3) (NumN.below ht2 hb3) htm).mono ?_
       rintro e w4 ⟨⟨u4, rfl, hu4⟩, hb4⟩
       have hb4' := below_trans hb3 hb4
       have k4 := (hb4'.cell (p := ⟨g, 2, none⟩) hgd).trans k2)
    | (go_at_call 69
       with_reducible refine (product_calls n hn (ModP.below hM2 hb4') ((WideN n).old ((WideN n).below hu3 hb4)) ((WideN n).old hu4) hxm).mono ?_
       rintro e w5 ⟨⟨base, rfl, hu5⟩, hb5⟩
       have hb5' := below_trans hb4' hb5
       have k5 := (hb5'.cell (p := ⟨g, 2, none⟩) hgd).trans k2)
    | fail)
  rw [HZ.out, Pl.mont_in Hri.out] at hu5
  have kit5 : ExpKit w5 m n X ex R (.pointer (some ⟨g, 0, none⟩)) one base vb := ⟨rep_up hM2 hb5', rep_up hu1' hb5', (WideN n).old hu5, rep_up he2 hb5'⟩
  have ht5 := rep_up ht2 hb5'
  have hw5 := below_trans hb2d hb5'
  clear hM2 hx2 ht2 hu1' he2 hb3 hb4 hb5 hb4' hb5' hu3 hu4 hu5 k2 k3 k4 hb2d
  go_wp2_with fail
  refine (wide_num hn kit5.mod ht5 htm).mono ?_
  rintro e w6 ⟨⟨wt, rfl, hwt⟩, hb6⟩
  have kit6 := kit5.below hb6
  have hw6 := below_trans hw5 hb6
  go_wp2_with fail
  refine (product_calls n hn kit6.mod kit6.one ((WideN n).old hwt) h1m).mono ?_
  rintro e w7 ⟨⟨out, rfl, hout⟩, hb7⟩
  have kit7 := kit6.below hb7
  have hw7 := below_trans hw6 hb7
  have hout' : (WideN n).rep (· < w7.heap.size) w7 (X ^ 0 * R % m) [out] := by
    have := (WideN n).old hout
    rw [HZ.out, Pl.mont_in Hri.out] at this
    simpa using this
  obtain ⟨oA, ol, oc, rfl⟩ := wide_open hout'
  have hb8 := below_alloc (Below.refl w7.heap.size w7) (.cells #[.slice oA ol oc, .slice none 0 0, .slice none 0 0, .slice none 0 0, .slice none 0 0, .slice none 0 0, .slice none 0 0, .slice none 0 0, .slice none 0 0, .slice none 0 0, .slice none 0 0, .slice none 0 0, .slice none 0 0, .slice none 0 0, .slice none 0 0, .slice none 0 0] 102)
  have htab := tab_first hout'
  clear hout hwt hb6 hb7 kit5 kit6 ht5 hw5 hw6 k5
  go_wp2_with fail
  obtain ⟨tb, htb⟩ : ∃ tb, tb = w7.heap.size := ⟨_, rfl⟩
  rw [← htb] at htab ⊢
  have htb2 : w7.heap.size ≤ tb := by omega
  have hoS : ∀ b, b < w7.heap.size → b ≠ tb := by intro b hb; omega
  clear htb
  go_loopw [15] (fun iv wr => ∃ (k : Nat) (cs : List Value), iv = .int .i64 (k : Int) ∧ 1 ≤ k ∧ k ≤ 16 ∧ Tab n m X R tb k cs wr ∧ Below w7.heap.size w7 wr) (fun iv _ => 16 - (intOf iv).toNat)
  case atStart => exact ⟨1, _, rfl, by omega, by omega, htab, hb8⟩
  case round =>
    clear htab hb8
    obtain ⟨k, cs, rfl, hk1, hk16, htab, hB⟩ := hrel
    obtain ⟨wo, rfl⟩ : ∃ wo : World, wo = wr := ⟨_, rfl⟩
    have kito := kit7.below hB
    by_cases hlt : k < 16
    · obtain ⟨j, rfl⟩ : ∃ j, k = j + 1 := ⟨k - 1, by omega⟩
      obtain ⟨A1, l1, d1, hcell, hrep⟩ := htab.cell j (by omega) (by omega)
      have hpl := Nat.mod_lt (X ^ j * R) (show 0 < m by omega)
      go_wp2_with fail
      refine (product_calls n hn kito.mod hrep kito.base hpl).mono ?_
      rintro e w8 ⟨⟨u, rfl, hu⟩, hb8⟩
      rw [Pl.mont_mid Hri.out, ← Nat.pow_succ] at hu
      obtain ⟨uA, ul, uc, rfl⟩ := wide_open hu
      have htab8 := htab.below hb8
      obtain ⟨A2, l2, d2, hc2⟩ := htab8.2.2.2 (j + 1) hlt
      have hc3 : w8.cell? ⟨tb, j + 1, none⟩ = some (.slice A2 l2 d2) := by
        have h5 := htab8.2.1.cell (j + 1) (by rw [htab8.1]; exact hlt)
        rw [List.getElem?_eq_getElem (by rw [htab8.1]; exact hlt)] at hc2
        rw [h5, hc2]
      have hf3 := htab8.2.1.frozen (j + 1)
      have hput := htab8.put hlt hu (fun b hb e => by have h1 := hb.1; have h2 := htab.2.1.lt; omega)
      have hB8 := below_setCell (below_trans hB hb8) (p := ⟨tb, j + 1, none⟩) htb2 (.slice uA ul uc)
      clear hcell hrep hu htab8 hc2 kito
      go_wp2_with fail
      go_roundw
      case rel => exact ⟨j + 2, _, by go_num, by omega, by omega, hput, hB8⟩
      case measure => simp [intOf] <;> omega
    · obtain rfl : k = 16 := by omega
      have htabo := htab
      have hwo := below_trans hw7 hB
      have houto := rep_up hout' hB
      have hbl2 := bitLen_bound hbl
      clear kit7 hw7 hout' hB htab hoS
      go_wp2_with fail
      refine (nbits_calls kito.exp (by omega)).mono ?_
      rintro e w9 ⟨rfl, rfl⟩
      go_wp2_with fail
      go_loopw [13, 16] (fun ov iv wr => ∃ (I : Nat), iv = .int .i64 (I : Int) ∧ Hid (I % 4 = 0) ∧ I ≤ 4100 ∧ (WideN n).rep (· < wr.heap.size) wr (X ^ (ex / 2 ^ I) * R % m) [ov] ∧ Below wo.heap.size wo wr) (fun _ iv _ => (intOf iv).toNat)
      case atStart =>
        refine ⟨(bitLen ex + 3) / 4 * 4, by congr 1 <;> omega, hid (by omega), by omega, ?_, Below.refl _ _⟩
        rw [Nat.div_eq_of_lt (Nat.lt_of_lt_of_le (bitLen_spec ex).1 (Nat.pow_le_pow_right (by omega) (by omega)))]
        exact houto
      case round =>
        clear houto
        obtain ⟨I, rfl, hI4, hI, hout, hB⟩ := hrel
        obtain ⟨wp, rfl⟩ : ∃ wp : World, wp = wr := ⟨_, rfl⟩
        by_cases hlt : 0 < I
        · have hI5 : 4 ≤ I := by have := hI4.out; omega
          go_wp2_with fail
          go_loopw [13, 17, 18] (fun ov kv jv wr => ∃ (c kk E : Nat), jv = .int .i64 (c : Int) ∧ kv = .int .i64 (kk : Int) ∧ 1 ≤ c ∧ c ≤ 5 ∧ kk ≤ 15 ∧ Hid (kk < 2 ^ (c - 1)) ∧ Hid (ex / 2 ^ (I - (c - 1)) = E + kk) ∧ Hid (E = ex / 2 ^ I * 2 ^ (c - 1)) ∧ (WideN n).rep (· < wr.heap.size) wr (X ^ E * R % m) [ov] ∧ Below wo.heap.size wo wr) (fun _ _ jv _ => 5 - (intOf jv).toNat)
          case atStart => exact ⟨1, 0, ex / 2 ^ I, rfl, rfl, by omega, by omega, by omega, hid (by simp), hid (by simp), hid (by simp), hout, hB⟩
          case round =>
            clear hout hB
            obtain ⟨c, kk, E, rfl, rfl, hc1, hc5, hkk, hkc, hq, hE, hout, hB⟩ := hrel
            obtain ⟨wq, rfl⟩ : ∃ wq : World, wq = wr := ⟨_, rfl⟩
            have kitq := kito.below hB
            have hpl := Nat.mod_lt (X ^ E * R) (show 0 < m by omega)
            by_cases hlc : c ≤ 4
            · obtain ⟨d, rfl⟩ : ∃ d, c = d + 1 := ⟨c - 1, by omega⟩
              have hkc' := hkc.out
              have hq' := hq.out
              have hE' := hE.out
              rw [Nat.add_sub_cancel] at hkc' hq' hE'
              have hkk7 : kk ≤ 7 := by
                have : 2 ^ d ≤ 2 ^ 3 := Nat.pow_le_pow_right (by omega) (by omega)
                omega
              have hbit := bit_more' ex I d (by omega)
              rw [hq'] at hbit
              have hI9 : (I : Int) - ((d : Int) + 1) = ((I - (d + 1) : Nat) : Int) := by omega
              have HI9 := hid hI9
              have Hkc := hid hkc'
              have HE' := hid hE'
              have Hbit := hid hbit
              clear hkc hq hE hkc' hq' hE' hbit hI9
              go_wp2_with fail
              refine (product_calls n hn kitq.mod hout hout hpl).mono ?_
              rintro e w8 ⟨⟨u, rfl, hu⟩, hb8⟩
              rw [Pl.mont_mid Hri.out, ← Nat.pow_add] at hu
              have kit8 := kitq.below hb8
              have hB8 := below_trans hB hb8
              have hu8 := (WideN n).old hu
              go_wp2_with fail
              rw [HI9.out]
              refine (nbit_calls kit8.exp (I - (d + 1)) (by omega)).mono ?_
              rintro e w9 ⟨rfl, rfl⟩
              cases hbb : ex.testBit (I - (d + 1))
              · have hbz := Hbit.out
                rw [hbb] at hbz
                have Hn1 : Hid (kk * 2 < 2 ^ (d + 2 - 1)) := by have := Hkc.out; show _ < _; rw [show d + 2 - 1 = d + 1 from rfl, Nat.pow_succ]; omega
                have Hn2 : Hid (ex / 2 ^ (I - (d + 2 - 1)) = (E + E) + kk * 2) := by show _ = _; rw [show d + 2 - 1 = d + 1 from rfl, hbz]; simp; omega
                have Hn3 : Hid (E + E = ex / 2 ^ I * 2 ^ (d + 2 - 1)) := by have := HE'.out; show _ = _; rw [show d + 2 - 1 = d + 1 from rfl, Nat.pow_succ, ← Nat.mul_assoc, ← this]; omega
                clear hbz
                go_wp2_with fail
                go_roundw
                case rel => exact ⟨d + 2, kk * 2, E + E, by go_num, by go_num, by omega, by omega, by omega, Hn1, Hn2, Hn3, hu8, hB8⟩
                case measure => simp [intOf] <;> omega
              · have hbz := Hbit.out
                rw [hbb] at hbz
                have Hn1 : Hid (kk * 2 + 1 < 2 ^ (d + 2 - 1)) := by have := Hkc.out; show _ < _; rw [show d + 2 - 1 = d + 1 from rfl, Nat.pow_succ]; omega
                have Hn2 : Hid (ex / 2 ^ (I - (d + 2 - 1)) = (E + E) + (kk * 2 + 1)) := by show _ = _; rw [show d + 2 - 1 = d + 1 from rfl, hbz]; simp; omega
                have Hn3 : Hid (E + E = ex / 2 ^ I * 2 ^ (d + 2 - 1)) := by have := HE'.out; show _ = _; rw [show d + 2 - 1 = d + 1 from rfl, Nat.pow_succ, ← Nat.mul_assoc, ← this]; omega
                clear hbz
                go_wp2_with fail
                go_roundw
                case rel => exact ⟨d + 2, kk * 2 + 1, E + E, by go_num, by go_num, by omega, by omega, by omega, Hn1, Hn2, Hn3, hu8, hB8⟩
                case measure => simp [intOf] <;> omega
            · obtain rfl : c = 5 := by omega
              have hq' := hq.out
              rw [show I - (5 - 1) = I - 4 from rfl] at hq'
              have Hq := hid hq'
              have Hi1 : Hid ((I - 4) % 4 = 0) := by have := hI4.out; show _ = _; omega
              clear hq' hkc hq hE
              by_cases hk0 : kk = 0
              · have Hr : Hid (E = ex / 2 ^ (I - 4)) := by have := Hq.out; show _ = _; omega
                rw [Hr.out] at hout
                subst hk0
                go_wp2_with fail
                go_roundw
                case rel => exact ⟨I - 4, by congr 1 <;> omega, Hi1, by omega, hout, hB⟩
                case measure => simp [intOf] <;> omega
              · obtain ⟨A1, l1, d1, hcell, hrep⟩ := (htabo.below hB).cell kk (by omega) (by omega)
                have hk1 : (0 : Int) < (kk : Int) := by omega
                clear hk0
                go_wp2_with fail
                refine (product_calls n hn kitq.mod hout hrep hpl).mono ?_
                rintro e w8 ⟨⟨u, rfl, hu⟩, hb8⟩
                rw [Pl.mont_mid Hri.out, ← Nat.pow_add, ← Hq.out] at hu
                have hB8 := below_trans hB hb8
                have hu8 := (WideN n).old hu
                go_wp2_with fail
                go_roundw
                case rel => exact ⟨I - 4, by congr 1 <;> omega, Hi1, by omega, hu8, hB8⟩
                case measure => simp [intOf] <;> omega
        · obtain rfl : I = 0 := by omega
          rw [Nat.pow_zero, Nat.div_one] at hout
          have kitp := kito.below hB
          have hpl := Nat.mod_lt (X ^ ex * R) (show 0 < m by omega)
          have hwp := below_trans hwo hB
          clear kito htabo
          go_wp2_with fail
          refine (product_calls n hn kitp.mod hout kitp.one hpl).mono ?_
          rintro e w8 ⟨⟨u, rfl, hu⟩, hb8⟩
          rw [Pl.mont_out Hri.out, Nat.mul_one, ← hfin.out] at hu
          go_wp2_with fail
          refine (norm_calls (wide_raw hu)).mono ?_
          rintro e w9 ⟨⟨r, rfl, hr⟩, hb9⟩
          go_wp2_with fail
          go_ret2
          have hw8 := below_trans hwp hb8
          exact ⟨⟨_, rfl, NumN.mono hr (Fresh.mono hw8.size (Nat.le_refl _)) (Same.refl _ _)⟩, below_trans hw8 hb9⟩

theorem mexp_calls {w : World} {S T : Nat → Prop} {m a ex : Nat} {v va vb : Value} (hM : ModP.rep S w m [v]) (ha : RawN.rep T w a [va]) (hb : RawN.rep T w ex [vb]) :
    Calls Try.prog 46 #[v, va, vb] w fun e w' => NumE (Fresh w w') w' e (modExpE m a ex) ∧ Below w.heap.size w w' := by
  by_cases hl : B64 ^ 64 ≤ a ∨ B64 ^ 64 ≤ ex
  · rw [show modExpE m a ex = .error 2 by unfold modExpE; rw [if_pos hl]]
    go_enter Try.func46, Try.ntmps46
    go_wp2_with fail
    refine (pair_long hM ha hb hl).mono ?_
    rintro e w1 ⟨rfl, hb1⟩
    go_wp2
    go_ret2
    exact ⟨rfl, hb1⟩
  · rw [show modExpE m a ex = .ok (a ^ ex % m) by unfold modExpE; rw [if_neg hl]]
    exact mexp_main hM ha hb (by omega) (by omega)

end Go.Proofs.Ytphbacggmhjmgaa
