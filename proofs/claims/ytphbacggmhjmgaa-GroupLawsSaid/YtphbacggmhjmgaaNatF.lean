/- The layer nat, sixth part: one digit of a quotient. -/
import Derived.Test.YtphbacggmhjmgaaNatE
import Derived.Deep.DeepCutAuto
import Derived.Deep.CutBlock
namespace Go.Proofs.Ytphbacggmhjmgaa
open Go.RowKit

/-- a product's digit, with a digit more -/
theorem mulc_parts {x y c : Nat} (hx : x < B64) (hy : y < B64) (hc : c < B64) : addLo (mulLo x y) c 0 + B64 * (mulHi x y + addHi (mulLo x y) c 0) = x * y + c ∧ mulHi x y + addHi (mulLo x y) c 0 < B64 := by
  have h1 := mul_parts x y
  have h2 := add_parts (mulLo x y) c 0
  have h3 := mulHi_le hx hy
  have h4 := addHi_le (mulLo_lt x y) hc (Nat.zero_le 1)
  refine ⟨by rw [Nat.mul_add]; omega, by omega⟩

theorem splice_seg {k : IntKind} {pre us us' post : List Nat} (h : us'.length = us.length) {o : Nat} (ho : o = pre.length) :
    (nums k (pre ++ us' ++ post)).toArray.toList.take o ++ (nums k us ++ (nums k (pre ++ us' ++ post)).toArray.toList.drop (o + (nums k us).length)) = nums k (pre ++ us ++ post) := by
  subst ho
  have e0 : (nums k (pre ++ us' ++ post)).toArray.toList = nums k pre ++ (nums k us' ++ nums k post) := by simp [nums]
  have e1 : pre.length = (nums k pre).length := (nums_length _ _).symm
  have e2 : (nums k us).length = (nums k us').length := by rw [nums_length, nums_length, h]
  rw [e0, e1, List.take_left, e2, ← List.append_assoc (nums k pre) (nums k us'), ← List.length_append, List.drop_left]
  simp [nums]

theorem size65 : (Try.prog.info? 65).map (·.size) = some 1 := by kernel_rfl

def LessPost (g : Nat) (pre us post vs : List Nat) (q : Nat) (w w' : World) (e : Ending) : Prop :=
  ∃ us', us'.length = us.length ∧ Pl.Dig B64 us' ∧ Row w' g 65 (nums .u64 (pre ++ us' ++ post)) ∧ w.grownBy w' (some g) ∧
    ((q * Pl.val B64 vs ≤ Pl.val B64 us ∧ e = .returned (.bool true) ∧ Pl.val B64 us' + q * Pl.val B64 vs = Pl.val B64 us) ∨ (Pl.val B64 us < q * Pl.val B64 vs ∧ e = .returned (.bool false) ∧ us' = us))

set_option maxHeartbeats 4000000 in
theorem less_calls {w : World} {S : Nat → Prop} {pre us post vs : List Nat} {g o n cap : Nat} {v : Value} {q : Nat} (hrow : Row w g 65 (nums .u64 (pre ++ us ++ post))) (ho : o = pre.length) (hn : us.length = n + 1) (hvn : vs.length = n)
    (hcap : n + 1 ≤ cap) (hcap' : cap ≤ 9223372036854775807) (hn2 : n ≤ 1000000) (hud : Pl.Dig B64 us) (hV : NatS.rep S w vs [v]) (hS : ∀ b, S b → b ≠ g) (hq : q < B64) :
    Calls Try.prog 87 #[.slice (some ⟨g, o, none⟩) (n + 1) cap, v, .int .u64 (q : Int)] w fun e w' => LessPost g pre us post vs q w w' e := by
  have hvd := num_dig hV
  have hgl := hrow.lt
  have hU : NatS.rep (fun b => b = g) w us [.slice (some ⟨g, o, none⟩) (n + 1) cap] := hrow.seg (k := .u64) (S := fun b => b = g) rfl hud o (n + 1) cap ho hn.symm hcap hcap' (by omega)
  obtain ⟨A, c1, rfl, hc1, hm1⟩ := sl_open hV
  rw [hvn] at hV hc1 ⊢
  have Ho := hid ho
  have Hn := hid hn
  have Hvn := hid hvn
  clear ho hn hvn
  go_enter Try.func87, Try.ntmps87
  go_wp2_with fail
  refine (clone_calls hU).mono ?_
  rintro e w1 ⟨⟨old, rfl, hold⟩, hw1⟩
  obtain ⟨A2, c2, rfl, hc2, hm2⟩ := sl_open hold
  have hrow1 := hrow.below hgl hw1
  have hV1 := (Rep.num .u64 B64).sl.below hV hw1
  rw [Hn.out] at hold hc2 ⊢
  go_wp2_with fail
  go_loopw [19, 8, 9] (fun i c b wr => ∃ k C Bw : Nat, ∃ us' : List Nat, i = .int .i64 k ∧ c = .int .u64 C ∧ b = .int .u64 Bw ∧ k ≤ n ∧ C < B64 ∧ Bw ≤ 1 ∧ us'.length = n + 1 ∧ Pl.Dig B64 us' ∧ Row wr g 65 (nums .u64 (pre ++ us' ++ post))
    ∧ Hid (Pl.val B64 (us'.take k) + q * Pl.val B64 (vs.take k) = Pl.val B64 (us.take k) + B64 ^ k * (C + Bw)) ∧ Hid (us'.drop k = us.drop k) ∧ w1.grownBy wr (some g)) (fun i _ _ _ => (n - (intOf i).toNat))
  case atStart => exact ⟨0, 0, 0, us, rfl, rfl, rfl, by omega, B64_pos, by omega, Hn.out, hud, hrow1, hid (by simp [Pl.val]), hid rfl, grown_refl _ _⟩
  case round =>
    obtain ⟨k, C, Bw, us', rfl, rfl, rfl, hk, hC, hBw, hul, hud', hrowr, hinv, hrest, hgr⟩ := hrel
    by_cases hlt : k < n
    · have hv' : k < vs.length := by have := Hvn.out; omega
      obtain ⟨b, of, rfl, hSb, hcell, hvd'⟩ := num_at ((Rep.num .u64 B64).sl.grown hV1 hgr (fun b hb => by have := hS b hb; simpa using this)) k hv'
      have hne := hS b hSb
      have Hul := hid hul
      have hku : k < us'.length := by omega
      clear hul
      have hst := hrowr.segCell o Ho.out k hku
      have hsf := hrowr.frozen (o + k)
      have hud1 := hud'.at k hku
      obtain ⟨m1, m2⟩ := mulc_parts hq hvd' hC
      have ms := sub_parts hud1 (addLo_lt (mulLo q vs[k]) C 0) hBw
      obtain ⟨C', hC'⟩ : ∃ C', C' = mulHi q vs[k] + addHi (mulLo q vs[k]) C 0 := ⟨_, rfl⟩
      rw [← hC'] at m1 m2
      have w1 : IntKind.u64.wrap ((mulHi q vs[k] : Int) + (addHi (mulLo q vs[k]) C 0 : Int)) = (C' : Int) := u64_eq (by omega) m2
      have ha1 : ∀ W : World, (callFunc 65 #[.int .u64 (mulLo q vs[k] : Int), .int .u64 (C : Int), .int .u64 0]).run Try.prog W = .ok (.value (.tuple #[.int .u64 (addLo (mulLo q vs[k]) C 0 : Int), .int .u64 (addHi (mulLo q vs[k]) C 0 : Int)])) W := fun W => add64_run _ _ 0 (by omega) W
      have ha2 := fun W => sub64_run us'[k] (addLo (mulLo q vs[k]) C 0) Bw hBw W
      have hnew := hrowr.segSet o Ho.out k hku (subLo us'[k] (addLo (mulLo q vs[k]) C 0) Bw)
      have hg2 := grown_set (i := o + k) hgr (.int .u64 (subLo us'[k] (addLo (mulLo q vs[k]) C 0) Bw : Int))
      have hd2 := hud'.set k (subLo_lt us'[k] (addLo (mulLo q vs[k]) C 0) Bw)
      have hr2 : Hid ((us'.set k (subLo us'[k] (addLo (mulLo q vs[k]) C 0) Bw)).drop (k + 1) = us.drop (k + 1)) := by
        show _ = _
        rw [List.drop_set_of_lt (by omega)]
        have := congrArg (List.drop 1) hrest.out
        simpa [List.drop_drop] using this
      have hkus : k < us.length := by have := Hn.out; omega
      have hsame : us'[k] = us[k] := by
        have := congrArg (fun l => l.getD 0 0) hrest.out
        simpa [List.getD_eq_getElem?_getD, List.getElem?_drop, List.getElem?_eq_getElem hku, List.getElem?_eq_getElem hkus] using this
      have hi2 : Hid (Pl.val B64 ((us'.set k (subLo us'[k] (addLo (mulLo q vs[k]) C 0) Bw)).take (k + 1)) + q * Pl.val B64 (vs.take (k + 1)) = Pl.val B64 (us.take (k + 1)) + B64 ^ (k + 1) * (C' + subHi us'[k] (addLo (mulLo q vs[k]) C 0) Bw)) := by
        show _ = _
        rw [Pl.val_take_set B64 us' k _ hku, Pl.val_take_succ B64 us k hkus, Pl.val_take_succ B64 vs k hv', ← hsame, Nat.pow_succ, Nat.mul_add q, Nat.mul_left_comm q]
        have h2 := hinv.out
        have h4 : subLo us'[k] (addLo (mulLo q vs[k]) C 0) Bw + q * vs[k] + C + Bw = us'[k] + B64 * (C' + subHi us'[k] (addLo (mulLo q vs[k]) C 0) Bw) := by
          rw [Nat.mul_add]; omega
        have h5 := congrArg (B64 ^ k * ·) h4
        simp only [Nat.mul_add] at h2 h5 ⊢
        rw [Nat.mul_assoc, Nat.mul_assoc]
        omega
      have Hsame := hid hsame
      have HC' := hid hC'
      clear hinv hrest ms m1 hsame hC'
      go_wp2_with fail
      refine (mul64_calls q vs[k] hq hvd' _).mono ?_
      rintro e w' ⟨rfl, rfl⟩
      go_wp2_with fail
      go_roundw
      case rel => exact ⟨k + 1, C', _, _, by go_num, rfl, rfl, by omega, m2, subHi_le _ _ _, by rw [List.length_set]; exact Hul.out, hd2, hnew, hi2, hr2, hg2⟩
      case measure => simp [intOf]; omega
    · obtain rfl : k = n := by omega
      have Hul := hid hul
      have hku : k < us'.length := by omega
      clear hul
      have hkus : k < us.length := by have := Hn.out; omega
      have hst := hrowr.segCell o Ho.out k hku
      have hsf := hrowr.frozen (o + k)
      have hud1 := hud'.at k hku
      have hsame : us'[k] = us[k] := by
        have := congrArg (fun l => l.getD 0 0) hrest.out
        simpa [List.getD_eq_getElem?_getD, List.getElem?_drop, List.getElem?_eq_getElem hku, List.getElem?_eq_getElem hkus] using this
      have ms := sub_parts hud1 hC hBw
      have hle := subHi_le us'[k] C Bw
      obtain ⟨L, hL⟩ : ∃ L, L = subLo us'[k] C Bw := ⟨_, rfl⟩
      have hLlt : L < B64 := by rw [hL]; exact subLo_lt _ _ _
      have hnew := hrowr.segSet o Ho.out k hku L
      have hg2 := grown_set (i := o + k) hgr (.int .u64 (L : Int))
      have hd2 := hud'.set k hLlt
      have hfull : Pl.val B64 (us'.set k L) + q * Pl.val B64 vs = Pl.val B64 us + B64 ^ (k + 1) * subHi us'[k] C Bw := by
        have h2 := hinv.out
        have l1 : (us'.set k L).length = k + 1 := by rw [List.length_set]; exact Hul.out
        have e1 := Pl.val_take_set B64 us' k L hku
        rw [Pl.val_take_all B64 _ (k + 1) (by omega)] at e1
        have e2 := Pl.val_take_succ B64 us k hkus
        rw [Pl.val_take_all B64 us (k + 1) (by have := Hn.out; omega)] at e2
        rw [Pl.val_take_all B64 vs k (by have := Hvn.out; omega)] at h2
        rw [← hL] at ms
        have h5 := congrArg (B64 ^ k * ·) ms
        rw [e1, e2, ← hsame, Nat.pow_succ, Nat.mul_assoc]
        simp only [Nat.mul_add] at h2 h5
        omega
      have hlt2 := Pl.val_lt hd2
      rw [List.length_set, Hul.out] at hlt2
      have hgw : w.grownBy wr (some g) := grown_trans (grown_below hw1 _) hgr
      have hgw2 : w.grownBy (wr.setCell ⟨g, o + k, none⟩ (.int .u64 (L : Int))) (some g) := grown_trans (grown_below hw1 _) hg2
      rcases (show subHi us'[k] C Bw = 0 ∨ subHi us'[k] C Bw = 1 by omega) with hb | hb
      · have ha2 : ∀ W : World, (callFunc 66 #[.int .u64 ((us'[k] : Nat) : Int), .int .u64 (C : Int), .int .u64 (Bw : Int)]).run Try.prog W = .ok (.value (.tuple #[.int .u64 (L : Int), .int .u64 0])) W := fun W => by
          rw [sub64_run us'[k] C Bw hBw W, hb, hL]; rfl
        rw [hb, Nat.mul_zero, Nat.add_zero] at hfull
        have hlen : (us'.set k L).length = us.length := by rw [List.length_set, Hul.out, Hn.out]
        have hfin : LessPost g pre us post vs q w (wr.setCell ⟨g, o + k, none⟩ (.int .u64 (L : Int))) (.returned (.bool true)) :=
          ⟨_, hlen, hd2, hnew, hgw2, .inl ⟨by omega, rfl, hfull⟩⟩
        have Hsame := hid hsame
        clear hinv hrest ms hsame hL hfull hb hle hlen hlt2
        go_wp2_with fail
        go_ret
        exact hfin
      · have ha2 : ∀ W : World, (callFunc 66 #[.int .u64 ((us'[k] : Nat) : Int), .int .u64 (C : Int), .int .u64 (Bw : Int)]).run Try.prog W = .ok (.value (.tuple #[.int .u64 (L : Int), .int .u64 1])) W := fun W => by
          rw [sub64_run us'[k] C Bw hBw W, hb, hL]; rfl
        rw [hb, Nat.mul_one] at hfull
        have Hsame := hid hsame
        have Hfull := hid hfull
        have hold2 := (Rep.num .u64 B64).sl.grown hold hg2 (fun b hb => by have := hb.1; simp; omega)
        obtain ⟨b2, o2, ys, rfl, hb2, hat2, hrl2⟩ := sl_cells hold2 (by have := Hn.out; omega)
        obtain ⟨rfl, _⟩ := repL_num.1 hrl2
        have hsrc : ∀ j u, (nums .u64 us)[j]? = some u → (wr.setCell ⟨g, o + k, none⟩ (.int .u64 (L : Int))).cell? ((⟨b2, o2, none⟩ : Addr).add j) = some u := by
          intro j u hu
          obtain ⟨hj, rfl⟩ := List.getElem?_eq_some_iff.1 hu
          have ha : (⟨b2, o2, none⟩ : Addr).add j = ⟨b2, o2 + j, none⟩ := by unfold Addr.add; split <;> simp_all
          rw [ha]
          exact hat2.cell j hj
        have hcopy : Hid ((nums .u64 (pre ++ us'.set k L ++ post)).toArray.toList.take o ++ (nums .u64 us ++ (nums .u64 (pre ++ us'.set k L ++ post)).toArray.toList.drop (o + (nums .u64 us).length)) = nums .u64 (pre ++ us ++ post)) := by
          show _ = _
          exact splice_seg (k := .u64) (by rw [List.length_set, Hul.out, Hn.out]) Ho.out
        have hlenr : (nums .u64 us).length = Nat.min (k + 1) (k + 1) := by rw [nums_length, Hn.out]; simp
        have hfit : o + (nums .u64 us).length ≤ (nums .u64 (pre ++ us'.set k L ++ post)).toArray.size := by
          have := Ho.out; have := Hul.out; have := Hn.out
          simp [nums]; omega
        have hrow2 : Row ((wr.setCell ⟨g, o + k, none⟩ (.int .u64 (L : Int))).setRow g ((nums .u64 (pre ++ us'.set k L ++ post)).toArray.toList.take o ++ (nums .u64 us ++ (nums .u64 (pre ++ us'.set k L ++ post)).toArray.toList.drop (o + (nums .u64 us).length))).toArray) g 65 (nums .u64 (pre ++ us ++ post)) := by
          rw [hcopy.out]
          exact setRow_heap _ g _ _ _ _ hnew
        have hg3 := grown_setRow hgw2 ((nums .u64 (pre ++ us'.set k L ++ post)).toArray.toList.take o ++ (nums .u64 us ++ (nums .u64 (pre ++ us'.set k L ++ post)).toArray.toList.drop (o + (nums .u64 us).length))).toArray
        have hfin : LessPost g pre us post vs q w ((wr.setCell ⟨g, o + k, none⟩ (.int .u64 (L : Int))).setRow g ((nums .u64 (pre ++ us'.set k L ++ post)).toArray.toList.take o ++ (nums .u64 us ++ (nums .u64 (pre ++ us'.set k L ++ post)).toArray.toList.drop (o + (nums .u64 us).length))).toArray) (.returned (.bool false)) :=
          ⟨us, rfl, hud, hrow2, hg3, .inr ⟨by have := Hfull.out; omega, rfl, rfl⟩⟩
        obtain ⟨CC, hCC⟩ : ∃ CC, CC = ((nums .u64 (pre ++ us'.set k L ++ post)).toArray.toList.take o ++ (nums .u64 us ++ (nums .u64 (pre ++ us'.set k L ++ post)).toArray.toList.drop (o + (nums .u64 us).length))).toArray := ⟨_, rfl⟩
        rw [← hCC] at hfin
        have HCC := hid hCC
        have Hlenr := hid hlenr
        clear hrow2 hg3 hcopy hinv hrest ms hsame hL hfull hb hle hlenr hCC
        go_upto_region 15 with (fail)
        apply wp_region_lit
        iterate 6 go_step
        refine wpList_copy_own rfl _ _ 24 24 rfl 65 Try.underlying24 size65 g o (k + 1) cap ⟨b2, o2, none⟩ (k + 1) c2 rfl rfl (nums .u64 (pre ++ us'.set k L ++ post)).toArray 65 hnew (nums .u64 us) Hlenr.out hsrc hfit hrl2.one ?_
        rw [← HCC.out]
        repeat go_step
        go_ret
        exact hfin

end Go.Proofs.Ytphbacggmhjmgaa
